/-
  Lemmas for FleetKeeps: part 0 of what it rests on. Conditions: none.
-/
import Derived.WalkKit
import Derived.RangeFuncRecord
import Derived.WalkSmall
import Derived.OrdersIn
import Derived.TacticsIn
import Derived.RangeFuncWrites
import Derived.KernelRfl
import Derived.RecoverIn
import Derived.Laws.AppendOwn
import Derived.MapKept
import Derived.Lib.SlKeysI
import Derived.Below
import Derived.Laws.StructEq
import Derived.ChangeKeysEq
import Derived.Maps.RangeRun
import Derived.Laws.MathBits
import Derived.Laws.MakeOwn
import Derived.ProofKit
import Derived.Carry
import Derived.OpenShut
import Derived.ChangeSame
import Derived.WideKeyEntry
import Derived.Test.YtlmphkpeajnhjaaGreatDoorProg
import Derived.Shelf.Bytes.SlJoin
import Derived.Ground.SlbNamesProg
import Derived.Shelf.SlIterI.Nil
import Derived.Shelf.SortM.Plain
import Derived.Shelf.SortM.SortNone
import Derived.Shelf.SlMaps.Clone
import Derived.Ground.GgzProg
import Derived.Ground.SlgmProg
import Derived.Ground.SlmcProg
import Derived.Shelf.Strings.OnBuilder
import Derived.Ground.SlsfProg
import Derived.Ground.NamesProg
import Derived.Laws.BytesArg
import Derived.Laws.IdiomStrings
import Derived.Laws.Cover1
import Derived.Lib.Bytealg
import Derived.Deep.RegionHeld3
set_option linter.unusedVariables false
set_option linter.unusedSimpArgs false
set_option maxRecDepth 100000
set_option maxHeartbeats 16000000
open Go.IntKind (i64 u64 i8 u8 i32 u32 i16 u16)
abbrev b_:=@if_neg
abbrev cS:=@absurd
abbrev c_:=@if_pos
abbrev h_:=@of_decide_eq_false
abbrev j_:=@of_decide_eq_true
abbrev po:=@List.length_append
abbrev qa:=@List.getElem_mem
abbrev p_:=@Bool.and_eq_true
abbrev yb:=@Nat.le_refl
abbrev za:=@decide_eq_true_eq
abbrev Ax:=@List.mem_map
abbrev CO:=@Nat.zero_add
abbrev CV:=@List.length_cons
abbrev CU:=@List.mem_singleton
abbrev DE:=@Nat.le_trans
abbrev C_:=@List.mem_append
abbrev DC:=@decide_eq_false_iff_not
abbrev DG:=@List.mem_cons_of_mem
abbrev D_:=@List.mem_cons_self
abbrev DO:=@List.mem_cons
abbrev EG:=@Nat.zero_le
abbrev E8:=@Bool.or_eq_false_iff
abbrev Fw:=@Int.toNat_natCast
abbrev FB:=@List.append_assoc
abbrev FP:=@List.take_of_length_le
abbrev FJ:=@List.take_length
abbrev FI:=@List.length_map
abbrev F6:=@List.map_append
abbrev GG:=@Int.le_refl
abbrev Hi:=@List.nil_append
abbrev HD:=@List.append_nil
abbrev HC:=@List.map_cons
abbrev YX:=@List.take_succ_eq_append_getElem
abbrev HB:=@List.length_nil
abbrev Jq:=@Bool.or_eq_true
abbrev I_:=@Option.map_some
abbrev HZ:=@Nat.lt_or_ge
abbrev RU:=@List.drop_eq_getElem_cons
abbrev LA:=@List.mem_of_getElem?
abbrev PV:=@List.flatMap_cons
abbrev PR:=@List.prefix_rfl
abbrev K2:=@List.mem_of_mem_take
abbrev W_:=@List.length_drop
abbrev WD:=@List.drop_length
abbrev XB:=@Bool.not_eq_true'
abbrev q1p:=@List.take_append_drop
abbrev XV:=@List.getElem_of_mem
abbrev XU:=@List.all_eq_true
abbrev YW:=@List.pairwise_cons
abbrev XT:=@List.map_map
abbrev XS:=@List.ext_getElem
abbrev q1v:=@Nat.mul_le_mul_right
abbrev YV:=@Nat.le_succ
abbrev q1x:=@List.filter_cons
abbrev V_:=@decide_eq_true
abbrev q1z:=@List.mem_flatMap
abbrev q20:=@List.eq_nil_of_length_eq_zero
abbrev q21:=@Nat.add_mul
abbrev q22:=@List.mem_of_mem_drop
abbrev YU:=@List.length_take
abbrev q24:=@Bool.eq_iff_iff
abbrev q25:=@Nat.mul_one
abbrev YT:=@List.take_zero
abbrev q27:=@List.take_add_one
abbrev q28:=@Nat.add_zero
abbrev q29:=@List.length_singleton
abbrev q2a:=@List.set_getElem_self
abbrev q2b:=@List.ext_getElem?
abbrev q2c:=@Nat.eq_of_beq_eq_true
abbrev q2d:=@List.nodup_cons
abbrev q2e:=@List.map_congr_left
abbrev q2f:=@List.take_succ_cons
abbrev q2g:=@Nat.mod_lt
abbrev q2h:=@List.getElem_map
abbrev q2i:=@Int.toNat_of_nonneg
abbrev q2j:=@List.not_mem_nil
abbrev q2k:=@List.length_eq_zero_iff
abbrev q2l:=@List.mem_append_right
abbrev q2m:=@List.cons_append
abbrev q2n:=@Nat.div_lt_iff_lt_mul
abbrev q2o:=@Nat.pow_add
abbrev q2p:=@Bool.not_eq_false'
abbrev q2q:=@Bool.eq_false_iff
abbrev q2r:=@List.filter_eq_nil_iff
abbrev q2s:=@List.mem_filter
abbrev q2t:=@Nat.zero_mul
abbrev q2u:=@Nat.two_pow_pos
abbrev q2v:=@List.set_set
abbrev q2w:=@List.drop_zero
abbrev q2x:=@Nat.add_assoc
abbrev q2y:=@Bool.false_eq_true
abbrev q2z:=@List.mem_append_left
abbrev q30:=@Array.length_toList
abbrev q31:=@List.filter_eq_self
abbrev q32:=@List.drop_succ_cons
abbrev q33:=@Bool.false_or
abbrev q34:=@List.mem_or_eq_of_mem_set
abbrev q35:=@Nat.mul_le_mul_left
abbrev q36:=@Nat.mod_eq_of_lt
abbrev q37:=@List.set_cons_zero
abbrev q38:=@Array.getD_eq_getD_getElem?
abbrev q39:=@Nat.add_sub_cancel_left
abbrev q3a:=@Int.fdiv_eq_ediv_of_nonneg
abbrev q3b:=@List.getElem_range
abbrev q3c:=@List.length_pos_iff
abbrev q3d:=@Int.eq_ofNat_of_zero_le
abbrev q3e:=@List.pairwise_iff_getElem
abbrev q3f:=@List.map_eq_flatMap
abbrev q3g:=@Nat.two_pow_add_eq_or_of_lt
abbrev q3h:=@List.take_append_of_le_length
namespace Go.Proofs.YtlmphkpeajnhjaaGreatDoor
open Go
variable {P:Program}{K:Value->Prop}{w:World}{G:Prop}{t:TypeId}{c:Option Prop}{b:Nat}{v:Value}{f:FuncId}{d:TypeDesc}{r:Result Next}{e:Ending}{A:Operand->Option Value}{B:Operand->Value}{C:Array Value}{D:Type}
theorem ez(h:G:=by omega):G:=h
theorem ee(h:G:=by decide):G:=h
theorem eh(h:G:=by simp):G:=h
theorem kf(h:G:=by kernel_rfl):G:=h
theorem eu{q:Prop}(x:q)(h:q->G:=by intro x;simpa using x):G:=h x
theorem zt{a:Option D}{b c:D}(h : a = some b)(e : b = c := by kernel_rfl) : a = some c := h.trans (congrArg some e)
theorem nO{_:Decidable G}{a b:D}(h : ¬ G := by omega) : ite G a b = b := b_ h
theorem pO{_:Decidable G}{a b:D}(h : G := by omega) : ite G a b = a := c_ h
abbrev lt0 : ByteArray := ⟨#[0,1,2,2,3,3,3,3,4,4,4,4,4,4,4,4,5,5,5,5,5,5,5,5,5,5,5,5,5,5,5,5,6,6,6,6,6,6,6,6,6,6,6,6,6,6,6,6,6,6,6,6,6,6,6,6,6,6,6,6,6,6,6,6,7,7,7,7,7,7,7,7,7,7,7,7,7,7,7,7,7,7,7,7,7,7,7,7,7,7,7,7,7,7,7,7,7,7,7,7,7,7,7,7,7,7,7,7,7,7,7,7,7,7,7,7,7,7,7,7,7,7,7,7,7,7,7,7,8,8,8,8,8,8,8,8,8,8,8,8,8,8,8,8,8,8,8,8,8,8,8,8,8,8,8,8,8,8,8,8,8,8,8,8,8,8,8,8,8,8,8,8,8,8,8,8,8,8,8,8,8,8,8,8,8,8,8,8,8,8,8,8,8,8,8,8,8,8,8,8,8,8,8,8,8,8,8,8,8,8,8,8,8,8,8,8,8,8,8,8,8,8,8,8,8,8,8,8,8,8,8,8,8,8,8,8,8,8,8,8,8,8,8,8,8,8,8,8,8,8,8,8,8,8,8,8]⟩
abbrev aC:=Array Obj
variable {H:aC}
abbrev KE:=Value->aC->Prop
variable {a E:KE}
abbrev KQ:=Option Addr
abbrev Xa:=List Value
variable {z:Xa}
abbrev Fb:=ByteArray
def aM(H:aC)(b off:Nat):Option Value:=
 match H[b]? with
 | some (.cells c _ _)=>c[off]?
 | _=>none
def mY(H:aC)(b off:Nat):Bool:=
 match H[b]? with
 | some (.cells _ _ (lo,hi))=>lo<=off&&off<hi
 | _=>false
def jm(H:aC)(b off:Nat)(v:Value):aC:=
 H.modify b λ
  | .cells c elem frozen=>.cells (c.setIfInBounds off v) elem frozen
  | o=>o
structure bZ(w w':World):Prop where
 os:w'.os=w.os
 tape:w'.tape=w.tape
 output:w'.output=w.output
inductive dd where
 | int (k:IntKind)|bool|str|ptr|slice|map|raw|fnv|adr
 | vec (k:IntKind) (n:Nat)
inductive Sh where
 | one (l:dd)
 | agg (ls:List dd)
def cq(k:IntKind)(f:Nat->Int):Nat->Nat->Xa
 | 0,_=>[]
 | n+1,i=>.int k (f i)::cq k f n (i+1)
def dd.all:dd->(Value->Prop)->Prop
 | .int k,K=>∀n:Int,K (.int k n)
 | .bool,K=>∀b:Bool,K (.bool b)
 | .str,K=>∀s:Fb,K (.string s)
 | .ptr,K=>∀a:KQ,K (.pointer a)
 | .slice,K=>∀(a:KQ) (n c:Nat),K (.slice a n c)
 | .map,K=>∀r:Option Nat,K (.map r)
 | .raw,K=>∀v:Value,K v
 | .adr,K=>∀b o:Nat,K (.pointer (some ⟨b,o,none⟩))
 | .fnv,K=>∀(f:FuncId) (cap:Xa),K (.func (.func f) ⟨[]⟩ ⟨cap⟩)
 | .vec _ _,_=>True
def dd.ex:dd->(Value->Prop)->Prop
 | .int k,K=>∃n:Int,K (.int k n)
 | .bool,K=>∃b:Bool,K (.bool b)
 | .str,K=>∃s:Fb,K (.string s)
 | .ptr,K=>∃a:KQ,K (.pointer a)
 | .slice,K=>∃(a:KQ) (n c:Nat),K (.slice a n c)
 | .map,K=>∃r:Option Nat,K (.map r)
 | .raw,K=>∃v:Value,K v
 | .adr,K=>∃b o:Nat,K (.pointer (some ⟨b,o,none⟩))
 | .fnv,K=>∃(f:FuncId) (cap:Xa),K (.func (.func f) ⟨[]⟩ ⟨cap⟩)
 | .vec _ _,_=>False
def aab:List dd->(Xa->Prop)->Prop
 | [],K=>K []
 | l::r,K=>l.all λv=>aab r λvs=>K (v::vs)
def acR:List dd->(Xa->Prop)->Prop
 | [],K=>K []
 | .vec k n::r,K=>∃f:Nat->Int,acR r λvs=>K (cq k f n 0++vs)
 | l::r,K=>l.ex λv=>acR r λvs=>K (v::vs)
def Sh.all:Sh->(Value->Prop)->Prop
 | .one l,K=>l.all K
 | .agg ls,K=>aab ls λvs=>K (.agg ⟨vs⟩)
def Sh.ex:Sh->(Value->Prop)->Prop
 | .one l,K=>l.ex K
 | .agg ls,K=>acR ls λvs=>K (.agg ⟨vs⟩)
def qL:List Sh->(Xa->Prop)->Prop
 | [],K=>K []
 | s::r,K=>s.ex λv=>qL r λvs=>K (v::vs)
def mo:List Sh->(Value->Prop)->Prop
 | [],K=>K (.tuple #[])
 | [s],K=>s.ex K
 | s::t::r,K=>qL (s::t::r) λvs=>K (.tuple ⟨vs⟩)
def dd.fn:dd->Type->Type
 | .int _,T=>Int->T
 | .bool,T=>Bool->T
 | .str,T=>Fb->T
 | .ptr,T=>KQ->T
 | .slice,T=>KQ->Nat->Nat->T
 | .map,T=>Option Nat->T
 | .raw,T=>Value->T
 | .fnv,T=>FuncId->Xa->T
 | .adr,T=>Nat->Nat->T
 | .vec _ _,T=>T
def YA:List dd->Type->Type
 | [],T=>T
 | l::r,T=>l.fn (YA r T)
def Sh.fn:Sh->Type->Type
 | .one l,T=>l.fn T
 | .agg ls,T=>YA ls T
abbrev dE:=List (Nat×Sh)
def JT(T:Type):dE->Type
 | []=>T
 | (_,s)::r=>s.fn (JT T r)
def dd.app:(l:dd)->{T:Type}->l.fn T->Value->Option T
 | .int k,_,f,.int k' n=>if k=k' then some (f n) else none
 | .bool,_,f,.bool b=>some (f b)
 | .str,_,f,.string s=>some (f s)
 | .ptr,_,f,.pointer a=>some (f a)
 | .slice,_,f,.slice a n c=>some (f a n c)
 | .map,_,f,.map r=>some (f r)
 | .raw,_,f,v=>some (f v)
 | .fnv,_,f,.func (.func g) ⟨[]⟩ ⟨cap⟩=>some (f g cap)
 | .adr,_,f,.pointer (some ⟨b,o,none⟩)=>some (f b o)
 | _,_,_,_=>none
def sF:(ls:List dd)->{T:Type}->YA ls T->Xa->Option T
 | [],_,f,[]=>some f
 | l::r,_,f,v::vs=>match l.app (T:=YA r _) f v with|some g=>sF r g vs|none=>none
 | _,_,_,_=>none
def Sh.app:(s:Sh)->{T:Type}->s.fn T->Value->Option T
 | .one l,_,f,v=>l.app f v
 | .agg ls,_,f,.agg cs=>sF ls f cs.toList
 | .agg _,_,_,_=>none
inductive SV where
 | p (v:Value)
 | g (j:Nat) (b:Bool) (v:Value)
 | x
abbrev Fr:=List SV
def aT{α:Type}:List α->Nat->Option α
 | [],_=>none
 | a::_,0=>some a
 | _::r,n+1=>aT r n
def iV{α:Type}:List α->Nat->α->List α
 | [],_,_=>[]
 | _::r,0,x=>x::r
 | a::r,n+1,x=>a::iV r n x
def Fr.put(fr:Fr)(d:Option Tmp)(s:SV):Fr:=match d with|some t=>iV fr t s|none=>fr
def gV(ts:List Nat)(fr:Fr):Fr:=ts.foldl (λf t=>iV f t .x) fr
def qM(fr:Fr):Fr:=fr.map fun|.g _ _ _=>.x|s=>s
def jn(fr:Fr)(t:Nat):Option Value:=match aT fr t with|some (.p v)=>some v|_=>none
def MK:(L:dE)->{T:Type}->JT T L->Fr->Option T
 | [],_,j,_=>some j
 | (t,s)::r,T,j,fr=>match jn fr t with
  | some v=>match s.app (T:=JT T r) j v with
   | some j'=>MK r j' fr
   | none=>none
  | none=>none
def li(L:dE)(J:JT (aC->Prop) L)(fr:Fr)(H:aC):Prop:=match MK L J fr with|some p=>p H|none=>False
def iW:Fr->(Fr->Prop)->Prop
 | [],k=>k []
 | .p v::r,k=>iW r λr'=>k (.p v::r')
 | .g j b v::r,k=>iW r λr'=>k (.g j b v::r')
 | .x::r,k=>iW r λr'=>k (.x::r')
theorem mp:∀(fr:Fr) (k:Fr->Prop),iW fr k=k fr
 | [],_=>rfl
 | .p _::r,k=>by rw[iW,mp r]
 | .g _ _ _::r,k=>by rw[iW,mp r]
 | .x::r,k=>by rw[iW,mp r]
def mZ(ds:List Nat):Nat->Fr->Fr
 | _,[]=>[]
 | i,s::r=>(match ace i ds with|true=>.x|false=>s)::mZ ds (i+1) r
where ace (n:Nat):List Nat->Bool
 | []=>false
 | m::r=>match Nat.beq n m with|true=>true|false=>ace n r
def aaB:dE->Fr->(Fr->Prop)->Prop
 | [],fr,K=>K fr
 | (t,s)::r,fr,K=>s.all λv=>iW (iV fr t (.p v)) λDQ=>aaB r DQ K
def ne(P:Program)(s:Sem Value)(v:Value):Prop:=∀w,s.run P w=.ok v w
def i8(P:Program)(op:BinOp)(t:TypeId)(x y:Value)(b:Bool):Prop:=∀ox oy w,(do eqGuard op t ox oy x y;binOp op t x y:Sem Value).run P w=.ok (.bool b) w
def sG(P:Program)(f:FuncId)(args:Array Value)(v:Value):Prop:=∀w,(callFunc f args).run P w=.ok (.value v) w
def dt(P:Program)(s:Sem Value)(H:aC)(v:Value):Prop:=∀w,w.heap=H->s.run P w=.ok v w
@[irreducible] def cv {α:Type} (P:Program) (s:Sem α) (H:aC) (K:α->aC->Prop):Prop:=
 ∀w,w.heap=H->∃a w',s.run P w=.ok a w'/\bZ w w'/\K a w'.heap
def Fin(w:World)(K:KE):Ending->World->Prop
 | .returned v,w'=>bZ w w'/\K v w'.heap
 | .panicked _,_=>False
 | .outgrown,_=>False
@[irreducible] def jo (P:Program) (f:FuncId) (args:Array Value) (H:aC) (K:KE):Prop:=
 ∀w,w.heap=H->Calls P f args w (Fin w K)
def jp(w:World)(K KP:KE):Ending->World->Prop
 | .returned v,w'=>bZ w w'/\K v w'.heap
 | .panicked chain,w'=>∃v,chain=[{ v,recovered:=false }]/\bZ w w'/\KP v w'.heap
 | .outgrown,_=>False
@[irreducible] def ou (P:Program) (f:FuncId) (args:Array Value) (H:aC) (K KP:KE):Prop:=
 ∀w,w.heap=H->Calls P f args w (jp w K KP)
def bX(P:Program)(f:FuncId)(args:Array Value)(H:aC)(v:Value):Prop:=jo P f args H λv' H'=>v'=v/\H'=H
@[irreducible] def fu (P:Program) (l:Nat) (vs:Xa) (H:aC) (K:KE):Prop:=
 ∀w,w.heap=H->∃fn tmps assign body,(Instr.yield l ⟨vs⟩).run P w=.ok (.round l fn tmps assign body) w/\RoundIn Fence.wide 0 P l fn tmps assign body w (Fin w K)
theorem cv.at{s:Sem D}{K:D->aC->Prop}(h:cv P s H K):∀w,w.heap=H->∃a b,s.run P w=.ok a b/\bZ w b/\K a b.heap:=by grind [cv]
theorem cv.mk{s:Sem D}{K:D->aC->Prop}(h:∀w,w.heap=H->∃a b,s.run P w=.ok a b/\bZ w b/\K a b.heap):cv P s H K:=by unfold cv;exact h
theorem jo.at{P:Program}{f:FuncId}{args:Array Value}{H:aC}{K:KE}(h:jo P f args H K):∀w,w.heap=H->Calls P f args w (Fin w K):=by unfold jo at h;exact h
theorem jo.mk(h:∀w,w.heap=H->Calls P f C w (Fin w a)):jo P f C H a:=by unfold jo;exact h
theorem ou.at{P:Program}{f:FuncId}{args:Array Value}{H:aC}{K KP:KE}(h:ou P f args H K KP):∀w,w.heap=H->Calls P f args w (jp w K KP):=by unfold ou at h;exact h
theorem ou.mk(h:∀w,w.heap=H->Calls P f C w (jp w a E)):ou P f C H a E:=by unfold ou;exact h
theorem fu.at(h:fu P b z H a):∀w,w.heap=H->∃fn tmps assign body,(Instr.yield b ⟨z⟩).run P w=.ok (.round b fn tmps assign body) w/\RoundIn Fence.wide 0 P b fn tmps assign body w (Fin w a):=by grind [fu]
theorem fu.mk(h:∀w,w.heap=H->∃fn tmps assign body,(Instr.yield b ⟨z⟩).run P w=.ok (.round b fn tmps assign body) w/\RoundIn Fence.wide 0 P b fn tmps assign body w (Fin w a)):fu P b z H a:=by unfold fu;exact h
def gW(P:Program)(f:FuncId):Prop:=∃fn,P.funcs[f]?=some fn/\fn.body.isNone=false/\(fn.name == "runtime.NumGoroutine")=false
inductive DM where
 | mark (r:Nat)
 | fn (g:FuncId) (cap:Xa)
structure Ctx where
 P:Program
 quiet:List FuncId
 calls:List FuncId
 agt:List (Nat×Sh×Sh):=[]
 CY:List FuncId:=[]
 ext:List FuncId:=[]
 kp:KE:=λ_ _=>False
 nop:Bool:=false
variable {F:Ctx}
def Ctx.nx(X:Ctx)(l:List (Nat×Sh×Sh)):Ctx:={ X with agt:=l }
def ab1:List (Nat×Sh×Sh)->Option Tmp->Option (Sh×Sh)
 | _,none=>none
 | [],some _=>none
 | (t,k,x)::r,some d=>match Nat.beq t d with|true=>some (k,x)|false=>ab1 r (some d)
inductive Kind where
 | P|R|W
 deriving DecidableEq
def bK(n:Nat):List Nat->Bool
 | []=>false
 | m::r=>Nat.beq n m||bK n r
def ahm:TypeDesc->Option dd
 | .bool=>some .bool
 | .int k=>some (.int k)
 | .string=>some .str
 | .pointer _=>some .ptr
 | .slice _=>some .slice
 | .map _ _=>some .map
 | .func _ _ _=>some .fnv
 | .interface _=>some .raw
 | _=>none
def uq(P:Program):Nat->TypeId->Option (List dd)
 | 0,_=>none
 | n+1,t=>match P.underlying t with
  | some (.struct fs)=>fs.toList.foldr (λf acc=>match uq P n f.type,acc with|some a,some b=>some (a++b)|_,_=>none) (some [])
  | some (.array k e)=>match uq P n e with
   | some a=>(match a,Nat.ble 16 k with|[.int ki],true=>some [.vec ki k]|a,_=>some ((List.replicate k a).flatten))
   | none=>none
  | some d=>match ahm d with|some l=>some [l]|none=>none
  | none=>none
def SH(P:Program)(t:TypeId):Bool:=match P.underlying t with|some (.struct _)|some (.array _ _)=>true|_=>false
def qN(P:Program)(t:TypeId):Option Sh:=
 match SH P t,uq P 9 t with
 | true,some ls=>some (.agg ls)
 | false,some [l]=>some (.one l)
 | _,_=>none
def exT(P:Program)(t:TypeId)(K:Value->Prop):Prop:=match qN P t with|some s=>s.ex K|none=>False
def ahv(P:Program)(t:TypeId)(K:Value->Prop):Prop:=match P.underlying t with|some (.func _ _ _)=>∃v:Value,K v|_=>exT P t K
def ww(P:Program)(t:TypeId)(K:Xa->Prop):Prop:=match uq P 9 t with|some ls=>acR ls K|none=>False
def bE(H:aC)(b:Nat):Nat->Xa->Prop
 | _,[]=>True
 | o,[v]=>aM H b o=some v
 | o,v::r=>aM H b o=some v/\bE H b (o+1) r
abbrev gt:Option Prop->Prop->Prop
 | none,p=>p
 | some c,p=>c->p
def bW{α:Type}(o:Option α)(K:α->Prop):Prop:=match o with|some v=>K v|none=>False
def aZ(op:BinOp)(k:IntKind)(x y:Int):Int:=
 match op with
 | .and=>k.wrap (BitVec.ofInt k.bits x &&& BitVec.ofInt k.bits y).toNat
 | .or=>k.wrap (BitVec.ofInt k.bits x ||| BitVec.ofInt k.bits y).toNat
 | .xor=>k.wrap (BitVec.ofInt k.bits x^^^BitVec.ofInt k.bits y).toNat
 | _=>k.wrap (BitVec.ofInt k.bits x &&& ~~~BitVec.ofInt k.bits y).toNat
def zr(op:BinOp)(k:IntKind)(x y:Int)(c:Option Prop)(K:Value->Prop):Prop:=
 match op with
 | .add=>K (.int k (k.wrap (x+y)))
 | .sub=>K (.int k (k.wrap (x-y)))
 | .mul=>K (.int k (k.wrap (x*y)))
 | .quo=>gt c (y≠0)/\K (.int k (k.wrap (x.tdiv y)))
 | .rem=>gt c (y≠0)/\K (.int k (x.tmod y))
 | .and=>K (.int k (aZ .and k x y))
 | .or=>K (.int k (aZ .or k x y))
 | .xor=>K (.int k (aZ .xor k x y))
 | .andNot=>K (.int k (aZ .andNot k x y))
 | .eql=>K (.bool (decide (x=y)))
 | .neq=>K (.bool (!decide (x=y)))
 | .lss=>K (.bool (decide (x<y)))
 | .leq=>K (.bool (decide (x<=y)))
 | .gtr=>K (.bool (decide (y<x)))
 | .geq=>K (.bool (decide (y<=x)))
 | .shl=>gt c (0<=y)/\K (.int k (k.wrap (x*2^(min y.toNat k.bits))))
 | .shr=>gt c (0<=y)/\K (.int k (x.fdiv (2^(min y.toNat k.bits))))
def zu(op:BinOp)(x y:Fb)(c:Option Prop)(K:Value->Prop):Prop:=
 match op with
 | .add=>gt c (((x.size+y.size:Nat):Int)<=i64.max)/\K (.string (x++y))
 | .eql=>K (.bool (x.toList == y.toList))
 | .neq=>K (.bool (!(x.toList == y.toList)))
 | .lss=>K (.bool (Op.bytesLess x.toList y.toList))
 | .leq=>K (.bool (Op.bytesLess x.toList y.toList||x.toList == y.toList))
 | .gtr=>K (.bool (!(Op.bytesLess x.toList y.toList||x.toList == y.toList)))
 | .geq=>K (.bool (!Op.bytesLess x.toList y.toList))
 | _=>False
def qO(d:Option TypeDesc)(x y:Value):Option Bool:=
 match d,x,y with
 | some .bool,.bool a,.bool b=>some (a == b)
 | some (.pointer _),.pointer a,.pointer none=>some a.isNone
 | some (.slice _),.slice a _ _,.slice none _ _=>some a.isNone
 | some (.map _ _),.map a,.map none=>some a.isNone
 | some (.func _ _ _),.func _ _ _,.nilFunc=>some false
 | some (.func _ _ _),.nilFunc,.nilFunc=>some true
 | _,_,_=>none
def ahD(P:Program)(op:BinOp)(t:TypeId)(x y:Value)(c:Option Prop)(K:Value->Prop):Prop:=
 match x,y with
 | .int k a,.int k' b=>if k=k' then zr op k a b c K else (match op with
  | .shl=>gt c (0<=b)/\K (.int k (k.wrap (a*2^(min b.toNat k.bits))))
  | .shr=>gt c (0<=b)/\K (.int k (a.fdiv (2^(min b.toNat k.bits))))
  | _=>False)
 | .string a,.string b=>zu op a b c K
 | x,y=>match op,qO (P.underlying t) x y with
  | .eql,some b=>K (.bool b)
  | .neq,some b=>K (.bool !b)
  | op,none=>∃b:Bool,gt c (i8 P op t x y b)/\K (.bool b)
  | _,_=>False
def ahp(P:Program)(t:TypeId):Bool:=match P.underlying t with|some (.interface _)=>true|_=>false
def ahC(P:Program)(op:BinOp)(t:TypeId)(x y:Value)(c:Option Prop)(K:Value->Prop):Prop:=
 match ahp P t with
 | true=>∃b:Bool,gt c (i8 P op t x y b)/\K (.bool b)
 | false=>ahD P op t x y c K
def unP(op:UnOp)(x:Value)(K:Value->Prop):Prop:=
 match op,x with
 | .neg,.int k n=>K (.int k (k.wrap (0-n)))
 | .xor,.int k n=>K (.int k (aZ .xor k (if k.signed then -1 else k.max) n))
 | .not,.bool b=>K (.bool !b)
 | _,_=>False
def qP(c:Bool)(a b:Value):Value:=
 match a,b with
 | .bool x,.bool y=>.bool (cond c x y)
 | a,b=>cond c a b
def ur(b d:Operand)(r:Bool×Value×Value):Value:=
 match b with
 | .const (.bool true)=>(match r.2.2 with|.bool y=>.bool (r.1||y)|_=>qP r.1 r.2.1 r.2.2)
 | _=>(match d with
  | .const (.bool false)=>(match r.2.1 with|.bool x=>.bool (r.1&&x)|_=>qP r.1 r.2.1 r.2.2)
  | _=>qP r.1 r.2.1 r.2.2)
def wx(o:Nat)(n:Int):Nat->Nat
 | 1=>o+n.toNat
 | s=>o+n.toNat*s
theorem Ex(o:Nat)(n:Int)(s:Nat):wx o n s=o+n.toNat*s:=by grind [wx]
def ph(P:Program)(t:TypeId)(q:Prop):Prop:=match P.cellsOf t with|0=>False|_+1=>q
def y_(a:KQ)(l m size:Nat):KQ:=if m=l then a else a.map (·.add (l*size))
def jq(x:Value)(K:Int->Prop):Prop:=match x with|.int _ n=>K n|_=>False
def zv(P:Program)(t:TypeId)(x:Value)(lo hi:Option Value)(c:Option Prop)(K:Value->Prop):Prop:=
 match P.underlying t,x with
 | some .string,.string s=>
  let go (l h:Int):Prop:=gt c (0<=l/\l<=h/\h<=(s.size:Int))/\K (.string (s.extract l.toNat h.toNat))
  match lo,hi with
  | some l,some h=>jq l λl=>jq h λh=>go l h
  | some l,none=>jq l λl=>go l s.size
  | none,some h=>jq h λh=>go 0 h
  | none,none=>go 0 s.size
 | some (.slice e),.slice a len cap=>
  let go (l h:Int):Prop:=gt c (0<=l/\l<=h/\h<=(cap:Int))/\K (.slice (y_ a l.toNat cap (P.cellsOf e)) (h.toNat-l.toNat) (cap-l.toNat))
  ph P e <| match lo,hi with
  | some l,some h=>jq l λl=>jq h λh=>go l h
  | some l,none=>jq l λl=>go l len
  | none,some h=>jq h λh=>go 0 h
  | none,none=>go 0 len
 | some (.array n e),.pointer (some a)=>
  let go (l h:Int):Prop:=gt c (0<=l/\l<=h/\h<=(n:Int))/\K (.slice (y_ (some a) l.toNat n (P.cellsOf e)) (h.toNat-l.toNat) (n-l.toNat))
  ph P e <| match lo,hi with
  | some l,some h=>jq l λl=>jq h λh=>go l h
  | some l,none=>jq l λl=>go l n
  | none,some h=>jq h λh=>go 0 h
  | none,none=>go 0 n
 | _,_=>False
def zw(P:Program)(t:TypeId)(x l h m:Value)(c:Option Prop)(K:Value->Prop):Prop:=
 match P.underlying t,x,l,h,m with
 | some (.slice e),.slice a _ cap,.int _ l,.int _ h,.int _ m=>ph P e <| gt c (0<=l/\l<=h/\h<=m/\m<=(cap:Int))/\K (.slice (y_ a l.toNat m.toNat (P.cellsOf e)) (h.toNat-l.toNat) (m.toNat-l.toNat))
 | _,_,_,_,_=>False
def F9(s:Fb)(i:Nat):Int:=(((s.data[i]?).getD 0).toNat:Int)
def zz(P:Program)(t:TypeId)(x i:Value)(c:Option Prop)(K:Value->Prop):Prop:=
 match P.underlying t,x,i with
 | some .string,.string s,.int _ n=>gt c (0<=n/\n<(s.size:Int))/\K (.int .u8 (F9 s n.toNat))
 | some (.array _ e),x,i=>match qN P e with
  | some s=>s.ex λv=>gt c (ne P (Instr.index t x i) v)/\K v
  | none=>False
 | _,_,_=>False
def zA(P:Program)(t:TypeId)(x i:Value)(c:Option Prop)(K:Value->Prop):Prop:=
 match P.underlying t,x,i with
 | some (.slice e),.slice a len _,.int _ n=>ph P e <| gt c (0<=n/\n<(len:Int))/\∃b o:Nat,gt c (a=some ⟨b,o,none⟩)/\K (.pointer (some ⟨b,wx o n (P.cellsOf e),none⟩))
 | some (.array len e),.pointer (some ⟨b,o,none⟩),.int _ n=>ph P e <| gt c (0<=n/\n<(len:Int))/\K (.pointer (some ⟨b,wx o n (P.cellsOf e),none⟩))
 | _,_,_=>False
def zB(P:Program)(t:TypeId)(x:Value)(f:Nat)(K:Value->Prop):Prop:=
 match P.underlying t,x with
 | some (.struct fs),.pointer (some ⟨b,o,none⟩)=>match aT fs.toList f with
  | some fd=>ph P fd.type <| K (.pointer (some ⟨b,o+fd.offset,none⟩))
  | none=>False
 | _,_=>False
def acO(P:Program)(t:TypeId)(x:Value)(f:Nat)(c:Option Prop)(K:Value->Prop):Prop:=
 match P.underlying t with
 | some (.struct fs)=>match aT fs.toList f with
  | some fd=>match qN P fd.type with
   | some s=>s.ex λu=>gt c (ne P (Instr.field t x f) u)/\K u
   | none=>False
  | none=>False
 | _=>False
def aV:KQ->Nat
 | some a=>a.block
 | none=>0
def aS:KQ->Nat
 | some a=>a.off
 | none=>0
def isA:KQ->Prop
 | some ⟨_,_,none⟩=>True
 | _=>False
def NN(a:KQ)(p:Prop):Prop:=match a with
 | some ⟨_,_,none⟩=>p
 | _=>False
theorem afe{a:KQ}:isA a↔a=some ⟨aV a,aS a,none⟩:=by rcases a with _|⟨b,o,_|s⟩ <;> simp[isA,aV,aS]
theorem zC{a:KQ}:NN a G↔a=some ⟨aV a,aS a,none⟩/\G:=by rcases a with _|⟨b,o,_|s⟩ <;> simp[NN,aV,aS]
def wy(x:Value)(c:Option Prop)(K:Value->Prop):Prop:=
 match x with
 | .pointer a=>(match c with
  | none=>NN a (K (.pointer (some ⟨aV a,aS a,none⟩)))
  | some c=>(c->isA a)/\K (.pointer (some ⟨aV a,aS a,none⟩)))
 | .func (.func f) a b=>K (.func (.func f) a b)
 | .func (.yield f) a b=>K (.func (.yield f) a b)
 | _=>False
def ut(P:Program)(t:TypeId):Option (Xa):=match P.info? t with|some i=>(match i.zero with|some v=>some v.cells.toList|none=>none)|none=>none
def abY(P:Program):List Field->Nat->Option (Nat×Nat)
 | fs,i=>match aT fs i with|some f=>some (f.offset,P.cellsOf f.type)|none=>none
def wA:Xa->Nat->Xa->Xa
 | cs,_,[]=>cs
 | cs,o,v::r=>wA (iV cs o v) (o+1) r
def qQ(place:Nat->Option (Nat×Nat)):Xa->List (Nat×Value)->Option (Xa)
 | cells,[]=>some cells
 | cells,(i,v)::rest=>
  match place i with
  | none=>none
  | some (off,size)=>if v.cells.toList.length=size/\off+size<=cells.length then qQ place (wA cells off v.cells.toList) rest else none
def wB(P:Program):List Field->Bool
 | []=>true
 | f::r=>(P.info? f.type).isSome&&wB P r
def zD(P:Program)(t:TypeId)(parts:List (Nat×Value)):Option (Xa):=
 match ut P t,P.underlying t with
 | some z,some (.struct fs)=>if wB P fs.toList=true then qQ (abY P fs.toList) z parts else none
 | some z,some (.array _ e)=>match P.info? e with
  | some _=>qQ (λi=>some (i*P.cellsOf e,P.cellsOf e)) z parts
  | none=>none
 | _,_=>none
def nh(z:Xa):Nat->Xa
 | 0=>[]
 | n+1=>z++nh z n
def zG(P:Program)(e:TypeId)(len:Nat)(parts:List (Nat×Value)):Option (Xa):=
 match ut P e with
 | some z=>if z.length=P.cellsOf e then qQ (λi=>some (i*P.cellsOf e,P.cellsOf e)) (nh z len) parts else none
 | none=>none
def iA(ev:Operand->Option Value):List Operand->Option (Xa)
 | []=>some []
 | x::r=>match ev x,iA ev r with|some v,some vs=>some (v::vs)|_,_=>none
def pV(ev:Operand->Option Value):List (Nat×Operand)->Option (List (Nat×Value))
 | []=>some []
 | (i,x)::r=>match ev x,pV ev r with|some v,some vs=>some ((i,v)::vs)|_,_=>none
def uu(ev:Operand->Option Value):Option Operand->Option (Option Value)
 | none=>some none
 | some x=>match ev x with|some v=>some (some v)|none=>none
def ac5(P:Program)(s d:TypeId)(x:Value)(K:Value->Prop):Prop:=
 match P.underlying s,P.underlying d,x with
 | some _,some (.int k),.int _ n=>K (.int k (k.wrap n))
 | some _,some .string,.string b=>K (.string b)
 | _,_,_=>False
def ahj(P:Program)(t:TypeId)(x:Value)(K:Value->Prop):Prop:=
 match P.underlying t,x with
 | some .string,.string s=>K (.int .i64 s.size)
 | some (.slice _),.slice _ n _=>K (.int .i64 n)
 | some (.array n _),_=>K (.int .i64 n)
 | _,_=>False
def mmP(isMax:Bool):Xa->(Value->Prop)->Prop
 | [.int k x,.int _ y],K=>K (.int k (match isMax with|true=>if y>x then y else x|false=>if y<x then y else x))
 | [.int k x,.int _ y,.int _ z],K=>(match isMax with
  | true=>K (.int k (if z>(if y>x then y else x) then z else (if y>x then y else x)))
  | false=>K (.int k (if z<(if y<x then y else x) then z else (if y<x then y else x))))
 | _,_=>False
def wC(X:Ctx)(ev:Operand->Option Value)(pk:Operand->Operand->Operand->Option (Bool×Value×Value))(c:Option Prop)(op:Op)(K:Value->Prop):Prop:=
 match op with
 | .move x|.assign x=>bW (ev x) K
 | .pick a b d=>bW (pk a b d) λr=>K (ur b d r)
 | .nilCheck x=>bW (ev x) λv=>wy v c K
 | .binOp op t x y _=>bW (ev x) λa=>bW (ev y) λb=>ahC X.P op t a b c K
 | .unOp op _ x=>bW (ev x) λv=>unP op v K
 | .convert s d x=>bW (ev x) λv=>ac5 X.P s d v K
 | .fieldAddr t x f=>bW (ev x) λv=>zB X.P t v f K
 | .field t x f=>bW (ev x) λv=>acO X.P t v f c K
 | .indexAddr t x i=>bW (ev x) λv=>bW (ev i) λn=>zA X.P t v n c K
 | .index t x i=>bW (ev x) λv=>bW (ev i) λn=>zz X.P t v n c K
 | .extract t i=>bW (ev t) λv=>(match v with|.tuple vs=>bW (aT vs.toList i) K|_=>False)
 | .slice t x lo hi mx=>(match mx with
  | none=>bW (ev x) λv=>bW (uu ev lo) λl=>bW (uu ev hi) λh=>zv X.P t v l h c K
  | some mx=>(match lo,hi with
   | some lo,some hi=>bW (ev x) λv=>bW (ev lo) λl=>bW (ev hi) λh=>bW (ev mx) λm=>zw X.P t v l h m c K
   | _,_=>False))
 | .build t ps=>bW (pV ev ps.toList) λvs=>bW (zD X.P t vs) λl=>K (.agg ⟨l⟩)
 | .makeInterface t x=>bW (ev x) λv=>(match X.P.underlying t with|some (.interface _)=>False|some _=>K (.iface t v)|none=>False)
 | .typeAssert x t u ok=>(match ok with
  | true=>bW (ev x) λv=>exT X.P u λy=>∃there:Bool,gt c (ne X.P (Instr.typeAssert v t u true) (.tuple #[y,.bool there]))/\K (.tuple #[y,.bool there])
  | false=>False)
 | .makeFunc fn a b=>bW (iA ev a.toList) λva=>bW (iA ev b.toList) λvb=>K (.func fn ⟨va⟩ ⟨vb⟩)
 | .call cl=>(match cl.callee,cl.argTypes.toList with
  | .builtin .len,t::_=>bW (iA ev cl.args.toList) λvs=>(match vs with|v::_=>ahj X.P t v K|[]=>False)
  | .builtin .max,_=>bW (iA ev cl.args.toList) λvs=>mmP true vs K
  | .builtin .min,_=>bW (iA ev cl.args.toList) λvs=>mmP false vs K
  | _,_=>False)
 | _=>False
def Ez(P:Program):List TypeId->Option (List Sh)
 | []=>some []
 | t::r=>match qN P t,Ez P r with|some s,some ss=>some (s::ss)|_,_=>none
def wD(P:Program)(t:TypeId):Option (List Sh):=
 match P.underlying t with
 | some (.tuple ts)=>Ez P ts.toList
 | _=>match qN P t with|some s=>some [s]|none=>none
def wE(X:Ctx)(ev:Operand->Option Value)(c:Option Prop)(o:Oper)(H:aC)(K:Value->(aC->Prop)->Prop):Prop:=
 match o.op with
 | .load t x=>bW (ev x) λv=>(match v with
  | .pointer (some ⟨b,off,none⟩)=>(match SH X.P t with
   | true=>ww X.P t λus=>(if us.length=X.P.cellsOf t then gt c (bE H b off us)/\K (.agg ⟨us⟩) λH'=>gt c (bE H' b off us) else False)
   | false=>ahv X.P t λu=>gt c (aM H b off=some u)/\K u λH'=>gt c (aM H' b off=some u))
  | _=>False)
 | .lookup t x i ok=>bW (ev x) λm=>bW (ev i) λk=>(match X.P.underlying t with
  | some (.map _ e)=>exT X.P e λu=>(match ok with
   | true=>∃there:Bool,gt c (dt X.P (Instr.lookup t m k true) H (.tuple #[u,.bool there]))/\K (.tuple #[u,.bool there]) λH'=>gt c (dt X.P (Instr.lookup t m k true) H' (.tuple #[u,.bool there]))
   | false=>gt c (dt X.P (Instr.lookup t m k false) H u)/\K u λH'=>gt c (dt X.P (Instr.lookup t m k false) H' u))
  | _=>False)
 | .convert s d x=>bW (ev x) λv=>(match X.P.underlying d with
  | some .string=>∃b:Fb,gt c (dt X.P (convert s d v) H (.string b))/\K (.string b) λH'=>gt c (dt X.P (convert s d v) H' (.string b))
  | _=>False)
 | .entry it=>bW (ev it) λv=>(match ab1 X.agt o.dst with
  | some (ks,xs)=>ks.ex λk=>xs.ex λx=>gt c (dt X.P (Instr.entry v) H (.tuple #[k,x]))/\K (.tuple #[k,x]) λH'=>gt c (dt X.P (Instr.entry v) H' (.tuple #[k,x]))
  | none=>False)
 | .call cl=>(match cl.callee with
  | .value (.func f)=>(match bK f X.ext with
   | true=>bW (iA ev cl.args.toList) λvs=>bW (wD X.P o.type) λss=>mo ss λu=>gt c (sG X.P f ⟨vs⟩ u)/\K u λ_=>gt c (sG X.P f ⟨vs⟩ u)
   | false=>if bK f X.calls=false then False else bW (iA ev cl.args.toList) λvs=>bW (wD X.P o.type) λss=>mo ss λu=>gt c (bX X.P f ⟨vs⟩ H u)/\K u λH'=>gt c (bX X.P f ⟨vs⟩ H' u))
  | .builtin .len=>bW (iA ev cl.args.toList) λvs=>∃n:Int,gt c (dt X.P (Builtin.len_ cl.argTypes o.type ⟨vs⟩) H (.int .i64 n))/\K (.int .i64 n) λH'=>gt c (dt X.P (Builtin.len_ cl.argTypes o.type ⟨vs⟩) H' (.int .i64 n))
  | _=>False)
 | _=>False
def eA(H:aC)(b:Nat):Nat->Xa->Prop
 | _,[]=>True
 | o,_::r=>((aM H b o).isSome=true/\mY H b o=false)/\eA H b (o+1) r
def fw(H:aC)(b:Nat):Nat->Xa->aC
 | _,[]=>H
 | o,v::r=>fw (jm H b o v) b (o+1) r
def cU:Xa->Bool
 | []=>true
 | .agg _::_=>false
 | .tuple _::_=>false
 | _::r=>cU r
def aeS(v:Value)(kp:KE)(H:aC):Prop:=match v with
 | .iface t u=>kp (.iface t u) H
 | _=>False
def wF(X:Ctx)(ev:Operand->Option Value)(o:Oper)(H:aC)(K:KE):Prop:=
 match o.op with
 | .alloc t=>bW (ut X.P t) λz=>∀(b:Nat) (H':aC),b=H.size->H'=H.push (.cells ⟨z⟩ t)->K (.pointer (some ⟨b,0,none⟩)) H'
 | .box t x=>bW (ev x) λv=>∀(b:Nat) (H':aC),b=H.size->H'=H.push (.cells v.cells t)->K (.pointer (some ⟨b,0,none⟩)) H'
 | .buildSlice t n ps=>bW (pV ev ps.toList) λvs=>(match X.P.underlying t with
  | some (.slice e)=>bW (zG X.P e n vs) λl=>(if n*X.P.cellsOf e<=16777216 then ∀(b:Nat) (H':aC),b=H.size->H'=H.push (.cells ⟨l⟩ e)->K (.slice (some ⟨b,0,none⟩) n n) H' else False)
  | _=>False)
 | .makeMap _ r=>(match r with
  | none=>∀(b:Nat) (H':aC),b=H.size->H'=H.push (.map #[] 0)->K (.map (some b)) H'
  | some _=>False)
 | .store t x y=>bW (ev x) λa=>bW (ev y) λv=>(match a with
  | .pointer (some ⟨b,off,none⟩)=>
   ph X.P t <| if v.cells.toList.length=X.P.cellsOf t/\cU v.cells.toList=true then eA H b off v.cells.toList/\∀H':aC,H'=fw H b off v.cells.toList->K undef H' else False
  | _=>False)
 | .makeSlice t l c=>bW (ev l) λa=>bW (ev c) λb=>cv X.P (Instr.makeSlice t a b) H λv H'=>exT X.P t λu=>v=u/\K u H'
 | .mapUpdate t m k x|.insert t m k x=>bW (ev m) λa=>bW (ev k) λb=>bW (ev x) λv=>cv X.P (Instr.mapUpdate t a b v) H λ_ H'=>K undef H'
 | .mapEntry t m k=>bW (ev m) λa=>bW (ev k) λb=>cv X.P (Instr.mapEntry t a b) H λv H'=>(match X.P.underlying t with
  | some (.map _ e)=>exT X.P e λu=>∃n:Int,v=.tuple #[u,.int .i64 n]/\K (.tuple #[u,.int .i64 n]) H'
  | _=>False)
 | .entryStore t m k x=>bW (ev m) λa=>bW (ev k) λb=>bW (ev x) λv=>cv X.P (Instr.entryStore t a b v) H λ_ H'=>K undef H'
 | .range t x=>bW (ev x) λv=>cv X.P (Instr.range t v) H λu H'=>∃r:Nat,u=.pointer (some ⟨r,0,none⟩)/\K (.pointer (some ⟨r,0,none⟩)) H'
 | .next it s=>bW (ev it) λv=>cv X.P (Instr.next v s o.type) H λu H'=>(u=.tuple #[.bool false]/\K (.tuple #[.bool false]) H')\/∃k x:Value,u=.tuple #[.bool true,k,x]/\K (.tuple #[.bool true,k,x]) H'
 | .convert s d x=>bW (ev x) λv=>cv X.P (convert s d v) H λu H'=>exT X.P d λu'=>u=u'/\K u' H'
 | .call cl=>(match cl.callee with
  | .value (.func f)=>if bK f X.calls=false then False else bW (iA ev cl.args.toList) λvs=>bW (wD X.P o.type) λss=>(match bK f X.CY with
   | true=>ou X.P f ⟨vs⟩ H (λv H'=>mo ss λu=>v=u/\K u H') X.kp
   | false=>jo X.P f ⟨vs⟩ H λv H'=>mo ss λu=>v=u/\K u H')
  | .value x=>bW (ev x) λfv=>bW (iA ev cl.args.toList) λvs=>bW (wD X.P o.type) λss=>(match fv with
   | .func (.func f) first cap=>bK f X.calls=true/\jo X.P f ⟨first.toList++vs++cap.toList⟩ H λv H'=>mo ss λu=>v=u/\K u H'
   | .func (.yield l) ⟨[]⟩ ⟨[]⟩=>fu X.P l vs H λv H'=>mo ss λu=>v=u/\K u H'
   | _=>False)
  | .builtin .append=>bW (iA ev cl.args.toList) λvs=>cv X.P (Builtin.append_ cl.argTypes o.type ⟨vs⟩) H λv H'=>∃(a:KQ) (n c:Nat),v=.slice a n c/\K (.slice a n c) H'
  | .builtin .copy=>bW (iA ev cl.args.toList) λvs=>cv X.P (Builtin.copy_ cl.argTypes o.type ⟨vs⟩) H λv H'=>∃n:Int,v=.int .i64 n/\K (.int .i64 n) H'
  | .builtin .delete=>bW (iA ev cl.args.toList) λvs=>cv X.P (Builtin.delete_ cl.argTypes o.type ⟨vs⟩) H λv H'=>K v H'
  | .builtin .clear=>bW (iA ev cl.args.toList) λvs=>cv X.P (Builtin.clear_ cl.argTypes o.type ⟨vs⟩) H λv H'=>K v H'
  | _=>False)
 | .panic x=>bW (ev x) λv=>aeS v X.kp H
 | _=>False
def ahE(P:Program)(t:TypeId):Bool:=match P.underlying t with|some .string|some (.slice _)|some (.array _ _)=>true|_=>false
def acD(P:Program)(t:TypeId):Bool:=match P.underlying t with|some (.int _)|some .string=>true|_=>false
def ni(X:Ctx)(op:Op):Kind:=
 match op with
 | .move _|.assign _|.pick _ _ _|.nilCheck _|.binOp _ _ _ _ _|.unOp _ _ _|.fieldAddr _ _ _|.field _ _ _|.indexAddr _ _ _|.index _ _ _|.extract _ _|.slice _ _ _ _ _|.build _ _|.makeInterface _ _|.typeAssert _ _ _ _|.makeFunc _ _ _=>.P
 | .convert s d _=>match acD X.P s,X.P.underlying d with
  | true,some (.int _)=>.P
  | true,some .string=>(match X.P.underlying s with|some .string=>.P|_=>.W)
  | false,some .string=>.R
  | _,_=>.W
 | .load _ _|.lookup _ _ _ _|.entry _=>.R
 | .call cl=>match cl.callee,cl.argTypes.toList with
  | .builtin .len,t::_=>if ahE X.P t then .P else .R
  | .builtin .max,_|.builtin .min,_=>.P
  | .value (.func f),_=>if bK f X.quiet then .R else .W
  | _,_=>.W
 | _=>.W
abbrev aB:=Value.int .i64
abbrev PA(b o:Nat):Value:=.pointer (some ⟨b,o,none⟩)
abbrev IF(c:Bool)(p q:Prop):Prop:=(c=true->p)/\(c=false->q)
abbrev AL(H:aC)(cs:Xa)(t:Nat)(k:Nat->aC->Prop):Prop:=∀(b:Nat) (H':aC),b=H.size->H'=H.push (.cells ⟨cs⟩ t)->k b H'
abbrev ST(H:aC)(b o:Nat)(vs:Xa)(k:aC->Prop):Prop:=eA H b o vs/\∀H':aC,H'=fw H b o vs->k H'
abbrev Z0:Nat->Int:=λ_=>0
theorem bZ.refl(w:World):bZ w w:=⟨rfl,rfl,rfl⟩
theorem bZ.trans{a b c:World}(h:bZ a b)(k:bZ b c):bZ a c:=⟨k.os.trans h.os,k.tape.trans h.tape,k.output.trans h.output⟩
theorem o_(w:World)(b o:Nat):w.cell? ⟨b,o,none⟩=aM w.heap b o:=by grind [World.cell?,aM]
theorem Hj(w:World)(b o:Nat):w.frozen? ⟨b,o,none⟩=mY w.heap b o:=rfl
theorem zH(w:World)(b o:Nat)(v:Value):(w.setCell ⟨b,o,none⟩ v).heap=jm w.heap b o v:=by grind [World.setCell,jm]
theorem fD(h:P.underlying t=some d)(w:World):(underlying t).run P w=.ok d w:=by simp[underlying,h]
theorem nj(P:Program)(t:TypeId)(h:P.info? t≠none)(w:World):(sizeOf t).run P w=.ok (P.cellsOf t) w:=by
 cases hi:P.info? t with
 | none=>grind
 | some i=>simp[sizeOf,typeInfo,hi,Program.cellsOf]
theorem Po(h:P.underlying t=some d):P.info? t≠none:=by grind [Program.underlying]
theorem gL(l:List D)(n:Nat):aT l n=l[n]?:=by
 induction l generalizing n with
 | nil=>simp[aT]
 | cons a r ih=>cases n <;> simp[aT,ih]
theorem zI(l:List D)(n:Nat)(x:D):iV l n x=l.set n x:=by
 induction l generalizing n with
 | nil=>simp[iV]
 | cons a r ih=>cases n <;> simp[iV,ih]
theorem EB(a b:Value):qP true a b=a:=by unfold qP;grind
theorem zJ(a b:Value):qP false a b=b:=by unfold qP;grind
theorem bP{o:Option D}{K:D->Prop}(h:bW o K):∃v,o=some v/\K v:=by
 cases o with
 | none=>exact h.elim
 | some v=>exact⟨v,rfl,h⟩
theorem ov{ρ:Operand->Value}{ev:Operand->Option Value}{G:Prop}(a:∀x v,ev x=some v->G->ρ x=v):∀(l:List Operand) (vs:Xa),iA ev l=some vs->G->l.map ρ=vs
 | [],vs,h,_=>by grind [iA]
 | x::r,vs,h,g=>by simp only[iA]at h;cases h1:ev x with
  | none=>grind
  | some v=>cases h2:iA ev r with
   | none=>grind
   | some vs'=>simp only[h1,h2,Option.some.injEq]at h;subst h;simp[a x v h1 g,ov a r vs' h2 g]
theorem zK{ρ:Operand->Value}{ev:Operand->Option Value}{G:Prop}(a:∀x v,ev x=some v->G->ρ x=v):∀(l:List (Nat×Operand)) (vs:List (Nat×Value)),pV ev l=some vs->G->l.map (λp=>(p.1,ρ p.2))=vs
 | [],vs,h,_=>by grind [pV]
 | (i,x)::r,vs,h,g=>by simp only[pV]at h;cases h1:ev x with
  | none=>grind
  | some v=>cases h2:pV ev r with
   | none=>grind
   | some vs'=>simp only[h1,h2,Option.some.injEq]at h;subst h;simp[a x v h1 g,zK a r vs' h2 g]
theorem EC(a:∀x v,A x=some v->G->B x=v)(o:Option Operand)(v:Option Value)(h:uu A o=some v)(g:G):o.map B=v:=by
 cases o with
 | none=>grind [uu]
 | some x=>grind [uu]
theorem Pp(op:BinOp)(t:TypeId)(k:IntKind)(x y:Int)(a:∀p,gt c p->G->p)(h:zr op k x y c K) : ∃v,K v/\(G->∀w,(Go.binOp op t (.int k x) (.int k y)).run P w=.ok v w):=by
 cases op <;> simp only[zr]at h;case quo=>exact⟨_,h.2,λg w=>by simp[Go.binOp,Op.intDiv,a _ h.1 g]⟩
 case rem=>exact⟨_,h.2,λg w=>by simp[Go.binOp,Op.intDiv,a _ h.1 g]⟩
 case shl=>exact⟨_,h.2,λg w=>by have:=a _ h.1 g;simp[Go.binOp,Op.shift];omega⟩
 case shr=>exact⟨_,h.2,λg w=>by have:=a _ h.1 g;simp[Go.binOp,Op.shift];omega⟩
 case eql=>exact⟨_,h,λ_ w=>by simp[Go.binOp,Op.intCmp];grind⟩
 case neq=>exact⟨_,h,λ_ w=>by simp[Go.binOp,Op.intCmp];grind⟩
 all_goals exact⟨_,h,λ_ w=>by simp[Go.binOp,Op.intArith,Op.intBits,Op.intCmp,aZ]⟩
theorem Pq(op:BinOp)(t:TypeId)(x y:Fb)(a:∀p,gt c p->G->p)(h:zu op x y c K) : ∃v,K v/\(G->∀w,(Go.binOp op t (.string x) (.string y)).run P w=.ok v w):=by
 cases op <;> simp only[zu]at h;case add=>exact⟨_,h.2,λg w=>by have:=a _ h.1 g;simp only[Go.binOp,Op.stringOp];simp_all⟩
 all_goals exact⟨_,h,λ_ w=>by simp[Go.binOp,Op.stringOp]⟩
theorem zL(op:BinOp)(t:TypeId)(d e:Operand)(a b:Value)(P:Program)(w:World)(c:a≠.nilIface\/b≠.nilIface)(f:∀x y,a≠.agg x\/b≠.agg y):(eqGuard op t d e a b).run P w=.ok () w:=by
 unfold eqGuard;cases op;case eql=>
  rw[b_ eh];split;.simp at c
  .grind
  rfl
 case neq=>
  rw[b_ eh];split;.simp at c
  .grind
  rfl
 all_goals rfl
theorem Pr(t:TypeId)(x y:Value):Op.equal t x y=Op.equalIn (9999+1) t x y:=rfl
theorem acU{y:Value}{b:Bool}(hd:P.underlying t=some d)(h:qO (some d) v y=some b)(n:Nat)(w:World) : (Op.equalIn (n+1) t v y).run P w=.ok b w/\(v≠.nilIface\/y≠.nilIface)/\(∀u x,v≠.agg u\/y≠.agg x):=by
 unfold qO at h;split at h;all_goals (try cases h)
 all_goals (rename_i c;cases c)
 case h_2=>rename_i a;cases a <;> simp[Op.equalIn,fD hd]
 case h_3=>rename_i a _ _ _ _;cases a <;> simp[Op.equalIn,fD hd]
 case h_4=>rename_i a;cases a <;> simp[Op.equalIn,fD hd]
 all_goals simp[Op.equalIn,fD hd]
theorem EE{y:Value}{b:Bool}(h:qO (P.underlying t) v y=some b)(a c:Operand)(op:BinOp)(w:World) : (Op.equal t v y).run P w=.ok b w/\(eqGuard op t a c v y).run P w=.ok () w:=by cases hd:P.underlying t with
  | none=>grind [qO]
  | some d=>rw[hd]at h;rw[Pr];let⟨e,f,i⟩:=acU hd h 9999 w;grind [zL]
theorem Ps{P:Program}(op:BinOp)(t:TypeId)(x y:Value)(e f:Operand)(j:∀p,gt c p->G->p)(h:ahD P op t x y c K) : ∃v,K v/\(G->∀w,(do eqGuard op t e f x y;Go.binOp op t x y:Sem Value).run P w=.ok v w):=by
 unfold ahD at h;split at h
 .rename_i k a s b;have m:∀w,(eqGuard op t e f (.int k a) (.int s b)).run P w=.ok () w:=λw=>zL _ _ _ _ _ _ _ _ eh eh;split at h;.rename_i n;subst n;let⟨v,d,i⟩:=Pp (P:=P) op t k a b j h;exact⟨v,d,λg w=>by simp_all⟩
  rename_i n;split at h;.exact⟨_,h.2,λg w=>by have:=j _ h.1 g;simp[m,Go.binOp,Op.shift];omega⟩
  .exact⟨_,h.2,λg w=>by have:=j _ h.1 g;simp[m,Go.binOp,Op.shift];omega⟩
  grind
 .rename_i a b;have m:∀w,(eqGuard op t e f (.string a) (.string b)).run P w=.ok () w:=λw=>zL _ _ _ _ _ _ _ _ eh eh;let⟨v,d,i⟩:=Pq (P:=P) op t a b j h;exact⟨v,d,λg w=>by simp_all⟩
 rename_i hi hs;split at h
 .rename_i b hb;refine⟨_,h,λ_ w=>?_⟩;let⟨d,i⟩:=EE hb e f .eql w;have:(Go.binOp .eql t x y).run P w=.ok (.bool b) w:=by unfold qO at hb;split at hb <;> cases hb <;> (show Sem.run P (do pure (Value.bool (<-Op.equal t _ _))) w=_;simp[d])
  simp_all
 .rename_i b hb;refine⟨_,h,λ_ w=>?_⟩;let⟨d,i⟩:=EE hb e f .neq w;have:(Go.binOp .neq t x y).run P w=.ok (.bool (!b)) w:=by unfold qO at hb;split at hb <;> cases hb <;> (show Sem.run P (do pure (Value.bool (!(<-Op.equal t _ _)))) w=_;simp[d])
  simp_all
 .let⟨b,d,i⟩:=h;exact⟨_,i,λg w=>j _ d g e f w⟩
 grind
theorem Pu(op:UnOp)(x:Value)(h:unP op x K):∃v,K v/\∀w,(Op.unary op x).run P w=.ok v w:=by
 unfold unP at h;split at h;.exact⟨_,h,λw=>by simp[Op.unary,Op.intArith]⟩
 .exact⟨_,h,λw=>by simp[Op.unary,Op.intBits,aZ]⟩
 .exact⟨_,h,λw=>by simp[Op.unary]⟩
 grind
theorem qR(k:IntKind)(n:Int)(y:Nat)(code:BoundsCode)(w:World)(h:0<=n/\n<=(y:Int)):(Instr.sliceBound (.int k n) y code).run P w=.ok n.toNat w:=by simp[Instr.sliceBound,asIntOf,h]
theorem zM{P:Program}(a:Bool)(len cap:Nat)(lo hi:Option Value)(l h:Int)(w:World) (c:lo=none/\l=0\/∃k,lo=some (.int k l)) (b:hi=none/\h=(len:Int)\/∃k,hi=some (.int k h)) (hb:0<=l/\l<=h/\h<=(cap:Int)):(Instr.sliceBounds a len cap lo hi none).run P w=.ok (l.toNat,h.toNat,cap) w:=by
 unfold Instr.sliceBounds;rcases b with ⟨rfl,rfl⟩|⟨k,rfl⟩ <;> rcases c with ⟨rfl,rfl⟩|⟨d,rfl⟩;.simp
 .simp [qR d l len _ w ⟨hb.1,hb.2.1⟩]
 .simp [qR k h cap _ w ⟨ez,hb.2.2⟩]
 have:=qR (P:=P) d l h.toNat .sliceB w ⟨hb.1,ez⟩;simp[qR k h cap _ w ⟨ez,hb.2.2⟩,this]
theorem zN{Kn:Int->Prop}(h:jq v Kn):∃k n,v=.int k n/\Kn n:=by unfold jq at h;grind
theorem zO{lo hi:Option Value}{len:Int}{go:Int->Int->Prop} (c:match lo,hi with
 | some l,some h=>jq l λl=>jq h λh=>go l h
 | some l,none=>jq l λl=>go l len
 | none,some h=>jq h λh=>go 0 h
 | none,none=>go 0 len) (_:D) : ∃l h,go l h/\(lo=none/\l=0\/∃k,lo=some (.int k l))/\(hi=none/\h=len\/∃k,hi=some (.int k h)):=by cases lo with
  | none=>cases hi with
   | none=>grind
   | some b=>let⟨k,n,hb,c⟩:=zN c;grind
  | some a=>cases hi with
   | none=>let⟨k,n,d,c⟩:=zN c;grind
   | some b=>grind [zN]
theorem qS(h:ph P t G):P.info? t≠none/\P.cellsOf t≠0/\G:=by grind [ph,Program.cellsOf]
theorem Pw{P:Program}(t:TypeId)(x:Value)(lo hi:Option Value)(u:∀p,gt c p->G->p)(h:zv P t x lo hi c K) : ∃v,K v/\(G->∀w,(Instr.sliceAt t x lo hi none).run P w=.ok v w):=by
 unfold zv at h;split at h;.rename_i s d;let⟨l,k,⟨f,i⟩,j,m⟩:=zO h ();refine⟨_,i,λg w=>?_⟩;have hb:=zM (P:=P) false s.size s.size lo hi l k w j m (u _ f g);simp[Instr.sliceAt,Instr.slice,fD d,hb]
 .rename_i e a len cap d;let⟨b,y,h⟩:=qS h;let⟨l,k,⟨f,i⟩,j,m⟩:=zO h ();refine⟨_,i,λg w=>?_⟩;have hb:=zM (P:=P) true len cap lo hi l k w j m (u _ f g);simp[Instr.sliceAt,Instr.slice,fD d,hb,nj P e b,y_]
 .rename_i n e a d;let⟨b,y,h⟩:=qS h;let⟨l,k,⟨f,i⟩,j,m⟩:=zO h ();refine⟨_,i,λg w=>?_⟩;have hb:=zM (P:=P) false n n lo hi l k w j m (u _ f g);simp[Instr.sliceAt,Instr.sureAddr,fD d,hb,nj P e b,y_];grind
 grind
theorem Px{P:Program}(t:TypeId)(x l h m:Value)(f:∀p,gt c p->G->p)(hs:zw P t x l h m c K) : ∃v,K v/\(G->∀w,(Instr.sliceAt t x (some l) (some h) (some m)).run P w=.ok v w):=by
 unfold zw at hs;split at hs;.rename_i e a len cap k1 l k2 h k3 m d;let⟨b,i,hs⟩:=qS hs;refine⟨_,hs.2,λg w=>?_⟩;let⟨b1,b2,b3,b4⟩:=f _ hs.1 g;have r1:=qR (P:=P) k3 m cap .slice3Acap w ⟨ez,b4⟩;have r2:=qR (P:=P) k2 h m.toNat .slice3B w ⟨ez,ez⟩;have r3:=qR (P:=P) k1 l h.toNat .slice3C w ⟨b1,ez⟩;simp[Instr.sliceAt,Instr.slice,Instr.sliceBounds,fD d,r1,r2,r3,nj P e b,y_]
 grind
theorem EF{l:dd}(h:l.ex K):∃v,K v:=by
 cases l <;> simp only[dd.ex]at h;case slice=>grind
 case fnv=>grind
 case adr=>grind
 all_goals grind
theorem uv:∀{ls:List dd} {Q:Xa->Prop},acR ls Q->∃a,Q a
 | [],_,h=>⟨[],h⟩
 | .vec k n::r,_,h=>by let⟨f,d⟩:=h;let⟨a,b⟩:=uv (ls:=r) d;grind
 | .int k::r,_,h|.bool::r,_,h|.str::r,_,h|.ptr::r,_,h|.slice::r,_,h|.map::r,_,h|.raw::r,_,h|.fnv::r,_,h|.adr::r,_,h=>by let⟨v,c⟩:=EF h;let⟨a,b⟩:=uv (ls:=r) c;grind
theorem pW{s:Sh}(h:s.ex K):∃v,K v:=by
 cases s with
 | one l=>exact EF h
 | agg ls=>let⟨a,h⟩:=uv (ls:=ls) h;grind
theorem EH:∀{ls:List Sh} {Q:Xa->Prop},qL ls Q->∃a,Q a
 | [],_,h=>⟨[],h⟩
 | l::r,_,h=>by let⟨v,b⟩:=pW (s:=l) h;let⟨a,c⟩:=EH (ls:=r) b;grind
theorem uw{ls:List Sh}(h:mo ls K):∃v,K v:=by match ls,h with
  | [],h=>exact⟨_,h⟩
  | [s],h=>exact pW (s:=s) h
  | s::t::r,h=>have b:qL (s::t::r) λa=>K (.tuple ⟨a⟩):=h;let⟨a,h⟩:=EH b;grind
theorem qT(h:exT P t K):∃v,K v:=by
 unfold exT at h;split at h;.exact pW h
 grind
theorem afJ(s:Fb)(n:Int)(h:0<=n/\n<(s.size:Int)):∃b,(if 0<=n then s[n.toNat]? else none)=some b/\(b.toNat:Int)=F9 s n.toNat:=by
 have a:n.toNat<s.size:=ez;refine⟨s[n.toNat],?_,?_⟩;.grind
 unfold F9;have hd:n.toNat<s.data.size:=a;rw[Array.getElem?_eq_getElem hd];rfl
theorem Py(t:TypeId)(x i:Value)(e:∀p,gt c p->G->p)(h:zz P t x i c K) : ∃v,K v/\(G->∀w,(Instr.index t x i).run P w=.ok v w):=by
 unfold zz at h;split at h;.rename_i s k n f;refine⟨_,h.2,λg w=>?_⟩;let⟨b,a,d⟩:=afJ s n (e _ h.1 g);simp only[Instr.index,asIntOf,Sem.run_bind,Sem.run_pure,Result.andThen_ok,fD f,a,d]
 .split at h;.let⟨v,a,d⟩:=pW h;exact⟨v,d,λg w=>e _ a g w⟩
  grind
 grind
theorem ux(b o n:Nat):(⟨b,o,none⟩:Addr).add n=⟨b,o+n,none⟩:=by grind [Addr.add]
theorem Pz(t:TypeId)(x i:Value)(j:∀p,gt c p->G->p)(h:zA P t x i c K) : ∃v,K v/\(G->∀w,(Instr.indexAt t x i).run P w=.ok v w):=by
 unfold zA at h;split at h;.rename_i e a len _ k n f;let⟨d,y,s,b,o,u,A⟩:=qS h;refine⟨_,A,λg w=>?_⟩;have hb:=j _ s g;have m:=j _ u g;subst m;simp[Instr.indexAt,asIntOf,fD f,hb,nj P e d,ux,Ex]
 .rename_i len e b o k n f;let⟨d,y,h⟩:=qS h;refine⟨_,h.2,λg w=>?_⟩;have hb:=j _ h.1 g;simp[Instr.indexAt,Instr.sureAddr,asIntOf,fD f,hb,nj P e d,ux,Ex]
 grind
theorem P0(t:TypeId)(x:Value)(f:Nat)(h:zB P t x f K) : ∃v,K v/\∀w,(Instr.fieldAt t x f).run P w=.ok v w:=by
 unfold zB at h;split at h
 .rename_i fs b o i;split at h
  .rename_i d e;let⟨a,j,h⟩:=qS h;refine⟨_,h,λw=>?_⟩;rw[gL]at e;have c:fs[f]?=some d:=by grind
   simp[Instr.fieldAt,fD i,c,Instr.sureAddr,fieldPlace,nj P _ a,j,ux]
  grind
 grind
theorem EI(t:TypeId)(w:World)(h:P.underlying t≠none):(isAgg t).run P w=.ok (SH P t) w:=by
 cases hd:P.underlying t with
 | none=>grind
 | some d=>cases d <;> simp[isAgg,fD hd,SH,hd]
theorem P3(h:SH P t=true):P.underlying t≠none:=by grind [SH]
theorem wG(h:ut P t=some z):∃v,v.cells.toList=z/\(∀w,(zeroValue t).run P w=.ok v w)/\P.info? t≠none:=by
 unfold ut at h;split at h
 .rename_i i hi;split at h;.rename_i v a;cases h;exact⟨v,rfl,λw=>by simp[zeroValue,typeInfo,hi,a],by simp[hi]⟩
  cases h
 cases h
theorem EJ(off:Nat):∀(l:Xa) (k:Nat) (cells:Array Value),((l.zipIdx k).foldl (λcs (x:Value×Nat)=>cs.setIfInBounds (off+x.2) x.1) cells).toList=wA cells.toList (off+k) l
 | [],_,_=>rfl
 | v::r,k,cells=>by simp only[List.zipIdx_cons,List.foldl_cons,wA];rw[EJ off r (k+1)];simp[zI,q2x]
theorem wH(a:Nat->Option (Nat×Nat)):∀(parts:List (Nat×Value)) (cells:Array Value) (l:Xa),
  qQ a cells.toList parts=some l->Instr.fill a cells parts=some ⟨l⟩
 | [],cells,l,h=>by simp[qQ]at h;subst h;simp[Instr.fill]
 | (i,v)::rest,cells,l,h=>by
  simp only[qQ]at h;simp only[Instr.fill]
  cases hp:a i with
  | none=>grind
  | some p=>
   let⟨off,size⟩:=p;simp only[hp]at h ⊢
   split at h
   .rename_i d;have b:v.cells.size=size:=by grind
    have c:off+v.cells.size<=cells.size:=by grind
    rw[b_ (by grind)];have:=EJ off v.cells.toList 0 cells;refine wH a rest _ l ?_;rw[<-h];congr 1;rw[<-Array.foldl_toList,Array.toList_zipIdx];simpa using this
   .cases h
theorem EK{P:Program}:∀(fs:List Field) (w:World),wB P fs=true->
  (fs.mapM (m:=Sem) λf=>do pure (f.offset,<-sizeOf f.type)).run P w=.ok (fs.map λf=>(f.offset,P.cellsOf f.type)) w
 | [],w,_=>eh
 | f::r,w,h=>by
  simp only[wB,p_]at h;have hi:P.info? f.type≠none:=by grind
  have a:=EK r w h.2;simp only[bind_pure_comp]at a;simp[List.mapM_cons,nj P _ hi,a]
theorem P4{P:Program}(t:TypeId)(parts:List (Nat×Value))(l:Xa)(h:zD P t parts=some l)(w:World) : (Instr.build t parts.toArray).run P w=.ok (.agg ⟨l⟩) w:=by
 unfold zD at h;split at h
 .rename_i z fs d b;let⟨v,j,a,_⟩:=wG d;split at h
  .rename_i s;have u:=EK (P:=P) fs.toList w s;have k:Instr.fill (λx=>(fs.map λf=>(f.offset,P.cellsOf f.type))[x]?) v.cells parts=some ⟨l⟩:=by have:=wH (abY P fs.toList) parts v.cells l (by grind);rw[<-this];congr 1;grind [abY,gL]
   have c:(fs.mapM (m:=Sem) λf=>do pure (f.offset,<-sizeOf f.type)).run P w=.ok (fs.map λf=>(f.offset,P.cellsOf f.type)) w:=by rw[Array.mapM_eq_mapM_toList];simp only[Sem.run_map,u,Result.andThen_ok];congr 1;grind
   simp only[Instr.build,Sem.run_bind,a,Result.andThen_ok,fD b,c];simp_all
  cases h
 .rename_i z n e d b;let⟨v,j,a,_⟩:=wG d;split at h;.rename_i i hi;have k:=wH _ parts v.cells l (by rw[j];exact h);simp only[Instr.build,Sem.run_bind,a,Result.andThen_ok,fD b,nj P e (by simp[hi])];simp[k]
  cases h
 cases h
theorem P5{ρ:Operand->Value}(o:Oper)(x:Operand)(d:o.op=.nilCheck x)(m:∀p,gt c p->G->p)(h:wy (ρ x) c K) : ∃v,K v/\(G->∀w,(execOp ρ o).run P w=.ok (.value v) w):=by
 unfold wy at h;split at h
 .rename_i a e;have key:∃p,gt c p/\(p->a=some ⟨aV a,aS a,none⟩)/\K (.pointer (some ⟨aV a,aS a,none⟩)):=by cases c with
    | none=>exact⟨_,(zC.1 h).1,id,(zC.1 h).2⟩
    | some c=>exact⟨isA a,h.1,afe.1,h.2⟩
  let⟨p,i,k,j⟩:=key;refine⟨_,j,λg w=>?_⟩;have:=k (m _ i g);generalize aV a=b at *;generalize aS a=o' at *;subst this;simp[execOp,d,e]
 .rename_i f a b e;exact⟨_,h,λ_ w=>by simp[execOp,d,e]⟩
 .rename_i f a b e;exact⟨_,h,λ_ w=>by simp[execOp,d,e]⟩
 grind
theorem P6(s d:TypeId)(x:Value)(h:ac5 P s d x K):∃v,K v/\∀w,(convert s d x).run P w=.ok v w:=by
 unfold ac5 at h;split at h;.rename_i a k c n hs hd;exact⟨_,h,λw=>by cases a <;> simp[convert,fD hs,fD hd,Conv.intToInt]⟩
 .rename_i a b hs hd;exact⟨_,h,λw=>by cases a <;> simp[convert,fD hs,fD hd]⟩
 grind
theorem P7(t:TypeId)(x:Value)(ts:Array TypeId)(f:TypeId)(args:Array Value)(c:ts[0]?=some t)(b:args[0]?=some x)(h:ahj P t x K) : ∃v,K v/\∀w,(Builtin.len_ ts f args).run P w=.ok v w:=by
 unfold ahj at h;split at h;.rename_i s d;exact⟨_,h,λw=>by simp[Builtin.len_,c,b,fD d,goInt]⟩
 .rename_i e a n i d;exact⟨_,h,λw=>by simp[Builtin.len_,c,b,fD d,goInt]⟩
 .rename_i x n e d;exact⟨_,h,λw=>by cases x <;> simp[Builtin.len_,c,b,fD d,goInt]⟩
 grind
theorem P8(vs:Xa)(ts:Array TypeId)(t:TypeId)(h:mmP true vs K):∃v,K v/\∀w,(Builtin.max_ ts t ⟨vs⟩).run P w=.ok v w:=by
 unfold mmP at h;split at h;.exact⟨_,h,λw=>by simp[Builtin.max_,Builtin.max2]⟩
 .exact⟨_,h,λw=>by simp[Builtin.max_,Builtin.max2]⟩
 grind
theorem P9(vs:Xa)(ts:Array TypeId)(t:TypeId)(h:mmP false vs K):∃v,K v/\∀w,(Builtin.min_ ts t ⟨vs⟩).run P w=.ok v w:=by
 unfold mmP at h;split at h;.exact⟨_,h,λw=>by simp[Builtin.min_,Builtin.min2]⟩
 .exact⟨_,h,λw=>by simp[Builtin.min_,Builtin.min2]⟩
 grind
theorem PB(op:BinOp)(t:TypeId)(x y:Value)(a d:Operand)(e:∀p,gt c p->G->p)(h:ahC P op t x y c K) : ∃v,K v/\(G->∀w,(do eqGuard op t a d x y;Go.binOp op t x y:Sem Value).run P w=.ok v w):=by
 unfold ahC at h;split at h;.let⟨b,f,i⟩:=h;exact⟨_,i,λg w=>e _ f g a d w⟩
 exact Ps op t x y a d e h
theorem EL{ρ:Operand->Value}{c:Option Prop}{P:Program}{K:Value->Prop}(o:Oper){pk:Operand->Operand->Operand->Option (Bool×Value×Value)}(E:∀p,gt c p->G->p)(j:∀x v,A x=some v->G->ρ x=v) (O:∀a b d r,pk a b d=some r->G->ρ a=.bool r.1/\(r.1=true->ρ b=r.2.1)/\(r.1=false->ρ d=r.2.2)) (C:∀o v,o=.const v->ρ o=v) (U:P=F.P) (h:wC F A pk c o.op K):∃v,K v/\(G->∀w,(execOp ρ o).run P w=.ok (.value v) w):=by
 subst U;cases L_:o.op <;> rw[L_]at h <;> simp only[wC]at h <;> (try exact h.elim);case move x=>let⟨v,X,h⟩:=bP h;exact⟨v,h,λg w=>by simp[execOp,L_,j x v X g]⟩
 case assign x=>let⟨v,X,h⟩:=bP h;exact⟨v,h,λg w=>by simp[execOp,L_,j x v X g]⟩
 case pick a b d=>
  let⟨r,V,h⟩:=bP h;refine⟨_,h,λg w=>?_⟩;let⟨k,n,Y⟩:=O a b d r V g;let⟨q,x,y⟩:=r;have hb:∀u,b=.const (.bool u)->ρ b=.bool u:=λu e=>C b _ e;have hd:∀u,d=.const (.bool u)->ρ d=.bool u:=λu e=>C d _ e;cases q
  .have:ur b d (false,x,y)=ρ d:=by
    unfold ur;rw[Y rfl];split;.grind [zJ]
    split
    .split;.grind
     grind [zJ]
    grind [zJ]
   simp[execOp,L_,k,asBool,this]
  have:ur b d (true,x,y)=ρ b:=by
   unfold ur;rw[n rfl];split
   .split;.grind
    grind [EB]
   grind [EB]
  simp[execOp,L_,k,asBool,this]
 case nilCheck x=>
  let⟨v,X,h⟩:=bP h;by_cases g:G;.have Z:=j x v X g;let⟨u,k,n⟩:=P5 (ρ:=ρ) (K:=K) (c:=c) (P:=F.P) o x L_ E (by rw[Z];exact h);grind
  unfold wy at h;grind [zC]
 case binOp op t x y yt=>let⟨a,ev,h⟩:=bP h;let⟨b,hb,h⟩:=bP h;let⟨v,k,n⟩:=PB op t a b x y E h;grind [Sem.run_bind,execOp,Sem.run_pure,Result.andThen_ok]
 case unOp op t x=>let⟨a,ev,h⟩:=bP h;let⟨v,k,n⟩:=Pu (P:=F.P) op a h;exact⟨v,k,λg w=>by simp[execOp,L_,j x a ev g,n w]⟩
 case convert s d x=>let⟨a,ev,h⟩:=bP h;let⟨v,k,n⟩:=P6 s d a h;exact⟨v,k,λg w=>by simp[execOp,L_,j x a ev g,n w]⟩
 case fieldAddr t x f=>let⟨a,ev,h⟩:=bP h;let⟨v,k,n⟩:=P0 t a f h;exact⟨v,k,λg w=>by simp[execOp,L_,j x a ev g,n w]⟩
 case field t x f=>
  let⟨a,ev,h⟩:=bP h;unfold acO at h;split at h
  .split at h
   .split at h;.let⟨v,k,n⟩:=pW h;exact⟨v,n,λg w=>by simp[execOp,L_,j x a ev g,E _ k g w]⟩
    grind
   grind
  grind
 case indexAddr t x i=>let⟨a,ev,h⟩:=bP h;let⟨b,hb,h⟩:=bP h;let⟨v,k,n⟩:=Pz t a b E h;exact⟨v,k,λg w=>by simp[execOp,L_,j x a ev g,j i b hb g,n g w]⟩
 case index t x i=>let⟨a,ev,h⟩:=bP h;let⟨b,hb,h⟩:=bP h;let⟨v,k,n⟩:=Py t a b E h;exact⟨v,k,λg w=>by simp[execOp,L_,j x a ev g,j i b hb g,n g w]⟩
 case extract t i=>
  let⟨a,ev,h⟩:=bP h;cases a <;> simp only at h;case tuple vs=>
   let⟨v,X,h⟩:=bP h;rw[gL]at X;have N:vs[i]?=some v:=by grind
   exact⟨v,h,λg w=>by simp[execOp,L_,j t _ ev g,Instr.extract,N]⟩
 case slice t x lo hi mx=>cases mx with
   | some m=>cases lo with
    | none=>grind
    | some lo=>cases hi with
     | none=>grind
     | some hi=>let⟨a,ev,h⟩:=bP h;let⟨l,H,h⟩:=bP h;let⟨u,L,h⟩:=bP h;let⟨q,T,h⟩:=bP h;let⟨v,k,n⟩:=Px t a l u q E h;exact⟨v,k,λg w=>by simp[execOp,L_,j x a ev g,j lo l H g,j hi u L g,j m q T g,n g w]⟩
   | none=>let⟨a,ev,h⟩:=bP h;let⟨l,H,h⟩:=bP h;let⟨u,L,h⟩:=bP h;let⟨v,k,n⟩:=Pw t a l u E h;exact⟨v,k,λg w=>by simp[execOp,L_,j x a ev g,EC j lo l H g,EC j hi u L g,n g w]⟩
 case build t ps=>
  let⟨vs,B,h⟩:=bP h;let⟨l,H,h⟩:=bP h;refine⟨_,h,λg w=>?_⟩;have hm:=zK j ps.toList vs B g;have hb:=P4 (P:=F.P) t vs l H w;have Q:(ps.map λ(i,x)=>(i,ρ x))=vs.toArray:=by grind
  grind [execOp,Sem.run_bind,Result.andThen_ok,Sem.run_pure]
 case makeInterface t x=>
  let⟨a,ev,h⟩:=bP h;split at h;.grind
  .rename_i d hd R;refine⟨_,h,λg w=>?_⟩;have:∀m,d≠.interface m:=λm Q=>hd m Q;cases d <;> first| (exact cS rfl (this _))| simp[execOp,L_,j x a ev g,Instr.makeInterface,fD R]
  grind
 case typeAssert x t u ok=>cases ok with
   | false=>grind
   | true=>let⟨a,ev,h⟩:=bP h;let⟨y,J,k,n⟩:=qT h;exact⟨_,n,λg w=>by simp[execOp,L_,j x a ev g,E _ k g w]⟩
 case makeFunc fn a b=>
  let⟨W,ev,h⟩:=bP h;let⟨S,hb,h⟩:=bP h;refine⟨_,h,λg w=>?_⟩;have e1:a.map ρ=⟨W⟩:=by apply Array.ext';simp[ov j _ _ ev g]
  have e2:b.map ρ=⟨S⟩:=by apply Array.ext';simp[ov j _ _ hb g]
  simp[execOp,L_,e1,e2,Instr.makeFunc]
 case call cl=>
  split at h
  .rename_i t ts D I;let⟨vs,B,h⟩:=bP h;split at h
   .rename_i v r;have M:cl.argTypes[0]?=some t:=by rw[<-Array.getElem?_toList,I];rfl
    let⟨u,k,n⟩:=P7 t v cl.argTypes o.type ⟨v::r⟩ M eh h;refine⟨u,k,λg w=>?_⟩;have e1:cl.args.map ρ=⟨v::r⟩:=by apply Array.ext';simp[ov j _ _ B g]
    simp[execOp,L_,resolve,D,e1,invoke,builtin,n w]
   grind
  .rename_i D;let⟨vs,B,h⟩:=bP h;let⟨u,k,n⟩:=P8 (P:=F.P) vs cl.argTypes o.type h;refine⟨u,k,λg w=>?_⟩;have e1:cl.args.map ρ=⟨vs⟩:=by apply Array.ext';simp[ov j _ _ B g]
   simp[execOp,L_,resolve,D,e1,invoke,builtin,n w]
  .rename_i D;let⟨vs,B,h⟩:=bP h;let⟨u,k,n⟩:=P9 (P:=F.P) vs cl.argTypes o.type h;refine⟨u,k,λg w=>?_⟩;have e1:cl.args.map ρ=⟨vs⟩:=by apply Array.ext';simp[ov j _ _ B g]
   simp[execOp,L_,resolve,D,e1,invoke,builtin,n w]
  grind
def gM(P:Program)(w:World)(KP:KE)(K:KE):Result Next->Prop
 | .ok (.value v) w'=>bZ w w'/\K v w'.heap
 | .ok .skip w'=>bZ w w'/\K undef w'.heap
 | .ok (.enter f args) w'=>w'=w/\Calls P f args w (jp w K KP)
 | .ok (.round l f tmps assign body) w'=>w'=w/\RoundIn Fence.wide 0 P l f tmps assign body w (jp w K KP)
 | .halt (.panic v) w'=>bZ w w'/\KP v w'.heap
 | _=>False
theorem jp.mono{K KP:KE}(d:∀v H,K v H->E v H)(f:∀v H,KP v H->a v H){c:World}(h:jp w K KP e c):jp w E a e c:=by
 cases e <;> simp only[jp]at h ⊢;case returned v=>grind
 grind
theorem Fin.toP{KP:World}(h:Fin w E e KP):jp w E a e KP:=by cases e <;> simp only[Fin]at h;exact h
theorem jp.fin{a:World}(h:jp w E (λ_ _=>False) e a):Fin w E e a:=by
 cases e <;> simp only[jp]at h;case returned v=>exact h
 case panicked chain=>let⟨v,_,_,h⟩:=h;exact h.elim
theorem gM.agv{d KP:KE}(h:gM P w KP E r)(j:∀v H,E v H->d v H)(i:∀v H,KP v H->a v H):gM P w a d r:=by
 cases r with
  | halt h' w'=>cases h' <;> simp only[gM]at h ⊢;grind
  | ok n w'=>
  cases n <;> simp only[gM]at h ⊢;case value v=>grind
  case skip=>grind
  case enter f args=>exact⟨h.1,h.2.mono λe b c=>c.mono j i⟩
  case round l f tmps assign body=>exact⟨h.1,h.2.mono λe b c=>c.mono j i⟩
theorem gM.mono{K:KE}(h:gM P w E K r)(b:∀v H,K v H->a v H):gM P w E a r:=h.agv b λ_ _ h=>h
theorem uy(hb:gW P f)(args:Array Value)(w:World):(callFunc f args).run P w=.ok (.enter f args) w:=by let⟨fn,a,b,c⟩:=hb;simp only[callFunc,Sem.run_bind,run_program,Result.andThen_ok,a,c,b,q2y,if_false,Sem.run_pure]
theorem EM{o:Nat}(h:aM w.heap b o=some v):(load ⟨b,o,none⟩).run P w=.ok v w:=by grind [run_load,o_]
theorem PC{o:Nat}(h:bE H b o (v::z)):aM H b o=some v/\bE H b (o+1) z:=by
 cases z with
 | nil=>exact⟨h,trivial⟩
 | cons u z=>exact h
theorem EN{P:Program}{w:World}{b:Nat}:∀(l:Xa) (o i:Nat) (a:Array Value),bE w.heap b (o+i) l->(loadCellsFrom ⟨b,o,none⟩ i l.length a).run P w=.ok (a++l.toArray) w
 | [],o,i,a,_=>by simp[loadCellsFrom]
 | v::r,o,i,a,h=>by let⟨d,e⟩:=PC h;have c:=EN (P:=P) r o (i+1) (a.push v) (by rw[<-q2x];exact e);simp only[CV,loadCellsFrom,Sem.run_bind,ux,EM d,Result.andThen_ok,c];simp
theorem EO(h:exT P t K):P.underlying t≠none:=by grind [exT,qN,uq]
theorem afs(h:ahv P t K):P.underlying t≠none/\∃u,K u:=by
 unfold ahv at h;split at h;.rename_i a;exact⟨by rw[a];simp,h⟩
 exact⟨EO h,qT h⟩
theorem EP{P:Program}{w:World}{b off:Nat}(a:SH P t=true)(i:z.length=P.cellsOf t)(h:bE w.heap b off z) : (Instr.loadAt t (.pointer (some ⟨b,off,none⟩))).run P w=.ok (.agg ⟨z⟩) w:=by
 have e:=P3 a;have c:P.info? t≠none:=by cases hd:P.underlying t with
   | none=>grind
   | some d=>grind [Po]
 have f:=EN (P:=P) (w:=w) (b:=b) z off 0 #[] (eu h);simp only[Instr.loadAt,Instr.sureAddr,Sem.run_bind,Sem.run_pure,Result.andThen_ok,loadVar,EI _ w e,a,if_true,nj P t c,loadCells,<-i,f];simp
theorem ER{off:Nat}(c:P.underlying t≠none)(a:SH P t=false)(h:aM w.heap b off=some v) : (Instr.loadAt t (.pointer (some ⟨b,off,none⟩))).run P w=.ok v w:=by simp only[Instr.loadAt,Instr.sureAddr,Sem.run_bind,Sem.run_pure,Result.andThen_ok,loadVar,EI _ w c,a,q2y,if_false,EM h]
theorem ow(h:r=.ok (.value v) w):gM P w E (λa b=>a=v/\b=w.heap) r:=by subst h;exact⟨bZ.refl w,rfl,rfl⟩
theorem ES{l:List Nat}(h:if bK b l=false then False else G):bK b l=true/\G:=by grind
theorem ET(o:Oper){K:Value->(aC->Prop)->Prop}(M:∀p,gt c p->G->p)(y:∀x v,A x=some v->G->B x=v)(hX:∀f,bK f F.calls=true->gW F.P f)(hρ:∀f,B (.func f)=.func (.func f) #[] #[]) (h:wE F A c o H K):∃v E,K v E/\(∀q,c=some q->¬q->∀J,E J)/\(G->E H)/\(G->∀w,E w.heap->gM F.P w (λ_ _=>False) (λv' J=>v'=v/\J=w.heap) ((execOp B o).run F.P w)):=by
 unfold wE at h;split at h
 .rename_i t x ev;let⟨a,W,h⟩:=bP h;split at h
  .rename_i b off;split at h
   .rename_i N;unfold ww at h;split at h
    .rename_i Y _;let⟨us,h⟩:=uv (ls:=Y) h;split at h;.rename_i Q;refine⟨_,_,h.2,λq ρ C J=>by subst ρ;exact λj=>cS j C,λg=>h.1,λg w D=>ow ?_⟩;simp[execOp,ev,y x _ W g,EP N Q (M _ D g)]
     grind
    grind
   rename_i N;let⟨hu,u,X,I⟩:=afs h;refine⟨_,_,I,λq ρ C J=>by subst ρ;exact λj=>cS j C,λg=>X,λg w D=>ow ?_⟩;simp[execOp,ev,y x _ W g,ER hu N (M _ D g)]
  grind
 .rename_i t x i ok ev;let⟨m,hm,h⟩:=bP h;let⟨k,V,h⟩:=bP h;split at h
  .rename_i kt e ht;let⟨u,h⟩:=qT h;split at h;.let⟨T,X,I⟩:=h;refine⟨_,_,I,λq ρ C J=>by subst ρ;exact λj=>cS j C,λg=>X,λg w D=>ow ?_⟩;simp[execOp,ev,y x _ hm g,y i _ V g,M _ D g w rfl]
   refine⟨_,_,h.2,λq ρ C J=>by subst ρ;exact λj=>cS j C,λg=>h.1,λg w D=>ow ?_⟩;simp[execOp,ev,y x _ hm g,y i _ V g,M _ D g w rfl]
  grind
 .rename_i s d x ev;let⟨v,S,h⟩:=bP h;split at h;.let⟨b,X,I⟩:=h;refine⟨_,_,I,λq ρ C J=>by subst ρ;exact λj=>cS j C,λg=>X,λg w D=>ow ?_⟩;simp[execOp,ev,y x _ S g,M _ D g w rfl]
  grind
 .rename_i it ev;let⟨v,S,h⟩:=bP h;split at h;.let⟨k,h⟩:=pW h;let⟨x,X,I⟩:=pW h;refine⟨_,_,I,λq ρ C J=>by subst ρ;exact λj=>cS j C,λg=>X,λg w D=>ow ?_⟩;simp[execOp,ev,y it _ S g,M _ D g w rfl]
  grind
 .rename_i cl ev;split at h
  .rename_i f R;split at h
   .let⟨O,L,h⟩:=bP h;let⟨ss,U,h⟩:=bP h;let⟨u,X,I⟩:=uw h;refine⟨_,_,I,λq ρ C J=>by subst ρ;exact λj=>cS j C,λg=>X,λg w D=>ow ?_⟩;have e1:cl.args.map B=⟨O⟩:=by apply Array.ext';simp[ov y _ _ L g]
    have h3:=M _ X g w;grind [execOp,resolve,Deferred.ofValue,invoke]
   let⟨hf,h⟩:=ES h;let⟨O,L,h⟩:=bP h;let⟨ss,U,h⟩:=bP h;let⟨u,X,I⟩:=uw h;refine⟨_,_,I,λq ρ C J=>by subst ρ;exact λj=>cS j C,λg=>X,λg w D=>?_⟩;have e1:cl.args.map B=⟨O⟩:=by apply Array.ext';simp[ov y _ _ L g]
   have e2:(execOp B o).run F.P w=.ok (.enter f ⟨O⟩) w:=by grind [execOp,resolve,Deferred.ofValue,invoke,uy]
   rw[e2];exact⟨rfl,((M _ D g).at w rfl).mono λe w2 Z=>Z.toP⟩
  .rename_i R;let⟨O,L,h⟩:=bP h;let⟨n,X,I⟩:=h;refine⟨_,_,I,λq ρ C J=>by subst ρ;exact λj=>cS j C,λg=>X,λg w D=>ow ?_⟩;have e1:cl.args.map B=⟨O⟩:=by apply Array.ext';simp[ov y _ _ L g]
   simp[execOp,ev,resolve,R,e1,invoke,builtin,M _ D g w rfl]
  grind
 grind
theorem PD{o:Nat}(hs:(aM w.heap b o).isSome=true)(d:mY w.heap b o=false)(a:cU [v]=true) : (store ⟨b,o,none⟩ v).run P w=.ok () (w.setCell ⟨b,o,none⟩ v):=by
 have c:v.oneCell'=true:=by cases v <;> simp[cU,Value.oneCell']at a ⊢
 grind [run_store,o_,Hj]
theorem zP(h:cU (v::z)=true):cU [v]=true/\cU z=true:=by cases v <;> simp[cU]at h ⊢ <;> exact h
theorem sH{P:Program}{b:Nat}:∀(l:Xa) (o i:Nat) (w:World),eA w.heap b (o+i) l->(∀j,j<l.length->(aM w.heap b (o+i+j)).isSome=true/\mY w.heap b (o+i+j)=false)->cU l=true->
  ∃c,(storeCells ⟨b,o,none⟩ l i).run P w=.ok () c/\bZ w c/\c.heap=fw w.heap b (o+i) l
 | [],o,i,w,_,_,_=>⟨w,rfl,bZ.refl w,rfl⟩
 | v::r,o,i,w,h,ha,hp=>by
  let⟨d,e⟩:=zP hp;have h0:=ha 0 eh;have f:=PD (P:=P) (w:=w) (b:=b) (o:=o+i) (v:=v) (by grind) (by grind) d;have a:∀x,(aM (jm w.heap b (o+i) v) b x).isSome=(aM w.heap b x).isSome/\mY (jm w.heap b (o+i) v) b x=mY w.heap b x:=by
   grind [aM,mY,jm]
  let⟨c,t,n,s⟩:=sH (P:=P) (b:=b) r o (i+1) (w.setCell ⟨b,o+i,none⟩ v) (by
    rw[zH]
    clear f
    have:∀(l:Xa) (x:Nat),(∀j,j<l.length->(aM (jm w.heap b (o+i) v) b (x+j)).isSome=true/\mY (jm w.heap b (o+i) v) b (x+j)=false)->eA (jm w.heap b (o+i) v) b x l:=by
     intro l
     induction l with
     | nil=>intro x _;trivial
     | cons u l ih=>intro x k;exact⟨eu (k 0 (by simp)),ih (x+1) (λj m=>by have:=k (j+1) (by simp;omega);grind)⟩
    refine this r _ λj m=>?_
    have:=ha (j+1) (by simp;omega)
    grind) (λj m=>by
    rw[zH,(a _).1,(a _).2];have:=ha (j+1) (by simp;omega)
    grind) e
  refine⟨c,?_,?_,?_⟩
  .grind [storeCells,Sem.run_bind,ux,Result.andThen_ok]
  .exact bZ.trans (b:=w.setCell ⟨b,o+i,none⟩ v) ⟨rfl,rfl,rfl⟩ n
  .rw [s,zH];rfl
theorem sJ{H:aC}{b:Nat}:∀(l:Xa) (x:Nat),eA H b x l->∀j,j<l.length->(aM H b (x+j)).isSome=true/\mY H b (x+j)=false
 | [],_,_,j,hj=>by simp at hj
 | _::r,x,h,0,_=>h.1
 | _::r,x,h,j+1,hj=>by have:=sJ r (x+1) h.2 j (by grind);grind
theorem PE{P:Program}{b off:Nat}(i:v.cells.toList.length=P.cellsOf t)(hi:P.info? t≠none)(d:cU v.cells.toList=true)(h:eA w.heap b off v.cells.toList) : ∃a,(Instr.storeAt t (.pointer (some ⟨b,off,none⟩)) v).run P w=.ok () a/\bZ w a/\a.heap=fw w.heap b off v.cells.toList:=by let⟨a,e,c,f⟩:=sH (P:=P) (b:=b) v.cells.toList off 0 w (eu h) (by grind [sJ]) d;refine⟨a,?_,c,by grind⟩;simp only[Instr.storeAt,Instr.sureAddr,Sem.run_bind,Sem.run_pure,Result.andThen_ok,storeVar,nj P t hi];grind
theorem pi{s:Sem Value}{KP:KE}(b:w.heap=H)(h:cv P s H E):gM P w KP E ((do pure (Next.value (<-s)):Sem Next).run P w):=by let⟨a,f,c,d,e⟩:=h.at w b;simp only[Sem.run_bind,c,Result.andThen_ok,Sem.run_pure];exact⟨d,e⟩
theorem zQ{s:Sem Unit}{K:aC->Prop}(c:w.heap=H)(h:cv P s H λ_ b=>K b):gM P w E (λv b=>v=undef/\K b) ((do s;pure Next.skip:Sem Next).run P w):=by let⟨a,i,d,e,f⟩:=h.at w c;simp only[Sem.run_bind,d,Result.andThen_ok,Sem.run_pure];exact⟨e,rfl,f⟩
theorem EU(z:Xa)(a:z≠[]):∀(n i:Nat),i<n*z.length->(nh z n)[i]?=z[i%z.length]?
 | 0,i,h=>by simp at h
 | n+1,i,h=>by
  simp only[nh]
  by_cases hi:i<z.length
  .rw [List.getElem?_append_left hi,q36 hi]
  .rw [List.getElem?_append_right ez,EU z a n (i-z.length) (by rw[Nat.succ_mul]at h;omega)];rw[<-Nat.mod_eq_sub_mod ez]
theorem zS(z:Xa):∀n,(nh z n).length=n*z.length
 | 0=>by simp[nh]
 | n+1=>by simp[nh,zS z n,Nat.succ_mul,Nat.add_comm]
theorem PF(z:Array Value)(n:Nat):(Array.range (n*z.size)).map (λi=>z[i%z.size]!)=⟨nh z.toList n⟩:=by apply Array.ext';apply q2b;grind [zS,EU]
theorem PG(t e:TypeId)(n:Nat)(parts:List (Nat×Value))(l:Xa)(s:P.underlying t=some (.slice e))(A:n*P.cellsOf e<=16777216)(h:zG P e n parts=some l)(w:World) : (Instr.buildSlice t n parts.toArray).run P w=.ok (.slice (some ⟨w.heap.size,0,none⟩) n n) (w.alloc (.cells ⟨l⟩ e)):=by
 unfold zG at h;split at h
 .rename_i z y;let⟨v,m,b,c⟩:=wG y;split at h
  .rename_i k;have a:v.cells.size=P.cellsOf e:=by grind
   have f:=wH _ parts ⟨nh z n⟩ l h;simp only[Instr.buildSlice,Sem.run_bind,fD s,Result.andThen_ok,nj P e c];rw[nO];by_cases h0:n*P.cellsOf e=0
   .have d:(nh z n).length=0:=by grind [zS]
    have u:nh z n=[]:=q2k.1 d;rw[u]at f;rw[c_ h0];have j:Instr.fill (λi=>some (i*P.cellsOf e,P.cellsOf e)) #[] parts=some ⟨l⟩:=f;have x:Array.map (λ_:Nat=>(default:Value)) (Array.range 0)=#[]:=eh;simp[h0];rw[x,j];simp[newRow]
   rw [b_ h0];have d:=PF v.cells n;rw[a,m]at d;simp only[Sem.run_bind,b,Result.andThen_ok,Sem.run_pure,a,d,f];simp[newRow]
  cases h
 cases h
theorem EV{X:Ctx}(o:Oper){K:KE}(ev:∀x v,A x=some v->B x=v)(hX:∀f,bK f X.calls=true->gW X.P f)(hρ:∀f,B (.func f)=.func (.func f) #[] #[]) (h:wF X A o H K):∀w,w.heap=H->gM X.P w X.kp K ((execOp B o).run X.P w):=by
 intro w I;have O:∀(l:Array Operand) L,iA A l.toList=some L->l.map B=⟨L⟩:=λl L C=>by apply Array.ext';simp[ov (G:=True) (λx v h _=>ev x v h) _ _ C trivial]
 have W:∀(l:Array (Nat×Operand)) L,pV A l.toList=some L->(l.map λ(i,x)=>(i,B x))=L.toArray:=λl L C=>by apply Array.ext';simp[<-zK (G:=True) (λx v h _=>ev x v h) _ _ C trivial]
 unfold wF at h;split at h
 .rename_i t j;let⟨z,hz,h⟩:=bP h;let⟨v,ρ,S,_⟩:=wG hz;subst I;have:v.cells=⟨z⟩:=by grind
  simp[execOp,j,Instr.alloc,S,newVar,newRow,this];exact⟨⟨rfl,rfl,rfl⟩,h _ _ rfl rfl⟩
 .rename_i t x j;let⟨v,ρ,h⟩:=bP h;subst I;simp[execOp,j,Instr.box,ev x v ρ,newVar,newRow];exact⟨⟨rfl,rfl,rfl⟩,h _ _ rfl rfl⟩
 .rename_i t n ps j;let⟨L,C,h⟩:=bP h;split at h
  .rename_i e ht;let⟨l,U,h⟩:=bP h;split at h;.rename_i hn;subst I;simp only[execOp,j,W ps L C,Sem.run_bind,PG t e n L l ht hn U w,Result.andThen_ok,Sem.run_pure];exact⟨⟨rfl,rfl,rfl⟩,h _ _ rfl rfl⟩
   exact h.elim
  exact h.elim
 .rename_i t r j;split at h;.subst I;simp[execOp,j,Instr.makeMap];exact⟨⟨rfl,rfl,rfl⟩,h _ _ rfl rfl⟩
  exact h.elim
 .rename_i t x y j;let⟨a,M,h⟩:=bP h;let⟨v,ρ,h⟩:=bP h;split at h
  .rename_i b off;let⟨hi,_,h⟩:=qS h;split at h;.rename_i hc;subst I;let⟨w',E,D,h3⟩:=PE hc.1 hi hc.2 h.1;simp only[execOp,j,ev x _ M,ev y v ρ,Sem.run_bind,E,Result.andThen_ok,Sem.run_pure];exact⟨D,h.2 _ h3⟩
   exact h.elim
  exact h.elim
 .rename_i t l c j;let⟨a,M,h⟩:=bP h;let⟨b,hb,h⟩:=bP h;have:=pi (KP:=X.kp) I h;simp only[execOp,j,ev l a M,ev c b hb];exact this.mono λv F ρ=>by let⟨u,E,D⟩:=qT ρ;subst E;exact D
 .rename_i t m k x j;let⟨a,M,h⟩:=bP h;let⟨b,hb,h⟩:=bP h;let⟨v,ρ,h⟩:=bP h;simp only[execOp,j,ev m a M,ev k b hb,ev x v ρ];exact (zQ I h).mono λu F R=>by let⟨rfl,D⟩:=R;exact D
 .rename_i t m k x j;let⟨a,M,h⟩:=bP h;let⟨b,hb,h⟩:=bP h;let⟨v,ρ,h⟩:=bP h;simp only[execOp,j,ev m a M,ev k b hb,ev x v ρ];exact (zQ I h).mono λu F R=>by let⟨rfl,D⟩:=R;exact D
 .rename_i t m k j;let⟨a,M,h⟩:=bP h;let⟨b,hb,h⟩:=bP h;simp only[execOp,j,ev m a M,ev k b hb];refine (pi I h).mono λv F ρ=>?_;split at ρ;.let⟨u,n,E,D⟩:=qT ρ;subst E;exact D
  exact ρ.elim
 .rename_i t m k x j;let⟨a,M,h⟩:=bP h;let⟨b,hb,h⟩:=bP h;let⟨v,ρ,h⟩:=bP h;simp only[execOp,j,ev m a M,ev k b hb,ev x v ρ];exact (zQ I h).mono λu F R=>by let⟨rfl,D⟩:=R;exact D
 .rename_i t x j;let⟨a,M,h⟩:=bP h;simp only[execOp,j,ev x a M];exact (pi I h).mono λv F ρ=>by let⟨r,E,D⟩:=ρ;subst E;exact D
 .rename_i it s j;let⟨a,M,h⟩:=bP h;simp only[execOp,j,ev it a M];refine (pi I h).mono λv F ρ=>?_;rcases ρ with ⟨E,D⟩|⟨k,x,E,D⟩;.subst E;exact D
  subst E;exact D
 .rename_i s d x j;let⟨a,M,h⟩:=bP h;simp only[execOp,j,ev x a M];exact (pi I h).mono λv F ρ=>by let⟨u,E,D⟩:=qT ρ;subst E;exact D
 .rename_i cl j;split at h
  .rename_i f J;let⟨hf,h⟩:=ES h;let⟨L,C,h⟩:=bP h;let⟨N,Y,h⟩:=bP h;have e2:(execOp B o).run X.P w=.ok (.enter f ⟨L⟩) w:=by grind [execOp,resolve,Deferred.ofValue,invoke,uy]
   rw[e2];refine gM.mono (K:=λv F=>mo N λu=>v=u/\K u F) ?_ λv F ρ=>?_
   .split at h;.exact⟨rfl,h.at w I⟩
    exact⟨rfl,(h.at w I).mono λe T Q=>Q.toP⟩
   let⟨u,E,D⟩:=uw ρ;subst E;exact D
  .rename_i x hx J;let⟨Z,V,hA⟩:=bP h;clear h;let⟨L,C,hB⟩:=bP hA;clear hA;let⟨N,Y,hC⟩:=bP hB;clear hB;obtain⟨f,first,cap,rfl,h⟩|⟨l,rfl,h⟩:(∃f first cap,Z=.func (.func f) first cap/\(bK f X.calls=true/\jo X.P f ⟨first.toList++L++cap.toList⟩ H λv F=>mo N λu=>v=u/\K u F))\/ (∃l,Z=.func (.yield l) #[] #[]/\fu X.P l L H λv F=>mo N λu=>v=u/\K u F):=by grind
   .let⟨hf,h⟩:=h;have e2:(execOp B o).run X.P w=.ok (.enter f ⟨first.toList++L++cap.toList⟩) w:=by simp only[execOp,j,resolve,J,ev x _ V,Deferred.ofValue,invoke,O _ _ C,Sem.run_bind,Sem.run_pure,Result.andThen_ok];rw[uy (hX f hf)];simp
    rw[e2];refine gM.mono (K:=λv F=>mo N λu=>v=u/\K u F) ⟨rfl,(h.at w I).mono λe T Q=>Q.toP⟩ λv F ρ=>?_;let⟨u,E,D⟩:=uw ρ;subst E;exact D
   let⟨fn,tmps,assign,body,E,D⟩:=h.at w I;have e2:(execOp B o).run X.P w=.ok (.round l fn tmps assign body) w:=by grind [execOp,resolve,Deferred.ofValue,invoke]
   rw[e2];refine gM.mono (K:=λv F=>mo N λu=>v=u/\K u F) ⟨rfl,D.mono λe T Q=>Q.toP⟩ λv F ρ=>?_;let⟨u,E,D⟩:=uw ρ;subst E;exact D
  .rename_i J;let⟨L,C,h⟩:=bP h;have:=pi (KP:=X.kp) I h;simp only[execOp,j,resolve,J,pure_bind,invoke,builtin,O _ _ C];exact this.mono λv F ρ=>by let⟨a,n,c,E,D⟩:=ρ;subst E;exact D
  .rename_i J;let⟨L,C,h⟩:=bP h;have:=pi (KP:=X.kp) I h;simp only[execOp,j,resolve,J,pure_bind,invoke,builtin,O _ _ C];exact this.mono λv F ρ=>by let⟨n,E,D⟩:=ρ;subst E;exact D
  .rename_i J;let⟨L,C,h⟩:=bP h;have:=pi (KP:=X.kp) I h;simp only[execOp,j,resolve,J,pure_bind,invoke,builtin,O _ _ C];exact this
  .rename_i J;let⟨L,C,h⟩:=bP h;have:=pi (KP:=X.kp) I h;simp only[execOp,j,resolve,J,pure_bind,invoke,builtin,O _ _ C];exact this
  exact h.elim
 .rename_i x j;let⟨v,ρ,h⟩:=bP h;unfold aeS at h;split at h;.subst I;simp only[execOp,j,ev x _ ρ,Sem.run_bind,run_panic_iface,Result.andThen];exact⟨bZ.refl w,h⟩
  exact h.elim
 exact h.elim
abbrev lj:=List (Nat×Option (aC->Prop))
def qU(f:Option (aC->Prop))(H:aC):Prop:=match f with|none=>True|some p=>p H
section
variable {P:Program}{ops:Array Oper}
def sK(P:Program)(w0:World)(KP:KE)(ops:Array Oper)(i:Nat)(K:Act->aC->Prop)(a:Act)(H:aC):Prop:=
 ∀w,w.heap=H->bZ w0 w->match ops[i]? with
  | none=>K a H
  | some o=>if Region.wanted o (yielded ops a.tmps) then gM P w KP (λv H'=>K (a.put o.dst v) H') ((execOp a.eval o).run P w) else K (a.put o.dst undef) H
theorem EW{w0:World}{KP:KE}{i:Nat}{K d:Act->aC->Prop}{a:Act}{H:aC}(c:∀a H,K a H->d a H)(h:sK P w0 KP ops i K a H):sK P w0 KP ops i d a H:=by
 intro w f e;have:=h w f e;cases ho:ops[i]? with
  | none=>simp only[ho]at this ⊢;exact c _ _ this
  | some o=>
  simp only[ho]at this ⊢;split at this;.rename_i b;rw[c_ b];exact this.mono λv j=>c _ _
  rename_i b;rw[b_ b];exact c _ _ this
def oz(isW:Nat->Bool)(bf:Nat->Nat->Bool)(i:Nat)(pd:lj):lj:=if isW i then pd.filter (λx=>!bf i x.1) else pd
def qV(P:Program)(w0:World)(KP:KE)(ops:Array Oper)(isW:Nat->Bool)(bf:Nat->Nat->Bool)(Q:Act->aC->Prop):Nat->lj->Array Bool->Act->aC->Prop
 | 0,pd,listed,a,H=>(∀x∈pd,qU x.2 H)/\Region.ready .any ops listed=[]/\Q a H
 | n+1,pd,listed,a,H=>(∀x∈pd,qU x.2 H)/\(Region.ready .any ops listed=[]->Q a H)/\
  ∀i∈Region.ready .any ops listed,sK P w0 KP ops i (λa' H'=>qV P w0 KP ops isW bf Q n (oz isW bf i pd) (listed.setIfInBounds i true) a' H') a H
def FR(ro:Option Nat):Fence:={ Fence.wide with round:=ro }
theorem zT{o:Oper}{a:Act}{w w0:World}{ro:Option Nat}(hd:∀c,o.op≠.defer c)(k:bZ w0 w){KP K:KE}{next:Act->World->Prop}{Q':Exit->Act->World->Prop} (m:∀v d,bZ w0 d->K v d.heap->next (a.put o.dst v) d) (t:∀v d,bZ w0 d->KP v d.heap->Q' (.panic [{ v,recovered:=false }]) a d) (h:gM P w KP K ((execOp a.eval o).run P w)):o.wpIn (FR ro) 0 P a w next Q':=by
 refine⟨λf _=>trivial,?_⟩;have hs:o.semAt (FR ro).round a.eval=execOp a.eval o:=Oper.semAt_eq ro _ o hd;rw[hs];generalize (execOp a.eval o).run P w=r at h;cases r with
  | halt h' d=>cases h' <;> simp only[gM]at h;exact t _ _ (k.trans h.1) h.2
  | ok n d=>
  cases n <;> simp only[gM]at h;case value v=>exact m _ _ (k.trans h.1) h.2
  case skip=>exact m _ _ (k.trans h.1) h.2
  case enter f args=>
   let⟨rfl,h⟩:=h;rw[Oper.uponIn_enter];refine⟨λhd=>(by cases hd),?_⟩;have j:CallsIn Fence.wide (0-1) P f args d λ
    | .returned v,b=>next (a.put o.dst v) b
    | .panicked chain,b=>Q' (.panic chain) a b
    | .outgrown,_=>LetsOut Q':=callsIn_wide.2 (h.mono λe b i=>by
    cases e <;> simp only[jp]at i ⊢;case returned v=>exact m _ _ (k.trans i.1) i.2
    case panicked chain=>obtain⟨v,rfl,s,j⟩:=i;exact t _ _ (k.trans s) j);exact j
  case round l f tmps assign body=>
   let⟨rfl,h⟩:=h;rw[Oper.uponIn_round];refine⟨λhd=>(by cases hd),?_⟩;have j:RoundIn Fence.wide (0-1) P l f tmps assign body d λ
    | .returned v,b=>next (a.put o.dst v) b
    | .panicked chain,b=>Q' (.panic chain) a b
    | .outgrown,_=>LetsOut Q':=h.mono λe b i=>by
    cases e <;> simp only[jp]at i ⊢;case returned v=>exact m _ _ (k.trans i.1) i.2
    case panicked chain=>obtain⟨v,rfl,s,j⟩:=i;exact t _ _ (k.trans s) j
   exact j
theorem wI{w0:World}{KP:KE}{ro:Option Nat}{isW:Nat->Bool}{bf:Nat->Nat->Bool}{Q:Act->aC->Prop}{Q':Exit->Act->World->Prop}(m:∀a w,bZ w0 w->Q a w.heap->Q' .normal a w) (hd:∀o∈ops.toList,∀c,o.op≠.defer c) {Inv:Act->Prop} (d:∀a o v,o∈ops.toList->Inv a->Inv (a.put o.dst v)) (s:∀v a w,bZ w0 w->Inv a->KP v w.heap->Q' (.panic [{ v,recovered:=false }]) a w) : ∀(n:Nat) (A:lj) (b:Array Bool) (a:Act) (w:World),bZ w0 w->Inv a->qV P w0 KP ops isW bf Q n A b a w.heap->wpAnyIn (FR ro) 0 P .any ops Q' n b a w
 | 0,_,_,_,_,hr,_,h=>⟨h.2.1,m _ _ hr h.2.2⟩
 | n+1,A,b,a,w,hr,ha,h=>⟨λh0=>m _ _ hr (h.2.1 h0),λi hi=>by
 have k:=h.2.2 i hi w rfl hr;unfold wpOpIn;split at k;.rename_i t;simp only[t];exact wI m hd d s n _ _ a w hr ha k
 rename_i o t;simp only[t];have e:o∈ops.toList:=by grind
 split at k;.rename_i u;rw[c_ u];exact zT (hd o e) hr (λv x j y=>wI m hd d s n _ _ _ x j (d _ _ _ e ha) y) (λv x j y=>s v a x j ha y) k
 rename_i u;rw[b_ u];exact⟨λf _=>trivial,wI m hd d s n _ _ _ w hr (d _ _ _ e ha) k⟩⟩
def mq(P:Program)(ops:Array Oper)(o:Oper)(v:Value)(f:Option (aC->Prop))(a:Act):Prop:=
 (Region.wanted o (yielded ops a.tmps)=true->∀w,qU f w.heap->gM P w (λ_ _=>False) (λv' H'=>v'=v/\H'=w.heap) ((execOp a.eval o).run P w))/\
 (Region.wanted o (yielded ops a.tmps)=false->v=undef)
theorem mq.of_same{o:Oper}{v:Value}{f:Option (aC->Prop)}{a b:Act}(d:mq P ops o v f a)(e:execOp b.eval o=execOp a.eval o) (c:Region.wanted o (yielded ops b.tmps)=Region.wanted o (yielded ops a.tmps)):mq P ops o v f b:=by unfold mq at *;grind
theorem mq.step{w0:World}{KP:KE}{i:Nat}{o:Oper}{v:Value}{f:Option (aC->Prop)}{a:Act}{H:aC}(hi:ops[i]?=some o)(c:mq P ops o v f a)(j:qU f H){K:Act->aC->Prop}(h:K (a.put o.dst v) H) : sK P w0 KP ops i K a H:=by
 intro w k n;simp only[hi];split;.rename_i b;subst k;exact (c.1 b w j).agv (λs m ⟨d,e⟩=>by subst d;subst e;exact h) λ_ _ h=>h.elim
 rename_i b;rw[<-c.2 (by grind)];exact h
theorem PI{w0:World}{KP:KE}{j:Nat}{c d:Oper}{v:Value}{f:Option (aC->Prop)}(D:ops[j]?=some d)(n:c.apart ops d=true) (s:∀cs b,c.op≠.select cs b) (m:∀cs b,d.op≠.select cs b) {K:Act->aC->Prop} {a:Act} {H:aC} (k:mq P ops c v f a) (h:sK P w0 KP ops j K (a.put c.dst v) H) : sK P w0 KP ops j (λA x=>mq P ops c v f A/\K (A.put c.dst v) x) a H:=by
 let⟨t,B,y⟩:=Oper.apart_spec n;have eS:∀(a:Act),mq P ops c v f a->∀u,mq P ops c v f (a.put d.dst u):=λa k u=>k.of_same (execOp_put c s a d.dst u y) (wanted_put c a d.dst u y);intro w E C;have i:=h w E C;simp only[D]at i ⊢;rw[wanted_put d a c.dst v t]at i;split;.rename_i e;rw[c_ e,execOp_put d m a c.dst v t]at i;exact i.mono λu x F=>⟨eS a k u,by rw[<-Act.put_comm a v u B];exact F⟩
 rename_i e;rw[b_ e]at i;grind [Act.put_comm]
def qW(ops:Array Oper)(listed:Array Bool):Prop:=
 ∀j oj,ops[j]?=some oj->listed.getD j false=true->∀e∈oj.after,Region.binds .any e=true->listed.getD e.on false=true
theorem qW.set{a:Array Bool}(h:qW ops a){i:Nat}(hi:i∈Region.ready .any ops a):qW ops (a.setIfInBounds i true):=by
 let⟨_,n,k,b⟩:=mem_ready.1 hi;intro j d f c e m hb;by_cases hij:i=j;.grind [getD_set_true]
 rw [getD_set_ne false hij]at c;exact getD_set_true (h j d f c e m hb)
def agl(ops:Array Oper)(bf:Nat->Nat->Bool):Prop:=
 ∀j oj,ops[j]?=some oj->∀i,bf j i=true->∃e∈oj.after,Region.binds .any e=true/\(e.on=i\/(e.on<j/\bf e.on i=true/\(ops[e.on]?).isSome=true))
theorem PJ{bf:Nat->Nat->Bool}(hb:agl ops bf){a:Array Bool}(f:qW ops a) : ∀(j:Nat) (b:Oper),ops[j]?=some b->a.getD j false=true->∀i,bf j i=true->a.getD i false=true:=by intro j;induction j using Nat.strongRecOn with
  | _ j ih=>intro b d k i hi;let⟨e,m,c,h⟩:=hb j b d i hi;have n:=f j b d k e m c;grind
theorem adf{bf:Nat->Nat->Bool}(hb:agl ops bf){a:Array Bool}(m:qW ops a){j:Nat}(f:j∈Region.ready .any ops a)(i:Nat)(hi:bf j i=true):a.getD i false=true:=by let⟨_,d,b,c⟩:=mem_ready.1 f;let⟨e,n,k,h⟩:=hb j d b i hi;grind [PJ]
theorem afi{a:Array Bool}{i:Nat}(h:a.getD i true=false):a.getD i false=false:=by grind
theorem PK{isW:Nat->Bool}{bf:Nat->Nat->Bool}{i j:Nat}{f:Option (aC->Prop)}{a:lj}(h:bf j i=false):oz isW bf j ((i,f)::a)=(i,f)::oz isW bf j a:=by grind [oz]
theorem afq{w0:World}{KP:KE}{isW:Nat->Bool}{bf:Nat->Nat->Bool}{Q:Act->aC->Prop}(hb:agl ops bf)(hs:Region.noSelect ops=true){i:Nat}{C:Oper}{v:Value}{f:Option (aC->Prop)}(hi:ops[i]?=some C)(Y:isW i=false) : ∀(n:Nat) (s:lj) (c:Array Bool) (a:Act) (H:aC),qW ops c->(∀j B,ops[j]?=some B->j≠i->c.getD j true=false->(∀e∈B.after,Region.binds .any e=true->e.on≠i)->C.apart ops B=true)->i∈Region.ready .any ops c->mq P ops C v f a->qV P w0 KP ops isW bf Q n ((i,f)::s) (c.setIfInBounds i true) (a.put C.dst v) H->qV P w0 KP ops isW bf Q (n+1) s c a H:=by
 intro n;induction n with
  | zero=>
  intro s c a H S _ y I h;refine⟨λx m=>h.1 x (DG _ m),λh0=>(by rw[h0]at y;cases y),λj F=>?_⟩;by_cases hji:j=i
  .subst hji;refine I.step hi (h.1 _ D_) ⟨λx m=>?_,h.2⟩;have:x∈s:=by unfold oz at m;grind
   exact h.1 x (DG _ this)
  have:=ready_mono F hji;rw[h.2.1]at this;cases this
  | succ n ih=>
  intro s c a H S t y I h;refine⟨λx m=>h.1 x (DG _ m),λh0=>(by rw[h0]at y;cases y),λj F=>?_⟩;by_cases hji:j=i
  .subst hji;refine I.step hi (h.1 _ D_) ?_;have e1:oz isW bf j s=s:=by unfold oz;grind
   rw[e1];have d:∀(n:Nat) (s w:lj) (c:Array Bool) (a:Act) (H:aC),(∀x∈w,x∈s)->qV P w0 KP ops isW bf Q n s c a H->qV P w0 KP ops isW bf Q n w c a H:=by intro n;induction n with
     | zero=>intro s w c a H hs h;exact⟨λx m=>h.1 x (hs x m),h.2⟩
     | succ n ih2=>intro s w c a H hs h;refine⟨λx m=>h.1 x (hs x m),h.2.1,λk K=>EW (λL M=>ih2 _ _ _ L M ?_) (h.2.2 k K)⟩;intro x m;unfold oz at m ⊢;grind
   exact d _ _ _ _ _ _ (λx m=>DG _ m) h
  have V:=h.2.2 j (ready_mono F hji);let⟨E,B,A,O⟩:=mem_ready.1 F;have U:=afi (mem_ready.1 y).1;have D:∀e∈B.after,Region.binds .any e=true->e.on≠i:=λe he h5 h6=>by grind
  have G:bf j i=false:=by grind [adf]
  have W:=PI A (t j B A hji E D) (λcs b=>Region.noSelect_spec hs i C cs b hi) (λcs b=>Region.noSelect_spec hs j B cs b A) I V;have u:∀k ok,ops[k]?=some ok->k≠i->(c.setIfInBounds j true).getD k true=false->(∀e∈ok.after,Region.binds .any e=true->e.on≠i)->C.apart ops ok=true:=λk ok K J Z N=>by
   refine t k ok K J ?_ N;by_cases hjk:j=k;.grind
   simp_all
  refine EW (λL M R=>ih _ (c.setIfInBounds j true) L M (S.set F) u (ready_mono y (Ne.symm hji)) R.1 ?_) W;have T:=R.2;rw[PK G,Array.setIfInBounds_comm _ _ (Ne.symm hji)]at T;exact T
end
abbrev Kn:=List (Nat×Bool×Bool)
inductive GC where
 | yes|no|bad
 | iff (c:Prop)
def nk:Kn->Nat->Bool->Option Bool
 | [],_,_=>none
 | (j',w',b)::r,j,w=>if Nat.beq j' j then (if w' == w then some b else (if b then some false else nk r j w)) else nk r j w
def kv(ops:Array Oper)(j:Nat):Option Tmp:=match aT ops.toList j with|some o=>o.dst|none=>none
def oA(ops:Array Oper)(fr:Fr)(kn:Kn):Nat->Option (Nat×Bool)->GC
 | _,none=>.yes
 | 0,some _=>.bad
 | n+1,some (j,w)=>match nk kn j w with
  | some true=>.yes
  | some false=>.no
  | none=>match kv ops j with
   | none=>.no
   | some d=>match aT fr d with
    | some (.p (.bool c))=>.iff (c=w)
    | some (.p (.tuple _))=>.no
    | some (.p _)=>.bad
    | some (.g h w' (.bool c))=>match oA ops fr kn n (some (h,w')) with
     | .yes=>.iff (c=w)
     | .iff p=>.iff (p/\c=w)
     | .no=>.no
     | .bad=>.bad
    | _=>.bad
def impl(ops:Array Oper)(fr:Fr):Nat->Option (Nat×Bool)->Nat->Bool->Bool
 | 0,_,_,_=>false
 | _,none,_,_=>false
 | n+1,some (j',w'),j,w=>(Nat.beq j' j&&w' == w)||(match kv ops j' with
  | some d=>match aT fr d with
   | some (.g h w'' _)=>impl ops fr n (some (h,w'')) j w
   | _=>false
  | none=>false)
def ZH(ops:Array Oper)(fr:Fr)(kn:Kn)(gd:Option (Nat×Bool))(j:Nat)(w:Bool):Bool:=
 match nk kn j w with
 | some b=>b
 | none=>impl ops fr 9 gd j w
def Hf(ops:Array Oper)(fr:Fr)(kn:Kn)(gd:Option (Nat×Bool)):Operand->Option Value
 | .tmp t=>match aT fr t with
  | some (.p v)=>some v
  | some (.g j w v)=>if ZH ops fr kn gd j w then some v else none
  | _=>none
 | .const v=>some v
 | .global g=>some (.pointer (some ⟨g,0,none⟩))
 | .func f=>some (.func (.func f) #[] #[])
def sL(ops:Array Oper)(fr:Fr)(kn:Kn)(gd:Option (Nat×Bool))(side:Bool)(a x:Operand):Option Value:=
 match Hf ops fr kn gd x with
 | some v=>some v
 | none=>match a,x with
  | .tmp s,.tmp t=>match aT fr t with
   | some (.g j w v)=>match kv ops j with
    | some d=>if Nat.beq d s&&w == side then some v else none
    | none=>none
   | _=>none
  | _,_=>none
def qX(ops:Array Oper):Kn->Nat->Option Bool
 | [],_=>none
 | (j,w,b)::r,t=>match kv ops j with
  | some d=>if Nat.beq d t then some (w == b) else qX ops r t
  | none=>qX ops r t
def pkG(ops:Array Oper)(fr:Fr)(kn:Kn)(gd:Option (Nat×Bool))(a b d:Operand):Option (Bool×Value×Value):=
 match Hf ops fr kn gd a with
 | some (.bool c)=>match (match a with|.tmp t=>qX ops kn t|_=>none) with
  | some true=>match sL ops fr kn gd true a b with|some v=>some (true,v,v)|none=>none
  | some false=>match sL ops fr kn gd false a d with|some v=>some (false,v,v)|none=>none
  | none=>match sL ops fr kn gd true a b,sL ops fr kn gd false a d with|some x,some y=>some (c,x,y)|_,_=>none
 | _=>none
def mr(ops:Array Oper):List Nat->Option Tmp->Bool
 | _,none=>true
 | [],some _=>true
 | j::r,some t=>(match kv ops j with|some u=>!(Nat.beq u t)|none=>true)&&mr ops r (some t)
def sM(g:Option (Nat×Bool))(gs:List Nat):List Nat:=match g with|some (j,_)=>j::gs|none=>gs
section defs
variable (X:Ctx)(ops:Array Oper)
def aad(o:Oper)(kn:Kn)(gs:List Nat)(fr:Fr)(H:aC)(k:Fr->List Nat->Option (aC->Prop)->Prop):Prop:=
 if mr ops (sM o.guard gs) o.dst=false then False else
 match oA ops fr kn 9 o.guard with
 | .bad=>False
 | .no=>k (fr.put o.dst (.p undef)) gs none
 | .yes=>(match ni X o.op with
  | .P=>wC X (Hf ops fr kn o.guard) (pkG ops fr kn o.guard) none o.op λv=>k (fr.put o.dst (.p v)) gs none
  | .R=>wE X (Hf ops fr kn o.guard) none o H λv f=>k (fr.put o.dst (.p v)) gs (some f)
  | .W=>False)
 | .iff c=>(match o.guard with
  | none=>False
  | some (j,w)=>(match ni X o.op with
   | .P=>wC X (Hf ops fr kn o.guard) (pkG ops fr kn o.guard) (some c) o.op λv=>k (fr.put o.dst (.g j w v)) (j::gs) none
   | .R=>wE X (Hf ops fr kn o.guard) (some c) o H λv f=>k (fr.put o.dst (.g j w v)) (j::gs) (some f)
   | .W=>False))
def vcW(o:Oper)(kn:Kn)(gs:List Nat)(fr:Fr)(H:aC)(k:Fr->Kn->List Nat->aC->Prop):Prop:=
 if mr ops (sM o.guard gs) o.dst=false then False else
 match oA ops fr kn 9 o.guard with
 | .bad=>False
 | .no=>k (fr.put o.dst (.p undef)) kn gs H
 | .yes=>wF X (Hf ops fr kn o.guard) o H λv H'=>k (fr.put o.dst (.p v)) kn gs H'
 | .iff c=>(match o.guard with
  | none=>False
  | some (j,w)=>(c->wF X (Hf ops fr kn o.guard) o H λv H'=>k (fr.put o.dst (.p v)) ((j,w,true)::kn) (j::gs) H')/\
   (¬c->k (fr.put o.dst (.p undef)) ((j,w,false)::kn) (j::gs) H))
def EX(o:Oper)(c:Call)(r:List Oper)(fr:Fr)(k:List DM->Prop):Prop:=
 match o.guard,o.dst,r,c.callee,c.args.toList with
 | none,none,[],.value x,[]=>(match Hf ops fr [] none x with
  | some (.func (.func g) ⟨[]⟩ ⟨cap⟩)=>k [.fn g cap]
  | _=>False)
 | _,_,_,_,_=>False
def mw(rd:Bool)(K:Fr->List DM->aC->Prop):List Oper->Kn->List Nat->Fr->aC->Prop
 | [],_,_,fr,H=>iW (qM fr) λDQ=>K DQ [] H
 | o::r,kn,gs,fr,H=>match o.op with
  | .defer c=>(match rd with
   | true=>EX ops o c r fr λM=>iW (qM fr) λDQ=>K DQ M H
   | false=>False)
  | op=>match ni X op with
   | .W=>vcW X ops o kn gs fr H λDQ kn' gs' H'=>iW DQ λDQ=>mw rd K r kn' gs' DQ H'
   | _=>aad X ops o kn gs fr H λDQ gs' _=>iW DQ λDQ=>mw rd K r kn gs' DQ H
def qY(acc:List Nat):List Edge->Nat->Nat
 | [],s=>s
 | e::r,s=>qY acc r (if Region.binds .any e then s ||| 2^e.on ||| (match aT acc e.on with|some m=>m|none=>0) else s)
def lk:List Oper->List Nat->List Nat
 | [],acc=>acc
 | o::r,acc=>lk r (acc++[qY acc o.after.toList 0])
def bfB(B:List Nat)(j i:Nat):Bool:=match aT B j with|some m=>m.testBit i|none=>false
def mz:List Nat->Option Nat
 | []=>none
 | i::r=>match aT ops.toList i with
  | some o=>(match ni X o.op with|.W=>mz r|_=>some i)
  | none=>mz r
def afN:List Nat->(Nat->Prop)->Prop
 | [],_=>False
 | [i],f=>f i
 | i::r,f=>f i/\afN r f
def wJ:lj->aC->Prop->Prop
 | [],_,q=>q
 | (_,none)::r,H,q=>wJ r H q
 | (_,some f)::r,H,q=>f H/\wJ r H q
def qZ(B:List Nat)(i:Nat):lj->lj
 | []=>[]
 | (j,f)::r=>match bfB B i j with|true=>qZ B i r|false=>(j,f)::qZ B i r
def wK:List Oper->Bool
 | []=>true
 | o::r=>(match o.op with|.defer _=>false|_=>true)&&wK r
theorem EY:∀{l:List Oper},wK l=true->∀o∈l,∀c,o.op≠.defer c
 | [],_,o,a,_,_=>by cases a
 | x::r,h,o,a,c,hc=>by
  simp only[wK,p_]at h
  rcases DO.1 a with rfl|a
  .grind
  .exact EY h.2 o a c hc
def rh(ops:Array Oper)(listed:Array Bool):List Nat:=
 (List.range ops.size).filter λi=>!listed.getD i true&&((ops[i]?).map (·.after.toList.all λe=>!Region.binds .any e||listed.getD e.on false)).getD false
theorem zU(ops:Array Oper)(a:Array Bool):rh ops a=Region.ready .any ops a:=by grind [rh,Region.ready]
def rj:List Bool->(List Bool->Prop)->Prop
 | [],k=>k []
 | true::r,k=>rj r λr'=>k (true::r')
 | false::r,k=>rj r λr'=>k (false::r')
theorem zV:∀(l:List Bool) (k:List Bool->Prop),rj l k=k l
 | [],_=>rfl
 | true::r,k=>by rw[rj,zV r]
 | false::r,k=>by rw[rj,zV r]
def pX(X:Ctx)(ops:Array Oper):Nat->Array Bool->Bool
 | 0,_=>true
 | n+1,listed=>match mz X ops (rh ops listed) with
  | some i=>Region.free .any ops listed i&&pX X ops n (listed.setIfInBounds i true)
  | none=>(rh ops listed).all λi=>pX X ops n (listed.setIfInBounds i true)
def pY(X:Ctx)(ops:Array Oper)(d:Bool):Bool:=match d with
 | false=>true
 | true=>Region.noSelect ops&&(wK ops.toList&&pX X ops ops.size (Array.replicate ops.size false))
def okC(X:Ctx):Code->Bool
 | .region _ ops d=>pY X ops d
 | .seq a b=>okC X a&&okC X b
 | .cond _ a b=>okC X a&&okC X b
 | .block _ a=>okC X a
 | .loop a=>okC X a
 | .rangeFunc _ _ a b=>okC X a&&okC X b
 | _=>true
def sO(B:List Nat)(K:Fr->aC->Prop):Nat->Array Bool->lj->Kn->List Nat->Fr->aC->Prop
 | 0,listed,_,_,_,fr,H=>(match rh ops listed with|[]=>iW (qM fr) λDQ=>K DQ H|_=>False)
 | n+1,listed,pd,kn,gs,fr,H=>match mz X ops (rh ops listed) with
  | some i=>(match aT ops.toList i with
   | none=>False
   | some o=>aad X ops o kn gs fr H λDQ gs' f=>iW DQ λDQ=>rj (listed.setIfInBounds i true).toList λl=>sO B K n ⟨l⟩ ((i,f)::pd) kn gs' DQ H)
  | none=>afN (rh ops listed) λi=>(match aT ops.toList i with
   | none=>False
   | some o=>vcW X ops o kn gs fr H λDQ kn' gs' H'=>wJ (qZ B i pd) H' (iW DQ λDQ=>rj (listed.setIfInBounds i true).toList λl=>sO B K n ⟨l⟩ (qZ B i pd) kn' gs' DQ H'))
end defs
structure gm(ops:Array Oper)(fr:Fr)(kn:Kn)(gs:List Nat)(a:Act):Prop where
 size:a.tmps.size=fr.length
 pv:∀t v,aT fr t=some (.p v)->a.tmps[t]?=some v
 gv:∀t j w v,aT fr t=some (.g j w v)->j∈gs/\(yielded ops a.tmps j=some w->a.tmps[t]?=some v)/\(yielded ops a.tmps j≠some w->a.tmps[t]?=some undef)
 kn:∀x∈kn,x.1∈gs/\(yielded ops a.tmps x.1=some x.2.1↔x.2.2=true)
def fT(ops:Array Oper)(g:Option (Nat×Bool))(a:Act):Prop:=match g with|none=>True|some (j,w)=>yielded ops a.tmps j=some w
section
variable {X:Ctx}{ops:Array Oper}{fr:Fr}{kn:Kn}{gs:List Nat}{a:Act}
theorem EZ(o:Oper):Region.wanted o (yielded ops a.tmps)=true↔fT ops o.guard a:=by grind [Region.wanted,fT]
theorem Ga(j:Nat):kv ops j=(ops[j]?).bind (·.dst):=by grind [kv,gL]
theorem oB{j d:Nat}(h:kv ops j=some d):yielded ops a.tmps j=(match a.tmps[d]? with|some (.bool b)=>some b|_=>none):=by grind [Ga,yielded]
theorem Gb{j:Nat}(h:kv ops j=none):yielded ops a.tmps j=none:=by grind [Ga,yielded]
theorem Gc(R:gm ops fr kn gs a){j:Nat}{w b:Bool}:∀(l:Kn),(∀x∈l,x∈kn)->nk l j w=some b->(yielded ops a.tmps j=some w↔b=true)/\j∈gs
 | [],_,h=>by grind [nk]
 | (j',w',b')::r,hs,h=>by
  simp only[nk]at h;let⟨hm,c⟩:=R.kn _ (hs _ D_);simp only at hm c;have k:=Gc R r (λx c=>hs x (DG _ c)) (j:=j) (w:=w) (b:=b)
  split at h
  .rename_i m;have e:j'=j:=q2c m;subst e
   split at h
   .rename_i f;have i:w'=w:=eu f
    subst i
    cases h
    exact⟨c,hm⟩
   .rename_i f
    split at h
    .rename_i hb
     cases h
     have:=c.2 hb;refine⟨⟨λd=>?_,λd=>by cases d⟩,hm⟩
     rw[this]at d;exfalso;apply f;simpa using d
    .exact k h
  .exact k h
theorem Ge(R:gm ops fr kn gs a){j:Nat}{w b:Bool}(h:nk kn j w=some b):(yielded ops a.tmps j=some w↔b=true)/\j∈gs:=Gc R kn (λ_ c=>c) h
theorem zW(R:gm ops fr kn gs a):∀(n:Nat) (g:Option (Nat×Bool)),match oA ops fr kn n g with
  | .yes=>fT ops g a
  | .no=>¬fT ops g a
  | .bad=>True
  | .iff c=>fT ops g a↔c
 | n,none=>by cases n <;> simp[oA,fT]
 | 0,some _=>by simp[oA]
 | n+1,some (j,w)=>by
  simp only[oA]
  cases hk:nk kn j w with
  | some b=>
   have:=(Ge R hk).1
   cases b
   .simp only[fT];simp[this]
   .simp only[fT];simp[this]
  | none=>
   cases hd:kv ops j with
   | none=>simp only[fT];grind [Gb]
   | some d=>
    cases hl:aT fr d with
    | none=>simp only[hl]
    | some s=>
     cases s with
     | x=>simp only[hl]
     | p v=>
      cases v with
      | bool c=>
       simp only[hl,fT];rw[oB hd,R.pv _ _ hl];simp
      | tuple c=>
       simp only[hl,fT];rw[oB hd,R.pv _ _ hl];simp
      | _=>simp only[hl]
     | g h w' v=>
      cases v <;> simp only[hl]
      rename_i c;let⟨_,f,i⟩:=R.gv _ _ _ _ hl;have e:=zW R n (some (h,w'))
      cases hg:oA ops fr kn n (some (h,w')) with
      | yes=>
       simp only[hg,fT]at e ⊢
       grind [oB]
      | no=>
       simp only[hg,fT]at e ⊢
       grind [oB,undef]
      | bad=>simp only
      | iff p=>
       simp only[hg,fT]at e ⊢
       grind [oB,undef]
theorem Gf(R:gm ops fr kn gs a){j:Nat}{w:Bool}:∀(n:Nat) (g:Option (Nat×Bool)),impl ops fr n g j w=true->fT ops g a->yielded ops a.tmps j=some w
 | 0,_,h,_=>by grind [impl]
 | n+1,none,h,_=>by grind [impl]
 | n+1,some (j',w'),h,hg=>by
  simp only[impl,Jq,p_]at h
  rcases h with ⟨b,c⟩|h
  .have e1:j'=j:=q2c b;have e2:w'=w:=by grind
   subst e1;subst e2;exact hg
  .cases hd:kv ops j' with
   | none=>grind
   | some d=>
    simp only[hd]at h
    cases hl:aT fr d with
    | none=>grind
    | some s=>
     cases s with
     | p v=>grind
     | x=>grind
     | g hh w'' v=>
      simp only[hl]at h;let⟨_,b,c⟩:=R.gv _ _ _ _ hl;refine Gf R n _ h ?_;simp only[fT]at hg ⊢
      by_cases hy:yielded ops a.tmps hh=some w''
      .exact hy
      .rw [oB hd,c hy]at hg;simp[undef]at hg
theorem PN(R:gm ops fr kn gs a){gd:Option (Nat×Bool)}{j:Nat}{w:Bool}(h:ZH ops fr kn gd j w=true)(c:fT ops gd a):yielded ops a.tmps j=some w:=by
 unfold ZH at h
 cases hk:nk kn j w with
 | some b=>rw[hk]at h;exact (Ge R hk).1.2 h
 | none=>grind [Gf]
theorem wL{t:Nat}{v:Value}(h:a.tmps[t]?=some v):a.eval (.tmp t)=v:=by simp[Act.eval,q38,h]
theorem pZ(R:gm ops fr kn gs a){gd:Option (Nat×Bool)}(x:Operand)(v:Value)(h:Hf ops fr kn gd x=some v)(c:fT ops gd a):a.eval x=v:=by
 cases x with
  | const u=>simp[Hf]at h;subst h;rfl
  | global g=>simp[Hf]at h;subst h;rfl
  | func f=>simp[Hf]at h;subst h;rfl
  | tmp t=>
  simp only[Hf]at h;cases hl:aT fr t with
   | none=>grind
   | some s=>
   cases s with
    | p u=>simp[hl]at h;subst h;exact wL (R.pv _ _ hl)
    | x=>grind
    | g j w u=>
    simp only[hl]at h;split at h;.rename_i b;cases h;exact wL ((R.gv _ _ _ _ hl).2.1 (PN R b c))
    cases h
theorem zX(R:gm ops fr kn gs a){gd:Option (Nat×Bool)}{b:Bool}{x y:Operand}{v:Value}(h:sL ops fr kn gd b x y=some v)(f:fT ops gd a)(e:a.eval x=.bool b):a.eval y=v:=by
 unfold sL at h;cases he:Hf ops fr kn gd y with
  | some u=>grind [pZ]
  | none=>
  rw[he]at h;cases x <;> cases y <;> simp only at h <;> try cases h
  rename_i s t;cases hl:aT fr t with
   | none=>grind
   | some sv=>
   cases sv with
    | p u=>grind
    | x=>grind
    | g j w u=>
    simp only[hl]at h;cases hd:kv ops j with
     | none=>grind
     | some d=>
     simp only[hd]at h;split at h
     .rename_i c;cases h;simp only[p_]at c;have e1:d=s:=q2c c.1;have e2:w=b:=by grind
      subst e1;subst e2;refine wL ((R.gv _ _ _ _ hl).2.1 ?_);rw[oB hd];simp only[Act.eval,q38]at e;grind [undef]
     cases h
theorem Gh(R:gm ops fr kn gs a){t:Nat}{b c:Bool}(f:a.tmps[t]?=some (.bool c)):∀(l:Kn),(∀x∈l,x∈kn)->qX ops l t=some b->c=b
 | [],_,h=>by grind [qX]
 | (j,w,b')::r,hs,h=>by
  simp only[qX]at h;have e:=Gh R f r (λx i=>hs x (DG _ i)) (b:=b)
  cases hd:kv ops j with
  | none=>simp only[hd]at h;exact e h
  | some d=>
   simp only[hd]at h
   split at h
   .rename_i hb;have e1:d=t:=q2c hb;subst e1;have:=(R.kn _ (hs _ D_)).2;simp only at this;rw[oB hd,f]at this
    cases w <;> cases b' <;> cases c <;> simp at this h ⊢ <;> simp[<-h]
   .exact e h
theorem Gi(R:gm ops fr kn gs a){t:Nat}{b c:Bool}(h:qX ops kn t=some b)(e:a.tmps[t]?=some (.bool c)):c=b:=Gh R e kn (λ_ d=>d) h
theorem Gj(R:gm ops fr kn gs a){gd:Option (Nat×Bool)}(x y z:Operand)(r:Bool×Value×Value)(h:pkG ops fr kn gd x y z=some r)(f:fT ops gd a) : a.eval x=.bool r.1/\(r.1=true->a.eval y=r.2.1)/\(r.1=false->a.eval z=r.2.2):=by
 unfold pkG at h;cases he:Hf ops fr kn gd x with
  | none=>grind
  | some u=>
  have d:=pZ R x u he f;cases u <;> simp only[he]at h <;> try cases h
  rename_i c;split at h
  .rename_i b;have e:c=true:=by
    cases x <;> simp only at b <;> try cases b
    rename_i t;refine Gi R b ?_;simp only[Act.eval,q38]at d;grind [undef]
   grind [zX]
  .rename_i b;have e:c=false:=by
    cases x <;> simp only at b <;> try cases b
    rename_i t;refine Gi R b ?_;simp only[Act.eval,q38]at d;grind [undef]
   grind [zX]
  grind [zX]
end
structure Rel(fr:Fr)(a:Act):Prop where
 size:a.tmps.size=fr.length
 pv:∀t v,aT fr t=some (.p v)->a.tmps[t]?=some v
 ng:∀t j w v,aT fr t≠some (.g j w v)
section
variable {X:Ctx}{ops:Array Oper}{fr:Fr}{kn:Kn}{gs:List Nat}{a:Act}
theorem Gk:∀{gs:List Nat} {t:Tmp},mr ops gs (some t)=true->∀j∈gs,kv ops j≠some t
 | [],_,_,_,hj=>by cases hj
 | j::r,t,h,k,a=>by
  simp only[mr,p_]at h
  rcases DO.1 a with rfl|a
  .intro hd
   simp_all
  .exact Gk h.2 k a
theorem sQ(a:Act)(t:Tmp)(u:Value):(a.put (some t) u).tmps=a.tmps.setIfInBounds t u:=rfl
theorem uz{d:Option Tmp}(u:Value)(h:mr ops gs d=true){j:Nat}(c:j∈gs):yielded ops (a.put d u).tmps j=yielded ops a.tmps j:=by cases d with
  | none=>rfl
  | some t=>have b:=Gk h j c;cases hd:kv ops j with
   | none=>grind [Gb]
   | some s=>have:s≠t:=λe=>b (by rw[hd,e]);rw[oB hd,oB hd,sQ];grind
theorem Gl{d:Option Tmp}{g:Option (Nat×Bool)}(h:mr ops (sM g gs) d=true):mr ops gs d=true:=by cases g with
  | none=>exact h
  | some x=>let⟨j,w⟩:=x;cases d with
   | none=>cases gs <;> rfl
   | some t=>simp only[sM,mr,p_]at h;exact h.2
theorem mA{α:Type}(l:List α)(n m:Nat)(x:α):aT (iV l n x) m=if n=m/\n<l.length then some x else aT l m:=by grind [gL,zI]
theorem rk{α:Type}(l:List α)(n:Nat)(x:α):(iV l n x).length=l.length:=by grind [zI]
theorem nl{d:Option Tmp}{u:Value}{s:SV}{b:List Nat}(R:gm ops fr kn gs a)(A:mr ops b d=true)(c:∀j∈gs,j∈b) (hs:s=.p u\/∃j w v,s=.g j w v/\j∈b/\(yielded ops a.tmps j=some w->u=v)/\(yielded ops a.tmps j≠some w->u=undef)):gm ops (fr.put d s) kn b (a.put d u):=by
 cases d with
  | none=>exact⟨R.size,R.pv,λt j w v h=>by let⟨f,i⟩:=R.gv t j w v h;exact⟨c _ f,i⟩,λx y=>by let⟨f,i⟩:=R.kn x y;exact⟨c _ f,i⟩⟩
  | some t=>
  have n:(a.put (some t) u).tmps.size=(fr.put (some t) s).length:=by rw[sQ];simp only[Fr.put];rw[rk,Array.size_setIfInBounds];exact R.size
  have e:∀m,(a.put (some t) u).tmps[m]?=if t=m/\t<fr.length then some u else a.tmps[m]?:=by intro m;rw[sQ,Array.getElem?_setIfInBounds,<-R.size];grind
  refine⟨n,λm v h=>?_,λm j w v h=>?_,λx y=>?_⟩
  .simp only[Fr.put]at h;rw[mA]at h;rw[e];split at h;.grind
   rename_i k;rw[b_ k];exact R.pv _ _ h
  .simp only[Fr.put]at h;rw[mA]at h;rw[e];split at h;.rename_i k;rw[c_ k];grind [uz]
   rename_i k;rw[b_ k];let⟨f,i⟩:=R.gv _ _ _ _ h;grind [uz]
  let⟨f,i⟩:=R.kn x y;grind [uz]
theorem Gm{j:Nat}{w b:Bool}(R:gm ops fr kn gs a)(d:j∈gs)(h:yielded ops a.tmps j=some w↔b=true):gm ops fr ((j,w,b)::kn) gs a:=⟨R.size,R.pv,R.gv,λx c=>by
 rcases DO.1 c with rfl|c;.grind
 exact R.kn x c⟩
theorem wM(a:Act)(f:FuncId):a.eval (.func f)=.func (.func f) #[] #[]:=rfl
theorem sR{c:Prop}[Decidable c]{q:Prop}(h:if c then False else q):¬c/\q:=by grind
theorem Gn{o:Oper}{H:aC}{k:Fr->List Nat->Option (aC->Prop)->Prop}(S:∀f,bK f X.calls=true->gW X.P f)(R:gm ops fr kn gs a) (h:aad X ops o kn gs fr H k):∃v f F J,k F J f/\mq X.P ops o v f a/\qU f H/\gm ops F kn J (a.put o.dst v):=by
 unfold aad at h;let⟨T,h⟩:=sR h;have n:mr ops (sM o.guard gs) o.dst=true:=by grind
 have t:=Gl n;have A:=EZ (ops:=ops) (a:=a) o;have m:=zW R 9 o.guard;cases hg:oA ops fr kn 9 o.guard with
  | bad=>grind
  | no=>simp only[hg]at h m;refine⟨undef,none,_,_,h,⟨λi=>cS (A.1 i) m,λ_=>rfl⟩,trivial,nl R t (λ_ s=>s) (.inl rfl)⟩
  | yes=>simp only[hg]at h m;have i:Region.wanted o (yielded ops a.tmps)=true:=A.2 m;have u:∀x v,Hf ops fr kn o.guard x=some v->True->a.eval x=v:=λx v N _=>pZ R x v N m;cases hk:ni X o.op with
   | P=>simp only[hk]at h;let⟨v,B,C⟩:=EL (P:=X.P) (G:=True) (c:=none) o (λp K _=>K) u (λb c d r L _=>Gj R b c d r L m) (λo v e=>by rw[e];rfl) rfl h;exact⟨v,none,_,_,B,⟨λ_ w _=>ow (C trivial w),λE=>by grind⟩,trivial,nl R t (λ_ s=>s) (.inl rfl)⟩
   | R=>simp only[hk]at h;let⟨v,f,B,h0,C,M⟩:=ET (G:=True) (c:=none) o (λp K _=>K) u S (wM a) h;exact⟨v,some f,_,_,B,⟨λ_ w O=>M trivial w O,λE=>by grind⟩,C trivial,nl R t (λ_ s=>s) (.inl rfl)⟩
   | W=>grind
  | iff c=>
  simp only[hg]at h m;cases hgd:o.guard with
   | none=>grind
   | some x=>
   let⟨j,w⟩:=x;rw[hgd]at h m A n;simp only at h;have u:∀x v,Hf ops fr kn (some (j,w)) x=some v->fT ops (some (j,w)) a->a.eval x=v:=λx v N y=>pZ R x v N y;have I:∀p,gt (some c) p->fT ops (some (j,w)) a->p:=λp K y=>K (m.1 y);cases hk:ni X o.op with
    | P=>
    simp only[hk]at h;let⟨v,B,C⟩:=EL (P:=X.P) (G:=fT ops (some (j,w)) a) (c:=some c) o I u (λb c d r L y=>Gj R b c d r L y) (λo v e=>by rw[e];rfl) rfl h;by_cases i:Region.wanted o (yielded ops a.tmps)=true;.refine⟨v,none,_,_,B,⟨λ_ Q _=>ow (C (A.1 i) Q),λE=>by grind⟩,trivial,nl R n (λ_ s=>DG _ s) (.inr ⟨j,w,v,rfl,D_,λ_=>rfl,λD=>cS (A.1 i) D⟩)⟩
    refine⟨undef,none,_,_,B,⟨λE=>cS E i,λ_=>rfl⟩,trivial,nl R n (λ_ s=>DG _ s) (.inr ⟨j,w,v,rfl,D_,λD=>cS (A.2 D) i,λ_=>rfl⟩)⟩
    | R=>
    simp only[hk]at h;let⟨v,f,B,h0,C,M⟩:=ET (G:=fT ops (some (j,w)) a) (c:=some c) o I u S (wM a) h;by_cases i:Region.wanted o (yielded ops a.tmps)=true;.refine⟨v,some f,_,_,B,⟨λ_ Q O=>M (A.1 i) Q O,λE=>by grind⟩,C (A.1 i),nl R n (λ_ s=>DG _ s) (.inr ⟨j,w,v,rfl,D_,λ_=>rfl,λD=>cS (A.1 i) D⟩)⟩
    refine⟨undef,some f,_,_,B,⟨λE=>cS E i,λ_=>rfl⟩,h0 c rfl (λU=>i (A.2 (m.2 U))) H,nl R n (λ_ s=>DG _ s) (.inr ⟨j,w,v,rfl,D_,λD=>cS (A.2 D) i,λ_=>rfl⟩)⟩
    | W=>grind
theorem Gq{o:Oper}{H:aC}{k:Fr->Kn->List Nat->aC->Prop}(E:∀f,bK f X.calls=true->gW X.P f)(R:gm ops fr kn gs a) (h:vcW X ops o kn gs fr H k):∀w,w.heap=H->if Region.wanted o (yielded ops a.tmps) then gM X.P w X.kp (λv C=>∃m i n,k m i n C/\gm ops m i n (a.put o.dst v)) ((execOp a.eval o).run X.P w) else ∃m i n,k m i n H/\gm ops m i n (a.put o.dst undef):=by
 intro w y;unfold vcW at h;let⟨G,h⟩:=sR h;have b:mr ops (sM o.guard gs) o.dst=true:=by grind
 have s:=Gl b;have u:=EZ (ops:=ops) (a:=a) o;have d:=zW R 9 o.guard;cases hg:oA ops fr kn 9 o.guard with
  | bad=>simp[hg]at h
  | no=>simp only[hg]at h d;rw[b_ (λe=>d (u.1 e))];exact⟨_,_,_,h,nl R s (λ_ t=>t) (.inl rfl)⟩
  | yes=>simp only[hg]at h d;rw[c_ (u.2 d)];refine (EV (X:=X) o (λx v D=>pZ R x v D d) E (wM a) h w y).mono λv C B=>⟨_,_,_,B,nl R s (λ_ t=>t) (.inl rfl)⟩
  | iff c=>
  simp only[hg]at h d;cases hgd:o.guard with
   | none=>simp[hgd]at h
   | some x=>
   let⟨j,J⟩:=x;rw[hgd]at h d u b;simp only at h;by_cases e:Region.wanted o (yielded ops a.tmps)=true;.rw [c_ e];have A:=u.1 e;refine (EV (X:=X) o (λx v D=>pZ R x v D A) E (wM a) (h.1 (d.1 A)) w y).mono λv C B=>⟨_,_,_,B,Gm (nl R b (λ_ t=>DG _ t) (.inl rfl)) D_ ?_⟩;rw[uz v b D_];exact⟨λ_=>rfl,λ_=>A⟩
   rw [b_ e];have F:¬c:=λI=>e (u.2 (d.2 I));refine⟨_,_,_,h.2 F,Gm (nl R b (λ_ t=>DG _ t) (.inl rfl)) D_ ?_⟩;rw[uz undef b D_];exact⟨λA=>cS (u.2 A) e,λhb=>by cases hb⟩
theorem zY{α β:Type}(f:α->β)(l:List α)(n:Nat):aT (l.map f) n=(aT l n).map f:=by grind [gL]
theorem wN(R:gm ops fr kn gs a):Rel (qM fr) a:=by
 refine⟨by rw[R.size];simp[qM],λt v h=>?_,λt j w v h=>?_⟩;.unfold qM at h;rw[zY]at h;cases hl:aT fr t with
   | none=>grind
   | some s=>cases s <;> simp[hl]at h;subst h;exact R.pv _ _ hl
 unfold qM at h;rw[zY]at h;cases hl:aT fr t with
  | none=>grind
  | some s=>grind
theorem sV(R:Rel fr a):gm ops fr [] [] a:=⟨R.size,R.pv,λt j w v h=>cS h (R.ng t j w v),λx b=>by cases b⟩
theorem PO{P:Program}{o:Oper}{c:Call}{x:Operand}{ρ:Operand->Value}{g:FuncId}{cap:Xa}{w:World}(d:o.op=.defer c)(e:c.callee=.value x)(f:c.args.toList=[]) (b:ρ x=.func (.func g) ⟨[]⟩ ⟨cap⟩):(execOp ρ o).run P w=.ok (.defer { target:=.fn (.func g) ⟨cap⟩,args:=#[] }) w:=by
 have a:c.args=#[]:=by grind
 simp[execOp,d,resolve,e,a,b,Deferred.ofValue]
theorem sW{K:Fr->List DM->aC->Prop}{Q:Exit->Act->World->Prop}{w0:World}{ro:Option Nat}(G:∀f,bK f X.calls=true->gW X.P f){Inv:Act->Prop}(e:∀a o v,o∈ops.toList->Inv a->Inv (a.put o.dst v))
  (M:∀fr a w,bZ w0 w->Rel fr a->K fr [] w.heap->Inv a->Q .normal a w) (n:∀fr a w g cap,ro=none->bZ w0 w->Rel fr a->K fr [.fn g cap] w.heap->Inv a->Q .normal { a with defers:={ target:=.fn (.func g) ⟨cap⟩,args:=#[] }::a.defers } w)
  (I:∀v a w,bZ w0 w->Inv a->X.kp v w.heap->Q (.panic [{ v,recovered:=false }]) a w):∀(l:List Oper) (kn:Kn) (gs:List Nat) (fr:Fr) (a:Act) (w:World),(∀o∈l,o∈ops.toList)->Inv a->
  gm ops fr kn gs a->bZ w0 w->mw X ops ro.isNone K l kn gs fr w.heap->wpListIn (FR ro) 0 X.P ops Q l a w
 | [],kn,gs,fr,a,w,hl,ha,R,hr,h=>M _ _ _ hr (wN R) (by simpa only[mw,mp] using h) ha
 | o::r,kn,gs,fr,a,w,hl,ha,R,hr,h=>by
  have B:∀o∈r,o∈ops.toList:=λo ho=>hl o (DG _ ho)
  have A:∀v,Inv (a.put o.dst v):=λv=>e a o v (hl o D_) ha
  by_cases ajl:∃c,o.op=.defer c
  .let⟨c,S⟩:=ajl;simp only[mw,S]at h
   cases ro with
   | some l0=>exact h.elim
   | none=>
    simp only[Option.isNone_none]at h;simp only[EX,mp]at h
    split at h
    case h_2=>exact h.elim
    rename_i x hg V N D
    split at h
    case h_2=>exact h.elim
    rename_i g cap i;have R0:=sV (ops:=ops) (wN R);have hx:a.eval x=.func (.func g) ⟨[]⟩ ⟨cap⟩:=by
     cases x with
     | const u=>simp[Hf]at i;subst i;rfl
     | global g=>grind [Hf]
     | func f=>simp[Hf]at i;obtain⟨rfl,rfl⟩:=i;rfl
     | tmp t=>
      simp only[Hf]at i
      cases hl2:aT fr t with
      | none=>grind
      | some s=>
       cases s with
       | p u=>simp[hl2]at i;subst i;exact wL (R.pv _ _ hl2)
       | x=>grind
       | g j H u=>
        grind [ZH,nk,impl]
    unfold wpListIn;rw[c_ (by grind [Region.wanted])];refine⟨λf _=>trivial,?_⟩
    have e1:(o.semAt (FR none).round a.eval)=execOp a.eval o:=rfl;rw[e1,PO S N D hx,Oper.uponIn_defer,V];exact n _ _ _ g cap rfl hr (wN R) h ha
  have L:∀c,o.op≠.defer c:=λc S=>ajl ⟨c,S⟩
  have O:mw X ops ro.isNone K (o::r) kn gs fr w.heap=(match ni X o.op with
   | .W=>vcW X ops o kn gs fr w.heap λb y d U=>mw X ops ro.isNone K r y d b U
   | _=>aad X ops o kn gs fr w.heap λb d _=>mw X ops ro.isNone K r kn d b w.heap):=by
   grind [mw,mp]
  rw[O]at h;have Y:∀C:aad X ops o kn gs fr w.heap λb d _=>mw X ops ro.isNone K r kn d b w.heap,wpListIn (FR ro) 0 X.P ops Q (o::r) a w:=by
   intro C;let⟨v,f,b,d,E,F,J,Z⟩:=Gn G R C;unfold wpListIn
   split
   .rename_i k;refine zT L hr (K:=λv' U=>v'=v/\U=w.heap) (λu H m T=>?_) (λ_ _ _ hf=>hf.elim) (F.1 k w J)
    let⟨rfl,hh⟩:=T;exact sW G e M n I r kn d b _ H B (A _) Z m (by rw[hh];exact E)
   .rename_i k;rw[<-F.2 (by grind)];exact⟨λf _=>trivial,sW G e M n I r kn d b _ w B (A _) Z hr E⟩
  cases C:ni X o.op with
  | P=>simp only[C]at h;exact Y h
  | R=>simp only[C]at h;exact Y h
  | W=>
   simp only[C]at h;have E:=Gq G R h w rfl;unfold wpListIn
   split
   .rename_i k;rw[c_ k]at E;refine zT L hr (λu H m T=>?_) (λv H m C=>I v a H m ha C) E
    let⟨b,y,d,F,J⟩:=T;exact sW G e M n I r y d b _ H B (A _) J m F
   .rename_i k;rw[b_ k]at E;let⟨b,y,d,F,J⟩:=E;exact⟨λf _=>trivial,sW G e M n I r y d b _ w B (A _) J hr F⟩
theorem Gr(a:List Nat):∀(es:List Edge) (s i:Nat),(qY a es s).testBit i=true->s.testBit i=true\/∃e∈es,Region.binds .any e=true/\(e.on=i\/∃m,aT a e.on=some m/\m.testBit i=true)
 | [],s,i,h=>.inl h
 | e::r,s,i,h=>by
  simp only[qY]at h
  rcases Gr a r _ i h with c|⟨f,b,d⟩
  .grind
  grind
theorem Gs:∀(r:List Oper) (a:List Nat) (j:Nat),a.length<=j->∀o,r[j-a.length]?=some o->
  ∃b,b.length=j/\aT (lk r a) j=some (qY b o.after.toList 0)/\∀k,k<j->aT b k=aT (lk r a) k
 | [],a,j,_,o,h=>by simp at h
 | o'::r,a,j,hj,o,h=>by
  have pre:∀(r:List Oper) (a:List Nat) (k:Nat),k<a.length->aT (lk r a) k=aT a k:=by
   intro r
   induction r with
   | nil=>intro a k _;rfl
   | cons x r ih=>
    grind [lk,gL]
  by_cases h0:j=a.length
  .subst h0;simp at h;subst h;refine⟨a,rfl,?_,λk c=>?_⟩
   .simp only[lk];rw[pre r _ a.length eh,gL,List.getElem?_append_right (yb _)];simp
   grind
  .simp only[lk];refine Gs r (a++[qY a o'.after.toList 0]) j (by simp;omega) o ?_;rw[<-h];have:j-a.length=(j-(a++[qY a o'.after.toList 0]).length)+1:=by simp;omega
   rw[this,List.getElem?_cons_succ]
theorem ajH(ops:Array Oper):agl ops (bfB (lk ops.toList [])):=by
 intro j b h i hi;have d:ops.toList[j]?=some b:=by grind
 let⟨a,m,f,k⟩:=Gs ops.toList [] j eh b (by grind);unfold bfB at hi;rw[f]at hi;rcases Gr a _ 0 i hi with c|⟨e,n,hb,c⟩;.simp at c
 grind [gL,bfB]
theorem Gt(B:List Nat)(i:Nat):∀a:lj,qZ B i a=a.filter (λx=>!bfB B i x.1)
 | []=>rfl
 | (j,f)::r=>by simp only[qZ,q1x];cases h:bfB B i j <;> simp[Gt B i r]
theorem wO:∀(d:lj) (H:aC) (q:Prop),wJ d H q->(∀x∈d,qU x.2 H)/\q
 | [],_,_,h=>⟨λx a=>(by cases a),h⟩
 | (i,none)::r,H,q,h=>by let⟨b,c⟩:=wO r H q h;exact⟨λx a=>by rcases DO.1 a with rfl|a;exact trivial;exact b x a,c⟩
 | (i,some f)::r,H,q,h=>by let⟨b,c⟩:=wO r H q h.2;exact⟨λx a=>by rcases DO.1 a with rfl|a;exact h.1;exact b x a,c⟩
theorem Gu{f:Nat->Prop}:∀{l:List Nat},afN l f->l≠[]/\∀i∈l,f i
 | [],h=>h.elim
 | [i],h=>⟨eh,λj a=>by simp at a;subst a;exact h⟩
 | i::j::r,h=>by have b:f i/\afN (j::r) f:=h;let⟨_,c⟩:=Gu b.2;grind
def Xh(X:Ctx)(ops:Array Oper)(i:Nat):Bool:=match aT ops.toList i with|some o=>(match ni X o.op with|.W=>true|_=>false)|none=>false
theorem zZ:∀{l:List Nat} {i:Nat},mz X ops l=some i->i∈l/\Xh X ops i=false
 | [],_,h=>by cases h
 | j::r,i,h=>by simp only[mz]at h;cases hl:aT ops.toList j with
  | none=>simp only[hl]at h;let⟨a,b⟩:=zZ h;exact⟨DG _ a,b⟩
  | some o=>simp only[hl]at h;cases hk:ni X o.op with
   | W=>simp only[hk]at h;let⟨a,b⟩:=zZ h;exact⟨DG _ a,b⟩
   | P=>simp only[hk]at h;cases h;exact⟨D_,by simp[Xh,hl,hk]⟩
   | R=>simp only[hk]at h;cases h;exact⟨D_,by simp[Xh,hl,hk]⟩
theorem Aa:∀{l:List Nat},mz X ops l=none->∀i∈l,∀o,aT ops.toList i=some o->Xh X ops i=true
 | [],_,i,hi,_,_=>by cases hi
 | j::r,h,i,hi,o,ho=>by
  simp only[mz]at h
  cases hl:aT ops.toList j with
  | none=>
   simp only[hl]at h
   rcases DO.1 hi with rfl|hi
   .grind
   .exact Aa h i hi o ho
  | some o'=>
   simp only[hl]at h
   cases hk:ni X o'.op with
   | W=>
    simp only[hk]at h
    rcases DO.1 hi with rfl|hi
    .grind [Xh]
    .exact Aa h i hi o ho
   | P=>grind
   | R=>grind
theorem wP{K:Fr->aC->Prop}{w0:World}(I:∀f,bK f X.calls=true->gW X.P f)(hs:Region.noSelect ops=true){Inv:Act->Prop}(d:∀a o v,o∈ops.toList->Inv a->Inv (a.put o.dst v)) :
  ∀(n:Nat) (b:Array Bool) (s:lj) (kn:Kn) (gs:List Nat) (fr:Fr) (H:aC) (a:Act),qW ops b->(∀x∈s,qU x.2 H)->gm ops fr kn gs a->Inv a->pX X ops n b=true->
  sO X ops (lk ops.toList []) K n b s kn gs fr H->
  qV X.P w0 X.kp ops (Xh X ops) (bfB (lk ops.toList [])) (λQ M=>(∃c,Rel c Q/\K c M)/\Inv Q) n s b a H
 | 0,b,s,kn,gs,fr,H,a,hc,hp,R,ha,j,h=>by
  simp only[sO,zU,mp]at h
  split at h
  .rename_i S;exact⟨hp,S,⟨_,wN R,h⟩,ha⟩
  .exact h.elim
 | n+1,b,s,kn,gs,fr,H,a,hc,hp,R,ha,j,h=>by
  simp only[sO,mp,zV,zU]at h;simp only[pX,zU]at j
  cases hf:mz X ops (Region.ready .any ops b) with
  | some i=>
   simp only[hf]at h;simp only[hf,p_]at j;let⟨hi,u⟩:=zZ hf
   cases hl:aT ops.toList i with
   | none=>simp[hl]at h
   | some o=>
    simp only[hl]at h;let⟨v,f,c,e,B,D,F,G⟩:=Gn I R h;have k:ops[i]?=some o:=by grind [gL]
    have m:∀v,Inv (a.put o.dst v):=λv=>d a o v (by grind) ha
    refine afq (ajH ops) hs k u n s b a H hc (Region.free_spec k j.1) hi D (wP I hs d n _ _ kn e c H _ (hc.set hi) (λx N=>by rcases DO.1 N with rfl|N;exact F;exact hp x N) G (m _) j.2 B)
  | none=>
   simp only[hf]at h;simp only[hf,XU]at j;let⟨O,E⟩:=Gu h;refine⟨hp,λh0=>cS h0 O,λi hi w J T=>?_⟩
   have y:=E i hi
   cases hl:aT ops.toList i with
   | none=>simp[hl]at y
   | some o=>
    simp only[hl]at y;have k:ops[i]?=some o:=by grind [gL]
    have m:∀v,Inv (a.put o.dst v):=λv=>d a o v (by grind) ha
    have u:=Aa hf i hi o hl;have C:oz (Xh X ops) (bfB (lk ops.toList [])) i s=qZ (lk ops.toList []) i s:=by unfold oz;rw[c_ u,Gt]
    have B:=Gq I R y w J;simp only[k]
    split
    .rename_i t;rw[c_ t]at B;refine B.mono λv M j=>?_
     obtain⟨c,A,e,D,F⟩:=j;let⟨G,L⟩:=wO _ _ _ D;rw[C];exact wP I hs d n _ _ A e c M _ (hc.set hi) G F (m _) (j i hi) L
    .rename_i t;rw[b_ t]at B;let⟨c,A,e,D,F⟩:=B;let⟨G,L⟩:=wO _ _ _ D;rw[C];exact wP I hs d n _ _ A e c H _ (hc.set hi) G F (m _) (j i hi) L
end
end Go.Proofs.YtlmphkpeajnhjaaGreatDoor
