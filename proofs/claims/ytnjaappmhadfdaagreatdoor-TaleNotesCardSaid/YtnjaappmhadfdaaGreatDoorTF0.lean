/-
  Lemmas for TaleBack: part 0 of what it rests on. Conditions: none.
-/
import Derived.WalkKit
import Derived.RangeFuncRecord
import Derived.WalkSmall
import Derived.OrdersIn
import Derived.TacticsIn
import Derived.RangeFuncWrites
import Derived.KernelRfl
import Derived.RecoverIn
import Derived.Laws.AppendOwn
import Derived.MapKept
import Derived.Lib.SlKeysI
import Derived.Below
import Derived.Laws.StructEq
import Derived.ChangeKeysEq
import Derived.Maps.RangeRun
import Derived.Laws.MathBits
import Derived.Laws.MakeOwn
import Derived.ProofKit
import Derived.Carry
import Derived.OpenShut
import Derived.ChangeSame
import Derived.WideKeyEntry
import Derived.Test.YtnjaappmhadfdaaGreatDoorProg
import Derived.Shelf.Bytes.SlJoin
import Derived.Ground.SlbNamesProg
import Derived.Shelf.SlIterI.Nil
import Derived.Shelf.SortM.Plain
import Derived.Shelf.SortM.SortNone
import Derived.Shelf.SlMaps.Clone
import Derived.Ground.GgzProg
import Derived.Ground.SlgmProg
import Derived.Ground.SlmcProg
import Derived.Shelf.SlSortCmp.NoneTotal
import Derived.Shelf.Strings.OnBuilder
import Derived.Ground.SlsfProg
import Derived.Ground.NamesProg
import Derived.Shelf.Strconv.Itoa4
import Derived.Shelf.Strconv.ParseIntPublic10
import Derived.Shelf.Strings.Split
import Derived.Laws.BytesArg
import Derived.Laws.IdiomStrings
import Derived.Laws.Cover1
import Derived.Lib.Bytealg
import Derived.Deep.RegionHeld3
import Derived.Lib.ItoaLen
import Derived.Lib.ParseIntBTie
import Derived.Lib.SplitLaws
import Derived.Lib.AtoiErrMem
import Derived.Shelf.Strings.BuilderK
import Derived.ChangeArms
set_option linter.unusedVariables false
set_option linter.unusedSimpArgs false
set_option maxRecDepth 100000
set_option maxHeartbeats 16000000
open Go.IntKind (i64 u64 i8 u8 i32 u32 i16 u16)
abbrev Vz:=@if_neg
abbrev V0:=@absurd
abbrev V1:=@if_pos
abbrev V2:=@of_decide_eq_false
abbrev V3:=@of_decide_eq_true
abbrev V4:=@Bool.and_eq_true
abbrev V5:=@decide_eq_true_eq
abbrev V6:=@List.length_append
abbrev V7:=@List.getElem_mem
abbrev V8:=@List.mem_map
abbrev V9:=@List.mem_cons
abbrev VA:=@List.length_cons
abbrev VB:=@Nat.zero_add
abbrev VD:=@Nat.le_refl
abbrev VE:=@Nat.zero_le
abbrev VF:=@List.mem_cons_of_mem
abbrev VG:=@decide_eq_false_iff_not
abbrev VH:=@List.mem_singleton
abbrev VI:=@List.mem_cons_self
abbrev VJ:=@List.mem_append
abbrev VK:=@List.all_eq_true
abbrev VL:=@Int.toNat_natCast
abbrev VM:=@List.take_of_length_le
abbrev VN:=@Bool.or_eq_false_iff
abbrev VO:=@List.take_length
abbrev VP:=@List.length_map
abbrev VQ:=@List.append_nil
abbrev VR:=@List.map_cons
abbrev VS:=@List.map_append
abbrev VT:=@Option.map_some
abbrev VU:=@List.take_succ_eq_append_getElem
abbrev VV:=@List.length_nil
abbrev VW:=@List.mem_of_getElem?
abbrev VX:=@List.append_assoc
abbrev VY:=@Bool.or_eq_true
abbrev VZ:=@List.nil_append
abbrev Wa:=@Bool.not_eq_true'
abbrev Wb:=@List.length_drop
abbrev Wc:=@Int.le_refl
abbrev Wd:=@Bool.eq_iff_iff
abbrev We:=@List.take_add_one
abbrev Wf:=@Nat.mul_le_mul_right
abbrev Wg:=@List.map_map
abbrev Wh:=@List.mem_range
abbrev Wi:=@List.eq_nil_of_length_eq_zero
abbrev Wj:=@Option.toList_some
abbrev Wk:=@Nat.add_zero
abbrev Wl:=@List.pairwise_cons
abbrev Wm:=@List.take_append_drop
abbrev Wn:=@Nat.mul_one
abbrev Wo:=@List.flatMap_cons
abbrev Wp:=@List.ext_getElem?
abbrev Wq:=@List.filter_cons
abbrev Ws:=@List.mem_filter
abbrev Wt:=@Nat.add_mul
abbrev Wu:=@List.getElem_of_mem
abbrev Wv:=@List.drop_eq_getElem_cons
abbrev Ww:=@List.mem_of_mem_take
abbrev Wx:=@List.set_getElem_self
abbrev Wy:=@Nat.mul_le_mul_left
abbrev Wz:=@Nat.eq_of_beq_eq_true
abbrev W0:=@Nat.lt_or_ge
abbrev W1:=@List.nodup_cons
abbrev W2:=@Nat.le_trans
abbrev W3:=@List.mem_of_mem_drop
abbrev W4:=@Nat.mod_lt
abbrev W5:=@List.length_eq_zero_iff
abbrev W6:=@Array.getD_eq_getD_getElem?
abbrev W7:=@List.length_take
abbrev W8:=@Bool.not_eq_false'
abbrev W9:=@List.take_zero
abbrev WA:=@Bool.eq_false_iff
abbrev WB:=@List.not_mem_nil
abbrev WE:=@Bool.false_or
abbrev WF:=@List.cons_append
abbrev WG:=@Nat.zero_mul
abbrev WH:=@Nat.div_lt_iff_lt_mul
abbrev WI:=@decide_eq_true
abbrev WJ:=@List.ext_getElem
abbrev WK:=@List.mem_flatMap
abbrev WL:=@List.set_set
abbrev WM:=@Array.length_toList
abbrev WN:=@List.map_congr_left
abbrev WO:=@List.length_singleton
abbrev WP:=@Nat.two_pow_pos
abbrev WQ:=@Bool.false_eq_true
abbrev WR:=@Nat.mod_eq_of_lt
abbrev WS:=@List.take_succ_cons
abbrev WT:=@List.length_pos_iff
abbrev WU:=@Nat.add_sub_cancel_left
abbrev WV:=@List.set_cons_zero
abbrev WW:=@List.mem_or_eq_of_mem_set
abbrev WX:=@Int.eq_ofNat_of_zero_le
abbrev WY:=@Option.isSome_iff_exists
abbrev WZ:=@Nat.two_pow_add_eq_or_of_lt
abbrev Ya:=@Int.fdiv_eq_ediv_of_nonneg
namespace Go.Proofs.YtnjaappmhadfdaaGreatDoor
open Go
theorem zt{α : Type}{a : Option α}{b c : α}(h : a = some b)(e : b = c := by kernel_rfl) : a = some c := h.trans (congrArg some e)
theorem nO{c : Prop}{_ : Decidable c}{α : Type}{a b : α}(h : ¬ c := by omega) : ite c a b = b := Vz h
theorem pO{c : Prop}{_ : Decidable c}{α : Type}{a b : α}(h : c := by omega) : ite c a b = a := V1 h
abbrev lt0 : ByteArray := ⟨#[0,1,2,2,3,3,3,3,4,4,4,4,4,4,4,4,5,5,5,5,5,5,5,5,5,5,5,5,5,5,5,5,6,6,6,6,6,6,6,6,6,6,6,6,6,6,6,6,6,6,6,6,6,6,6,6,6,6,6,6,6,6,6,6,7,7,7,7,7,7,7,7,7,7,7,7,7,7,7,7,7,7,7,7,7,7,7,7,7,7,7,7,7,7,7,7,7,7,7,7,7,7,7,7,7,7,7,7,7,7,7,7,7,7,7,7,7,7,7,7,7,7,7,7,7,7,7,7,8,8,8,8,8,8,8,8,8,8,8,8,8,8,8,8,8,8,8,8,8,8,8,8,8,8,8,8,8,8,8,8,8,8,8,8,8,8,8,8,8,8,8,8,8,8,8,8,8,8,8,8,8,8,8,8,8,8,8,8,8,8,8,8,8,8,8,8,8,8,8,8,8,8,8,8,8,8,8,8,8,8,8,8,8,8,8,8,8,8,8,8,8,8,8,8,8,8,8,8,8,8,8,8,8,8,8,8,8,8,8,8,8,8,8,8,8,8,8,8,8,8,8,8,8,8,8,8]⟩
abbrev aC:=Array Obj
abbrev KQ:=Value->aC->Prop
abbrev Xa:=Option Addr
abbrev Xb:=List Value
abbrev Eq:=ByteArray
def aM(H:aC)(b off:Nat):Option Value:=
 match H[b]? with
 | some (.cells c _ _)=>c[off]?
 | _=>none
def l8(H:aC)(b off:Nat):Bool:=
 match H[b]? with
 | some (.cells _ _ (lo,hi))=>lo<=off&&off<hi
 | _=>false
def gT(H:aC)(b off:Nat)(v:Value):aC:=
 H.modify b λ
  | .cells c elem frozen=>.cells (c.setIfInBounds off v) elem frozen
  | o=>o
structure bR(w w':World):Prop where
 os:w'.os=w.os
 tape:w'.tape=w.tape
 output:w'.output=w.output
inductive cP where
 | int (k:IntKind)|bool|str|ptr|slice|map|raw|fnv|adr
 | vec (k:IntKind) (n:Nat)
inductive Sh where
 | one (l:cP)
 | agg (ls:List cP)
def bU(k:IntKind)(f:Nat->Int):Nat->Nat->Xb
 | 0,_=>[]
 | n+1,i=>.int k (f i)::bU k f n (i+1)
def cP.all:cP->(Value->Prop)->Prop
 | .int k,K=>∀n:Int,K (.int k n)
 | .bool,K=>∀b:Bool,K (.bool b)
 | .str,K=>∀s:Eq,K (.string s)
 | .ptr,K=>∀a:Xa,K (.pointer a)
 | .slice,K=>∀(a:Xa) (n c:Nat),K (.slice a n c)
 | .map,K=>∀r:Option Nat,K (.map r)
 | .raw,K=>∀v:Value,K v
 | .adr,K=>∀b o:Nat,K (.pointer (some ⟨b,o,none⟩))
 | .fnv,K=>∀(f:FuncId) (cap:Xb),K (.func (.func f) ⟨[]⟩ ⟨cap⟩)
 | .vec _ _,_=>True
def cP.ex:cP->(Value->Prop)->Prop
 | .int k,K=>∃n:Int,K (.int k n)
 | .bool,K=>∃b:Bool,K (.bool b)
 | .str,K=>∃s:Eq,K (.string s)
 | .ptr,K=>∃a:Xa,K (.pointer a)
 | .slice,K=>∃(a:Xa) (n c:Nat),K (.slice a n c)
 | .map,K=>∃r:Option Nat,K (.map r)
 | .raw,K=>∃v:Value,K v
 | .adr,K=>∃b o:Nat,K (.pointer (some ⟨b,o,none⟩))
 | .fnv,K=>∃(f:FuncId) (cap:Xb),K (.func (.func f) ⟨[]⟩ ⟨cap⟩)
 | .vec _ _,_=>False
def allLs:List cP->(Xb->Prop)->Prop
 | [],K=>K []
 | l::r,K=>l.all λv=>allLs r λvs=>K (v::vs)
def exLs:List cP->(Xb->Prop)->Prop
 | [],K=>K []
 | .vec k n::r,K=>∃f:Nat->Int,exLs r λvs=>K (bU k f n 0++vs)
 | l::r,K=>l.ex λv=>exLs r λvs=>K (v::vs)
def Sh.all:Sh->(Value->Prop)->Prop
 | .one l,K=>l.all K
 | .agg ls,K=>allLs ls λvs=>K (.agg ⟨vs⟩)
def Sh.ex:Sh->(Value->Prop)->Prop
 | .one l,K=>l.ex K
 | .agg ls,K=>exLs ls λvs=>K (.agg ⟨vs⟩)
def pm:List Sh->(Xb->Prop)->Prop
 | [],K=>K []
 | s::r,K=>s.ex λv=>pm r λvs=>K (v::vs)
def kH:List Sh->(Value->Prop)->Prop
 | [],K=>K (.tuple #[])
 | [s],K=>s.ex K
 | s::t::r,K=>pm (s::t::r) λvs=>K (.tuple ⟨vs⟩)
def cP.fn:cP->Type->Type
 | .int _,T=>Int->T
 | .bool,T=>Bool->T
 | .str,T=>Eq->T
 | .ptr,T=>Xa->T
 | .slice,T=>Xa->Nat->Nat->T
 | .map,T=>Option Nat->T
 | .raw,T=>Value->T
 | .fnv,T=>FuncId->Xb->T
 | .adr,T=>Nat->Nat->T
 | .vec _ _,T=>T
def fnLs:List cP->Type->Type
 | [],T=>T
 | l::r,T=>l.fn (fnLs r T)
def Sh.fn:Sh->Type->Type
 | .one l,T=>l.fn T
 | .agg ls,T=>fnLs ls T
abbrev dj:=List (Nat×Sh)
def JT(T:Type):dj->Type
 | []=>T
 | (_,s)::r=>s.fn (JT T r)
def cP.app:(l:cP)->{T:Type}->l.fn T->Value->Option T
 | .int k,_,f,.int k' n=>if k=k' then some (f n) else none
 | .bool,_,f,.bool b=>some (f b)
 | .str,_,f,.string s=>some (f s)
 | .ptr,_,f,.pointer a=>some (f a)
 | .slice,_,f,.slice a n c=>some (f a n c)
 | .map,_,f,.map r=>some (f r)
 | .raw,_,f,v=>some (f v)
 | .fnv,_,f,.func (.func g) ⟨[]⟩ ⟨cap⟩=>some (f g cap)
 | .adr,_,f,.pointer (some ⟨b,o,none⟩)=>some (f b o)
 | _,_,_,_=>none
def qL:(ls:List cP)->{T:Type}->fnLs ls T->Xb->Option T
 | [],_,f,[]=>some f
 | l::r,_,f,v::vs=>match l.app (T:=fnLs r _) f v with|some g=>qL r g vs|none=>none
 | _,_,_,_=>none
def Sh.app:(s:Sh)->{T:Type}->s.fn T->Value->Option T
 | .one l,_,f,v=>l.app f v
 | .agg ls,_,f,.agg cs=>qL ls f cs.toList
 | .agg _,_,_,_=>none
inductive SV where
 | p (v:Value)
 | g (j:Nat) (b:Bool) (v:Value)
 | x
abbrev Fr:=List SV
def aI{α:Type}:List α->Nat->Option α
 | [],_=>none
 | a::_,0=>some a
 | _::r,n+1=>aI r n
def dP{α:Type}:List α->Nat->α->List α
 | [],_,_=>[]
 | _::r,0,x=>x::r
 | a::r,n+1,x=>a::dP r n x
def Fr.put(fr:Fr)(d:Option Tmp)(s:SV):Fr:=match d with|some t=>dP fr t s|none=>fr
def fG(ts:List Nat)(fr:Fr):Fr:=ts.foldl (λf t=>dP f t .x) fr
def kI(fr:Fr):Fr:=fr.map fun|.g _ _ _=>.x|s=>s
def ge(fr:Fr)(t:Nat):Option Value:=match aI fr t with|some (.p v)=>some v|_=>none
def l9:(L:dj)->{T:Type}->JT T L->Fr->Option T
 | [],_,j,_=>some j
 | (t,s)::r,T,j,fr=>match ge fr t with
  | some v=>match s.app (T:=JT T r) j v with
   | some j'=>l9 r j' fr
   | none=>none
  | none=>none
def iO(L:dj)(J:JT (aC->Prop) L)(fr:Fr)(H:aC):Prop:=match l9 L J fr with|some p=>p H|none=>False
def gu:Fr->(Fr->Prop)->Prop
 | [],k=>k []
 | .p v::r,k=>gu r λr'=>k (.p v::r')
 | .g j b v::r,k=>gu r λr'=>k (.g j b v::r')
 | .x::r,k=>gu r λr'=>k (.x::r')
theorem kJ:∀(fr:Fr) (k:Fr->Prop),gu fr k=k fr
 | [],_=>rfl
 | .p _::r,k=>by rw[gu,kJ r]
 | .g _ _ _::r,k=>by rw[gu,kJ r]
 | .x::r,k=>by rw[gu,kJ r]
def lA(ds:List Nat):Nat->Fr->Fr
 | _,[]=>[]
 | i,s::r=>(match memD i ds with|true=>.x|false=>s)::lA ds (i+1) r
where memD (n:Nat):List Nat->Bool
 | []=>false
 | m::r=>match Nat.beq n m with|true=>true|false=>memD n r
def allJ:dj->Fr->(Fr->Prop)->Prop
 | [],fr,K=>K fr
 | (t,s)::r,fr,K=>s.all λv=>gu (dP fr t (.p v)) λfr'=>allJ r fr' K
def mL(P:Program)(s:Sem Value)(v:Value):Prop:=∀w,s.run P w=.ok v w
def fH(P:Program)(op:BinOp)(t:TypeId)(x y:Value)(b:Bool):Prop:=∀ox oy w,(do eqGuard op t ox oy x y;binOp op t x y:Sem Value).run P w=.ok (.bool b) w
def sx(P:Program)(f:FuncId)(args:Array Value)(v:Value):Prop:=∀w,(callFunc f args).run P w=.ok (.value v) w
def cZ(P:Program)(s:Sem Value)(H:aC)(v:Value):Prop:=∀w,w.heap=H->s.run P w=.ok v w
@[irreducible] def bS {α:Type} (P:Program) (s:Sem α) (H:aC) (K:α->aC->Prop):Prop:=
 ∀w,w.heap=H->∃a w',s.run P w=.ok a w'/\bR w w'/\K a w'.heap
def Fin(w:World)(K:KQ):Ending->World->Prop
 | .returned v,w'=>bR w w'/\K v w'.heap
 | .panicked _,_=>False
 | .outgrown,_=>False
@[irreducible] def gU (P:Program) (f:FuncId) (args:Array Value) (H:aC) (K:KQ):Prop:=
 ∀w,w.heap=H->Calls P f args w (Fin w K)
def gV(w:World)(K KP:KQ):Ending->World->Prop
 | .returned v,w'=>bR w w'/\K v w'.heap
 | .panicked chain,w'=>∃v,chain=[{ v,recovered:=false }]/\bR w w'/\KP v w'.heap
 | .outgrown,_=>False
@[irreducible] def mM (P:Program) (f:FuncId) (args:Array Value) (H:aC) (K KP:KQ):Prop:=
 ∀w,w.heap=H->Calls P f args w (gV w K KP)
def bO(P:Program)(f:FuncId)(args:Array Value)(H:aC)(v:Value):Prop:=gU P f args H λv' H'=>v'=v/\H'=H
@[irreducible] def eK (P:Program) (l:Nat) (vs:Xb) (H:aC) (K:KQ):Prop:=
 ∀w,w.heap=H->∃fn tmps assign body,(Instr.yield l ⟨vs⟩).run P w=.ok (.round l fn tmps assign body) w/\RoundIn Fence.wide 0 P l fn tmps assign body w (Fin w K)
theorem bS.at{α:Type}{P:Program}{s:Sem α}{H:aC}{K:α->aC->Prop}(h:bS P s H K):∀w,w.heap=H->∃a b,s.run P w=.ok a b/\bR w b/\K a b.heap:=by grind [bS]
theorem bS.mk{α:Type}{P:Program}{s:Sem α}{H:aC}{K:α->aC->Prop}(h:∀w,w.heap=H->∃a b,s.run P w=.ok a b/\bR w b/\K a b.heap):bS P s H K:=by unfold bS;exact h
theorem gU.at{P:Program}{f:FuncId}{args:Array Value}{H:aC}{K:KQ}(h:gU P f args H K):∀w,w.heap=H->Calls P f args w (Fin w K):=by unfold gU at h;exact h
theorem gU.mk{P:Program}{f:FuncId}{args:Array Value}{H:aC}{K:KQ}(h:∀w,w.heap=H->Calls P f args w (Fin w K)):gU P f args H K:=by unfold gU;exact h
theorem mM.at{P:Program}{f:FuncId}{args:Array Value}{H:aC}{K KP:KQ}(h:mM P f args H K KP):∀w,w.heap=H->Calls P f args w (gV w K KP):=by unfold mM at h;exact h
theorem mM.mk{P:Program}{f:FuncId}{args:Array Value}{H:aC}{K KP:KQ}(h:∀w,w.heap=H->Calls P f args w (gV w K KP)):mM P f args H K KP:=by unfold mM;exact h
theorem eK.at{P:Program}{l:Nat}{vs:Xb}{H:aC}{K:KQ}(h:eK P l vs H K):∀w,w.heap=H->∃fn tmps assign body,(Instr.yield l ⟨vs⟩).run P w=.ok (.round l fn tmps assign body) w/\RoundIn Fence.wide 0 P l fn tmps assign body w (Fin w K):=by grind [eK]
theorem eK.mk{P:Program}{l:Nat}{vs:Xb}{H:aC}{K:KQ}(h:∀w,w.heap=H->∃fn tmps assign body,(Instr.yield l ⟨vs⟩).run P w=.ok (.round l fn tmps assign body) w/\RoundIn Fence.wide 0 P l fn tmps assign body w (Fin w K)):eK P l vs H K:=by unfold eK;exact h
def fq(P:Program)(f:FuncId):Prop:=∃fn,P.funcs[f]?=some fn/\fn.body.isNone=false/\(fn.name == "runtime.NumGoroutine")=false
inductive DM where
 | mark (r:Nat)
 | fn (g:FuncId) (cap:Xb)
structure bX where
 P:Program
 quiet:List FuncId
 calls:List FuncId
 nexts:List (Nat×Sh×Sh):=[]
 pan:List FuncId:=[]
 ext:List FuncId:=[]
 kp:KQ:=λ_ _=>False
 nop:Bool:=false
def bX.nx(X:bX)(l:List (Nat×Sh×Sh)):bX:={ X with nexts:=l }
def nextOf:List (Nat×Sh×Sh)->Option Tmp->Option (Sh×Sh)
 | _,none=>none
 | [],some _=>none
 | (t,k,x)::r,some d=>match Nat.beq t d with|true=>some (k,x)|false=>nextOf r (some d)
inductive Kind where
 | P|R|W
 deriving DecidableEq
def bK(n:Nat):List Nat->Bool
 | []=>false
 | m::r=>Nat.beq n m||bK n r
def leafOf:TypeDesc->Option cP
 | .bool=>some .bool
 | .int k=>some (.int k)
 | .string=>some .str
 | .pointer _=>some .ptr
 | .slice _=>some .slice
 | .map _ _=>some .map
 | .func _ _ _=>some .fnv
 | .interface _=>some .raw
 | _=>none
def sy(P:Program):Nat->TypeId->Option (List cP)
 | 0,_=>none
 | n+1,t=>match P.underlying t with
  | some (.struct fs)=>fs.toList.foldr (λf acc=>match sy P n f.type,acc with|some a,some b=>some (a++b)|_,_=>none) (some [])
  | some (.array k e)=>match sy P n e with
   | some a=>(match a,Nat.ble 16 k with|[.int ki],true=>some [.vec ki k]|a,_=>some ((List.replicate k a).flatten))
   | none=>none
  | some d=>match leafOf d with|some l=>some [l]|none=>none
  | none=>none
def aggT(P:Program)(t:TypeId):Bool:=match P.underlying t with|some (.struct _)|some (.array _ _)=>true|_=>false
def pp(P:Program)(t:TypeId):Option Sh:=
 match aggT P t,sy P 9 t with
 | true,some ls=>some (.agg ls)
 | false,some [l]=>some (.one l)
 | _,_=>none
def exT(P:Program)(t:TypeId)(K:Value->Prop):Prop:=match pp P t with|some s=>s.ex K|none=>False
def exTL(P:Program)(t:TypeId)(K:Value->Prop):Prop:=match P.underlying t with|some (.func _ _ _)=>∃v:Value,K v|_=>exT P t K
def uF(P:Program)(t:TypeId)(K:Xb->Prop):Prop:=match sy P 9 t with|some ls=>exLs ls K|none=>False
def bV(H:aC)(b:Nat):Nat->Xb->Prop
 | _,[]=>True
 | o,[v]=>aM H b o=some v
 | o,v::r=>aM H b o=some v/\bV H b (o+1) r
abbrev gt:Option Prop->Prop->Prop
 | none,p=>p
 | some c,p=>c->p
def bA{α:Type}(o:Option α)(K:α->Prop):Prop:=match o with|some v=>K v|none=>False
def aX(op:BinOp)(k:IntKind)(x y:Int):Int:=
 match op with
 | .and=>k.wrap (BitVec.ofInt k.bits x &&& BitVec.ofInt k.bits y).toNat
 | .or=>k.wrap (BitVec.ofInt k.bits x ||| BitVec.ofInt k.bits y).toNat
 | .xor=>k.wrap (BitVec.ofInt k.bits x^^^BitVec.ofInt k.bits y).toNat
 | _=>k.wrap (BitVec.ofInt k.bits x &&& ~~~BitVec.ofInt k.bits y).toNat
def xD(op:BinOp)(k:IntKind)(x y:Int)(c:Option Prop)(K:Value->Prop):Prop:=
 match op with
 | .add=>K (.int k (k.wrap (x+y)))
 | .sub=>K (.int k (k.wrap (x-y)))
 | .mul=>K (.int k (k.wrap (x*y)))
 | .quo=>gt c (y≠0)/\K (.int k (k.wrap (x.tdiv y)))
 | .rem=>gt c (y≠0)/\K (.int k (x.tmod y))
 | .and=>K (.int k (aX .and k x y))
 | .or=>K (.int k (aX .or k x y))
 | .xor=>K (.int k (aX .xor k x y))
 | .andNot=>K (.int k (aX .andNot k x y))
 | .eql=>K (.bool (decide (x=y)))
 | .neq=>K (.bool (!decide (x=y)))
 | .lss=>K (.bool (decide (x<y)))
 | .leq=>K (.bool (decide (x<=y)))
 | .gtr=>K (.bool (decide (y<x)))
 | .geq=>K (.bool (decide (y<=x)))
 | .shl=>gt c (0<=y)/\K (.int k (k.wrap (x*2^(min y.toNat k.bits))))
 | .shr=>gt c (0<=y)/\K (.int k (x.fdiv (2^(min y.toNat k.bits))))
def xE(op:BinOp)(x y:Eq)(c:Option Prop)(K:Value->Prop):Prop:=
 match op with
 | .add=>gt c (((x.size+y.size:Nat):Int)<=i64.max)/\K (.string (x++y))
 | .eql=>K (.bool (x.toList == y.toList))
 | .neq=>K (.bool (!(x.toList == y.toList)))
 | .lss=>K (.bool (Op.bytesLess x.toList y.toList))
 | .leq=>K (.bool (Op.bytesLess x.toList y.toList||x.toList == y.toList))
 | .gtr=>K (.bool (!(Op.bytesLess x.toList y.toList||x.toList == y.toList)))
 | .geq=>K (.bool (!Op.bytesLess x.toList y.toList))
 | _=>False
def pq(d:Option TypeDesc)(x y:Value):Option Bool:=
 match d,x,y with
 | some .bool,.bool a,.bool b=>some (a == b)
 | some (.pointer _),.pointer a,.pointer none=>some a.isNone
 | some (.slice _),.slice a _ _,.slice none _ _=>some a.isNone
 | some (.map _ _),.map a,.map none=>some a.isNone
 | some (.func _ _ _),.func _ _ _,.nilFunc=>some false
 | some (.func _ _ _),.nilFunc,.nilFunc=>some true
 | _,_,_=>none
def binP(P:Program)(op:BinOp)(t:TypeId)(x y:Value)(c:Option Prop)(K:Value->Prop):Prop:=
 match x,y with
 | .int k a,.int k' b=>if k=k' then xD op k a b c K else (match op with
  | .shl=>gt c (0<=b)/\K (.int k (k.wrap (a*2^(min b.toNat k.bits))))
  | .shr=>gt c (0<=b)/\K (.int k (a.fdiv (2^(min b.toNat k.bits))))
  | _=>False)
 | .string a,.string b=>xE op a b c K
 | x,y=>match op,pq (P.underlying t) x y with
  | .eql,some b=>K (.bool b)
  | .neq,some b=>K (.bool !b)
  | op,none=>∃b:Bool,gt c (fH P op t x y b)/\K (.bool b)
  | _,_=>False
def ifaceT(P:Program)(t:TypeId):Bool:=match P.underlying t with|some (.interface _)=>true|_=>false
def binQ(P:Program)(op:BinOp)(t:TypeId)(x y:Value)(c:Option Prop)(K:Value->Prop):Prop:=
 match ifaceT P t with
 | true=>∃b:Bool,gt c (fH P op t x y b)/\K (.bool b)
 | false=>binP P op t x y c K
def ifaceM(P:Program)(t:TypeId):Bool:=match P.underlying t with|some (.interface ms)=>!ms.isEmpty|_=>false
def EqRunY(P:Program)(op:BinOp)(t:TypeId)(oy:Operand)(x y:Value)(b:Bool):Prop:=∀ox w,(do eqGuard op t ox oy x y;binOp op t x y:Sem Value).run P w=.ok (.bool b) w
def binY(P:Program)(op:BinOp)(t:TypeId)(oy:Operand)(x y:Value)(c:Option Prop)(K:Value->Prop):Prop:=
 match ifaceM P t with
 | true=>∃b:Bool,gt c (EqRunY P op t oy x y b)/\K (.bool b)
 | false=>binQ P op t x y c K
def unP(op:UnOp)(x:Value)(K:Value->Prop):Prop:=
 match op,x with
 | .neg,.int k n=>K (.int k (k.wrap (0-n)))
 | .xor,.int k n=>K (.int k (aX .xor k (if k.signed then -1 else k.max) n))
 | .not,.bool b=>K (.bool !b)
 | _,_=>False
def pu(c:Bool)(a b:Value):Value:=
 match a,b with
 | .bool x,.bool y=>.bool (cond c x y)
 | a,b=>cond c a b
def sC(b d:Operand)(r:Bool×Value×Value):Value:=
 match b with
 | .const (.bool true)=>(match r.2.2 with|.bool y=>.bool (r.1||y)|_=>pu r.1 r.2.1 r.2.2)
 | _=>(match d with
  | .const (.bool false)=>(match r.2.1 with|.bool x=>.bool (r.1&&x)|_=>pu r.1 r.2.1 r.2.2)
  | _=>pu r.1 r.2.1 r.2.2)
def uG(o:Nat)(n:Int):Nat->Nat
 | 1=>o+n.toNat
 | s=>o+n.toNat*s
theorem B9(o:Nat)(n:Int)(s:Nat):uG o n s=o+n.toNat*s:=by grind [uG]
def nH(P:Program)(t:TypeId)(q:Prop):Prop:=match P.cellsOf t with|0=>False|_+1=>q
def bM(a:Xa)(l m size:Nat):Xa:=if m=l then a else a.map (·.add (l*size))
def gW(x:Value)(K:Int->Prop):Prop:=match x with|.int _ n=>K n|_=>False
def xF(P:Program)(t:TypeId)(x:Value)(lo hi:Option Value)(c:Option Prop)(K:Value->Prop):Prop:=
 match P.underlying t,x with
 | some .string,.string s=>
  let go (l h:Int):Prop:=gt c (0<=l/\l<=h/\h<=(s.size:Int))/\K (.string (s.extract l.toNat h.toNat))
  match lo,hi with
  | some l,some h=>gW l λl=>gW h λh=>go l h
  | some l,none=>gW l λl=>go l s.size
  | none,some h=>gW h λh=>go 0 h
  | none,none=>go 0 s.size
 | some (.slice e),.slice a len cap=>
  let go (l h:Int):Prop:=gt c (0<=l/\l<=h/\h<=(cap:Int))/\K (.slice (bM a l.toNat cap (P.cellsOf e)) (h.toNat-l.toNat) (cap-l.toNat))
  nH P e <| match lo,hi with
  | some l,some h=>gW l λl=>gW h λh=>go l h
  | some l,none=>gW l λl=>go l len
  | none,some h=>gW h λh=>go 0 h
  | none,none=>go 0 len
 | some (.array n e),.pointer (some a)=>
  let go (l h:Int):Prop:=gt c (0<=l/\l<=h/\h<=(n:Int))/\K (.slice (bM (some a) l.toNat n (P.cellsOf e)) (h.toNat-l.toNat) (n-l.toNat))
  nH P e <| match lo,hi with
  | some l,some h=>gW l λl=>gW h λh=>go l h
  | some l,none=>gW l λl=>go l n
  | none,some h=>gW h λh=>go 0 h
  | none,none=>go 0 n
 | _,_=>False
def xG(P:Program)(t:TypeId)(x l h m:Value)(c:Option Prop)(K:Value->Prop):Prop:=
 match P.underlying t,x,l,h,m with
 | some (.slice e),.slice a _ cap,.int _ l,.int _ h,.int _ m=>nH P e <| gt c (0<=l/\l<=h/\h<=m/\m<=(cap:Int))/\K (.slice (bM a l.toNat m.toNat (P.cellsOf e)) (h.toNat-l.toNat) (m.toNat-l.toNat))
 | _,_,_,_,_=>False
def bAt(s:Eq)(i:Nat):Int:=(((s.data[i]?).getD 0).toNat:Int)
def xH(P:Program)(t:TypeId)(x i:Value)(c:Option Prop)(K:Value->Prop):Prop:=
 match P.underlying t,x,i with
 | some .string,.string s,.int _ n=>gt c (0<=n/\n<(s.size:Int))/\K (.int .u8 (bAt s n.toNat))
 | some (.array _ e),x,i=>match pp P e with
  | some s=>s.ex λv=>gt c (mL P (Instr.index t x i) v)/\K v
  | none=>False
 | _,_,_=>False
def xI(P:Program)(t:TypeId)(x i:Value)(c:Option Prop)(K:Value->Prop):Prop:=
 match P.underlying t,x,i with
 | some (.slice e),.slice a len _,.int _ n=>nH P e <| gt c (0<=n/\n<(len:Int))/\∃b o:Nat,gt c (a=some ⟨b,o,none⟩)/\K (.pointer (some ⟨b,uG o n (P.cellsOf e),none⟩))
 | some (.array len e),.pointer (some ⟨b,o,none⟩),.int _ n=>nH P e <| gt c (0<=n/\n<(len:Int))/\K (.pointer (some ⟨b,uG o n (P.cellsOf e),none⟩))
 | _,_,_=>False
def xJ(P:Program)(t:TypeId)(x:Value)(f:Nat)(K:Value->Prop):Prop:=
 match P.underlying t,x with
 | some (.struct fs),.pointer (some ⟨b,o,none⟩)=>match aI fs.toList f with
  | some fd=>nH P fd.type <| K (.pointer (some ⟨b,o+fd.offset,none⟩))
  | none=>False
 | _,_=>False
def fieldP(P:Program)(t:TypeId)(x:Value)(f:Nat)(c:Option Prop)(K:Value->Prop):Prop:=
 match P.underlying t with
 | some (.struct fs)=>match aI fs.toList f with
  | some fd=>match pp P fd.type with
   | some s=>s.ex λu=>gt c (mL P (Instr.field t x f) u)/\K u
   | none=>False
  | none=>False
 | _=>False
def aW:Xa->Nat
 | some a=>a.block
 | none=>0
def aT:Xa->Nat
 | some a=>a.off
 | none=>0
def isA:Xa->Prop
 | some ⟨_,_,none⟩=>True
 | _=>False
def NN(a:Xa)(p:Prop):Prop:=match a with
 | some ⟨_,_,none⟩=>p
 | _=>False
theorem isA_iff{a:Xa}:isA a↔a=some ⟨aW a,aT a,none⟩:=by
 rcases a with _|⟨b,o,_|s⟩ <;> simp[isA,aW,aT]
theorem xK{a:Xa}{p:Prop}:NN a p↔a=some ⟨aW a,aT a,none⟩/\p:=by
 rcases a with _|⟨b,o,_|s⟩ <;> simp[NN,aW,aT]
def uH(x:Value)(c:Option Prop)(K:Value->Prop):Prop:=
 match x with
 | .pointer a=>(match c with
  | none=>NN a (K (.pointer (some ⟨aW a,aT a,none⟩)))
  | some c=>(c->isA a)/\K (.pointer (some ⟨aW a,aT a,none⟩)))
 | .func (.func f) a b=>K (.func (.func f) a b)
 | .func (.yield f) a b=>K (.func (.yield f) a b)
 | _=>False
def sD(P:Program)(t:TypeId):Option (Xb):=match P.info? t with|some i=>(match i.zero with|some v=>some v.cells.toList|none=>none)|none=>none
def offOf(P:Program):List Field->Nat->Option (Nat×Nat)
 | fs,i=>match aI fs i with|some f=>some (f.offset,P.cellsOf f.type)|none=>none
def uI:Xb->Nat->Xb->Xb
 | cs,_,[]=>cs
 | cs,o,v::r=>uI (dP cs o v) (o+1) r
def pw(place:Nat->Option (Nat×Nat)):Xb->List (Nat×Value)->Option (Xb)
 | cells,[]=>some cells
 | cells,(i,v)::rest=>
  match place i with
  | none=>none
  | some (off,size)=>if v.cells.toList.length=size/\off+size<=cells.length then pw place (uI cells off v.cells.toList) rest else none
def uJ(P:Program):List Field->Bool
 | []=>true
 | f::r=>(P.info? f.type).isSome&&uJ P r
def xL(P:Program)(t:TypeId)(parts:List (Nat×Value)):Option (Xb):=
 match sD P t,P.underlying t with
 | some z,some (.struct fs)=>if uJ P fs.toList=true then pw (offOf P fs.toList) z parts else none
 | some z,some (.array _ e)=>match P.info? e with
  | some _=>pw (λi=>some (i*P.cellsOf e,P.cellsOf e)) z parts
  | none=>none
 | _,_=>none
def lB(z:Xb):Nat->Xb
 | 0=>[]
 | n+1=>z++lB z n
def qM(P:Program)(e:TypeId)(len:Nat)(parts:List (Nat×Value)):Option (Xb):=
 match sD P e with
 | some z=>if z.length=P.cellsOf e then pw (λi=>some (i*P.cellsOf e,P.cellsOf e)) (lB z len) parts else none
 | none=>none
def gh(ev:Operand->Option Value):List Operand->Option (Xb)
 | []=>some []
 | x::r=>match ev x,gh ev r with|some v,some vs=>some (v::vs)|_,_=>none
def jB(ev:Operand->Option Value):List (Nat×Operand)->Option (List (Nat×Value))
 | []=>some []
 | (i,x)::r=>match ev x,jB ev r with|some v,some vs=>some ((i,v)::vs)|_,_=>none
def sE(ev:Operand->Option Value):Option Operand->Option (Option Value)
 | none=>some none
 | some x=>match ev x with|some v=>some (some v)|none=>none
def convP(P:Program)(s d:TypeId)(x:Value)(K:Value->Prop):Prop:=
 match P.underlying s,P.underlying d,x with
 | some _,some (.int k),.int _ n=>K (.int k (k.wrap n))
 | some _,some .string,.string b=>K (.string b)
 | _,_,_=>False
def lenP(P:Program)(t:TypeId)(x:Value)(K:Value->Prop):Prop:=
 match P.underlying t,x with
 | some .string,.string s=>K (.int .i64 s.size)
 | some (.slice _),.slice _ n _=>K (.int .i64 n)
 | some (.array n _),_=>K (.int .i64 n)
 | _,_=>False
def mmP(isMax:Bool):Xb->(Value->Prop)->Prop
 | [.int k x,.int _ y],K=>K (.int k (match isMax with|true=>if y>x then y else x|false=>if y<x then y else x))
 | [.int k x,.int _ y,.int _ z],K=>(match isMax with
  | true=>K (.int k (if z>(if y>x then y else x) then z else (if y>x then y else x)))
  | false=>K (.int k (if z<(if y<x then y else x) then z else (if y<x then y else x))))
 | _,_=>False
def qN(X:bX)(ev:Operand->Option Value)(pk:Operand->Operand->Operand->Option (Bool×Value×Value))(c:Option Prop)(op:Op)(K:Value->Prop):Prop:=
 match op with
 | .move x|.assign x=>bA (ev x) K
 | .pick a b d=>bA (pk a b d) λr=>K (sC b d r)
 | .nilCheck x=>bA (ev x) λv=>uH v c K
 | .binOp op t x y _=>bA (ev x) λa=>bA (ev y) λb=>binY X.P op t y a b c K
 | .unOp op _ x=>bA (ev x) λv=>unP op v K
 | .convert s d x=>bA (ev x) λv=>convP X.P s d v K
 | .fieldAddr t x f=>bA (ev x) λv=>xJ X.P t v f K
 | .field t x f=>bA (ev x) λv=>fieldP X.P t v f c K
 | .indexAddr t x i=>bA (ev x) λv=>bA (ev i) λn=>xI X.P t v n c K
 | .index t x i=>bA (ev x) λv=>bA (ev i) λn=>xH X.P t v n c K
 | .extract t i=>bA (ev t) λv=>(match v with|.tuple vs=>bA (aI vs.toList i) K|_=>False)
 | .slice t x lo hi mx=>(match mx with
  | none=>bA (ev x) λv=>bA (sE ev lo) λl=>bA (sE ev hi) λh=>xF X.P t v l h c K
  | some mx=>(match lo,hi with
   | some lo,some hi=>bA (ev x) λv=>bA (ev lo) λl=>bA (ev hi) λh=>bA (ev mx) λm=>xG X.P t v l h m c K
   | _,_=>False))
 | .build t ps=>bA (jB ev ps.toList) λvs=>bA (xL X.P t vs) λl=>K (.agg ⟨l⟩)
 | .makeInterface t x=>bA (ev x) λv=>(match X.P.underlying t with|some (.interface _)=>False|some _=>K (.iface t v)|none=>False)
 | .typeAssert x t u ok=>(match ok with
  | true=>bA (ev x) λv=>exT X.P u λy=>∃there:Bool,gt c (mL X.P (Instr.typeAssert v t u true) (.tuple #[y,.bool there]))/\K (.tuple #[y,.bool there])
  | false=>False)
 | .makeFunc fn a b=>bA (gh ev a.toList) λva=>bA (gh ev b.toList) λvb=>K (.func fn ⟨va⟩ ⟨vb⟩)
 | .call cl=>(match cl.callee,cl.argTypes.toList with
  | .builtin .len,t::_=>bA (gh ev cl.args.toList) λvs=>(match vs with|v::_=>lenP X.P t v K|[]=>False)
  | .builtin .max,_=>bA (gh ev cl.args.toList) λvs=>mmP true vs K
  | .builtin .min,_=>bA (gh ev cl.args.toList) λvs=>mmP false vs K
  | _,_=>False)
 | _=>False
def BA(P:Program):List TypeId->Option (List Sh)
 | []=>some []
 | t::r=>match pp P t,BA P r with|some s,some ss=>some (s::ss)|_,_=>none
def uK(P:Program)(t:TypeId):Option (List Sh):=
 match P.underlying t with
 | some (.tuple ts)=>BA P ts.toList
 | _=>match pp P t with|some s=>some [s]|none=>none
def sF(X:bX)(ev:Operand->Option Value)(c:Option Prop)(o:Oper)(H:aC)(K:Value->(aC->Prop)->Prop):Prop:=
 match o.op with
 | .load t x=>bA (ev x) λv=>(match v with
  | .pointer (some ⟨b,off,none⟩)=>(match aggT X.P t with
   | true=>uF X.P t λus=>(if us.length=X.P.cellsOf t then gt c (bV H b off us)/\K (.agg ⟨us⟩) λH'=>gt c (bV H' b off us) else False)
   | false=>exTL X.P t λu=>gt c (aM H b off=some u)/\K u λH'=>gt c (aM H' b off=some u))
  | _=>False)
 | .lookup t x i ok=>bA (ev x) λm=>bA (ev i) λk=>(match X.P.underlying t with
  | some (.map _ e)=>exT X.P e λu=>(match ok with
   | true=>∃there:Bool,gt c (cZ X.P (Instr.lookup t m k true) H (.tuple #[u,.bool there]))/\K (.tuple #[u,.bool there]) λH'=>gt c (cZ X.P (Instr.lookup t m k true) H' (.tuple #[u,.bool there]))
   | false=>gt c (cZ X.P (Instr.lookup t m k false) H u)/\K u λH'=>gt c (cZ X.P (Instr.lookup t m k false) H' u))
  | _=>False)
 | .convert s d x=>bA (ev x) λv=>(match X.P.underlying d with
  | some .string=>∃b:Eq,gt c (cZ X.P (convert s d v) H (.string b))/\K (.string b) λH'=>gt c (cZ X.P (convert s d v) H' (.string b))
  | _=>False)
 | .entry it=>bA (ev it) λv=>(match nextOf X.nexts o.dst with
  | some (ks,xs)=>ks.ex λk=>xs.ex λx=>gt c (cZ X.P (Instr.entry v) H (.tuple #[k,x]))/\K (.tuple #[k,x]) λH'=>gt c (cZ X.P (Instr.entry v) H' (.tuple #[k,x]))
  | none=>False)
 | .call cl=>(match cl.callee with
  | .value (.func f)=>(match bK f X.ext with
   | true=>bA (gh ev cl.args.toList) λvs=>bA (uK X.P o.type) λss=>kH ss λu=>gt c (sx X.P f ⟨vs⟩ u)/\K u λ_=>gt c (sx X.P f ⟨vs⟩ u)
   | false=>if bK f X.calls=false then False else bA (gh ev cl.args.toList) λvs=>bA (uK X.P o.type) λss=>kH ss λu=>gt c (bO X.P f ⟨vs⟩ H u)/\K u λH'=>gt c (bO X.P f ⟨vs⟩ H' u))
  | .builtin .len=>bA (gh ev cl.args.toList) λvs=>∃n:Int,gt c (cZ X.P (Builtin.len_ cl.argTypes o.type ⟨vs⟩) H (.int .i64 n))/\K (.int .i64 n) λH'=>gt c (cZ X.P (Builtin.len_ cl.argTypes o.type ⟨vs⟩) H' (.int .i64 n))
  | _=>False)
 | _=>False
def dJ(H:aC)(b:Nat):Nat->Xb->Prop
 | _,[]=>True
 | o,_::r=>((aM H b o).isSome=true/\l8 H b o=false)/\dJ H b (o+1) r
def ee(H:aC)(b:Nat):Nat->Xb->aC
 | _,[]=>H
 | o,v::r=>ee (gT H b o v) b (o+1) r
def cK:Xb->Bool
 | []=>true
 | .agg _::_=>false
 | .tuple _::_=>false
 | _::r=>cK r
def panP(v:Value)(kp:KQ)(H:aC):Prop:=match v with
 | .iface t u=>kp (.iface t u) H
 | _=>False
def px(X:bX)(ev:Operand->Option Value)(o:Oper)(H:aC)(K:KQ):Prop:=
 match o.op with
 | .alloc t=>bA (sD X.P t) λz=>∀(b:Nat) (H':aC),b=H.size->H'=H.push (.cells ⟨z⟩ t)->K (.pointer (some ⟨b,0,none⟩)) H'
 | .box t x=>bA (ev x) λv=>∀(b:Nat) (H':aC),b=H.size->H'=H.push (.cells v.cells t)->K (.pointer (some ⟨b,0,none⟩)) H'
 | .buildSlice t n ps=>bA (jB ev ps.toList) λvs=>(match X.P.underlying t with
  | some (.slice e)=>bA (qM X.P e n vs) λl=>(if n*X.P.cellsOf e<=16777216 then ∀(b:Nat) (H':aC),b=H.size->H'=H.push (.cells ⟨l⟩ e)->K (.slice (some ⟨b,0,none⟩) n n) H' else False)
  | _=>False)
 | .makeMap _ r=>(match r with
  | none=>∀(b:Nat) (H':aC),b=H.size->H'=H.push (.map #[] 0)->K (.map (some b)) H'
  | some _=>False)
 | .store t x y=>bA (ev x) λa=>bA (ev y) λv=>(match a with
  | .pointer (some ⟨b,off,none⟩)=>
   nH X.P t <| if v.cells.toList.length=X.P.cellsOf t/\cK v.cells.toList=true then dJ H b off v.cells.toList/\∀H':aC,H'=ee H b off v.cells.toList->K undef H' else False
  | _=>False)
 | .makeSlice t l c=>bA (ev l) λa=>bA (ev c) λb=>bS X.P (Instr.makeSlice t a b) H λv H'=>exT X.P t λu=>v=u/\K u H'
 | .mapUpdate t m k x|.insert t m k x=>bA (ev m) λa=>bA (ev k) λb=>bA (ev x) λv=>bS X.P (Instr.mapUpdate t a b v) H λ_ H'=>K undef H'
 | .mapEntry t m k=>bA (ev m) λa=>bA (ev k) λb=>bS X.P (Instr.mapEntry t a b) H λv H'=>(match X.P.underlying t with
  | some (.map _ e)=>exT X.P e λu=>∃n:Int,v=.tuple #[u,.int .i64 n]/\K (.tuple #[u,.int .i64 n]) H'
  | _=>False)
 | .entryStore t m k x=>bA (ev m) λa=>bA (ev k) λb=>bA (ev x) λv=>bS X.P (Instr.entryStore t a b v) H λ_ H'=>K undef H'
 | .range t x=>bA (ev x) λv=>bS X.P (Instr.range t v) H λu H'=>∃r:Nat,u=.pointer (some ⟨r,0,none⟩)/\K (.pointer (some ⟨r,0,none⟩)) H'
 | .next it s=>bA (ev it) λv=>bS X.P (Instr.next v s o.type) H λu H'=>(u=.tuple #[.bool false]/\K (.tuple #[.bool false]) H')\/∃k x:Value,u=.tuple #[.bool true,k,x]/\K (.tuple #[.bool true,k,x]) H'
 | .convert s d x=>bA (ev x) λv=>bS X.P (convert s d v) H λu H'=>exT X.P d λu'=>u=u'/\K u' H'
 | .call cl=>(match cl.callee with
  | .value (.func f)=>if bK f X.calls=false then False else bA (gh ev cl.args.toList) λvs=>bA (uK X.P o.type) λss=>(match bK f X.pan with
   | true=>mM X.P f ⟨vs⟩ H (λv H'=>kH ss λu=>v=u/\K u H') X.kp
   | false=>gU X.P f ⟨vs⟩ H λv H'=>kH ss λu=>v=u/\K u H')
  | .value x=>bA (ev x) λfv=>bA (gh ev cl.args.toList) λvs=>bA (uK X.P o.type) λss=>(match fv with
   | .func (.func f) first cap=>bK f X.calls=true/\gU X.P f ⟨first.toList++vs++cap.toList⟩ H λv H'=>kH ss λu=>v=u/\K u H'
   | .func (.yield l) ⟨[]⟩ ⟨[]⟩=>eK X.P l vs H λv H'=>kH ss λu=>v=u/\K u H'
   | _=>False)
  | .builtin .append=>bA (gh ev cl.args.toList) λvs=>bS X.P (Builtin.append_ cl.argTypes o.type ⟨vs⟩) H λv H'=>∃(a:Xa) (n c:Nat),v=.slice a n c/\K (.slice a n c) H'
  | .builtin .copy=>bA (gh ev cl.args.toList) λvs=>bS X.P (Builtin.copy_ cl.argTypes o.type ⟨vs⟩) H λv H'=>∃n:Int,v=.int .i64 n/\K (.int .i64 n) H'
  | .builtin .delete=>bA (gh ev cl.args.toList) λvs=>bS X.P (Builtin.delete_ cl.argTypes o.type ⟨vs⟩) H λv H'=>K v H'
  | .builtin .clear=>bA (gh ev cl.args.toList) λvs=>bS X.P (Builtin.clear_ cl.argTypes o.type ⟨vs⟩) H λv H'=>K v H'
  | _=>False)
 | .panic x=>bA (ev x) λv=>panP v X.kp H
 | _=>False
def basicT(P:Program)(t:TypeId):Bool:=match P.underlying t with|some .string|some (.slice _)|some (.array _ _)=>true|_=>false
def intOrStr(P:Program)(t:TypeId):Bool:=match P.underlying t with|some (.int _)|some .string=>true|_=>false
def iP(X:bX)(op:Op):Kind:=
 match op with
 | .move _|.assign _|.pick _ _ _|.nilCheck _|.binOp _ _ _ _ _|.unOp _ _ _|.fieldAddr _ _ _|.field _ _ _|.indexAddr _ _ _|.index _ _ _|.extract _ _|.slice _ _ _ _ _|.build _ _|.makeInterface _ _|.typeAssert _ _ _ _|.makeFunc _ _ _=>.P
 | .convert s d _=>match intOrStr X.P s,X.P.underlying d with
  | true,some (.int _)=>.P
  | true,some .string=>(match X.P.underlying s with|some .string=>.P|_=>.W)
  | false,some .string=>.R
  | _,_=>.W
 | .load _ _|.lookup _ _ _ _|.entry _=>.R
 | .call cl=>match cl.callee,cl.argTypes.toList with
  | .builtin .len,t::_=>if basicT X.P t then .P else .R
  | .builtin .max,_|.builtin .min,_=>.P
  | .value (.func f),_=>if bK f X.quiet then .R else .W
  | _,_=>.W
 | _=>.W
abbrev aB:=Value.int .i64
abbrev PA(b o:Nat):Value:=.pointer (some ⟨b,o,none⟩)
abbrev IF(c:Bool)(p q:Prop):Prop:=(c=true->p)/\(c=false->q)
abbrev AL(H:aC)(cs:Xb)(t:Nat)(k:Nat->aC->Prop):Prop:=∀(b:Nat) (H':aC),b=H.size->H'=H.push (.cells ⟨cs⟩ t)->k b H'
abbrev ST(H:aC)(b o:Nat)(vs:Xb)(k:aC->Prop):Prop:=dJ H b o vs/\∀H':aC,H'=ee H b o vs->k H'
abbrev Z0:Nat->Int:=λ_=>0
theorem bR.refl(w:World):bR w w:=⟨rfl,rfl,rfl⟩
theorem bR.trans{a b c:World}(h:bR a b)(k:bR b c):bR a c:=⟨k.os.trans h.os,k.tape.trans h.tape,k.output.trans h.output⟩
theorem cell?_cellAt(w:World)(b o:Nat):w.cell? ⟨b,o,none⟩=aM w.heap b o:=by
 grind [World.cell?,aM]
theorem frozen?_frozenAt(w:World)(b o:Nat):w.frozen? ⟨b,o,none⟩=l8 w.heap b o:=rfl
theorem uL(w:World)(b o:Nat)(v:Value):(w.setCell ⟨b,o,none⟩ v).heap=gT w.heap b o v:=by
 grind [World.setCell,gT]
theorem ei{P:Program}{t:TypeId}{d:TypeDesc}(h:P.underlying t=some d)(w:World):(underlying t).run P w=.ok d w:=by
 simp[underlying,h]
theorem lC(P:Program)(t:TypeId)(h:P.info? t≠none)(w:World):(sizeOf t).run P w=.ok (P.cellsOf t) w:=by
 cases hi:P.info? t with
 | none=>grind
 | some i=>simp[sizeOf,typeInfo,hi,Program.cellsOf]
theorem MI{P:Program}{t:TypeId}{d:TypeDesc}(h:P.underlying t=some d):P.info? t≠none:=by
 grind [Program.underlying]
theorem dq{α:Type}(l:List α)(n:Nat):aI l n=l[n]?:=by
 induction l generalizing n with
 | nil=>simp[aI]
 | cons a r ih=>cases n <;> simp[aI,ih]
theorem xM{α:Type}(l:List α)(n:Nat)(x:α):dP l n x=l.set n x:=by
 induction l generalizing n with
 | nil=>simp[dP]
 | cons a r ih=>cases n <;> simp[dP,ih]
theorem BB(a b:Value):pu true a b=a:=by unfold pu;grind
theorem xN(a b:Value):pu false a b=b:=by unfold pu;grind
section
variable {X:bX}{ρ:Operand->Value}{ev:Operand->Option Value}{pk:Operand->Operand->Operand->Option (Bool×Value×Value)}{c:Option Prop}{G:Prop}
theorem bF{α:Type}{o:Option α}{K:α->Prop}(h:bA o K):∃v,o=some v/\K v:=by
 cases o with
 | none=>exact h.elim
 | some v=>exact⟨v,rfl,h⟩
theorem mN(a:∀x v,ev x=some v->G->ρ x=v):∀(l:List Operand) (vs:Xb),gh ev l=some vs->G->l.map ρ=vs
 | [],vs,h,_=>by grind [gh]
 | x::r,vs,h,g=>by
  simp only[gh]at h
  cases h1:ev x with
  | none=>grind
  | some v=>cases h2:gh ev r with
   | none=>grind
   | some vs'=>
    simp only[h1,h2,Option.some.injEq]at h;subst h;simp[a x v h1 g,mN a r vs' h2 g]
theorem xO(a:∀x v,ev x=some v->G->ρ x=v):∀(l:List (Nat×Operand)) (vs:List (Nat×Value)),jB ev l=some vs->G->l.map (λp=>(p.1,ρ p.2))=vs
 | [],vs,h,_=>by grind [jB]
 | (i,x)::r,vs,h,g=>by
  simp only[jB]at h
  cases h1:ev x with
  | none=>grind
  | some v=>cases h2:jB ev r with
   | none=>grind
   | some vs'=>
    simp only[h1,h2,Option.some.injEq]at h;subst h;simp[a x v h1 g,xO a r vs' h2 g]
theorem BC(a:∀x v,ev x=some v->G->ρ x=v)(o:Option Operand)(v:Option Value)(h:sE ev o=some v)(g:G):o.map ρ=v:=by
 cases o with
 | none=>grind [sE]
 | some x=>grind [sE]
theorem MJ{P:Program}(op:BinOp)(t:TypeId)(k:IntKind)(x y:Int){K:Value->Prop}(a:∀p,gt c p->G->p)(h:xD op k x y c K) :
  ∃v,K v/\(G->∀w,(Go.binOp op t (.int k x) (.int k y)).run P w=.ok v w):=by
 cases op <;> simp only[xD]at h
 case quo=>exact⟨_,h.2,λg w=>by simp[Go.binOp,Op.intDiv,a _ h.1 g]⟩
 case rem=>exact⟨_,h.2,λg w=>by simp[Go.binOp,Op.intDiv,a _ h.1 g]⟩
 case shl=>exact⟨_,h.2,λg w=>by have:=a _ h.1 g;simp[Go.binOp,Op.shift];omega⟩
 case shr=>exact⟨_,h.2,λg w=>by have:=a _ h.1 g;simp[Go.binOp,Op.shift];omega⟩
 case eql=>exact⟨_,h,λ_ w=>by simp[Go.binOp,Op.intCmp];grind⟩
 case neq=>exact⟨_,h,λ_ w=>by simp[Go.binOp,Op.intCmp];grind⟩
 all_goals exact⟨_,h,λ_ w=>by simp[Go.binOp,Op.intArith,Op.intBits,Op.intCmp,aX]⟩
theorem ML{P:Program}(op:BinOp)(t:TypeId)(x y:Eq){K:Value->Prop}(a:∀p,gt c p->G->p)(h:xE op x y c K) :
  ∃v,K v/\(G->∀w,(Go.binOp op t (.string x) (.string y)).run P w=.ok v w):=by
 cases op <;> simp only[xE]at h
 case add=>exact⟨_,h.2,λg w=>by
  have:=a _ h.1 g;simp only[Go.binOp,Op.stringOp]
  simp_all⟩
 all_goals exact⟨_,h,λ_ w=>by simp[Go.binOp,Op.stringOp]⟩
theorem xQ(op:BinOp)(t:TypeId)(d e:Operand)(a b:Value)(P:Program)(w:World)(c:a≠.nilIface\/b≠.nilIface)(f:∀x y,a≠.agg x\/b≠.agg y):(eqGuard op t d e a b).run P w=.ok () w:=by
 unfold eqGuard
 cases op
 case eql=>
  rw[Vz (by simp)]
  split
  .simp at c
  .grind
  .rfl
 case neq=>
  rw[Vz (by simp)]
  split
  .simp at c
  .grind
  .rfl
 all_goals rfl
theorem MM(t:TypeId)(x y:Value):Op.equal t x y=Op.equalIn (9999+1) t x y:=rfl
theorem eqNil_in{P:Program}{t:TypeId}{d:TypeDesc}{x y:Value}{b:Bool}(hd:P.underlying t=some d)(h:pq (some d) x y=some b)(n:Nat)(w:World) :
  (Op.equalIn (n+1) t x y).run P w=.ok b w/\(x≠.nilIface\/y≠.nilIface)/\(∀u v,x≠.agg u\/y≠.agg v):=by
 unfold pq at h
 split at h
 all_goals (try cases h)
 all_goals (rename_i c;cases c)
 case h_2=>rename_i a;cases a <;> simp[Op.equalIn,ei hd]
 case h_3=>rename_i a _ _ _ _;cases a <;> simp[Op.equalIn,ei hd]
 case h_4=>rename_i a;cases a <;> simp[Op.equalIn,ei hd]
 all_goals simp[Op.equalIn,ei hd]
theorem BE{P:Program}{t:TypeId}{x y:Value}{b:Bool}(h:pq (P.underlying t) x y=some b)(a c:Operand)(op:BinOp)(w:World) :
  (Op.equal t x y).run P w=.ok b w/\(eqGuard op t a c x y).run P w=.ok () w:=by
 cases hd:P.underlying t with
 | none=>grind [pq]
 | some d=>
  rw[hd]at h;rw[MM];obtain⟨i,f,e⟩:=eqNil_in hd h 9999 w
  grind [xQ]
end
section
variable {X:bX}{ρ:Operand->Value}{ev:Operand->Option Value}{c:Option Prop}{G:Prop}{P:Program}{K:Value->Prop}
theorem MN(op:BinOp)(t:TypeId)(x y:Value)(f e:Operand)(i:∀p,gt c p->G->p)(h:binP P op t x y c K) :
  ∃v,K v/\(G->∀w,(do eqGuard op t f e x y;Go.binOp op t x y:Sem Value).run P w=.ok v w):=by
 unfold binP at h
 split at h
 .rename_i k a s b;have m:∀w,(eqGuard op t f e (.int k a) (.int s b)).run P w=.ok () w:=λw=>xQ _ _ _ _ _ _ _ _ (by simp) (by simp)
  split at h
  .rename_i n;subst n;obtain⟨v,d,j⟩:=MJ (P:=P) op t k a b i h;exact⟨v,d,λg w=>by simp_all⟩
  .rename_i n
   split at h
   .exact⟨_,h.2,λg w=>by have:=i _ h.1 g;simp[m,Go.binOp,Op.shift];omega⟩
   .exact⟨_,h.2,λg w=>by have:=i _ h.1 g;simp[m,Go.binOp,Op.shift];omega⟩
   grind
 .rename_i a b;have m:∀w,(eqGuard op t f e (.string a) (.string b)).run P w=.ok () w:=λw=>xQ _ _ _ _ _ _ _ _ (by simp) (by simp)
  obtain⟨v,d,j⟩:=ML (P:=P) op t a b i h;exact⟨v,d,λg w=>by simp_all⟩
 .rename_i hi hs
  split at h
  .rename_i b hb;refine⟨_,h,λ_ w=>?_⟩
   obtain⟨d,j⟩:=BE hb f e .eql w;have:(Go.binOp .eql t x y).run P w=.ok (.bool b) w:=by
    unfold pq at hb
    split at hb <;> cases hb <;> (show Sem.run P (do pure (Value.bool (<-Op.equal t _ _))) w=_;simp[d])
   simp_all
  .rename_i b hb;refine⟨_,h,λ_ w=>?_⟩
   obtain⟨d,j⟩:=BE hb f e .neq w;have:(Go.binOp .neq t x y).run P w=.ok (.bool (!b)) w:=by
    unfold pq at hb
    split at hb <;> cases hb <;> (show Sem.run P (do pure (Value.bool (!(<-Op.equal t _ _)))) w=_;simp[d])
   simp_all
  .obtain⟨b,d,j⟩:=h;exact⟨_,j,λg w=>i _ d g f e w⟩
  grind
theorem MO(op:UnOp)(x:Value)(h:unP op x K):∃v,K v/\∀w,(Op.unary op x).run P w=.ok v w:=by
 unfold unP at h
 split at h
 .exact⟨_,h,λw=>by simp[Op.unary,Op.intArith]⟩
 .exact⟨_,h,λw=>by simp[Op.unary,Op.intBits,aX]⟩
 .exact⟨_,h,λw=>by simp[Op.unary]⟩
 grind
theorem py(k:IntKind)(n:Int)(y:Nat)(code:BoundsCode)(w:World)(h:0<=n/\n<=(y:Int)):(Instr.sliceBound (.int k n) y code).run P w=.ok n.toNat w:=by
 simp[Instr.sliceBound,asIntOf,h]
theorem xR(b:Bool)(len cap:Nat)(lo hi:Option Value)(l h:Int)(w:World)
  (c:lo=none/\l=0\/∃k,lo=some (.int k l)) (a:hi=none/\h=(len:Int)\/∃k,hi=some (.int k h))
  (hb:0<=l/\l<=h/\h<=(cap:Int)):(Instr.sliceBounds b len cap lo hi none).run P w=.ok (l.toNat,h.toNat,cap) w:=by
 unfold Instr.sliceBounds
 rcases a with ⟨rfl,rfl⟩|⟨k,rfl⟩ <;> rcases c with ⟨rfl,rfl⟩|⟨d,rfl⟩
 .simp
 .simp [py d l len _ w ⟨hb.1,hb.2.1⟩]
 .simp [py k h cap _ w ⟨by omega,hb.2.2⟩]
 .have:=py (P:=P) d l h.toNat .sliceB w ⟨hb.1,by omega⟩;simp[py k h cap _ w ⟨by omega,hb.2.2⟩,this]
theorem xS{x:Value}{Kn:Int->Prop}(h:gW x Kn):∃k n,x=.int k n/\Kn n:=by
 unfold gW at h
 grind
theorem xT{α:Type}{lo hi:Option Value}{len:Int}{go:Int->Int->Prop}
  (c:match lo,hi with
   | some l,some h=>gW l λl=>gW h λh=>go l h
   | some l,none=>gW l λl=>go l len
   | none,some h=>gW h λh=>go 0 h
   | none,none=>go 0 len) (_:α) :
  ∃l h,go l h/\(lo=none/\l=0\/∃k,lo=some (.int k l))/\(hi=none/\h=len\/∃k,hi=some (.int k h)):=by
 cases lo with
 | none=>cases hi with
  | none=>grind
  | some b=>
   obtain⟨k,n,hb,c⟩:=xS c
   grind
 | some a=>cases hi with
  | none=>
   obtain⟨k,n,d,c⟩:=xS c
   grind
  | some b=>
   grind [xS]
theorem pz{t:TypeId}{q:Prop}(h:nH P t q):P.info? t≠none/\P.cellsOf t≠0/\q:=by
 grind [nH,Program.cellsOf]
theorem MQ(t:TypeId)(x:Value)(lo hi:Option Value)(u:∀p,gt c p->G->p)(h:xF P t x lo hi c K) :
  ∃v,K v/\(G->∀w,(Instr.sliceAt t x lo hi none).run P w=.ok v w):=by
 unfold xF at h
 split at h
 .rename_i s d;obtain⟨l,m,⟨j,i⟩,f,k⟩:=xT h ();refine⟨_,i,λg w=>?_⟩
  have hb:=xR (P:=P) false s.size s.size lo hi l m w f k (u _ j g);simp[Instr.sliceAt,Instr.slice,ei d,hb]
 .rename_i e a len cap d;obtain⟨b,y,h⟩:=pz h;obtain⟨l,m,⟨j,i⟩,f,k⟩:=xT h ();refine⟨_,i,λg w=>?_⟩
  have hb:=xR (P:=P) true len cap lo hi l m w f k (u _ j g);simp[Instr.sliceAt,Instr.slice,ei d,hb,lC P e b,bM]
 .rename_i n e a d;obtain⟨b,y,h⟩:=pz h;obtain⟨l,m,⟨j,i⟩,f,k⟩:=xT h ();refine⟨_,i,λg w=>?_⟩
  have hb:=xR (P:=P) false n n lo hi l m w f k (u _ j g);simp[Instr.sliceAt,Instr.sureAddr,ei d,hb,lC P e b,bM]
  grind
 grind
theorem MT(t:TypeId)(x l h m:Value)(f:∀p,gt c p->G->p)(hs:xG P t x l h m c K) :
  ∃v,K v/\(G->∀w,(Instr.sliceAt t x (some l) (some h) (some m)).run P w=.ok v w):=by
 unfold xG at hs
 split at hs
 .rename_i e a len cap k1 l k2 h k3 m d;obtain⟨b,i,hs⟩:=pz hs;refine⟨_,hs.2,λg w=>?_⟩
  obtain⟨b1,b2,b3,b4⟩:=f _ hs.1 g;have r1:=py (P:=P) k3 m cap .slice3Acap w ⟨by omega,b4⟩;have r2:=py (P:=P) k2 h m.toNat .slice3B w ⟨by omega,by omega⟩;have r3:=py (P:=P) k1 l h.toNat .slice3C w ⟨b1,by omega⟩;simp[Instr.sliceAt,Instr.slice,Instr.sliceBounds,ei d,r1,r2,r3,lC P e b,bM]
 grind
theorem BF{l:cP}{Q:Value->Prop}(h:l.ex Q):∃v,Q v:=by
 cases l <;> simp only[cP.ex]at h
 case slice=>grind
 case fnv=>grind
 case adr=>grind
 all_goals grind
theorem sG:∀{ls:List cP} {Q:Xb->Prop},exLs ls Q->∃vs,Q vs
 | [],_,h=>⟨[],h⟩
 | .vec k n::r,_,h=>by
  obtain⟨f,c⟩:=h;obtain⟨vs,a⟩:=sG (ls:=r) c
  grind
 | .int k::r,_,h|.bool::r,_,h|.str::r,_,h|.ptr::r,_,h|.slice::r,_,h|.map::r,_,h|.raw::r,_,h|.fnv::r,_,h|.adr::r,_,h=>by
  obtain⟨v,b⟩:=BF h;obtain⟨vs,a⟩:=sG (ls:=r) b
  grind
theorem oB{s:Sh}{Q:Value->Prop}(h:s.ex Q):∃v,Q v:=by
 cases s with
 | one l=>exact BF h
 | agg ls=>obtain⟨vs,h⟩:=sG (ls:=ls) h;grind
theorem BG:∀{ls:List Sh} {Q:Xb->Prop},pm ls Q->∃vs,Q vs
 | [],_,h=>⟨[],h⟩
 | l::r,_,h=>by
  obtain⟨v,a⟩:=oB (s:=l) h;obtain⟨vs,b⟩:=BG (ls:=r) a
  grind
theorem sH{ls:List Sh}{Q:Value->Prop}(h:kH ls Q):∃v,Q v:=by
 match ls,h with
 | [],h=>exact⟨_,h⟩
 | [s],h=>exact oB (s:=s) h
 | s::t::r,h=>
  have a:pm (s::t::r) λvs=>Q (.tuple ⟨vs⟩):=h
  obtain⟨vs,h⟩:=BG a;grind
theorem pA{t:TypeId}{Q:Value->Prop}(h:exT P t Q):∃v,Q v:=by
 unfold exT at h
 split at h
 .exact oB h
 grind
theorem bAt_get(s:Eq)(n:Int)(h:0<=n/\n<(s.size:Int)):∃b,(if 0<=n then s[n.toNat]? else none)=some b/\(b.toNat:Int)=bAt s n.toNat:=by
 have a:n.toNat<s.size:=by omega
 refine⟨s[n.toNat],?_,?_⟩
 .grind
 .unfold bAt;have hd:n.toNat<s.data.size:=a;rw[Array.getElem?_eq_getElem hd];rfl
theorem MV(t:TypeId)(x i:Value)(e:∀p,gt c p->G->p)(h:xH P t x i c K) :
  ∃v,K v/\(G->∀w,(Instr.index t x i).run P w=.ok v w):=by
 unfold xH at h
 split at h
 .rename_i s k n f;refine⟨_,h.2,λg w=>?_⟩
  obtain⟨b,d,a⟩:=bAt_get s n (e _ h.1 g);simp only[Instr.index,asIntOf,Sem.run_bind,Sem.run_pure,Result.andThen_ok,ei f,d,a]
 .split at h
  .obtain⟨v,d,a⟩:=oB h;exact⟨v,a,λg w=>e _ d g w⟩
  grind
 grind
theorem sJ(b o n:Nat):(⟨b,o,none⟩:Addr).add n=⟨b,o+n,none⟩:=by
 grind [Addr.add]
theorem MW(t:TypeId)(x i:Value)(j:∀p,gt c p->G->p)(h:xI P t x i c K) :
  ∃v,K v/\(G->∀w,(Instr.indexAt t x i).run P w=.ok v w):=by
 unfold xI at h
 split at h
 .rename_i e a len _ k n f;obtain⟨d,u,A,b,o,y,m⟩:=pz h;refine⟨_,m,λg w=>?_⟩
  have hb:=j _ A g;have s:=j _ y g;subst s;simp[Instr.indexAt,asIntOf,ei f,hb,lC P e d,sJ,B9]
 .rename_i len e b o k n f;obtain⟨d,u,h⟩:=pz h;refine⟨_,h.2,λg w=>?_⟩
  have hb:=j _ h.1 g;simp[Instr.indexAt,Instr.sureAddr,asIntOf,ei f,hb,lC P e d,sJ,B9]
 grind
theorem MX(t:TypeId)(x:Value)(f:Nat)(h:xJ P t x f K) :
  ∃v,K v/\∀w,(Instr.fieldAt t x f).run P w=.ok v w:=by
 unfold xJ at h
 split at h
 .rename_i fs b o d
  split at h
  .rename_i fd i;obtain⟨a,e,h⟩:=pz h;refine⟨_,h,λw=>?_⟩
   rw[dq]at i;have c:fs[f]?=some fd:=by grind
   simp[Instr.fieldAt,ei d,c,Instr.sureAddr,fieldPlace,lC P _ a,e,sJ]
  grind
 grind
theorem BH(t:TypeId)(w:World)(h:P.underlying t≠none):(isAgg t).run P w=.ok (aggT P t) w:=by
 cases hd:P.underlying t with
 | none=>grind
 | some d=>cases d <;> simp[isAgg,ei hd,aggT,hd]
theorem MY{t:TypeId}(h:aggT P t=true):P.underlying t≠none:=by
 grind [aggT]
end
section
variable {X:bX}{ρ:Operand->Value}{ev:Operand->Option Value}{c:Option Prop}{G:Prop}{P:Program}{K:Value->Prop}
theorem uM{t:TypeId}{z:Xb}(h:sD P t=some z):∃v,v.cells.toList=z/\(∀w,(zeroValue t).run P w=.ok v w)/\P.info? t≠none:=by
 unfold sD at h
 split at h
 .rename_i i hi
  split at h
  .rename_i v a
   cases h
   exact⟨v,rfl,λw=>by simp[zeroValue,typeInfo,hi,a],by simp[hi]⟩
  .cases h
 .cases h
theorem BI(off:Nat):∀(l:Xb) (k:Nat) (cells:Array Value),
  ((l.zipIdx k).foldl (λcs (x:Value×Nat)=>cs.setIfInBounds (off+x.2) x.1) cells).toList=uI cells.toList (off+k) l
 | [],_,_=>rfl
 | v::r,k,cells=>by
  simp only[List.zipIdx_cons,List.foldl_cons,uI];rw[BI off r (k+1)];simp[xM,Nat.add_assoc]
theorem uN(a:Nat->Option (Nat×Nat)):∀(parts:List (Nat×Value)) (cells:Array Value) (l:Xb),
  pw a cells.toList parts=some l->Instr.fill a cells parts=some ⟨l⟩
 | [],cells,l,h=>by simp[pw]at h;subst h;simp[Instr.fill]
 | (i,v)::rest,cells,l,h=>by
  simp only[pw]at h;simp only[Instr.fill]
  cases hp:a i with
  | none=>grind
  | some p=>
   obtain⟨off,size⟩:=p;simp only[hp]at h ⊢
   split at h
   .rename_i b;have d:v.cells.size=size:=by grind
    have c:off+v.cells.size<=cells.size:=by grind
    rw[Vz (by grind)];have:=BI off v.cells.toList 0 cells;refine uN a rest _ l ?_;rw[<-h];congr 1;rw[<-Array.foldl_toList,Array.toList_zipIdx];simpa using this
   .cases h
theorem BJ:∀(fs:List Field) (w:World),uJ P fs=true->
  (fs.mapM (m:=Sem) λf=>do pure (f.offset,<-sizeOf f.type)).run P w=.ok (fs.map λf=>(f.offset,P.cellsOf f.type)) w
 | [],w,_=>by simp
 | f::r,w,h=>by
  simp only[uJ,V4]at h;have hi:P.info? f.type≠none:=by grind
  have a:=BJ r w h.2;simp only[bind_pure_comp]at a;simp[List.mapM_cons,lC P _ hi,a]
theorem MZ(t:TypeId)(parts:List (Nat×Value))(l:Xb)(h:xL P t parts=some l)(w:World) :
  (Instr.build t parts.toArray).run P w=.ok (.agg ⟨l⟩) w:=by
 unfold xL at h
 split at h
 .rename_i z fs d b;obtain⟨v,k,a,_⟩:=uM d
  split at h
  .rename_i s;have u:=BJ (P:=P) fs.toList w s;have j:Instr.fill (λx=>(fs.map λf=>(f.offset,P.cellsOf f.type))[x]?) v.cells parts=some ⟨l⟩:=by
    have:=uN (offOf P fs.toList) parts v.cells l (by grind);rw[<-this];congr 1
    grind [offOf,dq]
   have c:(fs.mapM (m:=Sem) λf=>do pure (f.offset,<-sizeOf f.type)).run P w=.ok (fs.map λf=>(f.offset,P.cellsOf f.type)) w:=by
    rw[Array.mapM_eq_mapM_toList];simp only[Sem.run_map,u,Result.andThen_ok];congr 1
    grind
   simp only[Instr.build,Sem.run_bind,a,Result.andThen_ok,ei b,c]
   simp_all
  .cases h
 .rename_i z n e d b;obtain⟨v,k,a,_⟩:=uM d
  split at h
  .rename_i i hi;have j:=uN _ parts v.cells l (by rw[k];exact h);simp only[Instr.build,Sem.run_bind,a,Result.andThen_ok,ei b,lC P e (by simp[hi])];simp[j]
  .cases h
 .cases h
theorem Na(o:Oper)(x:Operand)(d:o.op=.nilCheck x)(j:∀p,gt c p->G->p)(h:uH (ρ x) c K) :
  ∃v,K v/\(G->∀w,(execOp ρ o).run P w=.ok (.value v) w):=by
 unfold uH at h
 split at h
 .rename_i a e;have key:∃p,gt c p/\(p->a=some ⟨aW a,aT a,none⟩)/\K (.pointer (some ⟨aW a,aT a,none⟩)):=by
   cases c with
   | none=>exact⟨_,(xK.1 h).1,id,(xK.1 h).2⟩
   | some c=>exact⟨isA a,h.1,isA_iff.1,h.2⟩
  obtain⟨p,m,i,k⟩:=key;refine⟨_,k,λg w=>?_⟩
  have:=i (j _ m g);generalize aW a=b at *;generalize aT a=o' at *;subst this;simp[execOp,d,e]
 .rename_i f a b e;exact⟨_,h,λ_ w=>by simp[execOp,d,e]⟩
 .rename_i f a b e;exact⟨_,h,λ_ w=>by simp[execOp,d,e]⟩
 grind
theorem Nb(s d:TypeId)(x:Value)(h:convP P s d x K):∃v,K v/\∀w,(convert s d x).run P w=.ok v w:=by
 unfold convP at h
 split at h
 .rename_i ds k a n hs hd;exact⟨_,h,λw=>by cases ds <;> simp[convert,ei hs,ei hd,Conv.intToInt]⟩
 .rename_i ds b hs hd;exact⟨_,h,λw=>by cases ds <;> simp[convert,ei hs,ei hd]⟩
 grind
theorem Nc(t:TypeId)(x:Value)(ts:Array TypeId)(f:TypeId)(args:Array Value)(c:ts[0]?=some t)(b:args[0]?=some x)(h:lenP P t x K) :
  ∃v,K v/\∀w,(Builtin.len_ ts f args).run P w=.ok v w:=by
 unfold lenP at h
 split at h
 .rename_i s d;exact⟨_,h,λw=>by simp[Builtin.len_,c,b,ei d,goInt]⟩
 .rename_i e a n cp d;exact⟨_,h,λw=>by simp[Builtin.len_,c,b,ei d,goInt]⟩
 .rename_i x n e d;exact⟨_,h,λw=>by cases x <;> simp[Builtin.len_,c,b,ei d,goInt]⟩
 grind
theorem Nd(vs:Xb)(ts:Array TypeId)(t:TypeId)(h:mmP true vs K):∃v,K v/\∀w,(Builtin.max_ ts t ⟨vs⟩).run P w=.ok v w:=by
 unfold mmP at h
 split at h
 .exact⟨_,h,λw=>by simp[Builtin.max_,Builtin.max2]⟩
 .exact⟨_,h,λw=>by simp[Builtin.max_,Builtin.max2]⟩
 grind
theorem Nf(vs:Xb)(ts:Array TypeId)(t:TypeId)(h:mmP false vs K):∃v,K v/\∀w,(Builtin.min_ ts t ⟨vs⟩).run P w=.ok v w:=by
 unfold mmP at h
 split at h
 .exact⟨_,h,λw=>by simp[Builtin.min_,Builtin.min2]⟩
 .exact⟨_,h,λw=>by simp[Builtin.min_,Builtin.min2]⟩
 grind
theorem Ng(op:BinOp)(t:TypeId)(x y:Value)(a d:Operand)(e:∀p,gt c p->G->p)(h:binQ P op t x y c K) :
  ∃v,K v/\(G->∀w,(do eqGuard op t a d x y;Go.binOp op t x y:Sem Value).run P w=.ok v w):=by
 unfold binQ at h
 split at h
 .obtain⟨b,i,f⟩:=h;exact⟨_,f,λg w=>e _ i g a d w⟩
 .exact MN op t x y a d e h
theorem Nh(op:BinOp)(t:TypeId)(x y:Value)(a d:Operand)(e:∀p,gt c p->G->p)(h:binY P op t d x y c K) :
  ∃v,K v/\(G->∀w,(do eqGuard op t a d x y;Go.binOp op t x y:Sem Value).run P w=.ok v w):=by
 unfold binY at h
 split at h
 .obtain⟨b,i,f⟩:=h;exact⟨_,f,λg w=>e _ i g a w⟩
 .exact Ng op t x y a d e h
theorem BK(o:Oper){pk:Operand->Operand->Operand->Option (Bool×Value×Value)}(E:∀p,gt c p->G->p)(j:∀x v,ev x=some v->G->ρ x=v)
  (J:∀a b d r,pk a b d=some r->G->ρ a=.bool r.1/\(r.1=true->ρ b=r.2.1)/\(r.1=false->ρ d=r.2.2)) (C:∀o v,o=.const v->ρ o=v) (V:P=X.P)
  (h:qN X ev pk c o.op K):∃v,K v/\(G->∀w,(execOp ρ o).run P w=.ok (.value v) w):=by
 subst V
 cases hop:o.op <;> rw[hop]at h <;> simp only[qN]at h <;> (try exact h.elim)
 case move x=>obtain⟨v,F,h⟩:=bF h;exact⟨v,h,λg w=>by simp[execOp,hop,j x v F g]⟩
 case assign x=>obtain⟨v,F,h⟩:=bF h;exact⟨v,h,λg w=>by simp[execOp,hop,j x v F g]⟩
 case pick a b d=>
  obtain⟨r,T,h⟩:=bF h;refine⟨_,h,λg w=>?_⟩
  obtain⟨k,n,S⟩:=J a b d r T g;obtain⟨q,x,y⟩:=r;have hb:∀u,b=.const (.bool u)->ρ b=.bool u:=λu e=>C b _ e
  have hd:∀u,d=.const (.bool u)->ρ d=.bool u:=λu e=>C d _ e
  cases q
  .have:sC b d (false,x,y)=ρ d:=by
    unfold sC;rw[S rfl]
    split
    .grind [xN]
    .split
     .split
      .grind
      grind [xN]
     grind [xN]
   simp[execOp,hop,k,asBool,this]
  .have:sC b d (true,x,y)=ρ b:=by
    unfold sC;rw[n rfl]
    split
    .split
     .grind
     grind [BB]
    grind [BB]
   simp[execOp,hop,k,asBool,this]
 case nilCheck x=>
  obtain⟨v,F,h⟩:=bF h
  by_cases g:G
  .have Z:=j x v F g;obtain⟨u,k,n⟩:=Na (ρ:=ρ) (K:=K) (c:=c) (P:=X.P) o x hop E (by rw[Z];exact h)
   grind
  .unfold uH at h
   grind [xK]
 case binOp op t x y yt=>
  obtain⟨a,A,h⟩:=bF h;obtain⟨b,hb,h⟩:=bF h;obtain⟨v,k,n⟩:=Nh op t a b x y E h
  grind [Sem.run_bind,execOp,Sem.run_pure,Result.andThen_ok]
 case unOp op t x=>
  obtain⟨a,A,h⟩:=bF h;obtain⟨v,k,n⟩:=MO (P:=X.P) op a h;exact⟨v,k,λg w=>by simp[execOp,hop,j x a A g,n w]⟩
 case convert s d x=>
  obtain⟨a,A,h⟩:=bF h;obtain⟨v,k,n⟩:=Nb s d a h;exact⟨v,k,λg w=>by simp[execOp,hop,j x a A g,n w]⟩
 case fieldAddr t x f=>
  obtain⟨a,A,h⟩:=bF h;obtain⟨v,k,n⟩:=MX t a f h;exact⟨v,k,λg w=>by simp[execOp,hop,j x a A g,n w]⟩
 case field t x f=>
  obtain⟨a,A,h⟩:=bF h;unfold fieldP at h
  split at h
  .split at h
   .split at h
    .obtain⟨v,k,n⟩:=oB h;exact⟨v,n,λg w=>by simp[execOp,hop,j x a A g,E _ k g w]⟩
    grind
   grind
  grind
 case indexAddr t x i=>
  obtain⟨a,A,h⟩:=bF h;obtain⟨b,hb,h⟩:=bF h;obtain⟨v,k,n⟩:=MW t a b E h;exact⟨v,k,λg w=>by simp[execOp,hop,j x a A g,j i b hb g,n g w]⟩
 case index t x i=>
  obtain⟨a,A,h⟩:=bF h;obtain⟨b,hb,h⟩:=bF h;obtain⟨v,k,n⟩:=MV t a b E h;exact⟨v,k,λg w=>by simp[execOp,hop,j x a A g,j i b hb g,n g w]⟩
 case extract t i=>
  obtain⟨a,A,h⟩:=bF h
  cases a <;> simp only at h
  case tuple vs=>
   obtain⟨v,F,h⟩:=bF h;rw[dq]at F;have I:vs[i]?=some v:=by grind
   exact⟨v,h,λg w=>by simp[execOp,hop,j t _ A g,Instr.extract,I]⟩
 case slice t x lo hi mx=>
  cases mx with
  | some m=>
   cases lo with
   | none=>grind
   | some lo=>cases hi with
    | none=>grind
    | some hi=>
     obtain⟨a,A,h⟩:=bF h;obtain⟨l,H,h⟩:=bF h;obtain⟨u,N,h⟩:=bF h;obtain⟨q,Y,h⟩:=bF h;obtain⟨v,k,n⟩:=MT t a l u q E h;exact⟨v,k,λg w=>by simp[execOp,hop,j x a A g,j lo l H g,j hi u N g,j m q Y g,n g w]⟩
  | none=>
   obtain⟨a,A,h⟩:=bF h;obtain⟨l,H,h⟩:=bF h;obtain⟨u,N,h⟩:=bF h;obtain⟨v,k,n⟩:=MQ t a l u E h;exact⟨v,k,λg w=>by simp[execOp,hop,j x a A g,BC j lo l H g,BC j hi u N g,n g w]⟩
 case build t ps=>
  obtain⟨vs,B,h⟩:=bF h;obtain⟨l,H,h⟩:=bF h;refine⟨_,h,λg w=>?_⟩
  have hm:=xO j ps.toList vs B g;have hb:=MZ (P:=X.P) t vs l H w;have Q:(ps.map λ(i,x)=>(i,ρ x))=vs.toArray:=by
   grind
  grind [execOp,Sem.run_bind,Result.andThen_ok,Sem.run_pure]
 case makeInterface t x=>
  obtain⟨a,A,h⟩:=bF h
  split at h
  .grind
  .rename_i d hd R;refine⟨_,h,λg w=>?_⟩
   have:∀m,d≠.interface m:=λm Q=>hd m Q
   cases d <;> first|(exact V0 rfl (this _))|simp[execOp,hop,j x a A g,Instr.makeInterface,ei R]
  grind
 case typeAssert x t u ok=>
  cases ok with
  | false=>grind
  | true=>
   obtain⟨a,A,h⟩:=bF h;obtain⟨y,O,k,n⟩:=pA h;exact⟨_,n,λg w=>by simp[execOp,hop,j x a A g,E _ k g w]⟩
 case makeFunc fn a b=>
  obtain⟨U,A,h⟩:=bF h;obtain⟨W,hb,h⟩:=bF h;refine⟨_,h,λg w=>?_⟩
  have e1:a.map ρ=⟨U⟩:=by apply Array.ext';simp[mN j _ _ A g]
  have e2:b.map ρ=⟨W⟩:=by apply Array.ext';simp[mN j _ _ hb g]
  simp[execOp,hop,e1,e2,Instr.makeFunc]
 case call cl=>
  split at h
  .rename_i t ts D M;obtain⟨vs,B,h⟩:=bF h
   split at h
   .rename_i v r;have L:cl.argTypes[0]?=some t:=by rw[<-Array.getElem?_toList,M];rfl
    obtain⟨u,k,n⟩:=Nc t v cl.argTypes o.type ⟨v::r⟩ L (by simp) h;refine⟨u,k,λg w=>?_⟩
    have e1:cl.args.map ρ=⟨v::r⟩:=by apply Array.ext';simp[mN j _ _ B g]
    simp[execOp,hop,resolve,D,e1,invoke,builtin,n w]
   grind
  .rename_i D;obtain⟨vs,B,h⟩:=bF h;obtain⟨u,k,n⟩:=Nd (P:=X.P) vs cl.argTypes o.type h;refine⟨u,k,λg w=>?_⟩
   have e1:cl.args.map ρ=⟨vs⟩:=by apply Array.ext';simp[mN j _ _ B g]
   simp[execOp,hop,resolve,D,e1,invoke,builtin,n w]
  .rename_i D;obtain⟨vs,B,h⟩:=bF h;obtain⟨u,k,n⟩:=Nf (P:=X.P) vs cl.argTypes o.type h;refine⟨u,k,λg w=>?_⟩
   have e1:cl.args.map ρ=⟨vs⟩:=by apply Array.ext';simp[mN j _ _ B g]
   simp[execOp,hop,resolve,D,e1,invoke,builtin,n w]
  grind
end
def ft(P:Program)(w:World)(KP:KQ)(K:KQ):Result Next->Prop
 | .ok (.value v) w'=>bR w w'/\K v w'.heap
 | .ok .skip w'=>bR w w'/\K undef w'.heap
 | .ok (.enter f args) w'=>w'=w/\Calls P f args w (gV w K KP)
 | .ok (.round l f tmps assign body) w'=>w'=w/\RoundIn Fence.wide 0 P l f tmps assign body w (gV w K KP)
 | .halt (.panic v) w'=>bR w w'/\KP v w'.heap
 | _=>False
theorem gV.mono{w:World}{K c KP a:KQ}(d:∀v H,K v H->c v H)(f:∀v H,KP v H->a v H){e:Ending}{b:World}(h:gV w K KP e b):gV w c a e b:=by
 cases e <;> simp only[gV]at h ⊢
 case returned v=>grind
 grind
theorem Fin.toP{w:World}{K KP:KQ}{e:Ending}{a:World}(h:Fin w K e a):gV w K KP e a:=by
 cases e <;> simp only[Fin]at h
 exact h
theorem gV.fin{w:World}{K:KQ}{e:Ending}{a:World}(h:gV w K (λ_ _=>False) e a):Fin w K e a:=by
 cases e <;> simp only[gV]at h
 case returned v=>exact h
 case panicked chain=>obtain⟨v,_,_,h⟩:=h;exact h.elim
theorem ft.mono2{P:Program}{w:World}{K j KP a:KQ}{r:Result Next}(h:ft P w KP K r)(d:∀v H,K v H->j v H)(i:∀v H,KP v H->a v H):ft P w a j r:=by
 cases r with
 | halt h' w'=>
  cases h' <;> simp only[ft]at h ⊢
  grind
 | ok n w'=>
  cases n <;> simp only[ft]at h ⊢
  case value v=>grind
  case skip=>grind
  case enter f args=>exact⟨h.1,h.2.mono λe c b=>b.mono d i⟩
  case round l f tmps assign body=>exact⟨h.1,h.2.mono λe c b=>b.mono d i⟩
theorem ft.mono{P:Program}{w:World}{KP K a:KQ}{r:Result Next}(h:ft P w KP K r)(b:∀v H,K v H->a v H):ft P w KP a r:=h.mono2 b λ_ _ h=>h
section
variable {X:bX}{ρ:Operand->Value}{ev:Operand->Option Value}{c:Option Prop}{G:Prop}
theorem sK{P:Program}{f:FuncId}(hb:fq P f)(args:Array Value)(w:World):(callFunc f args).run P w=.ok (.enter f args) w:=by
 obtain⟨fn,c,b,a⟩:=hb;simp only[callFunc,Sem.run_bind,run_program,Result.andThen_ok,c,a,b,WQ,if_false,Sem.run_pure]
theorem BL{P:Program}{w:World}{b o:Nat}{v:Value}(h:aM w.heap b o=some v):(load ⟨b,o,none⟩).run P w=.ok v w:=by
 grind [run_load,cell?_cellAt]
theorem Ni{H:aC}{b o:Nat}{v:Value}{r:Xb}(h:bV H b o (v::r)):aM H b o=some v/\bV H b (o+1) r:=by
 cases r with
 | nil=>exact⟨h,trivial⟩
 | cons u r=>exact h
theorem BM{P:Program}{w:World}{b:Nat}:∀(l:Xb) (o i:Nat) (a:Array Value),bV w.heap b (o+i) l->
  (loadCellsFrom ⟨b,o,none⟩ i l.length a).run P w=.ok (a++l.toArray) w
 | [],o,i,a,_=>by simp[loadCellsFrom]
 | v::r,o,i,a,h=>by
  obtain⟨d,c⟩:=Ni h;have e:=BM (P:=P) r o (i+1) (a.push v) (by rw[<-Nat.add_assoc];exact c);simp only[VA,loadCellsFrom,Sem.run_bind,sJ,BL d,Result.andThen_ok,e];simp
theorem BN{P:Program}{t:TypeId}{Q:Value->Prop}(h:exT P t Q):P.underlying t≠none:=by
 grind [exT,pp,sy]
theorem exTL_ex{P:Program}{t:TypeId}{Q:Value->Prop}(h:exTL P t Q):P.underlying t≠none/\∃u,Q u:=by
 unfold exTL at h
 split at h
 .rename_i a;exact⟨by rw[a];simp,h⟩
 .exact⟨BN h,pA h⟩
theorem BO{P:Program}{w:World}{t:TypeId}{b off:Nat}{us:Xb}(c:aggT P t=true)(i:us.length=P.cellsOf t)(h:bV w.heap b off us) :
  (Instr.loadAt t (.pointer (some ⟨b,off,none⟩))).run P w=.ok (.agg ⟨us⟩) w:=by
 have e:=MY c;have a:P.info? t≠none:=by
  cases hd:P.underlying t with
  | none=>grind
  | some d=>grind [MI]
 have f:=BM (P:=P) (w:=w) (b:=b) us off 0 #[] (by simpa using h);simp only[Instr.loadAt,Instr.sureAddr,Sem.run_bind,Sem.run_pure,Result.andThen_ok,loadVar,BH _ w e,c,if_true,lC P t a,loadCells,<-i,f];simp
theorem BP{P:Program}{w:World}{t:TypeId}{b off:Nat}{u:Value}(c:P.underlying t≠none)(a:aggT P t=false)(h:aM w.heap b off=some u) :
  (Instr.loadAt t (.pointer (some ⟨b,off,none⟩))).run P w=.ok u w:=by
 simp only[Instr.loadAt,Instr.sureAddr,Sem.run_bind,Sem.run_pure,Result.andThen_ok,loadVar,BH _ w c,a,WQ,if_false,BL h]
theorem mO{P:Program}{w:World}{KP:KQ}{v:Value}{r:Result Next}(h:r=.ok (.value v) w):ft P w KP (λa H'=>a=v/\H'=w.heap) r:=by
 subst h;exact⟨bR.refl w,rfl,rfl⟩
theorem BQ{n:Nat}{l:List Nat}{q:Prop}(h:if bK n l=false then False else q):bK n l=true/\q:=by
 grind
theorem BR(o:Oper){H:aC}{K:Value->(aC->Prop)->Prop}(L:∀p,gt c p->G->p)(A:∀x v,ev x=some v->G->ρ x=v)(hX:∀f,bK f X.calls=true->fq X.P f)(hρ:∀f,ρ (.func f)=.func (.func f) #[] #[])
  (h:sF X ev c o H K):∃v F,K v F/\(∀q,c=some q->¬q->∀H',F H')/\(G->F H)/\(G->∀w,F w.heap->ft X.P w (λ_ _=>False) (λZ H'=>Z=v/\H'=w.heap) ((execOp ρ o).run X.P w)):=by
 unfold sF at h
 split at h
 .rename_i t x y;obtain⟨a,U,h⟩:=bF h
  split at h
  .rename_i b off
   split at h
   .rename_i M;unfold uF at h
    split at h
    .rename_i ls _;obtain⟨us,h⟩:=sG (ls:=ls) h
     split at h
     .rename_i N;refine⟨_,_,h.2,λq C B H'=>by subst C;exact λj=>V0 j B,λg=>h.1,λg w D=>mO ?_⟩
      simp[execOp,y,A x _ U g,BO M N (L _ D g)]
     grind
    grind
   .rename_i M;obtain⟨Y,u,E,I⟩:=exTL_ex h;refine⟨_,_,I,λq C B H'=>by subst C;exact λj=>V0 j B,λg=>E,λg w D=>mO ?_⟩
    simp[execOp,y,A x _ U g,BP Y M (L _ D g)]
  grind
 .rename_i t x i ok y;obtain⟨m,hm,h⟩:=bF h;obtain⟨k,T,h⟩:=bF h
  split at h
  .rename_i kt e ht;obtain⟨u,h⟩:=pA h
   split at h
   .obtain⟨S,E,I⟩:=h;refine⟨_,_,I,λq C B H'=>by subst C;exact λj=>V0 j B,λg=>E,λg w D=>mO ?_⟩
    simp[execOp,y,A x _ hm g,A i _ T g,L _ D g w rfl]
   .refine⟨_,_,h.2,λq C B H'=>by subst C;exact λj=>V0 j B,λg=>h.1,λg w D=>mO ?_⟩
    simp[execOp,y,A x _ hm g,A i _ T g,L _ D g w rfl]
  grind
 .rename_i s d x y;obtain⟨v,R,h⟩:=bF h
  split at h
  .obtain⟨b,E,I⟩:=h;refine⟨_,_,I,λq C B H'=>by subst C;exact λj=>V0 j B,λg=>E,λg w D=>mO ?_⟩
   simp[execOp,y,A x _ R g,L _ D g w rfl]
  grind
 .rename_i V y;obtain⟨v,R,h⟩:=bF h
  split at h
  .obtain⟨k,h⟩:=oB h;obtain⟨x,E,I⟩:=oB h;refine⟨_,_,I,λq C B H'=>by subst C;exact λj=>V0 j B,λg=>E,λg w D=>mO ?_⟩
   simp[execOp,y,A V _ R g,L _ D g w rfl]
  grind
 .rename_i cl y
  split at h
  .rename_i f O
   split at h
   .obtain⟨vs,J,h⟩:=bF h;obtain⟨ss,Q,h⟩:=bF h;obtain⟨u,E,I⟩:=sH h;refine⟨_,_,I,λq C B H'=>by subst C;exact λj=>V0 j B,λg=>E,λg w D=>mO ?_⟩
    have e1:cl.args.map ρ=⟨vs⟩:=by apply Array.ext';simp[mN A _ _ J g]
    have h3:=L _ E g w
    grind [execOp,resolve,Deferred.ofValue,invoke]
   obtain⟨hf,h⟩:=BQ h;obtain⟨vs,J,h⟩:=bF h;obtain⟨ss,Q,h⟩:=bF h;obtain⟨u,E,I⟩:=sH h;refine⟨_,_,I,λq C B H'=>by subst C;exact λj=>V0 j B,λg=>E,λg w D=>?_⟩
   have e1:cl.args.map ρ=⟨vs⟩:=by apply Array.ext';simp[mN A _ _ J g]
   have e2:(execOp ρ o).run X.P w=.ok (.enter f ⟨vs⟩) w:=by
    grind [execOp,resolve,Deferred.ofValue,invoke,sK]
   rw[e2];exact⟨rfl,((L _ D g).at w rfl).mono λe w2 W=>W.toP⟩
  .rename_i O;obtain⟨vs,J,h⟩:=bF h;obtain⟨n,E,I⟩:=h;refine⟨_,_,I,λq C B H'=>by subst C;exact λj=>V0 j B,λg=>E,λg w D=>mO ?_⟩
   have e1:cl.args.map ρ=⟨vs⟩:=by apply Array.ext';simp[mN A _ _ J g]
   simp[execOp,y,resolve,O,e1,invoke,builtin,L _ D g w rfl]
  grind
 grind
theorem Nj{P:Program}{w:World}{b o:Nat}{v:Value}(hs:(aM w.heap b o).isSome=true)(d:l8 w.heap b o=false)(c:cK [v]=true) :
  (store ⟨b,o,none⟩ v).run P w=.ok () (w.setCell ⟨b,o,none⟩ v):=by
 have a:v.oneCell'=true:=by cases v <;> simp[cK,Value.oneCell']at c ⊢
 grind [run_store,cell?_cellAt,frozen?_frozenAt]
theorem xU{v:Value}{r:Xb}(h:cK (v::r)=true):cK [v]=true/\cK r=true:=by
 cases v <;> simp[cK]at h ⊢ <;> exact h
theorem qO{P:Program}{b:Nat}:∀(l:Xb) (o i:Nat) (w:World),dJ w.heap b (o+i) l->(∀j,j<l.length->(aM w.heap b (o+i+j)).isSome=true/\l8 w.heap b (o+i+j)=false)->cK l=true->
  ∃c,(storeCells ⟨b,o,none⟩ l i).run P w=.ok () c/\bR w c/\c.heap=ee w.heap b (o+i) l
 | [],o,i,w,_,_,_=>⟨w,rfl,bR.refl w,rfl⟩
 | v::r,o,i,w,h,ha,hp=>by
  obtain⟨f,d⟩:=xU hp;have y:=ha 0 (by simp);have e:=Nj (P:=P) (w:=w) (b:=b) (o:=o+i) (v:=v) (by grind) (by grind) f;have a:∀x,(aM (gT w.heap b (o+i) v) b x).isSome=(aM w.heap b x).isSome/\l8 (gT w.heap b (o+i) v) b x=l8 w.heap b x:=by
   grind [aM,l8,gT]
  obtain⟨c,t,s,n⟩:=qO (P:=P) (b:=b) r o (i+1) (w.setCell ⟨b,o+i,none⟩ v) (by
    rw[uL]
    clear e
    have:∀(l:Xb) (x:Nat),(∀j,j<l.length->(aM (gT w.heap b (o+i) v) b (x+j)).isSome=true/\l8 (gT w.heap b (o+i) v) b (x+j)=false)->dJ (gT w.heap b (o+i) v) b x l:=by
     intro l
     induction l with
     | nil=>intro x _;trivial
     | cons u l ih=>intro x m;exact⟨by simpa using m 0 (by simp),ih (x+1) (λj k=>by have:=m (j+1) (by simp;omega);grind)⟩
    refine this r _ λj k=>?_
    have:=ha (j+1) (by simp;omega)
    grind) (λj k=>by
    rw[uL,(a _).1,(a _).2];have:=ha (j+1) (by simp;omega)
    grind) d
  refine⟨c,?_,?_,?_⟩
  .grind [storeCells,Sem.run_bind,sJ,Result.andThen_ok]
  .exact bR.trans (b:=w.setCell ⟨b,o+i,none⟩ v) ⟨rfl,rfl,rfl⟩ s
  .rw [n,uL];rfl
theorem qP{H:aC}{b:Nat}:∀(l:Xb) (x:Nat),dJ H b x l->∀j,j<l.length->(aM H b (x+j)).isSome=true/\l8 H b (x+j)=false
 | [],_,_,j,hj=>by simp at hj
 | _::r,x,h,0,_=>h.1
 | _::r,x,h,j+1,hj=>by
  have:=qP r (x+1) h.2 j (by grind)
  grind
theorem Nk{P:Program}{t:TypeId}{b off:Nat}{v:Value}{w:World}(i:v.cells.toList.length=P.cellsOf t)(hi:P.info? t≠none)(c:cK v.cells.toList=true)(h:dJ w.heap b off v.cells.toList) :
  ∃a,(Instr.storeAt t (.pointer (some ⟨b,off,none⟩)) v).run P w=.ok () a/\bR w a/\a.heap=ee w.heap b off v.cells.toList:=by
 obtain⟨a,f,d,e⟩:=qO (P:=P) (b:=b) v.cells.toList off 0 w (by simpa using h) (by grind [qP]) c;refine⟨a,?_,d,by grind⟩;simp only[Instr.storeAt,Instr.sureAddr,Sem.run_bind,Sem.run_pure,Result.andThen_ok,storeVar,lC P t hi]
 grind
theorem nI{P:Program}{s:Sem Value}{H:aC}{KP K:KQ}{w:World}(c:w.heap=H)(h:bS P s H K):ft P w KP K ((do pure (Next.value (<-s)):Sem Next).run P w):=by
 obtain⟨a,f,e,d,b⟩:=h.at w c;simp only[Sem.run_bind,e,Result.andThen_ok,Sem.run_pure];exact⟨d,b⟩
theorem xV{P:Program}{s:Sem Unit}{H:aC}{KP:KQ}{K:aC->Prop}{w:World}(c:w.heap=H)(h:bS P s H λ_ H'=>K H'):ft P w KP (λv H'=>v=undef/\K H') ((do s;pure Next.skip:Sem Next).run P w):=by
 obtain⟨a,f,e,d,b⟩:=h.at w c;simp only[Sem.run_bind,e,Result.andThen_ok,Sem.run_pure];exact⟨d,rfl,b⟩
theorem BS(z:Xb)(a:z≠[]):∀(n i:Nat),i<n*z.length->(lB z n)[i]?=z[i%z.length]?
 | 0,i,h=>by simp at h
 | n+1,i,h=>by
  simp only[lB]
  by_cases hi:i<z.length
  .rw [List.getElem?_append_left hi,WR hi]
  .rw [List.getElem?_append_right (by omega),BS z a n (i-z.length) (by rw[Nat.succ_mul]at h;omega)];rw[<-Nat.mod_eq_sub_mod (by omega)]
theorem xW(z:Xb):∀n,(lB z n).length=n*z.length
 | 0=>by simp[lB]
 | n+1=>by simp[lB,xW z n,Nat.succ_mul,Nat.add_comm]
theorem Nl(z:Array Value)(n:Nat):(Array.range (n*z.size)).map (λi=>z[i%z.size]!)=⟨lB z.toList n⟩:=by
 apply Array.ext';apply Wp
 grind [xW,BS]
theorem Nn{P:Program}(t e:TypeId)(n:Nat)(parts:List (Nat×Value))(l:Xb)(m:P.underlying t=some (.slice e))(A:n*P.cellsOf e<=16777216)(h:qM P e n parts=some l)(w:World) :
  (Instr.buildSlice t n parts.toArray).run P w=.ok (.slice (some ⟨w.heap.size,0,none⟩) n n) (w.alloc (.cells ⟨l⟩ e)):=by
 unfold qM at h
 split at h
 .rename_i z y;obtain⟨v,u,c,b⟩:=uM y
  split at h
  .rename_i k;have a:v.cells.size=P.cellsOf e:=by grind
   have f:=uN _ parts ⟨lB z n⟩ l h;simp only[Instr.buildSlice,Sem.run_bind,ei m,Result.andThen_ok,lC P e b];rw[nO]
   by_cases h0:n*P.cellsOf e=0
   .have d:(lB z n).length=0:=by grind [xW]
    have s:lB z n=[]:=W5.1 d;rw[s]at f;rw[V1 h0];have j:Instr.fill (λi=>some (i*P.cellsOf e,P.cellsOf e)) #[] parts=some ⟨l⟩:=f
    have x:Array.map (λ_:Nat=>(default:Value)) (Array.range 0)=#[]:=by simp
    simp[h0];rw[x,j];simp[newRow]
   .rw [Vz h0];have d:=Nl v.cells n;rw[a,u]at d;simp only[Sem.run_bind,c,Result.andThen_ok,Sem.run_pure,a,d,f];simp[newRow]
  .cases h
 .cases h
theorem BT(o:Oper){H:aC}{K:KQ}(A:∀x v,ev x=some v->ρ x=v)(hX:∀f,bK f X.calls=true->fq X.P f)(hρ:∀f,ρ (.func f)=.func (.func f) #[] #[])
  (h:px X ev o H K):∀w,w.heap=H->ft X.P w X.kp K ((execOp ρ o).run X.P w):=by
 intro w F;have L:∀(l:Array Operand) vs,gh ev l.toList=some vs->l.map ρ=⟨vs⟩:=λl vs C=>by
  apply Array.ext';simp[mN (G:=True) (λx v h _=>A x v h) _ _ C trivial]
 have S:∀(l:Array (Nat×Operand)) vs,jB ev l.toList=some vs->(l.map λ(i,x)=>(i,ρ x))=vs.toArray:=λl vs C=>by
  apply Array.ext';simp[<-xO (G:=True) (λx v h _=>A x v h) _ _ C trivial]
 unfold px at h
 split at h
 .rename_i t j;obtain⟨z,hz,h⟩:=bF h;obtain⟨v,B,N,_⟩:=uM hz;subst F;have:v.cells=⟨z⟩:=by grind
  simp[execOp,j,Instr.alloc,N,newVar,newRow,this];exact⟨⟨rfl,rfl,rfl⟩,h _ _ rfl rfl⟩
 .rename_i t x j;obtain⟨v,B,h⟩:=bF h;subst F;simp[execOp,j,Instr.box,A x v B,newVar,newRow];exact⟨⟨rfl,rfl,rfl⟩,h _ _ rfl rfl⟩
 .rename_i t n ps j;obtain⟨vs,C,h⟩:=bF h
  split at h
  .rename_i e ht;obtain⟨l,T,h⟩:=bF h
   split at h
   .rename_i hn;subst F;simp only[execOp,j,S ps vs C,Sem.run_bind,Nn t e n vs l ht hn T w,Result.andThen_ok,Sem.run_pure];exact⟨⟨rfl,rfl,rfl⟩,h _ _ rfl rfl⟩
   .exact h.elim
  .exact h.elim
 .rename_i t r j
  split at h
  .subst F;simp[execOp,j,Instr.makeMap];exact⟨⟨rfl,rfl,rfl⟩,h _ _ rfl rfl⟩
  .exact h.elim
 .rename_i t x y j;obtain⟨a,J,h⟩:=bF h;obtain⟨v,B,h⟩:=bF h
  split at h
  .rename_i b off;obtain⟨hi,_,h⟩:=pz h
   split at h
   .rename_i V;subst F;obtain⟨w',E,D,h3⟩:=Nk V.1 hi V.2 h.1;simp only[execOp,j,A x _ J,A y v B,Sem.run_bind,E,Result.andThen_ok,Sem.run_pure];exact⟨D,h.2 _ h3⟩
   .exact h.elim
  .exact h.elim
 .rename_i t l c j;obtain⟨a,J,h⟩:=bF h;obtain⟨b,hb,h⟩:=bF h;have:=nI (KP:=X.kp) F h;simp only[execOp,j,A l a J,A c b hb];exact this.mono λv H' B=>by obtain⟨u,E,D⟩:=pA B;subst E;exact D
 .rename_i t m k x j;obtain⟨a,J,h⟩:=bF h;obtain⟨b,hb,h⟩:=bF h;obtain⟨v,B,h⟩:=bF h;simp only[execOp,j,A m a J,A k b hb,A x v B];exact (xV F h).mono λu H' Q=>by obtain⟨rfl,D⟩:=Q;exact D
 .rename_i t m k x j;obtain⟨a,J,h⟩:=bF h;obtain⟨b,hb,h⟩:=bF h;obtain⟨v,B,h⟩:=bF h;simp only[execOp,j,A m a J,A k b hb,A x v B];exact (xV F h).mono λu H' Q=>by obtain⟨rfl,D⟩:=Q;exact D
 .rename_i t m k j;obtain⟨a,J,h⟩:=bF h;obtain⟨b,hb,h⟩:=bF h;simp only[execOp,j,A m a J,A k b hb];refine (nI F h).mono λv H' B=>?_
  split at B
  .obtain⟨u,n,E,D⟩:=pA B;subst E;exact D
  .exact B.elim
 .rename_i t m k x j;obtain⟨a,J,h⟩:=bF h;obtain⟨b,hb,h⟩:=bF h;obtain⟨v,B,h⟩:=bF h;simp only[execOp,j,A m a J,A k b hb,A x v B];exact (xV F h).mono λu H' Q=>by obtain⟨rfl,D⟩:=Q;exact D
 .rename_i t x j;obtain⟨a,J,h⟩:=bF h;simp only[execOp,j,A x a J];exact (nI F h).mono λv H' B=>by obtain⟨r,E,D⟩:=B;subst E;exact D
 .rename_i it s j;obtain⟨a,J,h⟩:=bF h;simp only[execOp,j,A it a J];refine (nI F h).mono λv H' B=>?_
  rcases B with ⟨E,D⟩|⟨k,x,E,D⟩
  .subst E;exact D
  .subst E;exact D
 .rename_i s d x j;obtain⟨a,J,h⟩:=bF h;simp only[execOp,j,A x a J];exact (nI F h).mono λv H' B=>by obtain⟨u,E,D⟩:=pA B;subst E;exact D
 .rename_i cl j
  split at h
  .rename_i f I;obtain⟨W,h⟩:=BQ h;obtain⟨vs,C,h⟩:=bF h;obtain⟨ss,R,h⟩:=bF h;have e2:(execOp ρ o).run X.P w=.ok (.enter f ⟨vs⟩) w:=by
    grind [execOp,resolve,Deferred.ofValue,invoke,sK]
   rw[e2];refine ft.mono (K:=λv H'=>kH ss λu=>v=u/\K u H') ?_ λv H' B=>?_
   .split at h
    .exact⟨rfl,h.at w F⟩
    .exact⟨rfl,(h.at w F).mono λe O M=>M.toP⟩
   obtain⟨u,E,D⟩:=sH B;subst E;exact D
  .rename_i x hx I;obtain⟨fv,U,Z⟩:=bF h
   clear h
   obtain⟨vs,C,Y⟩:=bF Z
   clear Z
   obtain⟨ss,R,hC⟩:=bF Y
   clear Y
   obtain⟨f,first,cap,rfl,h⟩|⟨l,rfl,h⟩:(∃f first cap,fv=.func (.func f) first cap/\(bK f X.calls=true/\gU X.P f ⟨first.toList++vs++cap.toList⟩ H λv H'=>kH ss λu=>v=u/\K u H'))\/
     (∃l,fv=.func (.yield l) #[] #[]/\eK X.P l vs H λv H'=>kH ss λu=>v=u/\K u H'):=by
    grind
   .obtain⟨W,h⟩:=h;have e2:(execOp ρ o).run X.P w=.ok (.enter f ⟨first.toList++vs++cap.toList⟩) w:=by
     simp only[execOp,j,resolve,I,A x _ U,Deferred.ofValue,invoke,L _ _ C,Sem.run_bind,Sem.run_pure,Result.andThen_ok];rw[sK (hX f W)];simp
    rw[e2];refine ft.mono (K:=λv H'=>kH ss λu=>v=u/\K u H') ⟨rfl,(h.at w F).mono λe O M=>M.toP⟩ λv H' B=>?_
    obtain⟨u,E,D⟩:=sH B;subst E;exact D
   .obtain⟨fn,tmps,assign,body,E,D⟩:=h.at w F;have e2:(execOp ρ o).run X.P w=.ok (.round l fn tmps assign body) w:=by
     grind [execOp,resolve,Deferred.ofValue,invoke]
    rw[e2];refine ft.mono (K:=λv H'=>kH ss λu=>v=u/\K u H') ⟨rfl,D.mono λe O M=>M.toP⟩ λv H' B=>?_
    obtain⟨u,E,D⟩:=sH B;subst E;exact D
  .rename_i I;obtain⟨vs,C,h⟩:=bF h;have:=nI (KP:=X.kp) F h;simp only[execOp,j,resolve,I,pure_bind,invoke,builtin,L _ _ C];exact this.mono λv H' B=>by obtain⟨a,n,c,E,D⟩:=B;subst E;exact D
  .rename_i I;obtain⟨vs,C,h⟩:=bF h;have:=nI (KP:=X.kp) F h;simp only[execOp,j,resolve,I,pure_bind,invoke,builtin,L _ _ C];exact this.mono λv H' B=>by obtain⟨n,E,D⟩:=B;subst E;exact D
  .rename_i I;obtain⟨vs,C,h⟩:=bF h;have:=nI (KP:=X.kp) F h;simp only[execOp,j,resolve,I,pure_bind,invoke,builtin,L _ _ C];exact this
  .rename_i I;obtain⟨vs,C,h⟩:=bF h;have:=nI (KP:=X.kp) F h;simp only[execOp,j,resolve,I,pure_bind,invoke,builtin,L _ _ C];exact this
  .exact h.elim
 .rename_i x j;obtain⟨v,B,h⟩:=bF h;unfold panP at h
  split at h
  .subst F;simp only[execOp,j,A x _ B,Sem.run_bind,run_panic_iface,Result.andThen];exact⟨bR.refl w,h⟩
  .exact h.elim
 .exact h.elim
end
abbrev jC:=List (Nat×Option (aC->Prop))
def pB(f:Option (aC->Prop))(H:aC):Prop:=match f with|none=>True|some p=>p H
section
variable {P:Program}{ops:Array Oper}
def pC(P:Program)(w0:World)(KP:KQ)(ops:Array Oper)(i:Nat)(K:Act->aC->Prop)(a:Act)(H:aC):Prop:=
 ∀w,w.heap=H->bR w0 w->match ops[i]? with
  | none=>K a H
  | some o=>if Region.wanted o (yielded ops a.tmps) then ft P w KP (λv H'=>K (a.put o.dst v) H') ((execOp a.eval o).run P w) else K (a.put o.dst undef) H
theorem BU{w0:World}{KP:KQ}{i:Nat}{K d:Act->aC->Prop}{a:Act}{H:aC}(c:∀a H,K a H->d a H)(h:pC P w0 KP ops i K a H):pC P w0 KP ops i d a H:=by
 intro w e f;have:=h w e f
 cases ho:ops[i]? with
 | none=>simp only[ho]at this ⊢;exact c _ _ this
 | some o=>
  simp only[ho]at this ⊢
  split at this
  .rename_i b;rw[V1 b];exact this.mono λv H'=>c _ _
  .rename_i b;rw[Vz b];exact c _ _ this
def kK(isW:Nat->Bool)(bf:Nat->Nat->Bool)(i:Nat)(pd:jC):jC:=if isW i then pd.filter (λx=>!bf i x.1) else pd
def mP(P:Program)(w0:World)(KP:KQ)(ops:Array Oper)(isW:Nat->Bool)(bf:Nat->Nat->Bool)(Q:Act->aC->Prop):Nat->jC->Array Bool->Act->aC->Prop
 | 0,pd,listed,a,H=>(∀x∈pd,pB x.2 H)/\Region.ready .any ops listed=[]/\Q a H
 | n+1,pd,listed,a,H=>(∀x∈pd,pB x.2 H)/\(Region.ready .any ops listed=[]->Q a H)/\
  ∀i∈Region.ready .any ops listed,pC P w0 KP ops i (λa' H'=>mP P w0 KP ops isW bf Q n (kK isW bf i pd) (listed.setIfInBounds i true) a' H') a H
def FR(ro:Option Nat):Fence:={ Fence.wide with round:=ro }
theorem xX{o:Oper}{a:Act}{w w0:World}{ro:Option Nat}(hd:∀c,o.op≠.defer c)(k:bR w0 w){KP K:KQ}{next:Act->World->Prop}{Q':Exit->Act->World->Prop}
  (m:∀v d,bR w0 d->K v d.heap->next (a.put o.dst v) d) (t:∀v d,bR w0 d->KP v d.heap->Q' (.panic [{ v,recovered:=false }]) a d)
  (h:ft P w KP K ((execOp a.eval o).run P w)):o.wpIn (FR ro) 0 P a w next Q':=by
 refine⟨λf _=>trivial,?_⟩
 have hs:o.semAt (FR ro).round a.eval=execOp a.eval o:=Oper.semAt_eq ro _ o hd;rw[hs];generalize (execOp a.eval o).run P w=r at h
 cases r with
 | halt h' d=>
  cases h' <;> simp only[ft]at h
  exact t _ _ (k.trans h.1) h.2
 | ok n d=>
  cases n <;> simp only[ft]at h
  case value v=>exact m _ _ (k.trans h.1) h.2
  case skip=>exact m _ _ (k.trans h.1) h.2
  case enter f args=>
   obtain⟨rfl,h⟩:=h;rw[Oper.uponIn_enter];refine⟨λhd=>(by cases hd),?_⟩
   have j:CallsIn Fence.wide (0-1) P f args d λ
     | .returned v,b=>next (a.put o.dst v) b
     | .panicked chain,b=>Q' (.panic chain) a b
     | .outgrown,_=>LetsOut Q':=callsIn_wide.2 (h.mono λe b i=>by
    cases e <;> simp only[gV]at i ⊢
    case returned v=>exact m _ _ (k.trans i.1) i.2
    case panicked chain=>obtain⟨v,rfl,s,j⟩:=i;exact t _ _ (k.trans s) j)
   exact j
  case round l f tmps assign body=>
   obtain⟨rfl,h⟩:=h;rw[Oper.uponIn_round];refine⟨λhd=>(by cases hd),?_⟩
   have j:RoundIn Fence.wide (0-1) P l f tmps assign body d λ
     | .returned v,b=>next (a.put o.dst v) b
     | .panicked chain,b=>Q' (.panic chain) a b
     | .outgrown,_=>LetsOut Q':=h.mono λe b i=>by
    cases e <;> simp only[gV]at i ⊢
    case returned v=>exact m _ _ (k.trans i.1) i.2
    case panicked chain=>obtain⟨v,rfl,s,j⟩:=i;exact t _ _ (k.trans s) j
   exact j
theorem uO{w0:World}{KP:KQ}{ro:Option Nat}{isW:Nat->Bool}{bf:Nat->Nat->Bool}{Q:Act->aC->Prop}{Q':Exit->Act->World->Prop}(k:∀a w,bR w0 w->Q a w.heap->Q' .normal a w)
  (hd:∀o∈ops.toList,∀c,o.op≠.defer c) {Inv:Act->Prop} (d:∀a o v,o∈ops.toList->Inv a->Inv (a.put o.dst v)) (s:∀v a w,bR w0 w->Inv a->KP v w.heap->Q' (.panic [{ v,recovered:=false }]) a w) :
  ∀(n:Nat) (A:jC) (b:Array Bool) (a:Act) (w:World),bR w0 w->Inv a->mP P w0 KP ops isW bf Q n A b a w.heap->wpAnyIn (FR ro) 0 P .any ops Q' n b a w
 | 0,_,_,_,_,hr,_,h=>⟨h.2.1,k _ _ hr h.2.2⟩
 | n+1,A,b,a,w,hr,ha,h=>⟨λB=>k _ _ hr (h.2.1 B),λi hi=>by
  have m:=h.2.2 i hi w rfl hr;unfold wpOpIn
  split at m
  .rename_i u;simp only[u];exact uO k hd d s n _ _ a w hr ha m
  .rename_i o u;simp only[u];have e:o∈ops.toList:=by
    grind
   split at m
   .rename_i y;rw[V1 y];exact xX (hd o e) hr (λv t j x=>uO k hd d s n _ _ _ t j (d _ _ _ e ha) x) (λv t j x=>s v a t j ha x) m
   .rename_i y;rw[Vz y];exact⟨λf _=>trivial,uO k hd d s n _ _ _ w hr (d _ _ _ e ha) m⟩⟩
def kL(P:Program)(ops:Array Oper)(o:Oper)(v:Value)(f:Option (aC->Prop))(a:Act):Prop:=
 (Region.wanted o (yielded ops a.tmps)=true->∀w,pB f w.heap->ft P w (λ_ _=>False) (λv' H'=>v'=v/\H'=w.heap) ((execOp a.eval o).run P w))/\
 (Region.wanted o (yielded ops a.tmps)=false->v=undef)
theorem kL.of_same{o:Oper}{v:Value}{f:Option (aC->Prop)}{a b:Act}(c:kL P ops o v f a)(e:execOp b.eval o=execOp a.eval o)
  (d:Region.wanted o (yielded ops b.tmps)=Region.wanted o (yielded ops a.tmps)):kL P ops o v f b:=by
 unfold kL at *
 grind
theorem kL.step{w0:World}{KP:KQ}{i:Nat}{o:Oper}{v:Value}{f:Option (aC->Prop)}{a:Act}{H:aC}(hi:ops[i]?=some o)(c:kL P ops o v f a)(j:pB f H){K:Act->aC->Prop}(h:K (a.put o.dst v) H) :
  pC P w0 KP ops i K a H:=by
 intro w k n;simp only[hi]
 split
 .rename_i b;subst k;exact (c.1 b w j).mono2 (λm H' ⟨e,d⟩=>by subst e;subst d;exact h) λ_ _ h=>h.elim
 .rename_i b;rw[<-c.2 (by grind)];exact h
theorem No{w0:World}{KP:KQ}{j:Nat}{c d:Oper}{v:Value}{f:Option (aC->Prop)}(A:ops[j]?=some d)(k:c.apart ops d=true)
  (s:∀cs b,c.op≠.select cs b) (m:∀cs b,d.op≠.select cs b) {K:Act->aC->Prop} {a:Act} {H:aC}
  (n:kL P ops c v f a) (h:pC P w0 KP ops j K (a.put c.dst v) H) :
  pC P w0 KP ops j (λt H'=>kL P ops c v f t/\K (t.put c.dst v) H') a H:=by
 obtain⟨y,B,x⟩:=Oper.apart_spec k;have keep:∀(a:Act),kL P ops c v f a->∀u,kL P ops c v f (a.put d.dst u):=λa n u=>
  n.of_same (execOp_put c s a d.dst u x) (wanted_put c a d.dst u x)
 intro w D E;have i:=h w D E;simp only[A]at i ⊢;rw[wanted_put d a c.dst v y]at i
 split
 .rename_i e;rw[V1 e,execOp_put d m a c.dst v y]at i;exact i.mono λu H' C=>⟨keep a n u,by rw[<-Act.put_comm a v u B];exact C⟩
 .rename_i e;rw[Vz e]at i
  grind [Act.put_comm]
def pD(ops:Array Oper)(listed:Array Bool):Prop:=
 ∀j oj,ops[j]?=some oj->listed.getD j false=true->∀e∈oj.after,Region.binds .any e=true->listed.getD e.on false=true
theorem pD.set{a:Array Bool}(h:pD ops a){i:Nat}(hi:i∈Region.ready .any ops a):pD ops (a.setIfInBounds i true):=by
 obtain⟨_,n,f,b⟩:=mem_ready.1 hi;intro j k d c e m hb
 by_cases hij:i=j
 .grind [getD_set_true]
 .rw [getD_set_ne false hij]at c;exact getD_set_true (h j k d c e m hb)
def BfOk(ops:Array Oper)(bf:Nat->Nat->Bool):Prop:=
 ∀j oj,ops[j]?=some oj->∀i,bf j i=true->∃e∈oj.after,Region.binds .any e=true/\(e.on=i\/(e.on<j/\bf e.on i=true/\(ops[e.on]?).isSome=true))
theorem Np{bf:Nat->Nat->Bool}(hb:BfOk ops bf){a:Array Bool}(f:pD ops a) :
  ∀(j:Nat) (b:Oper),ops[j]?=some b->a.getD j false=true->∀i,bf j i=true->a.getD i false=true:=by
 intro j
 induction j using Nat.strongRecOn with
 | _ j ih=>
  intro b d k i hi;obtain⟨e,m,c,h⟩:=hb j b d i hi;have n:=f j b d k e m c
  grind
theorem bf_ready{bf:Nat->Nat->Bool}(hb:BfOk ops bf){a:Array Bool}(m:pD ops a){j:Nat}(d:j∈Region.ready .any ops a)(i:Nat)(hi:bf j i=true):a.getD i false=true:=by
 obtain⟨_,k,b,c⟩:=mem_ready.1 d;obtain⟨e,n,f,h⟩:=hb j k b i hi
 grind [Np]
theorem getD_ft{a:Array Bool}{i:Nat}(h:a.getD i true=false):a.getD i false=false:=by
 grind
theorem Nq{isW:Nat->Bool}{bf:Nat->Nat->Bool}{i j:Nat}{f:Option (aC->Prop)}{a:jC}(h:bf j i=false):kK isW bf j ((i,f)::a)=(i,f)::kK isW bf j a:=by
 grind [kK]
theorem first_R{w0:World}{KP:KQ}{isW:Nat->Bool}{bf:Nat->Nat->Bool}{Q:Act->aC->Prop}(hb:BfOk ops bf)(hs:Region.noSelect ops=true){i:Nat}{C:Oper}{v:Value}{f:Option (aC->Prop)}(hi:ops[i]?=some C)(Y:isW i=false) :
  ∀(n:Nat) (s:jC) (c:Array Bool) (a:Act) (H:aC),pD ops c->
   (∀j A,ops[j]?=some A->j≠i->c.getD j true=false->(∀e∈A.after,Region.binds .any e=true->e.on≠i)->C.apart ops A=true)->
   i∈Region.ready .any ops c->kL P ops C v f a->
   mP P w0 KP ops isW bf Q n ((i,f)::s) (c.setIfInBounds i true) (a.put C.dst v) H->mP P w0 KP ops isW bf Q (n+1) s c a H:=by
 intro n
 induction n with
 | zero=>
  intro s c a H R _ y I h;refine⟨λx m=>h.1 x (VF _ m),λL=>(by rw[L]at y;cases y),λj E=>?_⟩
  by_cases hji:j=i
  .subst hji;refine I.step hi (h.1 _ VI) ?_;refine⟨λx m=>?_,h.2⟩
   have:x∈s:=by unfold kK at m;grind
   exact h.1 x (VF _ this)
  .have:=ready_mono E hji;rw[h.2.1]at this
   cases this
 | succ n ih=>
  intro s c a H R t y I h;refine⟨λx m=>h.1 x (VF _ m),λL=>(by rw[L]at y;cases y),λj E=>?_⟩
  by_cases hji:j=i
  .subst hji;refine I.step hi (h.1 _ VI) ?_;have e1:kK isW bf j s=s:=by unfold kK;grind
   rw[e1];have d:∀(n:Nat) (s w:jC) (c:Array Bool) (a:Act) (H:aC),(∀x∈w,x∈s)->mP P w0 KP ops isW bf Q n s c a H->mP P w0 KP ops isW bf Q n w c a H:=by
    intro n
    induction n with
    | zero=>intro s w c a H hs h;exact⟨λx m=>h.1 x (hs x m),h.2⟩
    | succ n ih2=>
     intro s w c a H hs h;refine⟨λx m=>h.1 x (hs x m),h.2.1,λk K=>BU (λJ H'=>ih2 _ _ _ J H' ?_) (h.2.2 k K)⟩
     intro x m;unfold kK at m ⊢
     grind
   exact d _ _ _ _ _ _ (λx m=>VF _ m) h
  .have V:=h.2.2 j (ready_mono E hji);obtain⟨G,A,B,T⟩:=mem_ready.1 E;have S:=getD_ft (mem_ready.1 y).1;have F:∀e∈A.after,Region.binds .any e=true->e.on≠i:=λe he h6 h5=>by
    grind
   have D:bf j i=false:=by
    grind [bf_ready]
   have Z:=No B (t j A B hji G F) (λcs b=>Region.noSelect_spec hs i C cs b hi) (λcs b=>Region.noSelect_spec hs j A cs b B) I V
   have u:∀k ok,ops[k]?=some ok->k≠i->(c.setIfInBounds j true).getD k true=false->
     (∀e∈ok.after,Region.binds .any e=true->e.on≠i)->C.apart ops ok=true:=λk ok K M W N=>by
    refine t k ok K M ?_ N
    by_cases hjk:j=k
    .grind
    simp_all
   refine BU (λJ H' O=>ih _ (c.setIfInBounds j true) J H' (R.set E) u (ready_mono y (Ne.symm hji)) O.1 ?_) Z
   have U:=O.2;rw[Nq D,Array.setIfInBounds_comm _ _ (Ne.symm hji)]at U;exact U
end
abbrev Kn:=List (Nat×Bool×Bool)
inductive GC where
 | yes|no|bad
 | iff (c:Prop)
def lD:Kn->Nat->Bool->Option Bool
 | [],_,_=>none
 | (j',w',b)::r,j,w=>if Nat.beq j' j then (if w' == w then some b else (if b then some false else lD r j w)) else lD r j w
def jh(ops:Array Oper)(j:Nat):Option Tmp:=match aI ops.toList j with|some o=>o.dst|none=>none
def kM(ops:Array Oper)(fr:Fr)(kn:Kn):Nat->Option (Nat×Bool)->GC
 | _,none=>.yes
 | 0,some _=>.bad
 | n+1,some (j,w)=>match lD kn j w with
  | some true=>.yes
  | some false=>.no
  | none=>match jh ops j with
   | none=>.no
   | some d=>match aI fr d with
    | some (.p (.bool c))=>.iff (c=w)
    | some (.p (.tuple _))=>.no
    | some (.p _)=>.bad
    | some (.g h w' (.bool c))=>match kM ops fr kn n (some (h,w')) with
     | .yes=>.iff (c=w)
     | .iff p=>.iff (p/\c=w)
     | .no=>.no
     | .bad=>.bad
    | _=>.bad
def impl(ops:Array Oper)(fr:Fr):Nat->Option (Nat×Bool)->Nat->Bool->Bool
 | 0,_,_,_=>false
 | _,none,_,_=>false
 | n+1,some (j',w'),j,w=>(Nat.beq j' j&&w' == w)||(match jh ops j' with
  | some d=>match aI fr d with
   | some (.g h w'' _)=>impl ops fr n (some (h,w'')) j w
   | _=>false
  | none=>false)
def heldB(ops:Array Oper)(fr:Fr)(kn:Kn)(gd:Option (Nat×Bool))(j:Nat)(w:Bool):Bool:=
 match lD kn j w with
 | some b=>b
 | none=>impl ops fr 9 gd j w
def evG(ops:Array Oper)(fr:Fr)(kn:Kn)(gd:Option (Nat×Bool)):Operand->Option Value
 | .tmp t=>match aI fr t with
  | some (.p v)=>some v
  | some (.g j w v)=>if heldB ops fr kn gd j w then some v else none
  | _=>none
 | .const v=>some v
 | .global g=>some (.pointer (some ⟨g,0,none⟩))
 | .func f=>some (.func (.func f) #[] #[])
def qQ(ops:Array Oper)(fr:Fr)(kn:Kn)(gd:Option (Nat×Bool))(side:Bool)(a x:Operand):Option Value:=
 match evG ops fr kn gd x with
 | some v=>some v
 | none=>match a,x with
  | .tmp s,.tmp t=>match aI fr t with
   | some (.g j w v)=>match jh ops j with
    | some d=>if Nat.beq d s&&w == side then some v else none
    | none=>none
   | _=>none
  | _,_=>none
def pE(ops:Array Oper):Kn->Nat->Option Bool
 | [],_=>none
 | (j,w,b)::r,t=>match jh ops j with
  | some d=>if Nat.beq d t then some (w == b) else pE ops r t
  | none=>pE ops r t
def pkG(ops:Array Oper)(fr:Fr)(kn:Kn)(gd:Option (Nat×Bool))(a b d:Operand):Option (Bool×Value×Value):=
 match evG ops fr kn gd a with
 | some (.bool c)=>match (match a with|.tmp t=>pE ops kn t|_=>none) with
  | some true=>match qQ ops fr kn gd true a b with|some v=>some (true,v,v)|none=>none
  | some false=>match qQ ops fr kn gd false a d with|some v=>some (false,v,v)|none=>none
  | none=>match qQ ops fr kn gd true a b,qQ ops fr kn gd false a d with|some x,some y=>some (c,x,y)|_,_=>none
 | _=>none
def kN(ops:Array Oper):List Nat->Option Tmp->Bool
 | _,none=>true
 | [],some _=>true
 | j::r,some t=>(match jh ops j with|some u=>!(Nat.beq u t)|none=>true)&&kN ops r (some t)
def qR(g:Option (Nat×Bool))(gs:List Nat):List Nat:=match g with|some (j,_)=>j::gs|none=>gs
section defs
variable (X:bX)(ops:Array Oper)
def vcPR(o:Oper)(kn:Kn)(gs:List Nat)(fr:Fr)(H:aC)(k:Fr->List Nat->Option (aC->Prop)->Prop):Prop:=
 if kN ops (qR o.guard gs) o.dst=false then False else
 match kM ops fr kn 9 o.guard with
 | .bad=>False
 | .no=>k (fr.put o.dst (.p undef)) gs none
 | .yes=>(match iP X o.op with
  | .P=>qN X (evG ops fr kn o.guard) (pkG ops fr kn o.guard) none o.op λv=>k (fr.put o.dst (.p v)) gs none
  | .R=>sF X (evG ops fr kn o.guard) none o H λv f=>k (fr.put o.dst (.p v)) gs (some f)
  | .W=>False)
 | .iff c=>(match o.guard with
  | none=>False
  | some (j,w)=>(match iP X o.op with
   | .P=>qN X (evG ops fr kn o.guard) (pkG ops fr kn o.guard) (some c) o.op λv=>k (fr.put o.dst (.g j w v)) (j::gs) none
   | .R=>sF X (evG ops fr kn o.guard) (some c) o H λv f=>k (fr.put o.dst (.g j w v)) (j::gs) (some f)
   | .W=>False))
def vcW(o:Oper)(kn:Kn)(gs:List Nat)(fr:Fr)(H:aC)(k:Fr->Kn->List Nat->aC->Prop):Prop:=
 if kN ops (qR o.guard gs) o.dst=false then False else
 match kM ops fr kn 9 o.guard with
 | .bad=>False
 | .no=>k (fr.put o.dst (.p undef)) kn gs H
 | .yes=>px X (evG ops fr kn o.guard) o H λv H'=>k (fr.put o.dst (.p v)) kn gs H'
 | .iff c=>(match o.guard with
  | none=>False
  | some (j,w)=>(c->px X (evG ops fr kn o.guard) o H λv H'=>k (fr.put o.dst (.p v)) ((j,w,true)::kn) (j::gs) H')/\
   (¬c->k (fr.put o.dst (.p undef)) ((j,w,false)::kn) (j::gs) H))
def BV(o:Oper)(c:Call)(r:List Oper)(fr:Fr)(k:List DM->Prop):Prop:=
 match o.guard,o.dst,r,c.callee,c.args.toList with
 | none,none,[],.value x,[]=>(match evG ops fr [] none x with
  | some (.func (.func g) ⟨[]⟩ ⟨cap⟩)=>k [.fn g cap]
  | _=>False)
 | _,_,_,_,_=>False
def kO(rd:Bool)(K:Fr->List DM->aC->Prop):List Oper->Kn->List Nat->Fr->aC->Prop
 | [],_,_,fr,H=>gu (kI fr) λfr'=>K fr' [] H
 | o::r,kn,gs,fr,H=>match o.op with
  | .defer c=>(match rd with
   | true=>BV ops o c r fr λM=>gu (kI fr) λfr'=>K fr' M H
   | false=>False)
  | op=>match iP X op with
   | .W=>vcW X ops o kn gs fr H λfr' kn' gs' H'=>gu fr' λfr'=>kO rd K r kn' gs' fr' H'
   | _=>vcPR X ops o kn gs fr H λfr' gs' _=>gu fr' λfr'=>kO rd K r kn gs' fr' H
def pF(acc:List Nat):List Edge->Nat->Nat
 | [],s=>s
 | e::r,s=>pF acc r (if Region.binds .any e then s ||| 2^e.on ||| (match aI acc e.on with|some m=>m|none=>0) else s)
def jD:List Oper->List Nat->List Nat
 | [],acc=>acc
 | o::r,acc=>jD r (acc++[pF acc o.after.toList 0])
def bfB(B:List Nat)(j i:Nat):Bool:=match aI B j with|some m=>m.testBit i|none=>false
def kP:List Nat->Option Nat
 | []=>none
 | i::r=>match aI ops.toList i with
  | some o=>(match iP X o.op with|.W=>kP r|_=>some i)
  | none=>kP r
def allL:List Nat->(Nat->Prop)->Prop
 | [],_=>False
 | [i],f=>f i
 | i::r,f=>f i/\allL r f
def uP:jC->aC->Prop->Prop
 | [],_,q=>q
 | (_,none)::r,H,q=>uP r H q
 | (_,some f)::r,H,q=>f H/\uP r H q
def pG(B:List Nat)(i:Nat):jC->jC
 | []=>[]
 | (j,f)::r=>match bfB B i j with|true=>pG B i r|false=>(j,f)::pG B i r
def uQ:List Oper->Bool
 | []=>true
 | o::r=>(match o.op with|.defer _=>false|_=>true)&&uQ r
theorem BW:∀{l:List Oper},uQ l=true->∀o∈l,∀c,o.op≠.defer c
 | [],_,o,a,_,_=>by cases a
 | x::r,h,o,a,c,hc=>by
  simp only[uQ,V4]at h
  rcases V9.1 a with rfl|a
  .grind
  .exact BW h.2 o a c hc
def dz(ops:Array Oper)(listed:Array Bool):List Nat:=
 (List.range ops.size).filter λi=>!listed.getD i true&&((ops[i]?).map (·.after.toList.all λe=>!Region.binds .any e||listed.getD e.on false)).getD false
theorem qS(ops:Array Oper)(a:Array Bool):dz ops a=Region.ready .any ops a:=by
 grind [dz,Region.ready]
def pH:List Bool->(List Bool->Prop)->Prop
 | [],k=>k []
 | true::r,k=>pH r λr'=>k (true::r')
 | false::r,k=>pH r λr'=>k (false::r')
theorem xY:∀(l:List Bool) (k:List Bool->Prop),pH l k=k l
 | [],_=>rfl
 | true::r,k=>by rw[pH,xY r]
 | false::r,k=>by rw[pH,xY r]
def oC(X:bX)(ops:Array Oper):Nat->Array Bool->Bool
 | 0,_=>true
 | n+1,listed=>match kP X ops (dz ops listed) with
  | some i=>Region.free .any ops listed i&&oC X ops n (listed.setIfInBounds i true)
  | none=>(dz ops listed).all λi=>oC X ops n (listed.setIfInBounds i true)
def oD(X:bX)(ops:Array Oper)(d:Bool):Bool:=match d with
 | false=>true
 | true=>Region.noSelect ops&&(uQ ops.toList&&(Nat.ble 45 ops.size||oC X ops ops.size (Array.replicate ops.size false)))
def okC(X:bX):Code->Bool
 | .region _ ops d=>oD X ops d
 | .seq a b=>okC X a&&okC X b
 | .cond _ a b=>okC X a&&okC X b
 | .block _ a=>okC X a
 | .loop a=>okC X a
 | .rangeFunc _ _ a b=>okC X a&&okC X b
 | _=>true
def qT(B:List Nat)(K:Fr->aC->Prop):Nat->Array Bool->jC->Kn->List Nat->Fr->aC->Prop
 | 0,listed,_,_,_,fr,H=>(match dz ops listed with|[]=>gu (kI fr) λfr'=>K fr' H|_=>False)
 | n+1,listed,pd,kn,gs,fr,H=>match kP X ops (dz ops listed) with
  | some i=>(match aI ops.toList i with
   | none=>False
   | some o=>vcPR X ops o kn gs fr H λfr' gs' f=>gu fr' λfr'=>pH (listed.setIfInBounds i true).toList λl=>qT B K n ⟨l⟩ ((i,f)::pd) kn gs' fr' H)
  | none=>allL (dz ops listed) λi=>(match aI ops.toList i with
   | none=>False
   | some o=>vcW X ops o kn gs fr H λfr' kn' gs' H'=>uP (pG B i pd) H' (gu fr' λfr'=>pH (listed.setIfInBounds i true).toList λl=>qT B K n ⟨l⟩ (pG B i pd) kn' gs' fr' H'))
def gX(i:Nat)(k:Fr->aC->Prop)(fr:Fr)(H:aC):Prop:=match aI ops.toList i with
 | none=>False
 | some o=>(match iP X o.op with
  | .W=>vcW X ops o [] [] fr H λfr' kn gs H'=>(match kn,gs with|[],[]=>k fr' H'|_,_=>False)
  | _=>vcPR X ops o [] [] fr H λfr' gs _=>(match gs with|[]=>k fr' H|_=>False))
def vcDrawI(K:Fr->aC->Prop)(fr:Fr)(H:aC):Prop:=∃I:List Bool->Fr->aC->Prop,I (List.replicate ops.size false) fr H/\
 ∀l fr' H',I l fr' H'->(dz ops ⟨l⟩=[]->K (kI fr') H')/\∀i,i∈dz ops ⟨l⟩->gX X ops i (I (l.set i true)) fr' H'
end defs
structure eE(ops:Array Oper)(fr:Fr)(kn:Kn)(gs:List Nat)(a:Act):Prop where
 size:a.tmps.size=fr.length
 pv:∀t v,aI fr t=some (.p v)->a.tmps[t]?=some v
 gv:∀t j w v,aI fr t=some (.g j w v)->j∈gs/\(yielded ops a.tmps j=some w->a.tmps[t]?=some v)/\(yielded ops a.tmps j≠some w->a.tmps[t]?=some undef)
 kn:∀x∈kn,x.1∈gs/\(yielded ops a.tmps x.1=some x.2.1↔x.2.2=true)
def eL(ops:Array Oper)(g:Option (Nat×Bool))(a:Act):Prop:=match g with|none=>True|some (j,w)=>yielded ops a.tmps j=some w
section
variable {X:bX}{ops:Array Oper}{fr:Fr}{kn:Kn}{gs:List Nat}{a:Act}
theorem BX(o:Oper):Region.wanted o (yielded ops a.tmps)=true↔eL ops o.guard a:=by
 grind [Region.wanted,eL]
theorem BZ(j:Nat):jh ops j=(ops[j]?).bind (·.dst):=by
 grind [jh,dq]
theorem mQ{j d:Nat}(h:jh ops j=some d):yielded ops a.tmps j=(match a.tmps[d]? with|some (.bool b)=>some b|_=>none):=by
 grind [BZ,yielded]
theorem Ca{j:Nat}(h:jh ops j=none):yielded ops a.tmps j=none:=by
 grind [BZ,yielded]
theorem Cb(R:eE ops fr kn gs a){j:Nat}{w b:Bool}:∀(l:Kn),(∀x∈l,x∈kn)->lD l j w=some b->(yielded ops a.tmps j=some w↔b=true)/\j∈gs
 | [],_,h=>by grind [lD]
 | (j',w',b')::r,hs,h=>by
  simp only[lD]at h;obtain⟨hm,c⟩:=R.kn _ (hs _ VI);simp only at hm c;have k:=Cb R r (λx c=>hs x (VF _ c)) (j:=j) (w:=w) (b:=b)
  split at h
  .rename_i m;have f:j'=j:=Wz m;subst f
   split at h
   .rename_i i;have e:w'=w:=by simpa using i
    subst e
    cases h
    exact⟨c,hm⟩
   .rename_i i
    split at h
    .rename_i hb
     cases h
     have:=c.2 hb;refine⟨⟨λd=>?_,λd=>by cases d⟩,hm⟩
     rw[this]at d;exfalso;apply i;simpa using d
    .exact k h
  .exact k h
theorem Cc(R:eE ops fr kn gs a){j:Nat}{w b:Bool}(h:lD kn j w=some b):(yielded ops a.tmps j=some w↔b=true)/\j∈gs:=
 Cb R kn (λ_ c=>c) h
theorem xZ(R:eE ops fr kn gs a):∀(n:Nat) (g:Option (Nat×Bool)),match kM ops fr kn n g with
  | .yes=>eL ops g a
  | .no=>¬eL ops g a
  | .bad=>True
  | .iff c=>eL ops g a↔c
 | n,none=>by cases n <;> simp[kM,eL]
 | 0,some _=>by simp[kM]
 | n+1,some (j,w)=>by
  simp only[kM]
  cases hk:lD kn j w with
  | some b=>
   have:=(Cc R hk).1
   cases b
   .simp only[eL];simp[this]
   .simp only[eL];simp[this]
  | none=>
   cases hd:jh ops j with
   | none=>simp only[eL];grind [Ca]
   | some d=>
    cases hl:aI fr d with
    | none=>simp only[hl]
    | some s=>
     cases s with
     | x=>simp only[hl]
     | p v=>
      cases v with
      | bool c=>
       simp only[hl,eL];rw[mQ hd,R.pv _ _ hl];simp
      | tuple c=>
       simp only[hl,eL];rw[mQ hd,R.pv _ _ hl];simp
      | _=>simp only[hl]
     | g h w' v=>
      cases v <;> simp only[hl]
      rename_i c;obtain⟨_,i,f⟩:=R.gv _ _ _ _ hl;have e:=xZ R n (some (h,w'))
      cases hg:kM ops fr kn n (some (h,w')) with
      | yes=>
       simp only[hg,eL]at e ⊢
       grind [mQ]
      | no=>
       simp only[hg,eL]at e ⊢
       grind [mQ,undef]
      | bad=>simp only
      | iff p=>
       simp only[hg,eL]at e ⊢
       grind [mQ,undef]
theorem Cd(R:eE ops fr kn gs a){j:Nat}{w:Bool}:∀(n:Nat) (g:Option (Nat×Bool)),impl ops fr n g j w=true->eL ops g a->yielded ops a.tmps j=some w
 | 0,_,h,_=>by grind [impl]
 | n+1,none,h,_=>by grind [impl]
 | n+1,some (j',w'),h,hg=>by
  simp only[impl,VY,V4]at h
  rcases h with ⟨c,b⟩|h
  .have e1:j'=j:=Wz c;have e2:w'=w:=by grind
   subst e1;subst e2;exact hg
  .cases hd:jh ops j' with
   | none=>grind
   | some d=>
    simp only[hd]at h
    cases hl:aI fr d with
    | none=>grind
    | some s=>
     cases s with
     | p v=>grind
     | x=>grind
     | g hh w'' v=>
      simp only[hl]at h;obtain⟨_,c,b⟩:=R.gv _ _ _ _ hl;refine Cd R n _ h ?_;simp only[eL]at hg ⊢
      by_cases hy:yielded ops a.tmps hh=some w''
      .exact hy
      .rw [mQ hd,b hy]at hg;simp[undef]at hg
theorem Nr(R:eE ops fr kn gs a){gd:Option (Nat×Bool)}{j:Nat}{w:Bool}(h:heldB ops fr kn gd j w=true)(c:eL ops gd a):yielded ops a.tmps j=some w:=by
 unfold heldB at h
 cases hk:lD kn j w with
 | some b=>rw[hk]at h;exact (Cc R hk).1.2 h
 | none=>grind [Cd]
theorem uR{t:Nat}{v:Value}(h:a.tmps[t]?=some v):a.eval (.tmp t)=v:=by
 simp[Act.eval,W6,h]
theorem oE(R:eE ops fr kn gs a){gd:Option (Nat×Bool)}(x:Operand)(v:Value)(h:evG ops fr kn gd x=some v)(b:eL ops gd a):a.eval x=v:=by
 cases x with
 | const u=>simp[evG]at h;subst h;rfl
 | global g=>simp[evG]at h;subst h;rfl
 | func f=>simp[evG]at h;subst h;rfl
 | tmp t=>
  simp only[evG]at h
  cases hl:aI fr t with
  | none=>grind
  | some s=>
   cases s with
   | p u=>simp[hl]at h;subst h;exact uR (R.pv _ _ hl)
   | x=>grind
   | g j w u=>
    simp only[hl]at h
    split at h
    .rename_i c
     cases h
     exact uR ((R.gv _ _ _ _ hl).2.1 (Nr R c b))
    .cases h
theorem ya(R:eE ops fr kn gs a){gd:Option (Nat×Bool)}{b:Bool}{x y:Operand}{v:Value}(h:qQ ops fr kn gd b x y=some v)(f:eL ops gd a)(e:a.eval x=.bool b):a.eval y=v:=by
 unfold qQ at h
 cases he:evG ops fr kn gd y with
 | some u=>grind [oE]
 | none=>
  rw[he]at h
  cases x <;> cases y <;> simp only at h <;> try cases h
  rename_i s t
  cases hl:aI fr t with
  | none=>grind
  | some sv=>
   cases sv with
   | p u=>grind
   | x=>grind
   | g j w u=>
    simp only[hl]at h
    cases hd:jh ops j with
    | none=>grind
    | some d=>
     simp only[hd]at h
     split at h
     .rename_i c
      cases h
      simp only[V4]at c;have e1:d=s:=Wz c.1;have e2:w=b:=by grind
      subst e1;subst e2;refine uR ((R.gv _ _ _ _ hl).2.1 ?_);rw[mQ hd];simp only[Act.eval,W6]at e
      grind [undef]
     .cases h
theorem Ce(R:eE ops fr kn gs a){t:Nat}{b c:Bool}(e:a.tmps[t]?=some (.bool c)):∀(l:Kn),(∀x∈l,x∈kn)->pE ops l t=some b->c=b
 | [],_,h=>by grind [pE]
 | (j,w,b')::r,hs,h=>by
  simp only[pE]at h;have f:=Ce R e r (λx i=>hs x (VF _ i)) (b:=b)
  cases hd:jh ops j with
  | none=>simp only[hd]at h;exact f h
  | some d=>
   simp only[hd]at h
   split at h
   .rename_i hb;have e1:d=t:=Wz hb;subst e1;have:=(R.kn _ (hs _ VI)).2;simp only at this;rw[mQ hd,e]at this
    cases w <;> cases b' <;> cases c <;> simp at this h ⊢ <;> simp[<-h]
   .exact f h
theorem Cf(R:eE ops fr kn gs a){t:Nat}{b c:Bool}(h:pE ops kn t=some b)(d:a.tmps[t]?=some (.bool c)):c=b:=
 Ce R d kn (λ_ e=>e) h
theorem Cg(R:eE ops fr kn gs a){gd:Option (Nat×Bool)}(x y z:Operand)(r:Bool×Value×Value)(h:pkG ops fr kn gd x y z=some r)(f:eL ops gd a) :
  a.eval x=.bool r.1/\(r.1=true->a.eval y=r.2.1)/\(r.1=false->a.eval z=r.2.2):=by
 unfold pkG at h
 cases he:evG ops fr kn gd x with
 | none=>grind
 | some u=>
  have d:=oE R x u he f
  cases u <;> simp only[he]at h <;> try cases h
  rename_i c
  split at h
  .rename_i b;have e:c=true:=by
    cases x <;> simp only at b <;> try cases b
    rename_i t;refine Cf R b ?_;simp only[Act.eval,W6]at d
    grind [undef]
   grind [ya]
  .rename_i b;have e:c=false:=by
    cases x <;> simp only at b <;> try cases b
    rename_i t;refine Cf R b ?_;simp only[Act.eval,W6]at d
    grind [undef]
   grind [ya]
  grind [ya]
end
structure Rel(fr:Fr)(a:Act):Prop where
 size:a.tmps.size=fr.length
 pv:∀t v,aI fr t=some (.p v)->a.tmps[t]?=some v
 ng:∀t j w v,aI fr t≠some (.g j w v)
section
variable {X:bX}{ops:Array Oper}{fr:Fr}{kn:Kn}{gs:List Nat}{a:Act}
theorem Ch:∀{gs:List Nat} {t:Tmp},kN ops gs (some t)=true->∀j∈gs,jh ops j≠some t
 | [],_,_,_,hj=>by cases hj
 | j::r,t,h,k,a=>by
  simp only[kN,V4]at h
  rcases V9.1 a with rfl|a
  .intro hd
   simp_all
  .exact Ch h.2 k a
theorem qU(a:Act)(t:Tmp)(u:Value):(a.put (some t) u).tmps=a.tmps.setIfInBounds t u:=rfl
theorem sL{d:Option Tmp}(u:Value)(h:kN ops gs d=true){j:Nat}(c:j∈gs):yielded ops (a.put d u).tmps j=yielded ops a.tmps j:=by
 cases d with
 | none=>rfl
 | some t=>
  have b:=Ch h j c
  cases hd:jh ops j with
  | none=>grind [Ca]
  | some s=>
   have:s≠t:=λe=>b (by rw[hd,e])
   rw[mQ hd,mQ hd,qU]
   grind
theorem Ci{d:Option Tmp}{g:Option (Nat×Bool)}(h:kN ops (qR g gs) d=true):kN ops gs d=true:=by
 cases g with
 | none=>exact h
 | some x=>
  obtain⟨j,w⟩:=x
  cases d with
  | none=>cases gs <;> rfl
  | some t=>simp only[qR,kN,V4]at h;exact h.2
theorem eV{α:Type}(l:List α)(n m:Nat)(x:α):aI (dP l n x) m=if n=m/\n<l.length then some x else aI l m:=by
 grind [dq,xM]
theorem nJ{α:Type}(l:List α)(n:Nat)(x:α):(dP l n x).length=l.length:=by grind [xM]
theorem lE{d:Option Tmp}{u:Value}{s:SV}{b:List Nat}(R:eE ops fr kn gs a)(A:kN ops b d=true)(e:∀j∈gs,j∈b)
  (hs:s=.p u\/∃j w v,s=.g j w v/\j∈b/\(yielded ops a.tmps j=some w->u=v)/\(yielded ops a.tmps j≠some w->u=undef)):eE ops (fr.put d s) kn b (a.put d u):=by
 cases d with
 | none=>
  exact⟨R.size,R.pv,λt j w v h=>by obtain⟨k,i⟩:=R.gv t j w v h;exact⟨e _ k,i⟩,λx y=>by obtain⟨k,i⟩:=R.kn x y;exact⟨e _ k,i⟩⟩
 | some t=>
  have n:(a.put (some t) u).tmps.size=(fr.put (some t) s).length:=by
   rw[qU];simp only[Fr.put];rw[nJ,Array.size_setIfInBounds];exact R.size
  have c:∀m,(a.put (some t) u).tmps[m]?=if t=m/\t<fr.length then some u else a.tmps[m]?:=by
   intro m;rw[qU,Array.getElem?_setIfInBounds,<-R.size]
   grind
  refine⟨n,λm v h=>?_,λm j w v h=>?_,λx y=>?_⟩
  .simp only[Fr.put]at h;rw[eV]at h;rw[c]
   split at h
   .grind
   .rename_i f;rw[Vz f];exact R.pv _ _ h
  .simp only[Fr.put]at h;rw[eV]at h;rw[c]
   split at h
   .rename_i f;rw[V1 f]
    grind [sL]
   .rename_i f;rw[Vz f];obtain⟨k,i⟩:=R.gv _ _ _ _ h
    grind [sL]
  .obtain⟨k,i⟩:=R.kn x y
   grind [sL]
theorem Cj{j:Nat}{w b:Bool}(R:eE ops fr kn gs a)(d:j∈gs)(h:yielded ops a.tmps j=some w↔b=true):eE ops fr ((j,w,b)::kn) gs a:=
 ⟨R.size,R.pv,R.gv,λx c=>by
  rcases V9.1 c with rfl|c
  .grind
  .exact R.kn x c⟩
theorem uS(a:Act)(f:FuncId):a.eval (.func f)=.func (.func f) #[] #[]:=rfl
theorem qV{c:Prop}[Decidable c]{q:Prop}(h:if c then False else q):¬c/\q:=by
 grind
theorem yc{o:Oper}{H:aC}{k:Fr->List Nat->Option (aC->Prop)->Prop}(T:∀f,bK f X.calls=true->fq X.P f)(R:eE ops fr kn gs a)
  (h:vcPR X ops o kn gs fr H k):∃v f J I,k J I f/\kL X.P ops o v f a/\pB f H/\eE ops J kn I (a.put o.dst v):=by
 unfold vcPR at h;obtain⟨V,h⟩:=qV h;have n:kN ops (qR o.guard gs) o.dst=true:=by grind
 have t:=Ci n;have y:=BX (ops:=ops) (a:=a) o;have m:=xZ R 9 o.guard
 cases hg:kM ops fr kn 9 o.guard with
 | bad=>grind
 | no=>
  simp only[hg]at h m;refine⟨undef,none,_,_,h,⟨λi=>V0 (y.1 i) m,λ_=>rfl⟩,trivial,lE R t (λ_ s=>s) (.inl rfl)⟩
 | yes=>
  simp only[hg]at h m;have i:Region.wanted o (yielded ops a.tmps)=true:=y.2 m;have u:∀x v,evG ops fr kn o.guard x=some v->True->a.eval x=v:=λx v Q _=>oE R x v Q m
  cases hk:iP X o.op with
  | P=>
   simp only[hk]at h;obtain⟨v,B,E⟩:=BK (P:=X.P) (G:=True) (c:=none) o (λp K _=>K) u (λb c d r M _=>Cg R b c d r M m) (λo v e=>by rw[e];rfl) rfl h
   exact⟨v,none,_,_,B,⟨λ_ w _=>mO (E trivial w),λD=>by grind⟩,trivial,lE R t (λ_ s=>s) (.inl rfl)⟩
  | R=>
   simp only[hk]at h;obtain⟨v,f,B,S,E,L⟩:=BR (G:=True) (c:=none) o (λp K _=>K) u T (uS a) h
   exact⟨v,some f,_,_,B,⟨λ_ w O=>L trivial w O,λD=>by grind⟩,E trivial,lE R t (λ_ s=>s) (.inl rfl)⟩
  | W=>grind
 | iff c=>
  simp only[hg]at h m
  cases hgd:o.guard with
  | none=>grind
  | some x=>
   obtain⟨j,w⟩:=x;rw[hgd]at h m y n;simp only at h;have u:∀x v,evG ops fr kn (some (j,w)) x=some v->eL ops (some (j,w)) a->a.eval x=v:=λx v Q A=>oE R x v Q A
   have F:∀p,gt (some c) p->eL ops (some (j,w)) a->p:=λp K A=>K (m.1 A)
   cases hk:iP X o.op with
   | P=>
    simp only[hk]at h;obtain⟨v,B,E⟩:=BK (P:=X.P) (G:=eL ops (some (j,w)) a) (c:=some c) o F u (λb c d r M A=>Cg R b c d r M A) (λo v e=>by rw[e];rfl) rfl h
    by_cases i:Region.wanted o (yielded ops a.tmps)=true
    .refine⟨v,none,_,_,B,⟨λ_ N _=>mO (E (y.1 i) N),λD=>by grind⟩,trivial,lE R n (λ_ s=>VF _ s) (.inr ⟨j,w,v,rfl,VI,λ_=>rfl,λC=>V0 (y.1 i) C⟩)⟩
    .refine⟨undef,none,_,_,B,⟨λD=>V0 D i,λ_=>rfl⟩,trivial,lE R n (λ_ s=>VF _ s) (.inr ⟨j,w,v,rfl,VI,λC=>V0 (y.2 C) i,λ_=>rfl⟩)⟩
   | R=>
    simp only[hk]at h;obtain⟨v,f,B,S,E,L⟩:=BR (G:=eL ops (some (j,w)) a) (c:=some c) o F u T (uS a) h
    by_cases i:Region.wanted o (yielded ops a.tmps)=true
    .refine⟨v,some f,_,_,B,⟨λ_ N O=>L (y.1 i) N O,λD=>by grind⟩,E (y.1 i),lE R n (λ_ s=>VF _ s) (.inr ⟨j,w,v,rfl,VI,λ_=>rfl,λC=>V0 (y.1 i) C⟩)⟩
    .refine⟨undef,some f,_,_,B,⟨λD=>V0 D i,λ_=>rfl⟩,S c rfl (λU=>i (y.2 (m.2 U))) H,lE R n (λ_ s=>VF _ s) (.inr ⟨j,w,v,rfl,VI,λC=>V0 (y.2 C) i,λ_=>rfl⟩)⟩
   | W=>grind
theorem yd{o:Oper}{H:aC}{k:Fr->Kn->List Nat->aC->Prop}(D:∀f,bK f X.calls=true->fq X.P f)(R:eE ops fr kn gs a)
  (h:vcW X ops o kn gs fr H k):∀w,w.heap=H->if Region.wanted o (yielded ops a.tmps) then ft X.P w X.kp (λv H'=>∃n i m,k n i m H'/\eE ops n i m (a.put o.dst v)) ((execOp a.eval o).run X.P w)
   else ∃n i m,k n i m H/\eE ops n i m (a.put o.dst undef):=by
 intro w y;unfold vcW at h;obtain⟨G,h⟩:=qV h;have b:kN ops (qR o.guard gs) o.dst=true:=by grind
 have s:=Ci b;have u:=BX (ops:=ops) (a:=a) o;have d:=xZ R 9 o.guard
 cases hg:kM ops fr kn 9 o.guard with
 | bad=>simp[hg]at h
 | no=>
  simp only[hg]at h d;rw[Vz (λe=>d (u.1 e))]
  exact⟨_,_,_,h,lE R s (λ_ t=>t) (.inl rfl)⟩
 | yes=>
  simp only[hg]at h d;rw[V1 (u.2 d)];refine (BT (X:=X) o (λx v C=>oE R x v C d) D (uS a) h w y).mono λv H' B=>?_
  exact⟨_,_,_,B,lE R s (λ_ t=>t) (.inl rfl)⟩
 | iff c=>
  simp only[hg]at h d
  cases hgd:o.guard with
  | none=>simp[hgd]at h
  | some x=>
   obtain⟨j,I⟩:=x;rw[hgd]at h d u b;simp only at h
   by_cases e:Region.wanted o (yielded ops a.tmps)=true
   .rw [V1 e];have A:=u.1 e;refine (BT (X:=X) o (λx v C=>oE R x v C A) D (uS a) (h.1 (d.1 A)) w y).mono λv H' B=>?_
    refine⟨_,_,_,B,Cj (lE R b (λ_ t=>VF _ t) (.inl rfl)) VI ?_⟩
    rw[sL v b VI];exact⟨λ_=>rfl,λ_=>A⟩
   .rw [Vz e];have E:¬c:=λF=>e (u.2 (d.2 F))
    refine⟨_,_,_,h.2 E,Cj (lE R b (λ_ t=>VF _ t) (.inl rfl)) VI ?_⟩
    rw[sL undef b VI];exact⟨λA=>V0 (u.2 A) e,λhb=>by cases hb⟩
theorem uT{α β:Type}(f:α->β)(l:List α)(n:Nat):aI (l.map f) n=(aI l n).map f:=by
 grind [dq]
theorem qW(R:eE ops fr kn gs a):Rel (kI fr) a:=by
 refine⟨by rw[R.size];simp[kI],λt v h=>?_,λt j w v h=>?_⟩
 .unfold kI at h;rw[uT]at h
  cases hl:aI fr t with
  | none=>grind
  | some s=>
   cases s <;> simp[hl]at h
   subst h;exact R.pv _ _ hl
 .unfold kI at h;rw[uT]at h
  cases hl:aI fr t with
  | none=>grind
  | some s=>grind
theorem pI(R:Rel fr a):eE ops fr [] [] a:=
 ⟨R.size,R.pv,λt j w v h=>V0 h (R.ng t j w v),λx b=>by cases b⟩
theorem Ns{P:Program}{o:Oper}{c:Call}{x:Operand}{ρ:Operand->Value}{g:FuncId}{cap:Xb}{w:World}(e:o.op=.defer c)(b:c.callee=.value x)(f:c.args.toList=[])
  (d:ρ x=.func (.func g) ⟨[]⟩ ⟨cap⟩):(execOp ρ o).run P w=.ok (.defer { target:=.fn (.func g) ⟨cap⟩,args:=#[] }) w:=by
 have a:c.args=#[]:=by grind
 simp[execOp,e,resolve,b,a,d,Deferred.ofValue]
theorem qX{K:Fr->List DM->aC->Prop}{Q:Exit->Act->World->Prop}{w0:World}{ro:Option Nat}(F:∀f,bK f X.calls=true->fq X.P f){Inv:Act->Prop}(e:∀a o v,o∈ops.toList->Inv a->Inv (a.put o.dst v))
  (J:∀fr a w,bR w0 w->Rel fr a->K fr [] w.heap->Inv a->Q .normal a w) (n:∀fr a w g cap,ro=none->bR w0 w->Rel fr a->K fr [.fn g cap] w.heap->Inv a->Q .normal { a with defers:={ target:=.fn (.func g) ⟨cap⟩,args:=#[] }::a.defers } w)
  (M:∀v a w,bR w0 w->Inv a->X.kp v w.heap->Q (.panic [{ v,recovered:=false }]) a w):∀(l:List Oper) (kn:Kn) (gs:List Nat) (fr:Fr) (a:Act) (w:World),(∀o∈l,o∈ops.toList)->Inv a->
  eE ops fr kn gs a->bR w0 w->kO X ops ro.isNone K l kn gs fr w.heap->wpListIn (FR ro) 0 X.P ops Q l a w
 | [],kn,gs,fr,a,w,hl,ha,R,hr,h=>J _ _ _ hr (qW R) (by simpa only[kO,kJ] using h) ha
 | o::r,kn,gs,fr,a,w,hl,ha,R,hr,h=>by
  have B:∀o∈r,o∈ops.toList:=λo Z=>hl o (VF _ Z)
  have A:∀v,Inv (a.put o.dst v):=λv=>e a o v (hl o VI) ha
  by_cases hdef:∃c,o.op=.defer c
  .obtain⟨c,S⟩:=hdef;simp only[kO,S]at h
   cases ro with
   | some l0=>exact h.elim
   | none=>
    simp only[Option.isNone_none]at h;simp only[BV,kJ]at h
    split at h
    case h_2=>exact h.elim
    rename_i x hg U N E
    split at h
    case h_2=>exact h.elim
    rename_i g cap i;have R0:=pI (ops:=ops) (qW R);have hx:a.eval x=.func (.func g) ⟨[]⟩ ⟨cap⟩:=by
     cases x with
     | const u=>simp[evG]at i;subst i;rfl
     | global g=>grind [evG]
     | func f=>simp[evG]at i;obtain⟨rfl,rfl⟩:=i;rfl
     | tmp t=>
      simp only[evG]at i
      cases hl2:aI fr t with
      | none=>grind
      | some s=>
       cases s with
       | p u=>simp[hl2]at i;subst i;exact uR (R.pv _ _ hl2)
       | x=>grind
       | g j G u=>
        grind [heldB,lD,impl]
    unfold wpListIn;rw[V1 (by grind [Region.wanted])];refine⟨λf _=>trivial,?_⟩
    have e1:(o.semAt (FR none).round a.eval)=execOp a.eval o:=rfl;rw[e1,Ns S N E hx,Oper.uponIn_defer,U];exact n _ _ _ g cap rfl hr (qW R) h ha
  have L:∀c,o.op≠.defer c:=λc S=>hdef ⟨c,S⟩
  have O:kO X ops ro.isNone K (o::r) kn gs fr w.heap=(match iP X o.op with
   | .W=>vcW X ops o kn gs fr w.heap λd y b H'=>kO X ops ro.isNone K r y b d H'
   | _=>vcPR X ops o kn gs fr w.heap λd b _=>kO X ops ro.isNone K r kn b d w.heap):=by
   grind [kO,kJ]
  rw[O]at h;have Y:∀C:vcPR X ops o kn gs fr w.heap λd b _=>kO X ops ro.isNone K r kn b d w.heap,wpListIn (FR ro) 0 X.P ops Q (o::r) a w:=by
   intro C;obtain⟨v,f,d,b,D,H,I,V⟩:=yc F R C;unfold wpListIn
   split
   .rename_i k;refine xX L hr (K:=λv' H'=>v'=v/\H'=w.heap) (λu G m T=>?_) (λ_ _ _ hf=>hf.elim) (H.1 k w I)
    obtain⟨rfl,hh⟩:=T;exact qX F e J n M r kn b d _ G B (A _) V m (by rw[hh];exact D)
   .rename_i k;rw[<-H.2 (by grind)];exact⟨λf _=>trivial,qX F e J n M r kn b d _ w B (A _) V hr D⟩
  cases C:iP X o.op with
  | P=>simp only[C]at h;exact Y h
  | R=>simp only[C]at h;exact Y h
  | W=>
   simp only[C]at h;have D:=yd F R h w rfl;unfold wpListIn
   split
   .rename_i k;rw[V1 k]at D;refine xX L hr (λu G m T=>?_) (λv G m C=>M v a G m ha C) D
    obtain⟨d,y,b,H,I⟩:=T;exact qX F e J n M r y b d _ G B (A _) I m H
   .rename_i k;rw[Vz k]at D;obtain⟨d,y,b,H,I⟩:=D;exact⟨λf _=>trivial,qX F e J n M r y b d _ w B (A _) I hr H⟩
theorem Cm(a:List Nat):∀(es:List Edge) (s i:Nat),(pF a es s).testBit i=true->s.testBit i=true\/∃e∈es,Region.binds .any e=true/\(e.on=i\/∃m,aI a e.on=some m/\m.testBit i=true)
 | [],s,i,h=>.inl h
 | e::r,s,i,h=>by
  simp only[pF]at h
  rcases Cm a r _ i h with d|⟨f,b,c⟩
  .grind
  grind
theorem Cn:∀(r:List Oper) (a:List Nat) (j:Nat),a.length<=j->∀o,r[j-a.length]?=some o->
  ∃b,b.length=j/\aI (jD r a) j=some (pF b o.after.toList 0)/\∀k,k<j->aI b k=aI (jD r a) k
 | [],a,j,_,o,h=>by simp at h
 | o'::r,a,j,hj,o,h=>by
  have c:∀(r:List Oper) (a:List Nat) (k:Nat),k<a.length->aI (jD r a) k=aI a k:=by
   intro r
   induction r with
   | nil=>intro a k _;rfl
   | cons x r ih=>
    grind [jD,dq]
  by_cases h0:j=a.length
  .subst h0;simp at h;subst h;refine⟨a,rfl,?_,λk d=>?_⟩
   .simp only[jD];rw[c r _ a.length (by simp),dq,List.getElem?_append_right (VD _)];simp
   grind
  .simp only[jD];refine Cn r (a++[pF a o'.after.toList 0]) j (by simp;omega) o ?_;rw[<-h];have:j-a.length=(j-(a++[pF a o'.after.toList 0]).length)+1:=by simp;omega
   rw[this,List.getElem?_cons_succ]
theorem bf_ok(ops:Array Oper):BfOk ops (bfB (jD ops.toList [])):=by
 intro j c h i hi;have f:ops.toList[j]?=some c:=by grind
 obtain⟨a,m,d,k⟩:=Cn ops.toList [] j (by simp) c (by grind);unfold bfB at hi;rw[d]at hi
 rcases Cm a _ 0 i hi with b|⟨e,n,hb,b⟩
 .simp at b
 grind [dq,bfB]
theorem Co(B:List Nat)(i:Nat):∀a:jC,pG B i a=a.filter (λx=>!bfB B i x.1)
 | []=>rfl
 | (j,f)::r=>by
  simp only[pG,Wq]
  cases h:bfB B i j <;> simp[Co B i r]
theorem uU:∀(d:jC) (H:aC) (q:Prop),uP d H q->(∀x∈d,pB x.2 H)/\q
 | [],_,_,h=>⟨λx a=>(by cases a),h⟩
 | (i,none)::r,H,q,h=>by
  obtain⟨c,b⟩:=uU r H q h;exact⟨λx a=>by rcases V9.1 a with rfl|a;exact trivial;exact c x a,b⟩
 | (i,some f)::r,H,q,h=>by
  obtain⟨c,b⟩:=uU r H q h.2;exact⟨λx a=>by rcases V9.1 a with rfl|a;exact h.1;exact c x a,b⟩
theorem Cp{f:Nat->Prop}:∀{l:List Nat},allL l f->l≠[]/\∀i∈l,f i
 | [],h=>h.elim
 | [i],h=>⟨by simp,λj a=>by simp at a;subst a;exact h⟩
 | i::j::r,h=>by
  have b:f i/\allL (j::r) f:=h;obtain⟨_,c⟩:=Cp b.2
  grind
def isWB(X:bX)(ops:Array Oper)(i:Nat):Bool:=match aI ops.toList i with|some o=>(match iP X o.op with|.W=>true|_=>false)|none=>false
theorem ye:∀{l:List Nat} {i:Nat},kP X ops l=some i->i∈l/\isWB X ops i=false
 | [],_,h=>by cases h
 | j::r,i,h=>by
  simp only[kP]at h
  cases hl:aI ops.toList j with
  | none=>simp only[hl]at h;obtain⟨b,a⟩:=ye h;exact⟨VF _ b,a⟩
  | some o=>
   simp only[hl]at h
   cases hk:iP X o.op with
   | W=>simp only[hk]at h;obtain⟨b,a⟩:=ye h;exact⟨VF _ b,a⟩
   | P=>simp only[hk]at h;cases h;exact⟨VI,by simp[isWB,hl,hk]⟩
   | R=>simp only[hk]at h;cases h;exact⟨VI,by simp[isWB,hl,hk]⟩
theorem yf:∀{l:List Nat},kP X ops l=none->∀i∈l,∀o,aI ops.toList i=some o->isWB X ops i=true
 | [],_,i,hi,_,_=>by cases hi
 | j::r,h,i,hi,o,ho=>by
  simp only[kP]at h
  cases hl:aI ops.toList j with
  | none=>
   simp only[hl]at h
   rcases V9.1 hi with rfl|hi
   .grind
   .exact yf h i hi o ho
  | some o'=>
   simp only[hl]at h
   cases hk:iP X o'.op with
   | W=>
    simp only[hk]at h
    rcases V9.1 hi with rfl|hi
    .grind [isWB]
    .exact yf h i hi o ho
   | P=>grind
   | R=>grind
theorem uV{K:Fr->aC->Prop}{w0:World}(D:∀f,bK f X.calls=true->fq X.P f)(hs:Region.noSelect ops=true){Inv:Act->Prop}(c:∀a o v,o∈ops.toList->Inv a->Inv (a.put o.dst v)) :
  ∀(n:Nat) (b:Array Bool) (s:jC) (kn:Kn) (gs:List Nat) (fr:Fr) (H:aC) (a:Act),pD ops b->(∀x∈s,pB x.2 H)->eE ops fr kn gs a->Inv a->oC X ops n b=true->
  qT X ops (jD ops.toList []) K n b s kn gs fr H->
  mP X.P w0 X.kp ops (isWB X ops) (bfB (jD ops.toList [])) (λO H'=>(∃d,Rel d O/\K d H')/\Inv O) n s b a H
 | 0,b,s,kn,gs,fr,H,a,hc,hp,R,ha,j,h=>by
  simp only[qT,qS,kJ]at h
  split at h
  .rename_i S;exact⟨hp,S,⟨_,qW R,h⟩,ha⟩
  .exact h.elim
 | n+1,b,s,kn,gs,fr,H,a,hc,hp,R,ha,j,h=>by
  simp only[qT,kJ,xY,qS]at h;simp only[oC,qS]at j
  cases hf:kP X ops (Region.ready .any ops b) with
  | some i=>
   simp only[hf]at h;simp only[hf,V4]at j;obtain⟨hi,u⟩:=ye hf
   cases hl:aI ops.toList i with
   | none=>simp[hl]at h
   | some o=>
    simp only[hl]at h;obtain⟨v,f,d,e,B,I,C,G⟩:=yc D R h;have m:ops[i]?=some o:=by grind [dq]
    have k:∀v,Inv (a.put o.dst v):=λv=>c a o v (by grind) ha
    refine first_R (bf_ok ops) hs m u n s b a H hc (Region.free_spec m j.1) hi I ?_;exact uV D hs c n _ _ kn e d H _ (hc.set hi) (λx N=>by rcases V9.1 N with rfl|N;exact C;exact hp x N) G (k _) j.2 B
  | none=>
   simp only[hf]at h;simp only[hf,VK]at j;obtain⟨J,E⟩:=Cp h;refine⟨hp,λQ=>V0 Q J,λi hi w L T=>?_⟩
   have A:=E i hi
   cases hl:aI ops.toList i with
   | none=>simp[hl]at A
   | some o=>
    simp only[hl]at A;have m:ops[i]?=some o:=by grind [dq]
    have k:∀v,Inv (a.put o.dst v):=λv=>c a o v (by grind) ha
    have u:=yf hf i hi o hl;have F:kK (isWB X ops) (bfB (jD ops.toList [])) i s=pG (jD ops.toList []) i s:=by unfold kK;rw[V1 u,Co]
    have B:=yd D R A w L;simp only[m]
    split
    .rename_i t;rw[V1 t]at B;refine B.mono λv H' j=>?_
     obtain⟨d,y,e,I,C⟩:=j;obtain⟨G,M⟩:=uU _ _ _ I;rw[F];exact uV D hs c n _ _ y e d H' _ (hc.set hi) G C (k _) (j i hi) M
    .rename_i t;rw[Vz t]at B;obtain⟨d,y,e,I,C⟩:=B;obtain⟨G,M⟩:=uU _ _ _ I;rw[F];exact uV D hs c n _ _ y e d H _ (hc.set hi) G C (k _) (j i hi) M
theorem Cq{l:List Bool}{i:Nat}(h:i∈dz ops ⟨l⟩):i<ops.size/\l[i]?=some false:=by
 unfold dz at h;simp only[Ws,Wh,V4,Wa]at h;refine⟨h.1,?_⟩;have:=h.2.1;simp only[W6,List.getElem?_toArray]at this
 cases hx:l[i]? with
 | none=>simp[hx]at this
 | some b=>simp_all
theorem Cr{K:Fr->aC->Prop}{w0:World}{isW:Nat->Bool}{bf:Nat->Nat->Bool}(G:∀f,bK f X.calls=true->fq X.P f){Inv:Act->Prop}(k:∀a o v,o∈ops.toList->Inv a->Inv (a.put o.dst v)){I:List Bool->Fr->aC->Prop}
  (D:∀l fr H,I l fr H->(dz ops ⟨l⟩=[]->K (kI fr) H)/\∀i,i∈dz ops ⟨l⟩->gX X ops i (I (l.set i true)) fr H) :
  ∀(n:Nat) (l:List Bool) (fr:Fr) (H:aC) (a:Act),eE ops fr [] [] a->Inv a->l.count false<=n->I l fr H->
  mP X.P w0 X.kp ops isW bf (λe H'=>(∃b,Rel b e/\K b H')/\Inv e) n [] ⟨l⟩ a H
 | 0,l,fr,H,a,R,ha,hl,hi=>by
  have N:dz ops ⟨l⟩=[]:=by
   rw[List.eq_nil_iff_forall_not_mem];intro i h;have j:=(Cq h).2;have:false∈l:=VW j;have:=List.count_pos_iff.2 this;omega
  exact⟨λx L=>(by cases L),by rw[<-qS];exact N,⟨_,qW R,(D l fr H hi).1 N⟩,ha⟩
 | n+1,l,fr,H,a,R,ha,hl,hi=>by
  refine⟨λx L=>(by cases L),λQ=>⟨⟨_,qW R,(D l fr H hi).1 (by rw[qS];exact Q)⟩,ha⟩,λi t=>?_⟩
  rw[<-qS]at t;obtain⟨T,hb⟩:=Cq t;have h:=(D l fr H hi).2 i t;have A:(l.set i true).count false<=n:=by
   have c:i<l.length:=(List.getElem?_eq_some_iff.1 hb).1;have m:l[i]=false:=(List.getElem?_eq_some_iff.1 hb).2;rw[List.count_set c];simp[m];omega
  have J:kK isW bf i []=[]:=by unfold kK;split <;> rfl
  have C:(⟨l⟩:Array Bool).setIfInBounds i true=⟨l.set i true⟩:=by simp
  rw[J,C];unfold gX at h;have y:ops[i]?=aI ops.toList i:=by rw[dq];simp
  cases ho:aI ops.toList i with
  | none=>simp[ho]at h
  | some o=>
   simp only[ho]at h;rw[ho]at y;have E:∀v,Inv (a.put o.dst v):=λv=>k a o v (by grind) ha
   have go:∀b v,eE ops b [] [] (a.put o.dst v)->∀H',I (l.set i true) b H'->mP X.P w0 X.kp ops isW bf (λe H'=>(∃b,Rel b e/\K b H')/\Inv e) n [] ⟨l.set i true⟩ (a.put o.dst v) H':=
    λb v O H' S=>Cr G k D n _ b H' _ O (E v) A S
   have M:vcPR X ops o [] [] fr H (λb gs _=>(match gs with|[]=>I (l.set i true) b H|_=>False))->pC X.P w0 X.kp ops i (λe H'=>mP X.P w0 X.kp ops isW bf (λe H'=>(∃b,Rel b e/\K b H')/\Inv e) n [] ⟨l.set i true⟩ e H') a H:=by
    intro h;obtain⟨v,f,b,d,j,c,m,U⟩:=yc G R h;refine c.step y m ?_
    cases d with
    | nil=>exact go b v U H j
    | cons=>exact j.elim
   cases B:iP X o.op with
   | P=>simp only[B]at h;exact M h
   | R=>simp only[B]at h;exact M h
   | W=>
    simp only[B]at h;intro w F V;have j:=yd G R h w F;simp only[y]
    split
    .rename_i s;rw[V1 s]at j;refine j.mono λv H' B=>?_
     obtain⟨b,u,d,c,m⟩:=B
     cases u with
     | cons=>exact c.elim
     | nil=>cases d with
      | cons=>exact c.elim
      | nil=>exact go b v m H' c
    .rename_i s;rw[Vz s]at j;obtain⟨b,u,d,c,m⟩:=j
     cases u with
     | cons=>exact c.elim
     | nil=>cases d with
      | cons=>exact c.elim
      | nil=>exact go b _ m H c
end
end Go.Proofs.YtnjaappmhadfdaaGreatDoor
