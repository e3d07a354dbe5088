/-
  Lemmas for GateKept: part 0 of what it rests on. Conditions: none.
-/
import Derived.WalkKit
import Derived.RangeFuncRecord
import Derived.WalkSmall
import Derived.OrdersIn
import Derived.TacticsIn
import Derived.RangeFuncWrites
import Derived.KernelRfl
import Derived.RecoverIn
import Derived.Laws.AppendOwn
import Derived.MapKept
import Derived.Lib.SlKeysI
import Derived.Below
import Derived.Laws.StructEq
import Derived.ChangeKeysEq
import Derived.Maps.RangeRun
import Derived.ProofKit
import Derived.Carry
import Derived.OpenShut
import Derived.ChangeSame
import Derived.Laws.MathBits
import Derived.Laws.MakeOwn
import Derived.Test.YtaaieblnikcndaaGreatDoorProg
import Derived.Shelf.Bytes.SlJoin
import Derived.Ground.SlbNamesProg
import Derived.Shelf.SlIterI.Nil
import Derived.Shelf.SortM.Plain
import Derived.Shelf.SortM.SortNone
import Derived.Shelf.SlMaps.Clone
import Derived.Ground.GgzProg
import Derived.Ground.SlgmProg
import Derived.Ground.SlmcProg
import Derived.Shelf.SlSortCmp.NoneTotal
import Derived.Shelf.Strings.OnBuilder
import Derived.Ground.SlsfProg
import Derived.Ground.NamesProg
import Derived.Laws.BytesArg
import Derived.Laws.IdiomStrings
import Derived.Laws.Cover1
import Derived.Lib.Bytealg
set_option linter.unusedVariables false
set_option linter.unusedSimpArgs false
set_option maxRecDepth 100000
set_option maxHeartbeats 16000000
open Go.IntKind (i64 u64 i8 u8 i32 u32 i16 u16)
abbrev Vs:=@if_neg
abbrev Vt:=@if_pos
abbrev Vu:=@absurd
abbrev Vv:=@List.length_append
abbrev Vw:=@of_decide_eq_true
abbrev Vx:=@of_decide_eq_false
abbrev Vy:=@decide_eq_true_eq
abbrev Vz:=@Bool.and_eq_true
abbrev V0:=@decide_eq_false_iff_not
abbrev V1:=@List.length_cons
abbrev V2:=@Nat.le_refl
abbrev V3:=@List.mem_map
abbrev V4:=@Int.toNat_natCast
abbrev V5:=@List.append_assoc
abbrev V6:=@List.mem_singleton
abbrev V7:=@List.getElem_mem
abbrev V8:=@List.length_map
abbrev V9:=@List.mem_cons
abbrev VA:=@List.mem_cons_self
abbrev VB:=@Bool.or_eq_false_iff
abbrev VD:=@List.mem_cons_of_mem
abbrev VE:=@Bool.or_eq_true
abbrev VF:=@decide_eq_true
abbrev VH:=@List.length_drop
abbrev VI:=@Nat.le_trans
abbrev VJ:=@List.map_append
abbrev VK:=@List.mem_append
abbrev VL:=@Nat.zero_add
abbrev VM:=@List.length_take
abbrev VN:=@List.length_nil
abbrev VO:=@Nat.lt_or_ge
abbrev VP:=@Bool.not_eq_true'
abbrev VQ:=@Nat.zero_le
abbrev VR:=@List.take_of_length_le
abbrev VS:=@List.map_cons
abbrev VT:=@List.append_nil
abbrev VU:=@List.flatMap_cons
abbrev VV:=@Int.le_refl
abbrev VW:=@List.take_length
abbrev VX:=@Option.map_some
abbrev VY:=@List.mem_of_getElem?
abbrev VZ:=@List.nil_append
abbrev Wa:=@List.filter_cons
abbrev Wb:=@Bool.eq_iff_iff
abbrev Wc:=@Bool.and_eq_false_iff
abbrev Wd:=@Bool.not_eq_false'
abbrev We:=@Nat.add_mul
abbrev Wf:=@List.take_succ_eq_append_getElem
abbrev Wg:=@List.all_eq_true
abbrev Wh:=@List.map_map
abbrev Wi:=@List.length_singleton
abbrev Wj:=@decide_eq_false
abbrev Wk:=@Nat.add_assoc
abbrev Wl:=@List.take_append_drop
abbrev Wm:=@List.drop_eq_getElem_cons
abbrev Wn:=@List.getElem_of_mem
abbrev Wo:=@List.mem_of_mem_take
abbrev Wp:=@List.getElem_map
abbrev Wq:=@Nat.mul_le_mul_right
abbrev Wr:=@Nat.mul_one
abbrev Ws:=@List.flatMap_append
abbrev Wt:=@List.pairwise_cons
abbrev Wu:=@List.drop_length
abbrev Wv:=@List.mem_filter
abbrev Ww:=@Nat.pow_add
abbrev Wx:=@List.ext_getElem
abbrev Wy:=@Array.length_toList
abbrev Wz:=@Nat.mod_lt
abbrev W0:=@List.cons_append
abbrev W1:=@List.not_mem_nil
abbrev W2:=@List.mem_range
abbrev W3:=@List.mem_of_mem_drop
abbrev W4:=@List.take_add_one
abbrev W5:=@Nat.mod_eq_of_lt
abbrev W6:=@List.length_eq_zero_iff
abbrev W7:=@Nat.eq_of_beq_eq_true
abbrev W8:=@Nat.add_zero
abbrev W9:=@List.eq_nil_of_length_eq_zero
abbrev WA:=@List.take_succ_cons
abbrev WB:=@List.map_congr_left
abbrev WE:=@List.filter_eq_nil_iff
abbrev WF:=@List.foldl_append
abbrev WG:=@List.set_getElem_self
abbrev WH:=@List.prefix_rfl
abbrev WI:=@List.ext_getElem?
abbrev WJ:=@List.mem_append_left
abbrev WK:=@List.nodup_cons
abbrev WL:=@Nat.min_eq_left
abbrev WM:=@Int.fdiv_eq_ediv_of_nonneg
abbrev WN:=@Int.natCast_mul
abbrev WO:=@Nat.two_pow_pos
abbrev WP:=@List.sum_cons
abbrev WQ:=@Bool.false_or
abbrev WR:=@Bool.false_eq_true
abbrev WS:=@Nat.add_sub_cancel_left
abbrev WT:=@Nat.div_lt_iff_lt_mul
abbrev WU:=@List.take_zero
abbrev WV:=@Nat.mul_le_mul_left
abbrev WW:=@Nat.add_comm
abbrev WX:=@List.mem_append_right
abbrev WY:=@Nat.zero_mul
abbrev WZ:=@List.map_nil
abbrev Ya:=@List.mem_flatMap
abbrev Yb:=@List.drop_left
abbrev Yc:=@Bool.true_and
abbrev Yd:=@List.getD_eq_getElem?_getD
abbrev Ye:=@List.map_set
abbrev Yf:=@List.set_set
abbrev Yg:=@Nat.le_of_ble_eq_true
abbrev Yh:=@List.set_cons_zero
abbrev Yi:=@Nat.div_add_mod'
abbrev Yj:=@List.take_append_of_le_length
abbrev Yk:=@List.drop_drop
abbrev Yl:=@List.pairwise_iff_getElem
abbrev Ym:=@List.length_pos_iff
abbrev Yn:=@List.filter_eq_self
abbrev Yo:=@List.pairwise_map
abbrev Yp:=@Nat.eq_zero_or_pos
abbrev Yq:=@Int.toNat_of_nonneg
abbrev Yr:=@List.filter_congr
abbrev Ys:=@List.length_filter_le
abbrev Yt:=@Bool.eq_false_iff
abbrev Yu:=@List.mem_or_eq_of_mem_set
abbrev Yv:=@List.length_set
abbrev Yw:=@List.prefix_append
abbrev Yx:=@Array.getD_eq_getD_getElem?
abbrev Yy:=@List.drop_succ_cons
abbrev Yz:=@List.drop_of_length_le
abbrev Y0:=@List.set_cons_succ
abbrev Y1:=@List.eq_nil_or_concat
abbrev Y2:=@List.concat_eq_append
abbrev Y3:=@BitVec.ofInt_natCast
abbrev Y4:=@BitVec.toNat_ofNat
abbrev Y5:=@List.replicate_succ
abbrev Y6:=@Nat.add_sub_cancel
abbrev Y7:=@Int.eq_ofNat_of_zero_le
abbrev Y8:=@List.getElem_range
abbrev Y9:=@Option.isSome_iff_exists
abbrev YA:=@Nat.two_pow_add_eq_or_of_lt
abbrev YB:=@List.eq_of_mem_replicate
namespace Go.Proofs.YtaaieblnikcndaaGreatDoor
open Go
theorem zt{α : Type}{a : Option α}{b c : α}(h : a = some b)(e : b = c := by kernel_rfl) : a = some c := h.trans (congrArg some e)
theorem nO{c : Prop}{_ : Decidable c}{α : Type}{a b : α}(h : ¬ c := by omega) : ite c a b = b := Vs h
theorem pO{c : Prop}{_ : Decidable c}{α : Type}{a b : α}(h : c := by omega) : ite c a b = a := Vt h
abbrev lt0 : ByteArray := ⟨#[0,1,2,2,3,3,3,3,4,4,4,4,4,4,4,4,5,5,5,5,5,5,5,5,5,5,5,5,5,5,5,5,6,6,6,6,6,6,6,6,6,6,6,6,6,6,6,6,6,6,6,6,6,6,6,6,6,6,6,6,6,6,6,6,7,7,7,7,7,7,7,7,7,7,7,7,7,7,7,7,7,7,7,7,7,7,7,7,7,7,7,7,7,7,7,7,7,7,7,7,7,7,7,7,7,7,7,7,7,7,7,7,7,7,7,7,7,7,7,7,7,7,7,7,7,7,7,7,8,8,8,8,8,8,8,8,8,8,8,8,8,8,8,8,8,8,8,8,8,8,8,8,8,8,8,8,8,8,8,8,8,8,8,8,8,8,8,8,8,8,8,8,8,8,8,8,8,8,8,8,8,8,8,8,8,8,8,8,8,8,8,8,8,8,8,8,8,8,8,8,8,8,8,8,8,8,8,8,8,8,8,8,8,8,8,8,8,8,8,8,8,8,8,8,8,8,8,8,8,8,8,8,8,8,8,8,8,8,8,8,8,8,8,8,8,8,8,8,8,8,8,8,8,8,8,8]⟩
abbrev aD:=Array Obj
abbrev KE:=Value->aD->Prop
abbrev KQ:=Option Addr
abbrev Os:=List Value
abbrev Fa:=ByteArray
def aL(H:aD)(b off:Nat):Option Value:=
 match H[b]? with
 | some (.cells c _ _)=>c[off]?
 | _=>none
def lY(H:aD)(b off:Nat):Bool:=
 match H[b]? with
 | some (.cells _ _ (lo,hi))=>lo<=off&&off<hi
 | _=>false
def iI(H:aD)(b off:Nat)(v:Value):aD:=
 H.modify b λ
  | .cells c elem frozen=>.cells (c.setIfInBounds off v) elem frozen
  | o=>o
structure bV(w w':World):Prop where
 os:w'.os=w.os
 tape:w'.tape=w.tape
 output:w'.output=w.output
inductive cU where
 | int (k:IntKind)|bool|str|ptr|slice|map|raw|fnv|adr
 | vec (k:IntKind) (n:Nat)
inductive Sh where
 | one (l:cU)
 | agg (ls:List cU)
def bW(k:IntKind)(f:Nat->Int):Nat->Nat->Os
 | 0,_=>[]
 | n+1,i=>.int k (f i)::bW k f n (i+1)
def cU.all:cU->(Value->Prop)->Prop
 | .int k,K=>∀n:Int,K (.int k n)
 | .bool,K=>∀b:Bool,K (.bool b)
 | .str,K=>∀s:Fa,K (.string s)
 | .ptr,K=>∀a:KQ,K (.pointer a)
 | .slice,K=>∀(a:KQ) (n c:Nat),K (.slice a n c)
 | .map,K=>∀r:Option Nat,K (.map r)
 | .raw,K=>∀v:Value,K v
 | .adr,K=>∀b o:Nat,K (.pointer (some ⟨b,o,none⟩))
 | .fnv,K=>∀(f:FuncId) (cap:Os),K (.func (.func f) ⟨[]⟩ ⟨cap⟩)
 | .vec _ _,_=>True
def cU.ex:cU->(Value->Prop)->Prop
 | .int k,K=>∃n:Int,K (.int k n)
 | .bool,K=>∃b:Bool,K (.bool b)
 | .str,K=>∃s:Fa,K (.string s)
 | .ptr,K=>∃a:KQ,K (.pointer a)
 | .slice,K=>∃(a:KQ) (n c:Nat),K (.slice a n c)
 | .map,K=>∃r:Option Nat,K (.map r)
 | .raw,K=>∃v:Value,K v
 | .adr,K=>∃b o:Nat,K (.pointer (some ⟨b,o,none⟩))
 | .fnv,K=>∃(f:FuncId) (cap:Os),K (.func (.func f) ⟨[]⟩ ⟨cap⟩)
 | .vec _ _,_=>False
def allLs:List cU->(Os->Prop)->Prop
 | [],K=>K []
 | l::r,K=>l.all λv=>allLs r λvs=>K (v::vs)
def exLs:List cU->(Os->Prop)->Prop
 | [],K=>K []
 | .vec k n::r,K=>∃f:Nat->Int,exLs r λvs=>K (bW k f n 0++vs)
 | l::r,K=>l.ex λv=>exLs r λvs=>K (v::vs)
def Sh.all:Sh->(Value->Prop)->Prop
 | .one l,K=>l.all K
 | .agg ls,K=>allLs ls λvs=>K (.agg ⟨vs⟩)
def Sh.ex:Sh->(Value->Prop)->Prop
 | .one l,K=>l.ex K
 | .agg ls,K=>exLs ls λvs=>K (.agg ⟨vs⟩)
def pI:List Sh->(Os->Prop)->Prop
 | [],K=>K []
 | s::r,K=>s.ex λv=>pI r λvs=>K (v::vs)
def lr:List Sh->(Value->Prop)->Prop
 | [],K=>K (.tuple #[])
 | [s],K=>s.ex K
 | s::t::r,K=>pI (s::t::r) λvs=>K (.tuple ⟨vs⟩)
def cU.fn:cU->Type->Type
 | .int _,T=>Int->T
 | .bool,T=>Bool->T
 | .str,T=>Fa->T
 | .ptr,T=>KQ->T
 | .slice,T=>KQ->Nat->Nat->T
 | .map,T=>Option Nat->T
 | .raw,T=>Value->T
 | .fnv,T=>FuncId->Os->T
 | .adr,T=>Nat->Nat->T
 | .vec _ _,T=>T
def fnLs:List cU->Type->Type
 | [],T=>T
 | l::r,T=>l.fn (fnLs r T)
def Sh.fn:Sh->Type->Type
 | .one l,T=>l.fn T
 | .agg ls,T=>fnLs ls T
abbrev du:=List (Nat×Sh)
def JT(T:Type):du->Type
 | []=>T
 | (_,s)::r=>s.fn (JT T r)
def cU.app:(l:cU)->{T:Type}->l.fn T->Value->Option T
 | .int k,_,f,.int k' n=>if k=k' then some (f n) else none
 | .bool,_,f,.bool b=>some (f b)
 | .str,_,f,.string s=>some (f s)
 | .ptr,_,f,.pointer a=>some (f a)
 | .slice,_,f,.slice a n c=>some (f a n c)
 | .map,_,f,.map r=>some (f r)
 | .raw,_,f,v=>some (f v)
 | .fnv,_,f,.func (.func g) ⟨[]⟩ ⟨cap⟩=>some (f g cap)
 | .adr,_,f,.pointer (some ⟨b,o,none⟩)=>some (f b o)
 | _,_,_,_=>none
def qS:(ls:List cU)->{T:Type}->fnLs ls T->Os->Option T
 | [],_,f,[]=>some f
 | l::r,_,f,v::vs=>match l.app (T:=fnLs r _) f v with|some g=>qS r g vs|none=>none
 | _,_,_,_=>none
def Sh.app:(s:Sh)->{T:Type}->s.fn T->Value->Option T
 | .one l,_,f,v=>l.app f v
 | .agg ls,_,f,.agg cs=>qS ls f cs.toList
 | .agg _,_,_,_=>none
inductive SV where
 | p (v:Value)
 | g (j:Nat) (b:Bool) (v:Value)
 | x
abbrev Fr:=List SV
def aT{α:Type}:List α->Nat->Option α
 | [],_=>none
 | a::_,0=>some a
 | _::r,n+1=>aT r n
def ir{α:Type}:List α->Nat->α->List α
 | [],_,_=>[]
 | _::r,0,x=>x::r
 | a::r,n+1,x=>a::ir r n x
def Fr.put(fr:Fr)(d:Option Tmp)(s:SV):Fr:=match d with|some t=>ir fr t s|none=>fr
def gu(ts:List Nat)(fr:Fr):Fr:=ts.foldl (λf t=>ir f t .x) fr
def pJ(fr:Fr):Fr:=fr.map fun|.g _ _ _=>.x|s=>s
def iJ(fr:Fr)(t:Nat):Option Value:=match aT fr t with|some (.p v)=>some v|_=>none
def lu:(L:du)->{T:Type}->JT T L->Fr->Option T
 | [],_,j,_=>some j
 | (t,s)::r,T,j,fr=>match iJ fr t with
  | some v=>match s.app (T:=JT T r) j v with
   | some j'=>lu r j' fr
   | none=>none
  | none=>none
def jJ(L:du)(J:JT (aD->Prop) L)(fr:Fr)(H:aD):Prop:=match lu L J fr with|some p=>p H|none=>False
def iu:Fr->(Fr->Prop)->Prop
 | [],k=>k []
 | .p v::r,k=>iu r λr'=>k (.p v::r')
 | .g j b v::r,k=>iu r λr'=>k (.g j b v::r')
 | .x::r,k=>iu r λr'=>k (.x::r')
theorem lv:∀(fr:Fr) (k:Fr->Prop),iu fr k=k fr
 | [],_=>rfl
 | .p _::r,k=>by rw[iu,lv r]
 | .g _ _ _::r,k=>by rw[iu,lv r]
 | .x::r,k=>by rw[iu,lv r]
def lw(ds:List Nat):Nat->Fr->Fr
 | _,[]=>[]
 | i,s::r=>(match memD i ds with|true=>.x|false=>s)::lw ds (i+1) r
where memD (n:Nat):List Nat->Bool
 | []=>false
 | m::r=>match Nat.beq n m with|true=>true|false=>memD n r
def allJ:du->Fr->(Fr->Prop)->Prop
 | [],fr,K=>K fr
 | (t,s)::r,fr,K=>s.all λv=>iu (ir fr t (.p v)) λfr'=>allJ r fr' K
def lZ(P:Program)(s:Sem Value)(v:Value):Prop:=∀w,s.run P w=.ok v w
def gY(P:Program)(op:BinOp)(t:TypeId)(x y:Value)(b:Bool):Prop:=∀ox oy w,(do eqGuard op t ox oy x y;binOp op t x y:Sem Value).run P w=.ok (.bool b) w
def pK(P:Program)(f:FuncId)(args:Array Value)(v:Value):Prop:=∀w,(callFunc f args).run P w=.ok (.value v) w
def di(P:Program)(s:Sem Value)(H:aD)(v:Value):Prop:=∀w,w.heap=H->s.run P w=.ok v w
@[irreducible] def cB {α:Type} (P:Program) (s:Sem α) (H:aD) (K:α->aD->Prop):Prop:=
 ∀w,w.heap=H->∃a w',s.run P w=.ok a w'/\bV w w'/\K a w'.heap
def Fin(w:World)(K:KE):Ending->World->Prop
 | .returned v,w'=>bV w w'/\K v w'.heap
 | .panicked _,_=>False
 | .outgrown,_=>False
@[irreducible] def iK (P:Program) (f:FuncId) (args:Array Value) (H:aD) (K:KE):Prop:=
 ∀w,w.heap=H->Calls P f args w (Fin w K)
def iL(w:World)(K KP:KE):Ending->World->Prop
 | .returned v,w'=>bV w w'/\K v w'.heap
 | .panicked chain,w'=>∃v,chain=[{ v,recovered:=false }]/\bV w w'/\KP v w'.heap
 | .outgrown,_=>False
@[irreducible] def nk (P:Program) (f:FuncId) (args:Array Value) (H:aD) (K KP:KE):Prop:=
 ∀w,w.heap=H->Calls P f args w (iL w K KP)
def bX(P:Program)(f:FuncId)(args:Array Value)(H:aD)(v:Value):Prop:=iK P f args H λv' H'=>v'=v/\H'=H
@[irreducible] def fJ (P:Program) (l:Nat) (vs:Os) (H:aD) (K:KE):Prop:=
 ∀w,w.heap=H->∃fn tmps assign body,(Instr.yield l ⟨vs⟩).run P w=.ok (.round l fn tmps assign body) w/\RoundIn Fence.wide 0 P l fn tmps assign body w (Fin w K)
theorem cB.at{α:Type}{P:Program}{s:Sem α}{H:aD}{K:α->aD->Prop}(h:cB P s H K):∀w,w.heap=H->∃a b,s.run P w=.ok a b/\bV w b/\K a b.heap:=by unfold cB at h;exact h
theorem cB.mk{α:Type}{P:Program}{s:Sem α}{H:aD}{K:α->aD->Prop}(h:∀w,w.heap=H->∃a b,s.run P w=.ok a b/\bV w b/\K a b.heap):cB P s H K:=by unfold cB;exact h
theorem iK.at{P:Program}{f:FuncId}{args:Array Value}{H:aD}{K:KE}(h:iK P f args H K):∀w,w.heap=H->Calls P f args w (Fin w K):=by unfold iK at h;exact h
theorem iK.mk{P:Program}{f:FuncId}{args:Array Value}{H:aD}{K:KE}(h:∀w,w.heap=H->Calls P f args w (Fin w K)):iK P f args H K:=by unfold iK;exact h
theorem nk.at{P:Program}{f:FuncId}{args:Array Value}{H:aD}{K KP:KE}(h:nk P f args H K KP):∀w,w.heap=H->Calls P f args w (iL w K KP):=by unfold nk at h;exact h
theorem nk.mk{P:Program}{f:FuncId}{args:Array Value}{H:aD}{K KP:KE}(h:∀w,w.heap=H->Calls P f args w (iL w K KP)):nk P f args H K KP:=by unfold nk;exact h
theorem fJ.at{P:Program}{l:Nat}{vs:Os}{H:aD}{K:KE}(h:fJ P l vs H K):∀w,w.heap=H->∃fn tmps assign body,(Instr.yield l ⟨vs⟩).run P w=.ok (.round l fn tmps assign body) w/\RoundIn Fence.wide 0 P l fn tmps assign body w (Fin w K):=by unfold fJ at h;exact h
theorem fJ.mk{P:Program}{l:Nat}{vs:Os}{H:aD}{K:KE}(h:∀w,w.heap=H->∃fn tmps assign body,(Instr.yield l ⟨vs⟩).run P w=.ok (.round l fn tmps assign body) w/\RoundIn Fence.wide 0 P l fn tmps assign body w (Fin w K)):fJ P l vs H K:=by unfold fJ;exact h
def gF(P:Program)(f:FuncId):Prop:=∃fn,P.funcs[f]?=some fn/\fn.body.isNone=false/\(fn.name == "runtime.NumGoroutine")=false
inductive DM where
 | mark (r:Nat)
 | fn (g:FuncId) (cap:Os)
structure Ctx where
 P:Program
 quiet:List FuncId
 calls:List FuncId
 nexts:List (Nat×Sh×Sh):=[]
 pan:List FuncId:=[]
 ext:List FuncId:=[]
 kp:KE:=λ_ _=>False
 nop:Bool:=false
def Ctx.nx(X:Ctx)(l:List (Nat×Sh×Sh)):Ctx:={ X with nexts:=l }
def nextOf:List (Nat×Sh×Sh)->Option Tmp->Option (Sh×Sh)
 | _,none=>none
 | [],some _=>none
 | (t,k,x)::r,some d=>match Nat.beq t d with|true=>some (k,x)|false=>nextOf r (some d)
inductive Kind where
 | P|R|W
 deriving DecidableEq
def bJ(n:Nat):List Nat->Bool
 | []=>false
 | m::r=>Nat.beq n m||bJ n r
def leafOf:TypeDesc->Option cU
 | .bool=>some .bool
 | .int k=>some (.int k)
 | .string=>some .str
 | .pointer _=>some .ptr
 | .slice _=>some .slice
 | .map _ _=>some .map
 | .func _ _ _=>some .fnv
 | .interface _=>some .raw
 | _=>none
def sW(P:Program):Nat->TypeId->Option (List cU)
 | 0,_=>none
 | n+1,t=>match P.underlying t with
  | some (.struct fs)=>fs.toList.foldr (λf acc=>match sW P n f.type,acc with|some a,some b=>some (a++b)|_,_=>none) (some [])
  | some (.array k e)=>match sW P n e with
   | some a=>(match a,Nat.ble 16 k with|[.int ki],true=>some [.vec ki k]|a,_=>some ((List.replicate k a).flatten))
   | none=>none
  | some d=>match leafOf d with|some l=>some [l]|none=>none
  | none=>none
def aggT(P:Program)(t:TypeId):Bool:=match P.underlying t with|some (.struct _)|some (.array _ _)=>true|_=>false
def pL(P:Program)(t:TypeId):Option Sh:=
 match aggT P t,sW P 9 t with
 | true,some ls=>some (.agg ls)
 | false,some [l]=>some (.one l)
 | _,_=>none
def exT(P:Program)(t:TypeId)(K:Value->Prop):Prop:=match pL P t with|some s=>s.ex K|none=>False
def uV(P:Program)(t:TypeId)(K:Os->Prop):Prop:=match sW P 9 t with|some ls=>exLs ls K|none=>False
def bE(H:aD)(b:Nat):Nat->Os->Prop
 | _,[]=>True
 | o,[v]=>aL H b o=some v
 | o,v::r=>aL H b o=some v/\bE H b (o+1) r
abbrev gt:Option Prop->Prop->Prop
 | none,p=>p
 | some c,p=>c->p
def bP{α:Type}(o:Option α)(K:α->Prop):Prop:=match o with|some v=>K v|none=>False
def aY(op:BinOp)(k:IntKind)(x y:Int):Int:=
 match op with
 | .and=>k.wrap (BitVec.ofInt k.bits x &&& BitVec.ofInt k.bits y).toNat
 | .or=>k.wrap (BitVec.ofInt k.bits x ||| BitVec.ofInt k.bits y).toNat
 | .xor=>k.wrap (BitVec.ofInt k.bits x^^^BitVec.ofInt k.bits y).toNat
 | _=>k.wrap (BitVec.ofInt k.bits x &&& ~~~BitVec.ofInt k.bits y).toNat
def xS(op:BinOp)(k:IntKind)(x y:Int)(c:Option Prop)(K:Value->Prop):Prop:=
 match op with
 | .add=>K (.int k (k.wrap (x+y)))
 | .sub=>K (.int k (k.wrap (x-y)))
 | .mul=>K (.int k (k.wrap (x*y)))
 | .quo=>gt c (y≠0)/\K (.int k (k.wrap (x.tdiv y)))
 | .rem=>gt c (y≠0)/\K (.int k (x.tmod y))
 | .and=>K (.int k (aY .and k x y))
 | .or=>K (.int k (aY .or k x y))
 | .xor=>K (.int k (aY .xor k x y))
 | .andNot=>K (.int k (aY .andNot k x y))
 | .eql=>K (.bool (decide (x=y)))
 | .neq=>K (.bool (!decide (x=y)))
 | .lss=>K (.bool (decide (x<y)))
 | .leq=>K (.bool (decide (x<=y)))
 | .gtr=>K (.bool (decide (y<x)))
 | .geq=>K (.bool (decide (y<=x)))
 | .shl=>gt c (0<=y)/\K (.int k (k.wrap (x*2^(min y.toNat k.bits))))
 | .shr=>gt c (0<=y)/\K (.int k (x.fdiv (2^(min y.toNat k.bits))))
def xT(op:BinOp)(x y:Fa)(c:Option Prop)(K:Value->Prop):Prop:=
 match op with
 | .add=>gt c (((x.size+y.size:Nat):Int)<=i64.max)/\K (.string (x++y))
 | .eql=>K (.bool (x.toList == y.toList))
 | .neq=>K (.bool (!(x.toList == y.toList)))
 | .lss=>K (.bool (Op.bytesLess x.toList y.toList))
 | .leq=>K (.bool (Op.bytesLess x.toList y.toList||x.toList == y.toList))
 | .gtr=>K (.bool (!(Op.bytesLess x.toList y.toList||x.toList == y.toList)))
 | .geq=>K (.bool (!Op.bytesLess x.toList y.toList))
 | _=>False
def pM(d:Option TypeDesc)(x y:Value):Option Bool:=
 match d,x,y with
 | some .bool,.bool a,.bool b=>some (a == b)
 | some (.pointer _),.pointer a,.pointer none=>some a.isNone
 | some (.slice _),.slice a _ _,.slice none _ _=>some a.isNone
 | some (.map _ _),.map a,.map none=>some a.isNone
 | some (.func _ _ _),.func _ _ _,.nilFunc=>some false
 | some (.func _ _ _),.nilFunc,.nilFunc=>some true
 | _,_,_=>none
def binP(P:Program)(op:BinOp)(t:TypeId)(x y:Value)(c:Option Prop)(K:Value->Prop):Prop:=
 match x,y with
 | .int k a,.int k' b=>if k=k' then xS op k a b c K else (match op with
  | .shl=>gt c (0<=b)/\K (.int k (k.wrap (a*2^(min b.toNat k.bits))))
  | .shr=>gt c (0<=b)/\K (.int k (a.fdiv (2^(min b.toNat k.bits))))
  | _=>False)
 | .string a,.string b=>xT op a b c K
 | x,y=>match op,pM (P.underlying t) x y with
  | .eql,some b=>K (.bool b)
  | .neq,some b=>K (.bool !b)
  | op,none=>∃b:Bool,gt c (gY P op t x y b)/\K (.bool b)
  | _,_=>False
def ifaceT(P:Program)(t:TypeId):Bool:=match P.underlying t with|some (.interface _)=>true|_=>false
def binQ(P:Program)(op:BinOp)(t:TypeId)(x y:Value)(c:Option Prop)(K:Value->Prop):Prop:=
 match ifaceT P t with
 | true=>∃b:Bool,gt c (gY P op t x y b)/\K (.bool b)
 | false=>binP P op t x y c K
def unP(op:UnOp)(x:Value)(K:Value->Prop):Prop:=
 match op,x with
 | .neg,.int k n=>K (.int k (k.wrap (0-n)))
 | .xor,.int k n=>K (.int k (aY .xor k (if k.signed then -1 else k.max) n))
 | .not,.bool b=>K (.bool !b)
 | _,_=>False
def pN(c:Bool)(a b:Value):Value:=
 match a,b with
 | .bool x,.bool y=>.bool (cond c x y)
 | a,b=>cond c a b
def sX(b d:Operand)(r:Bool×Value×Value):Value:=
 match b with
 | .const (.bool true)=>(match r.2.2 with|.bool y=>.bool (r.1||y)|_=>pN r.1 r.2.1 r.2.2)
 | _=>(match d with
  | .const (.bool false)=>(match r.2.1 with|.bool x=>.bool (r.1&&x)|_=>pN r.1 r.2.1 r.2.2)
  | _=>pN r.1 r.2.1 r.2.2)
def uW(o:Nat)(n:Int):Nat->Nat
 | 1=>o+n.toNat
 | s=>o+n.toNat*s
theorem BS(o:Nat)(n:Int)(s:Nat):uW o n s=o+n.toNat*s:=by unfold uW;split <;> simp
def nX(P:Program)(t:TypeId)(q:Prop):Prop:=match P.cellsOf t with|0=>False|_+1=>q
def cq(a:KQ)(l m size:Nat):KQ:=if m=l then a else a.map (·.add (l*size))
def iM(x:Value)(K:Int->Prop):Prop:=match x with|.int _ n=>K n|_=>False
def xU(P:Program)(t:TypeId)(x:Value)(lo hi:Option Value)(c:Option Prop)(K:Value->Prop):Prop:=
 match P.underlying t,x with
 | some .string,.string s=>
  let go (l h:Int):Prop:=gt c (0<=l/\l<=h/\h<=(s.size:Int))/\K (.string (s.extract l.toNat h.toNat))
  match lo,hi with
  | some l,some h=>iM l λl=>iM h λh=>go l h
  | some l,none=>iM l λl=>go l s.size
  | none,some h=>iM h λh=>go 0 h
  | none,none=>go 0 s.size
 | some (.slice e),.slice a len cap=>
  let go (l h:Int):Prop:=gt c (0<=l/\l<=h/\h<=(cap:Int))/\K (.slice (cq a l.toNat cap (P.cellsOf e)) (h.toNat-l.toNat) (cap-l.toNat))
  nX P e <| match lo,hi with
  | some l,some h=>iM l λl=>iM h λh=>go l h
  | some l,none=>iM l λl=>go l len
  | none,some h=>iM h λh=>go 0 h
  | none,none=>go 0 len
 | some (.array n e),.pointer (some a)=>
  let go (l h:Int):Prop:=gt c (0<=l/\l<=h/\h<=(n:Int))/\K (.slice (cq (some a) l.toNat n (P.cellsOf e)) (h.toNat-l.toNat) (n-l.toNat))
  nX P e <| match lo,hi with
  | some l,some h=>iM l λl=>iM h λh=>go l h
  | some l,none=>iM l λl=>go l n
  | none,some h=>iM h λh=>go 0 h
  | none,none=>go 0 n
 | _,_=>False
def xV(P:Program)(t:TypeId)(x l h m:Value)(c:Option Prop)(K:Value->Prop):Prop:=
 match P.underlying t,x,l,h,m with
 | some (.slice e),.slice a _ cap,.int _ l,.int _ h,.int _ m=>nX P e <| gt c (0<=l/\l<=h/\h<=m/\m<=(cap:Int))/\K (.slice (cq a l.toNat m.toNat (P.cellsOf e)) (h.toNat-l.toNat) (m.toNat-l.toNat))
 | _,_,_,_,_=>False
def bAt(s:Fa)(i:Nat):Int:=(((s.data[i]?).getD 0).toNat:Int)
def xW(P:Program)(t:TypeId)(x i:Value)(c:Option Prop)(K:Value->Prop):Prop:=
 match P.underlying t,x,i with
 | some .string,.string s,.int _ n=>gt c (0<=n/\n<(s.size:Int))/\K (.int .u8 (bAt s n.toNat))
 | some (.array _ e),x,i=>match pL P e with
  | some s=>s.ex λv=>gt c (lZ P (Instr.index t x i) v)/\K v
  | none=>False
 | _,_,_=>False
def xX(P:Program)(t:TypeId)(x i:Value)(c:Option Prop)(K:Value->Prop):Prop:=
 match P.underlying t,x,i with
 | some (.slice e),.slice a len _,.int _ n=>nX P e <| gt c (0<=n/\n<(len:Int))/\∃b o:Nat,gt c (a=some ⟨b,o,none⟩)/\K (.pointer (some ⟨b,uW o n (P.cellsOf e),none⟩))
 | some (.array len e),.pointer (some ⟨b,o,none⟩),.int _ n=>nX P e <| gt c (0<=n/\n<(len:Int))/\K (.pointer (some ⟨b,uW o n (P.cellsOf e),none⟩))
 | _,_,_=>False
def xY(P:Program)(t:TypeId)(x:Value)(f:Nat)(K:Value->Prop):Prop:=
 match P.underlying t,x with
 | some (.struct fs),.pointer (some ⟨b,o,none⟩)=>match aT fs.toList f with
  | some fd=>nX P fd.type <| K (.pointer (some ⟨b,o+fd.offset,none⟩))
  | none=>False
 | _,_=>False
def fieldP(P:Program)(t:TypeId)(x:Value)(f:Nat)(c:Option Prop)(K:Value->Prop):Prop:=
 match P.underlying t with
 | some (.struct fs)=>match aT fs.toList f with
  | some fd=>match pL P fd.type with
   | some s=>s.ex λu=>gt c (lZ P (Instr.field t x f) u)/\K u
   | none=>False
  | none=>False
 | _=>False
def aU:KQ->Nat
 | some a=>a.block
 | none=>0
def aS:KQ->Nat
 | some a=>a.off
 | none=>0
def isA:KQ->Prop
 | some ⟨_,_,none⟩=>True
 | _=>False
def NN(a:KQ)(p:Prop):Prop:=match a with
 | some ⟨_,_,none⟩=>p
 | _=>False
theorem isA_iff{a:KQ}:isA a↔a=some ⟨aU a,aS a,none⟩:=by
 rcases a with _|⟨b,o,_|s⟩ <;> simp[isA,aU,aS]
theorem xZ{a:KQ}{p:Prop}:NN a p↔a=some ⟨aU a,aS a,none⟩/\p:=by
 rcases a with _|⟨b,o,_|s⟩ <;> simp[NN,aU,aS]
def uX(x:Value)(c:Option Prop)(K:Value->Prop):Prop:=
 match x with
 | .pointer a=>(match c with
  | none=>NN a (K (.pointer (some ⟨aU a,aS a,none⟩)))
  | some c=>(c->isA a)/\K (.pointer (some ⟨aU a,aS a,none⟩)))
 | .func (.func f) a b=>K (.func (.func f) a b)
 | .func (.yield f) a b=>K (.func (.yield f) a b)
 | _=>False
def sY(P:Program)(t:TypeId):Option (Os):=match P.info? t with|some i=>(match i.zero with|some v=>some v.cells.toList|none=>none)|none=>none
def offOf(P:Program):List Field->Nat->Option (Nat×Nat)
 | fs,i=>match aT fs i with|some f=>some (f.offset,P.cellsOf f.type)|none=>none
def uY:Os->Nat->Os->Os
 | cs,_,[]=>cs
 | cs,o,v::r=>uY (ir cs o v) (o+1) r
def pP(place:Nat->Option (Nat×Nat)):Os->List (Nat×Value)->Option (Os)
 | cells,[]=>some cells
 | cells,(i,v)::rest=>
  match place i with
  | none=>none
  | some (off,size)=>if v.cells.toList.length=size/\off+size<=cells.length then pP place (uY cells off v.cells.toList) rest else none
def uZ(P:Program):List Field->Bool
 | []=>true
 | f::r=>(P.info? f.type).isSome&&uZ P r
def ya(P:Program)(t:TypeId)(parts:List (Nat×Value)):Option (Os):=
 match sY P t,P.underlying t with
 | some z,some (.struct fs)=>if uZ P fs.toList=true then pP (offOf P fs.toList) z parts else none
 | some z,some (.array _ e)=>match P.info? e with
  | some _=>pP (λi=>some (i*P.cellsOf e,P.cellsOf e)) z parts
  | none=>none
 | _,_=>none
def lx(z:Os):Nat->Os
 | 0=>[]
 | n+1=>z++lx z n
def yb(P:Program)(e:TypeId)(len:Nat)(parts:List (Nat×Value)):Option (Os):=
 match sY P e with
 | some z=>if z.length=P.cellsOf e then pP (λi=>some (i*P.cellsOf e,P.cellsOf e)) (lx z len) parts else none
 | none=>none
def gZ(ev:Operand->Option Value):List Operand->Option (Os)
 | []=>some []
 | x::r=>match ev x,gZ ev r with|some v,some vs=>some (v::vs)|_,_=>none
def oG(ev:Operand->Option Value):List (Nat×Operand)->Option (List (Nat×Value))
 | []=>some []
 | (i,x)::r=>match ev x,oG ev r with|some v,some vs=>some ((i,v)::vs)|_,_=>none
def qT(ev:Operand->Option Value):Option Operand->Option (Option Value)
 | none=>some none
 | some x=>match ev x with|some v=>some (some v)|none=>none
def convP(P:Program)(s d:TypeId)(x:Value)(K:Value->Prop):Prop:=
 match P.underlying s,P.underlying d,x with
 | some _,some (.int k),.int _ n=>K (.int k (k.wrap n))
 | some _,some .string,.string b=>K (.string b)
 | _,_,_=>False
def lenP(P:Program)(t:TypeId)(x:Value)(K:Value->Prop):Prop:=
 match P.underlying t,x with
 | some .string,.string s=>K (.int .i64 s.size)
 | some (.slice _),.slice _ n _=>K (.int .i64 n)
 | some (.array n _),_=>K (.int .i64 n)
 | _,_=>False
def mmP(isMax:Bool):Os->(Value->Prop)->Prop
 | [.int k x,.int _ y],K=>K (.int k (match isMax with|true=>if y>x then y else x|false=>if y<x then y else x))
 | [.int k x,.int _ y,.int _ z],K=>(match isMax with
  | true=>K (.int k (if z>(if y>x then y else x) then z else (if y>x then y else x)))
  | false=>K (.int k (if z<(if y<x then y else x) then z else (if y<x then y else x))))
 | _,_=>False
def ve(X:Ctx)(ev:Operand->Option Value)(pk:Operand->Operand->Operand->Option (Bool×Value×Value))(c:Option Prop)(op:Op)(K:Value->Prop):Prop:=
 match op with
 | .move x|.assign x=>bP (ev x) K
 | .pick a b d=>bP (pk a b d) λr=>K (sX b d r)
 | .nilCheck x=>bP (ev x) λv=>uX v c K
 | .binOp op t x y _=>bP (ev x) λa=>bP (ev y) λb=>binQ X.P op t a b c K
 | .unOp op _ x=>bP (ev x) λv=>unP op v K
 | .convert s d x=>bP (ev x) λv=>convP X.P s d v K
 | .fieldAddr t x f=>bP (ev x) λv=>xY X.P t v f K
 | .field t x f=>bP (ev x) λv=>fieldP X.P t v f c K
 | .indexAddr t x i=>bP (ev x) λv=>bP (ev i) λn=>xX X.P t v n c K
 | .index t x i=>bP (ev x) λv=>bP (ev i) λn=>xW X.P t v n c K
 | .extract t i=>bP (ev t) λv=>(match v with|.tuple vs=>bP (aT vs.toList i) K|_=>False)
 | .slice t x lo hi mx=>(match mx with
  | none=>bP (ev x) λv=>bP (qT ev lo) λl=>bP (qT ev hi) λh=>xU X.P t v l h c K
  | some mx=>(match lo,hi with
   | some lo,some hi=>bP (ev x) λv=>bP (ev lo) λl=>bP (ev hi) λh=>bP (ev mx) λm=>xV X.P t v l h m c K
   | _,_=>False))
 | .build t ps=>bP (oG ev ps.toList) λvs=>bP (ya X.P t vs) λl=>K (.agg ⟨l⟩)
 | .makeInterface t x=>bP (ev x) λv=>(match X.P.underlying t with|some (.interface _)=>False|some _=>K (.iface t v)|none=>False)
 | .typeAssert x t u ok=>(match ok with
  | true=>bP (ev x) λv=>exT X.P u λy=>∃there:Bool,gt c (lZ X.P (Instr.typeAssert v t u true) (.tuple #[y,.bool there]))/\K (.tuple #[y,.bool there])
  | false=>False)
 | .makeFunc fn a b=>bP (gZ ev a.toList) λva=>bP (gZ ev b.toList) λvb=>K (.func fn ⟨va⟩ ⟨vb⟩)
 | .call cl=>(match cl.callee,cl.argTypes.toList with
  | .builtin .len,t::_=>bP (gZ ev cl.args.toList) λvs=>(match vs with|v::_=>lenP X.P t v K|[]=>False)
  | .builtin .max,_=>bP (gZ ev cl.args.toList) λvs=>mmP true vs K
  | .builtin .min,_=>bP (gZ ev cl.args.toList) λvs=>mmP false vs K
  | _,_=>False)
 | _=>False
def BT(P:Program):List TypeId->Option (List Sh)
 | []=>some []
 | t::r=>match pL P t,BT P r with|some s,some ss=>some (s::ss)|_,_=>none
def vf(P:Program)(t:TypeId):Option (List Sh):=
 match P.underlying t with
 | some (.tuple ts)=>BT P ts.toList
 | _=>match pL P t with|some s=>some [s]|none=>none
def vg(X:Ctx)(ev:Operand->Option Value)(c:Option Prop)(o:Oper)(H:aD)(K:Value->(aD->Prop)->Prop):Prop:=
 match o.op with
 | .load t x=>bP (ev x) λv=>(match v with
  | .pointer (some ⟨b,off,none⟩)=>(match aggT X.P t with
   | true=>uV X.P t λus=>(if us.length=X.P.cellsOf t then gt c (bE H b off us)/\K (.agg ⟨us⟩) λH'=>gt c (bE H' b off us) else False)
   | false=>exT X.P t λu=>gt c (aL H b off=some u)/\K u λH'=>gt c (aL H' b off=some u))
  | _=>False)
 | .lookup t x i ok=>bP (ev x) λm=>bP (ev i) λk=>(match X.P.underlying t with
  | some (.map _ e)=>exT X.P e λu=>(match ok with
   | true=>∃there:Bool,gt c (di X.P (Instr.lookup t m k true) H (.tuple #[u,.bool there]))/\K (.tuple #[u,.bool there]) λH'=>gt c (di X.P (Instr.lookup t m k true) H' (.tuple #[u,.bool there]))
   | false=>gt c (di X.P (Instr.lookup t m k false) H u)/\K u λH'=>gt c (di X.P (Instr.lookup t m k false) H' u))
  | _=>False)
 | .convert s d x=>bP (ev x) λv=>(match X.P.underlying d with
  | some .string=>∃b:Fa,gt c (di X.P (convert s d v) H (.string b))/\K (.string b) λH'=>gt c (di X.P (convert s d v) H' (.string b))
  | _=>False)
 | .entry it=>bP (ev it) λv=>(match nextOf X.nexts o.dst with
  | some (ks,xs)=>ks.ex λk=>xs.ex λx=>gt c (di X.P (Instr.entry v) H (.tuple #[k,x]))/\K (.tuple #[k,x]) λH'=>gt c (di X.P (Instr.entry v) H' (.tuple #[k,x]))
  | none=>False)
 | .call cl=>(match cl.callee with
  | .value (.func f)=>(match bJ f X.ext with
   | true=>bP (gZ ev cl.args.toList) λvs=>bP (vf X.P o.type) λss=>lr ss λu=>gt c (pK X.P f ⟨vs⟩ u)/\K u λ_=>gt c (pK X.P f ⟨vs⟩ u)
   | false=>if bJ f X.calls=false then False else bP (gZ ev cl.args.toList) λvs=>bP (vf X.P o.type) λss=>lr ss λu=>gt c (bX X.P f ⟨vs⟩ H u)/\K u λH'=>gt c (bX X.P f ⟨vs⟩ H' u))
  | .builtin .len=>bP (gZ ev cl.args.toList) λvs=>∃n:Int,gt c (di X.P (Builtin.len_ cl.argTypes o.type ⟨vs⟩) H (.int .i64 n))/\K (.int .i64 n) λH'=>gt c (di X.P (Builtin.len_ cl.argTypes o.type ⟨vs⟩) H' (.int .i64 n))
  | _=>False)
 | _=>False
def eU(H:aD)(b:Nat):Nat->Os->Prop
 | _,[]=>True
 | o,_::r=>((aL H b o).isSome=true/\lY H b o=false)/\eU H b (o+1) r
def fK(H:aD)(b:Nat):Nat->Os->aD
 | _,[]=>H
 | o,v::r=>fK (iI H b o v) b (o+1) r
def cT:Os->Bool
 | []=>true
 | .agg _::_=>false
 | .tuple _::_=>false
 | _::r=>cT r
def panP(v:Value)(kp:KE)(H:aD):Prop:=match v with
 | .iface t u=>kp (.iface t u) H
 | _=>False
def vh(X:Ctx)(ev:Operand->Option Value)(o:Oper)(H:aD)(K:KE):Prop:=
 match o.op with
 | .alloc t=>bP (sY X.P t) λz=>∀(b:Nat) (H':aD),b=H.size->H'=H.push (.cells ⟨z⟩ t)->K (.pointer (some ⟨b,0,none⟩)) H'
 | .box t x=>bP (ev x) λv=>∀(b:Nat) (H':aD),b=H.size->H'=H.push (.cells v.cells t)->K (.pointer (some ⟨b,0,none⟩)) H'
 | .buildSlice t n ps=>bP (oG ev ps.toList) λvs=>(match X.P.underlying t with
  | some (.slice e)=>bP (yb X.P e n vs) λl=>(if n*X.P.cellsOf e<=16777216 then ∀(b:Nat) (H':aD),b=H.size->H'=H.push (.cells ⟨l⟩ e)->K (.slice (some ⟨b,0,none⟩) n n) H' else False)
  | _=>False)
 | .makeMap _ r=>(match r with
  | none=>∀(b:Nat) (H':aD),b=H.size->H'=H.push (.map #[] 0)->K (.map (some b)) H'
  | some _=>False)
 | .store t x y=>bP (ev x) λa=>bP (ev y) λv=>(match a with
  | .pointer (some ⟨b,off,none⟩)=>
   nX X.P t <| if v.cells.toList.length=X.P.cellsOf t/\cT v.cells.toList=true then eU H b off v.cells.toList/\∀H':aD,H'=fK H b off v.cells.toList->K undef H' else False
  | _=>False)
 | .makeSlice t l c=>bP (ev l) λa=>bP (ev c) λb=>cB X.P (Instr.makeSlice t a b) H λv H'=>exT X.P t λu=>v=u/\K u H'
 | .mapUpdate t m k x|.insert t m k x=>bP (ev m) λa=>bP (ev k) λb=>bP (ev x) λv=>cB X.P (Instr.mapUpdate t a b v) H λ_ H'=>K undef H'
 | .mapEntry t m k=>bP (ev m) λa=>bP (ev k) λb=>cB X.P (Instr.mapEntry t a b) H λv H'=>(match X.P.underlying t with
  | some (.map _ e)=>exT X.P e λu=>∃n:Int,v=.tuple #[u,.int .i64 n]/\K (.tuple #[u,.int .i64 n]) H'
  | _=>False)
 | .entryStore t m k x=>bP (ev m) λa=>bP (ev k) λb=>bP (ev x) λv=>cB X.P (Instr.entryStore t a b v) H λ_ H'=>K undef H'
 | .range t x=>bP (ev x) λv=>cB X.P (Instr.range t v) H λu H'=>∃r:Nat,u=.pointer (some ⟨r,0,none⟩)/\K (.pointer (some ⟨r,0,none⟩)) H'
 | .next it s=>bP (ev it) λv=>cB X.P (Instr.next v s o.type) H λu H'=>(u=.tuple #[.bool false]/\K (.tuple #[.bool false]) H')\/∃k x:Value,u=.tuple #[.bool true,k,x]/\K (.tuple #[.bool true,k,x]) H'
 | .convert s d x=>bP (ev x) λv=>cB X.P (convert s d v) H λu H'=>exT X.P d λu'=>u=u'/\K u' H'
 | .call cl=>(match cl.callee with
  | .value (.func f)=>if bJ f X.calls=false then False else bP (gZ ev cl.args.toList) λvs=>bP (vf X.P o.type) λss=>(match bJ f X.pan with
   | true=>nk X.P f ⟨vs⟩ H (λv H'=>lr ss λu=>v=u/\K u H') X.kp
   | false=>iK X.P f ⟨vs⟩ H λv H'=>lr ss λu=>v=u/\K u H')
  | .value x=>bP (ev x) λfv=>bP (gZ ev cl.args.toList) λvs=>bP (vf X.P o.type) λss=>(match fv with
   | .func (.func f) first cap=>bJ f X.calls=true/\iK X.P f ⟨first.toList++vs++cap.toList⟩ H λv H'=>lr ss λu=>v=u/\K u H'
   | .func (.yield l) ⟨[]⟩ ⟨[]⟩=>fJ X.P l vs H λv H'=>lr ss λu=>v=u/\K u H'
   | _=>False)
  | .builtin .append=>bP (gZ ev cl.args.toList) λvs=>cB X.P (Builtin.append_ cl.argTypes o.type ⟨vs⟩) H λv H'=>∃(a:KQ) (n c:Nat),v=.slice a n c/\K (.slice a n c) H'
  | .builtin .copy=>bP (gZ ev cl.args.toList) λvs=>cB X.P (Builtin.copy_ cl.argTypes o.type ⟨vs⟩) H λv H'=>∃n:Int,v=.int .i64 n/\K (.int .i64 n) H'
  | .builtin .delete=>bP (gZ ev cl.args.toList) λvs=>cB X.P (Builtin.delete_ cl.argTypes o.type ⟨vs⟩) H λv H'=>K v H'
  | .builtin .clear=>bP (gZ ev cl.args.toList) λvs=>cB X.P (Builtin.clear_ cl.argTypes o.type ⟨vs⟩) H λv H'=>K v H'
  | _=>False)
 | .panic x=>bP (ev x) λv=>panP v X.kp H
 | _=>False
def basicT(P:Program)(t:TypeId):Bool:=match P.underlying t with|some .string|some (.slice _)|some (.array _ _)=>true|_=>false
def intOrStr(P:Program)(t:TypeId):Bool:=match P.underlying t with|some (.int _)|some .string=>true|_=>false
def md(X:Ctx)(op:Op):Kind:=
 match op with
 | .move _|.assign _|.pick _ _ _|.nilCheck _|.binOp _ _ _ _ _|.unOp _ _ _|.fieldAddr _ _ _|.field _ _ _|.indexAddr _ _ _|.index _ _ _|.extract _ _|.slice _ _ _ _ _|.build _ _|.makeInterface _ _|.typeAssert _ _ _ _|.makeFunc _ _ _=>.P
 | .convert s d _=>match intOrStr X.P s,X.P.underlying d with
  | true,some (.int _)=>.P
  | true,some .string=>(match X.P.underlying s with|some .string=>.P|_=>.W)
  | false,some .string=>.R
  | _,_=>.W
 | .load _ _|.lookup _ _ _ _|.entry _=>.R
 | .call cl=>match cl.callee,cl.argTypes.toList with
  | .builtin .len,t::_=>if basicT X.P t then .P else .R
  | .builtin .max,_|.builtin .min,_=>.P
  | .value (.func f),_=>if bJ f X.quiet then .R else .W
  | _,_=>.W
 | _=>.W
abbrev aB:=Value.int .i64
abbrev PA(b o:Nat):Value:=.pointer (some ⟨b,o,none⟩)
abbrev IF(c:Bool)(p q:Prop):Prop:=(c=true->p)/\(c=false->q)
abbrev AL(H:aD)(cs:Os)(t:Nat)(k:Nat->aD->Prop):Prop:=∀(b:Nat) (H':aD),b=H.size->H'=H.push (.cells ⟨cs⟩ t)->k b H'
abbrev ST(H:aD)(b o:Nat)(vs:Os)(k:aD->Prop):Prop:=eU H b o vs/\∀H':aD,H'=fK H b o vs->k H'
abbrev Z0:Nat->Int:=λ_=>0
theorem bV.refl(w:World):bV w w:=⟨rfl,rfl,rfl⟩
theorem bV.trans{a b c:World}(h:bV a b)(k:bV b c):bV a c:=⟨k.os.trans h.os,k.tape.trans h.tape,k.output.trans h.output⟩
theorem cell?_cellAt(w:World)(b o:Nat):w.cell? ⟨b,o,none⟩=aL w.heap b o:=by
 simp only[World.cell?,aL]
 cases w.heap[b]? with
 | none=>rfl
 | some x=>cases x <;> simp
theorem frozen?_frozenAt(w:World)(b o:Nat):w.frozen? ⟨b,o,none⟩=lY w.heap b o:=rfl
theorem yc(w:World)(b o:Nat)(v:Value):(w.setCell ⟨b,o,none⟩ v).heap=iI w.heap b o v:=by
 simp only[World.setCell,iI];rfl
theorem fq{P:Program}{t:TypeId}{d:TypeDesc}(h:P.underlying t=some d)(w:World):(underlying t).run P w=.ok d w:=by
 simp[underlying,h]
theorem me(P:Program)(t:TypeId)(h:P.info? t≠none)(w:World):(sizeOf t).run P w=.ok (P.cellsOf t) w:=by
 cases hi:P.info? t with
 | none=>exact Vu hi h
 | some i=>simp[sizeOf,typeInfo,hi,Program.cellsOf]
theorem M9{P:Program}{t:TypeId}{d:TypeDesc}(h:P.underlying t=some d):P.info? t≠none:=by
 intro h0;simp[Program.underlying,h0]at h
theorem eH{α:Type}(l:List α)(n:Nat):aT l n=l[n]?:=by
 induction l generalizing n with
 | nil=>simp[aT]
 | cons a r ih=>cases n <;> simp[aT,ih]
theorem yd{α:Type}(l:List α)(n:Nat)(x:α):ir l n x=l.set n x:=by
 induction l generalizing n with
 | nil=>simp[ir]
 | cons a r ih=>cases n <;> simp[ir,ih]
theorem ye(a b:Value):pN true a b=a:=by unfold pN;split <;> rfl
theorem yf(a b:Value):pN false a b=b:=by unfold pN;split <;> rfl
section
variable {X:Ctx}{ρ:Operand->Value}{ev:Operand->Option Value}{pk:Operand->Operand->Operand->Option (Bool×Value×Value)}{c:Option Prop}{G:Prop}
theorem bK{α:Type}{o:Option α}{K:α->Prop}(h:bP o K):∃v,o=some v/\K v:=by
 cases o with
 | none=>exact h.elim
 | some v=>exact⟨v,rfl,h⟩
theorem nl(a:∀x v,ev x=some v->G->ρ x=v):∀(l:List Operand) (vs:Os),gZ ev l=some vs->G->l.map ρ=vs
 | [],vs,h,_=>by simp[gZ]at h;simp[h]
 | x::r,vs,h,g=>by
  simp only[gZ]at h
  cases h1:ev x with
  | none=>simp[h1]at h
  | some v=>cases h2:gZ ev r with
   | none=>simp[h1,h2]at h
   | some vs'=>
    simp only[h1,h2,Option.some.injEq]at h;subst h;simp[a x v h1 g,nl a r vs' h2 g]
theorem yg(a:∀x v,ev x=some v->G->ρ x=v):∀(l:List (Nat×Operand)) (vs:List (Nat×Value)),oG ev l=some vs->G->l.map (λp=>(p.1,ρ p.2))=vs
 | [],vs,h,_=>by simp[oG]at h;simp[h]
 | (i,x)::r,vs,h,g=>by
  simp only[oG]at h
  cases h1:ev x with
  | none=>simp[h1]at h
  | some v=>cases h2:oG ev r with
   | none=>simp[h1,h2]at h
   | some vs'=>
    simp only[h1,h2,Option.some.injEq]at h;subst h;simp[a x v h1 g,yg a r vs' h2 g]
theorem BU(a:∀x v,ev x=some v->G->ρ x=v)(o:Option Operand)(v:Option Value)(h:qT ev o=some v)(g:G):o.map ρ=v:=by
 cases o with
 | none=>simp[qT]at h;simp[h]
 | some x=>cases h1:ev x with
  | none=>simp[qT,h1]at h
  | some u=>simp[qT,h1]at h;subst h;simp[a x u h1 g]
theorem MB{P:Program}(op:BinOp)(t:TypeId)(k:IntKind)(x y:Int){K:Value->Prop}(a:∀p,gt c p->G->p)(h:xS op k x y c K) :
  ∃v,K v/\(G->∀w,(Go.binOp op t (.int k x) (.int k y)).run P w=.ok v w):=by
 cases op <;> simp only[xS]at h
 case quo=>exact⟨_,h.2,λg w=>by simp[Go.binOp,Op.intDiv,a _ h.1 g]⟩
 case rem=>exact⟨_,h.2,λg w=>by simp[Go.binOp,Op.intDiv,a _ h.1 g]⟩
 case shl=>exact⟨_,h.2,λg w=>by have:=a _ h.1 g;simp[Go.binOp,Op.shift];omega⟩
 case shr=>exact⟨_,h.2,λg w=>by have:=a _ h.1 g;simp[Go.binOp,Op.shift];omega⟩
 case eql=>exact⟨_,h,λ_ w=>by simp[Go.binOp,Op.intCmp];by_cases e:x=y <;> simp[e]⟩
 case neq=>exact⟨_,h,λ_ w=>by simp[Go.binOp,Op.intCmp];by_cases e:x=y <;> simp[e]⟩
 all_goals exact⟨_,h,λ_ w=>by simp[Go.binOp,Op.intArith,Op.intBits,Op.intCmp,aY]⟩
theorem MC{P:Program}(op:BinOp)(t:TypeId)(x y:Fa){K:Value->Prop}(a:∀p,gt c p->G->p)(h:xT op x y c K) :
  ∃v,K v/\(G->∀w,(Go.binOp op t (.string x) (.string y)).run P w=.ok v w):=by
 cases op <;> simp only[xT]at h
 case add=>exact⟨_,h.2,λg w=>by
  have:=a _ h.1 g;simp only[Go.binOp,Op.stringOp];rw[nO];rfl⟩
 all_goals exact⟨_,h,λ_ w=>by simp[Go.binOp,Op.stringOp]⟩
theorem yh(op:BinOp)(t:TypeId)(f e:Operand)(a b:Value)(P:Program)(w:World)(c:a≠.nilIface\/b≠.nilIface)(d:∀x y,a≠.agg x\/b≠.agg y):(eqGuard op t f e a b).run P w=.ok () w:=by
 unfold eqGuard
 cases op
 case eql=>
  rw[Vs (by simp)]
  split
  .simp at c
  .rename_i x y;have:=d x y;simp at this
  .rfl
 case neq=>
  rw[Vs (by simp)]
  split
  .simp at c
  .rename_i x y;have:=d x y;simp at this
  .rfl
 all_goals rfl
theorem MD(t:TypeId)(x y:Value):Op.equal t x y=Op.equalIn (9999+1) t x y:=rfl
theorem eqNil_in{P:Program}{t:TypeId}{d:TypeDesc}{x y:Value}{b:Bool}(hd:P.underlying t=some d)(h:pM (some d) x y=some b)(n:Nat)(w:World) :
  (Op.equalIn (n+1) t x y).run P w=.ok b w/\(x≠.nilIface\/y≠.nilIface)/\(∀u v,x≠.agg u\/y≠.agg v):=by
 unfold pM at h
 split at h
 all_goals (try cases h)
 all_goals (rename_i c;cases c)
 case h_2=>rename_i a;cases a <;> simp[Op.equalIn,fq hd]
 case h_3=>rename_i a _ _ _ _;cases a <;> simp[Op.equalIn,fq hd]
 case h_4=>rename_i a;cases a <;> simp[Op.equalIn,fq hd]
 all_goals simp[Op.equalIn,fq hd]
theorem BV{P:Program}{t:TypeId}{x y:Value}{b:Bool}(h:pM (P.underlying t) x y=some b)(a i:Operand)(op:BinOp)(w:World) :
  (Op.equal t x y).run P w=.ok b w/\(eqGuard op t a i x y).run P w=.ok () w:=by
 cases hd:P.underlying t with
 | none=>rw[hd]at h;simp[pM]at h
 | some d=>
  rw[hd]at h;rw[MD];obtain⟨c,f,e⟩:=eqNil_in hd h 9999 w;exact⟨c,yh _ _ _ _ _ _ _ _ f e⟩
end
section
variable {X:Ctx}{ρ:Operand->Value}{ev:Operand->Option Value}{c:Option Prop}{G:Prop}{P:Program}{K:Value->Prop}
theorem ME(op:BinOp)(t:TypeId)(x y:Value)(i f:Operand)(m:∀p,gt c p->G->p)(h:binP P op t x y c K) :
  ∃v,K v/\(G->∀w,(do eqGuard op t i f x y;Go.binOp op t x y:Sem Value).run P w=.ok v w):=by
 unfold binP at h
 split at h
 .rename_i k a s b;have j:∀w,(eqGuard op t i f (.int k a) (.int s b)).run P w=.ok () w:=λw=>yh _ _ _ _ _ _ _ _ (by simp) (by simp)
  split at h
  .rename_i n;subst n;obtain⟨v,e,d⟩:=MB (P:=P) op t k a b m h;exact⟨v,e,λg w=>by simp[j,d g w]⟩
  .rename_i n
   split at h
   .exact⟨_,h.2,λg w=>by have:=m _ h.1 g;simp[j,Go.binOp,Op.shift];omega⟩
   .exact⟨_,h.2,λg w=>by have:=m _ h.1 g;simp[j,Go.binOp,Op.shift];omega⟩
   .exact h.elim
 .rename_i a b;have j:∀w,(eqGuard op t i f (.string a) (.string b)).run P w=.ok () w:=λw=>yh _ _ _ _ _ _ _ _ (by simp) (by simp)
  obtain⟨v,e,d⟩:=MC (P:=P) op t a b m h;exact⟨v,e,λg w=>by simp[j,d g w]⟩
 .rename_i hi hs
  split at h
  .rename_i b hb;refine⟨_,h,λ_ w=>?_⟩
   obtain⟨e,d⟩:=BV hb i f .eql w;have:(Go.binOp .eql t x y).run P w=.ok (.bool b) w:=by
    unfold pM at hb
    split at hb <;> cases hb <;> (show Sem.run P (do pure (Value.bool (<-Op.equal t _ _))) w=_;simp[e])
   simp[d,this]
  .rename_i b hb;refine⟨_,h,λ_ w=>?_⟩
   obtain⟨e,d⟩:=BV hb i f .neq w;have:(Go.binOp .neq t x y).run P w=.ok (.bool (!b)) w:=by
    unfold pM at hb
    split at hb <;> cases hb <;> (show Sem.run P (do pure (Value.bool (!(<-Op.equal t _ _)))) w=_;simp[e])
   simp[d,this]
  .obtain⟨b,e,d⟩:=h;exact⟨_,d,λg w=>m _ e g i f w⟩
  .exact h.elim
theorem MF(op:UnOp)(x:Value)(h:unP op x K):∃v,K v/\∀w,(Op.unary op x).run P w=.ok v w:=by
 unfold unP at h
 split at h
 .exact⟨_,h,λw=>by simp[Op.unary,Op.intArith]⟩
 .exact⟨_,h,λw=>by simp[Op.unary,Op.intBits,aY]⟩
 .exact⟨_,h,λw=>by simp[Op.unary]⟩
 .exact h.elim
theorem pQ(k:IntKind)(n:Int)(y:Nat)(code:BoundsCode)(w:World)(h:0<=n/\n<=(y:Int)):(Instr.sliceBound (.int k n) y code).run P w=.ok n.toNat w:=by
 simp[Instr.sliceBound,asIntOf,h]
theorem yi(c:Bool)(len cap:Nat)(lo hi:Option Value)(l h:Int)(w:World)
  (b:lo=none/\l=0\/∃k,lo=some (.int k l)) (a:hi=none/\h=(len:Int)\/∃k,hi=some (.int k h))
  (hb:0<=l/\l<=h/\h<=(cap:Int)):(Instr.sliceBounds c len cap lo hi none).run P w=.ok (l.toNat,h.toNat,cap) w:=by
 unfold Instr.sliceBounds
 rcases a with ⟨rfl,rfl⟩|⟨k,rfl⟩ <;> rcases b with ⟨rfl,rfl⟩|⟨d,rfl⟩
 .simp
 .simp [pQ d l len _ w ⟨hb.1,hb.2.1⟩]
 .simp [pQ k h cap _ w ⟨by omega,hb.2.2⟩]
 .have:=pQ (P:=P) d l h.toNat .sliceB w ⟨hb.1,by omega⟩;simp[pQ k h cap _ w ⟨by omega,hb.2.2⟩,this]
theorem vi{x:Value}{Kn:Int->Prop}(h:iM x Kn):∃k n,x=.int k n/\Kn n:=by
 unfold iM at h
 split at h
 .exact⟨_,_,rfl,h⟩
 .exact h.elim
theorem yj{α:Type}{lo hi:Option Value}{len:Int}{go:Int->Int->Prop}
  (c:match lo,hi with
   | some l,some h=>iM l λl=>iM h λh=>go l h
   | some l,none=>iM l λl=>go l len
   | none,some h=>iM h λh=>go 0 h
   | none,none=>go 0 len) (_:α) :
  ∃l h,go l h/\(lo=none/\l=0\/∃k,lo=some (.int k l))/\(hi=none/\h=len\/∃k,hi=some (.int k h)):=by
 cases lo with
 | none=>cases hi with
  | none=>exact⟨0,len,c,.inl ⟨rfl,rfl⟩,.inl ⟨rfl,rfl⟩⟩
  | some b=>
   obtain⟨k,n,hb,c⟩:=vi c;exact⟨0,n,c,.inl ⟨rfl,rfl⟩,.inr ⟨k,by rw[hb]⟩⟩
 | some a=>cases hi with
  | none=>
   obtain⟨k,n,d,c⟩:=vi c;exact⟨n,len,c,.inr ⟨k,by rw[d]⟩,.inl ⟨rfl,rfl⟩⟩
  | some b=>
   obtain⟨k,n,d,c⟩:=vi c;obtain⟨e,f,hb,c⟩:=vi c;exact⟨n,f,c,.inr ⟨k,by rw[d]⟩,.inr ⟨e,by rw[hb]⟩⟩
theorem pR{t:TypeId}{q:Prop}(h:nX P t q):P.info? t≠none/\P.cellsOf t≠0/\q:=by
 unfold nX at h
 split at h
 .exact h.elim
 .rename_i n a;refine⟨λh0=>?_,by omega,h⟩
  simp[Program.cellsOf,h0]at a
theorem MG(t:TypeId)(x:Value)(lo hi:Option Value)(u:∀p,gt c p->G->p)(h:xU P t x lo hi c K) :
  ∃v,K v/\(G->∀w,(Instr.sliceAt t x lo hi none).run P w=.ok v w):=by
 unfold xU at h
 split at h
 .rename_i s i;obtain⟨l,f,⟨m,k⟩,d,j⟩:=yj h ();refine⟨_,k,λg w=>?_⟩
  have hb:=yi (P:=P) false s.size s.size lo hi l f w d j (u _ m g);simp[Instr.sliceAt,Instr.slice,fq i,hb]
 .rename_i e a len cap i;obtain⟨b,y,h⟩:=pR h;obtain⟨l,f,⟨m,k⟩,d,j⟩:=yj h ();refine⟨_,k,λg w=>?_⟩
  have hb:=yi (P:=P) true len cap lo hi l f w d j (u _ m g);simp[Instr.sliceAt,Instr.slice,fq i,hb,me P e b,cq]
 .rename_i n e a i;obtain⟨b,y,h⟩:=pR h;obtain⟨l,f,⟨m,k⟩,d,j⟩:=yj h ();refine⟨_,k,λg w=>?_⟩
  have hb:=yi (P:=P) false n n lo hi l f w d j (u _ m g);simp[Instr.sliceAt,Instr.sureAddr,fq i,hb,me P e b,cq]
  split <;> rfl
 .exact h.elim
theorem MH(t:TypeId)(x l h m:Value)(f:∀p,gt c p->G->p)(hs:xV P t x l h m c K) :
  ∃v,K v/\(G->∀w,(Instr.sliceAt t x (some l) (some h) (some m)).run P w=.ok v w):=by
 unfold xV at hs
 split at hs
 .rename_i e a len cap k1 l k2 h k3 m d;obtain⟨b,i,hs⟩:=pR hs;refine⟨_,hs.2,λg w=>?_⟩
  obtain⟨b1,b2,b3,b4⟩:=f _ hs.1 g;have r1:=pQ (P:=P) k3 m cap .slice3Acap w ⟨by omega,b4⟩;have r2:=pQ (P:=P) k2 h m.toNat .slice3B w ⟨by omega,by omega⟩;have r3:=pQ (P:=P) k1 l h.toNat .slice3C w ⟨b1,by omega⟩;simp[Instr.sliceAt,Instr.slice,Instr.sliceBounds,fq d,r1,r2,r3,me P e b,cq]
 .exact hs.elim
theorem BW{l:cU}{Q:Value->Prop}(h:l.ex Q):∃v,Q v:=by
 cases l <;> simp only[cU.ex]at h
 case slice=>obtain⟨a,n,c,h⟩:=h;exact⟨_,h⟩
 case fnv=>obtain⟨a,c,h⟩:=h;exact⟨_,h⟩
 case adr=>obtain⟨a,c,h⟩:=h;exact⟨_,h⟩
 all_goals (obtain⟨a,h⟩:=h;exact⟨_,h⟩)
theorem sZ:∀{ls:List cU} {Q:Os->Prop},exLs ls Q->∃b,Q b
 | [],_,h=>⟨[],h⟩
 | .vec k n::r,_,h=>by
  obtain⟨f,d⟩:=h;obtain⟨b,a⟩:=sZ (ls:=r) d;exact⟨_,a⟩
 | .int k::r,_,h|.bool::r,_,h|.str::r,_,h|.ptr::r,_,h|.slice::r,_,h|.map::r,_,h|.raw::r,_,h|.fnv::r,_,h|.adr::r,_,h=>by
  obtain⟨v,c⟩:=BW h;obtain⟨b,a⟩:=sZ (ls:=r) c;exact⟨_,a⟩
theorem oH{s:Sh}{Q:Value->Prop}(h:s.ex Q):∃v,Q v:=by
 cases s with
 | one l=>exact BW h
 | agg ls=>obtain⟨a,h⟩:=sZ (ls:=ls) h;exact⟨_,h⟩
theorem BX:∀{ls:List Sh} {Q:Os->Prop},pI ls Q->∃b,Q b
 | [],_,h=>⟨[],h⟩
 | l::r,_,h=>by
  obtain⟨v,c⟩:=oH (s:=l) h;obtain⟨b,a⟩:=BX (ls:=r) c;exact⟨_,a⟩
theorem td{ls:List Sh}{Q:Value->Prop}(h:lr ls Q):∃v,Q v:=by
 match ls,h with
 | [],h=>exact⟨_,h⟩
 | [s],h=>exact oH (s:=s) h
 | s::t::r,h=>
  have b:pI (s::t::r) λa=>Q (.tuple ⟨a⟩):=h
  obtain⟨a,h⟩:=BX b;exact⟨_,h⟩
theorem pS{t:TypeId}{Q:Value->Prop}(h:exT P t Q):∃v,Q v:=by
 unfold exT at h
 split at h
 .exact oH h
 .exact h.elim
theorem bAt_get(s:Fa)(n:Int)(h:0<=n/\n<(s.size:Int)):∃b,(if 0<=n then s[n.toNat]? else none)=some b/\(b.toNat:Int)=bAt s n.toNat:=by
 have a:n.toNat<s.size:=by omega
 refine⟨s[n.toNat],?_,?_⟩
 .rw [Vt h.1];exact getElem?_pos s n.toNat a
 .unfold bAt;have hd:n.toNat<s.data.size:=a;rw[Array.getElem?_eq_getElem hd];rfl
theorem MI(t:TypeId)(x i:Value)(e:∀p,gt c p->G->p)(h:xW P t x i c K) :
  ∃v,K v/\(G->∀w,(Instr.index t x i).run P w=.ok v w):=by
 unfold xW at h
 split at h
 .rename_i s k n f;refine⟨_,h.2,λg w=>?_⟩
  obtain⟨b,a,d⟩:=bAt_get s n (e _ h.1 g);simp only[Instr.index,asIntOf,Sem.run_bind,Sem.run_pure,Result.andThen_ok,fq f,a,d]
 .split at h
  .obtain⟨v,a,d⟩:=oH h;exact⟨v,d,λg w=>e _ a g w⟩
  .exact h.elim
 .exact h.elim
theorem te(b o n:Nat):(⟨b,o,none⟩:Addr).add n=⟨b,o+n,none⟩:=by
 unfold Addr.add
 split
 .rename_i h;simp[h]
 .rfl
theorem MJ(t:TypeId)(x i:Value)(j:∀p,gt c p->G->p)(h:xX P t x i c K) :
  ∃v,K v/\(G->∀w,(Instr.indexAt t x i).run P w=.ok v w):=by
 unfold xX at h
 split at h
 .rename_i e a len _ k n f;obtain⟨d,m,u,b,o,s,y⟩:=pR h;refine⟨_,y,λg w=>?_⟩
  have hb:=j _ u g;have A:=j _ s g;subst A;simp[Instr.indexAt,asIntOf,fq f,hb,me P e d,te,BS]
 .rename_i len e b o k n f;obtain⟨d,m,h⟩:=pR h;refine⟨_,h.2,λg w=>?_⟩
  have hb:=j _ h.1 g;simp[Instr.indexAt,Instr.sureAddr,asIntOf,fq f,hb,me P e d,te,BS]
 .exact h.elim
theorem ML(t:TypeId)(x:Value)(f:Nat)(h:xY P t x f K) :
  ∃v,K v/\∀w,(Instr.fieldAt t x f).run P w=.ok v w:=by
 unfold xY at h
 split at h
 .rename_i e b o j
  split at h
  .rename_i i d;obtain⟨a,k,h⟩:=pR h;refine⟨_,h,λw=>?_⟩
   rw[eH]at d;have c:e[f]?=some i:=by simpa using d
   simp[Instr.fieldAt,fq j,c,Instr.sureAddr,fieldPlace,me P _ a,k,te]
  .exact h.elim
 .exact h.elim
theorem BZ(t:TypeId)(w:World)(h:P.underlying t≠none):(isAgg t).run P w=.ok (aggT P t) w:=by
 cases hd:P.underlying t with
 | none=>exact Vu hd h
 | some d=>cases d <;> simp[isAgg,fq hd,aggT,hd]
theorem MM{t:TypeId}(h:aggT P t=true):P.underlying t≠none:=by
 intro h0;simp[aggT,h0]at h
end
section
variable {X:Ctx}{ρ:Operand->Value}{ev:Operand->Option Value}{c:Option Prop}{G:Prop}{P:Program}{K:Value->Prop}
theorem vj{t:TypeId}{z:Os}(h:sY P t=some z):∃v,v.cells.toList=z/\(∀w,(zeroValue t).run P w=.ok v w)/\P.info? t≠none:=by
 unfold sY at h
 split at h
 .rename_i i hi
  split at h
  .rename_i v a
   cases h
   exact⟨v,rfl,λw=>by simp[zeroValue,typeInfo,hi,a],by simp[hi]⟩
  .cases h
 .cases h
theorem Ca(off:Nat):∀(l:Os) (k:Nat) (cells:Array Value),
  ((l.zipIdx k).foldl (λcs (x:Value×Nat)=>cs.setIfInBounds (off+x.2) x.1) cells).toList=uY cells.toList (off+k) l
 | [],_,_=>rfl
 | v::r,k,cells=>by
  simp only[List.zipIdx_cons,List.foldl_cons,uY];rw[Ca off r (k+1)];simp[yd,Wk]
theorem vk(a:Nat->Option (Nat×Nat)):∀(parts:List (Nat×Value)) (cells:Array Value) (l:Os),
  pP a cells.toList parts=some l->Instr.fill a cells parts=some ⟨l⟩
 | [],cells,l,h=>by simp[pP]at h;subst h;simp[Instr.fill]
 | (i,v)::rest,cells,l,h=>by
  simp only[pP]at h;simp only[Instr.fill]
  cases hp:a i with
  | none=>simp[hp]at h
  | some p=>
   obtain⟨off,size⟩:=p;simp only[hp]at h ⊢
   split at h
   .rename_i b;have c:v.cells.size=size:=by simpa using b.1
    have d:off+v.cells.size<=cells.size:=by have:=b.2;simp at this;omega
    rw[Vs (by simp;exact⟨c,by omega⟩)];have:=Ca off v.cells.toList 0 cells;refine vk a rest _ l ?_;rw[<-h];congr 1;rw[<-Array.foldl_toList,Array.toList_zipIdx];simpa using this
   .cases h
theorem Cb:∀(fs:List Field) (w:World),uZ P fs=true->
  (fs.mapM (m:=Sem) λf=>do pure (f.offset,<-sizeOf f.type)).run P w=.ok (fs.map λf=>(f.offset,P.cellsOf f.type)) w
 | [],w,_=>by simp
 | f::r,w,h=>by
  simp only[uZ,Vz]at h;have hi:P.info? f.type≠none:=by intro h0;simp[h0]at h
  have a:=Cb r w h.2;simp only[bind_pure_comp]at a;simp[List.mapM_cons,me P _ hi,a]
theorem MN(t:TypeId)(parts:List (Nat×Value))(l:Os)(h:ya P t parts=some l)(w:World) :
  (Instr.build t parts.toArray).run P w=.ok (.agg ⟨l⟩) w:=by
 unfold ya at h
 split at h
 .rename_i z b j k;obtain⟨v,s,a,_⟩:=vj j
  split at h
  .rename_i A;have y:=Cb (P:=P) b.toList w A;have u:Instr.fill (λx=>(b.map λf=>(f.offset,P.cellsOf f.type))[x]?) v.cells parts=some ⟨l⟩:=by
    have:=vk (offOf P b.toList) parts v.cells l (by rw[s];exact h);rw[<-this];congr 1;funext i;simp only[offOf,eH]
    cases hfi:b.toList[i]? with
    | none=>simp at hfi ⊢;exact hfi
    | some f=>have c:b[i]?=some f:=by simpa using hfi
              simp[c]
   have d:(b.mapM (m:=Sem) λf=>do pure (f.offset,<-sizeOf f.type)).run P w=.ok (b.map λf=>(f.offset,P.cellsOf f.type)) w:=by
    rw[Array.mapM_eq_mapM_toList];simp only[Sem.run_map,y,Result.andThen_ok];congr 1;apply Array.ext';simp
   simp only[Instr.build,Sem.run_bind,a,Result.andThen_ok,fq k,d];simp only[u,Sem.run_pure]
  .cases h
 .rename_i z n e j k;obtain⟨v,s,a,_⟩:=vj j
  split at h
  .rename_i i hi;have u:=vk _ parts v.cells l (by rw[s];exact h);simp only[Instr.build,Sem.run_bind,a,Result.andThen_ok,fq k,me P e (by simp[hi])];simp[u]
  .cases h
 .cases h
theorem MO(o:Oper)(x:Operand)(d:o.op=.nilCheck x)(m:∀p,gt c p->G->p)(h:uX (ρ x) c K) :
  ∃v,K v/\(G->∀w,(execOp ρ o).run P w=.ok (.value v) w):=by
 unfold uX at h
 split at h
 .rename_i a e;have key:∃p,gt c p/\(p->a=some ⟨aU a,aS a,none⟩)/\K (.pointer (some ⟨aU a,aS a,none⟩)):=by
   cases c with
   | none=>exact⟨_,(xZ.1 h).1,id,(xZ.1 h).2⟩
   | some c=>exact⟨isA a,h.1,isA_iff.1,h.2⟩
  obtain⟨p,i,j,k⟩:=key;refine⟨_,k,λg w=>?_⟩
  have:=j (m _ i g);generalize aU a=b at *;generalize aS a=o' at *;subst this;simp[execOp,d,e]
 .rename_i f a b e;exact⟨_,h,λ_ w=>by simp[execOp,d,e]⟩
 .rename_i f a b e;exact⟨_,h,λ_ w=>by simp[execOp,d,e]⟩
 .exact h.elim
theorem MQ(s d:TypeId)(x:Value)(h:convP P s d x K):∃v,K v/\∀w,(convert s d x).run P w=.ok v w:=by
 unfold convP at h
 split at h
 .rename_i a k c n hs hd;exact⟨_,h,λw=>by cases a <;> simp[convert,fq hs,fq hd,Conv.intToInt]⟩
 .rename_i a b hs hd;exact⟨_,h,λw=>by cases a <;> simp[convert,fq hs,fq hd]⟩
 .exact h.elim
theorem MT(t:TypeId)(x:Value)(ts:Array TypeId)(f:TypeId)(args:Array Value)(c:ts[0]?=some t)(b:args[0]?=some x)(h:lenP P t x K) :
  ∃v,K v/\∀w,(Builtin.len_ ts f args).run P w=.ok v w:=by
 unfold lenP at h
 split at h
 .rename_i s d;exact⟨_,h,λw=>by simp[Builtin.len_,c,b,fq d,goInt]⟩
 .rename_i e a n i d;exact⟨_,h,λw=>by simp[Builtin.len_,c,b,fq d,goInt]⟩
 .rename_i x n e d;exact⟨_,h,λw=>by cases x <;> simp[Builtin.len_,c,b,fq d,goInt]⟩
 .exact h.elim
theorem MV(vs:Os)(ts:Array TypeId)(t:TypeId)(h:mmP true vs K):∃v,K v/\∀w,(Builtin.max_ ts t ⟨vs⟩).run P w=.ok v w:=by
 unfold mmP at h
 split at h
 .exact⟨_,h,λw=>by simp[Builtin.max_,Builtin.max2]⟩
 .exact⟨_,h,λw=>by simp[Builtin.max_,Builtin.max2]⟩
 .exact h.elim
theorem MW(vs:Os)(ts:Array TypeId)(t:TypeId)(h:mmP false vs K):∃v,K v/\∀w,(Builtin.min_ ts t ⟨vs⟩).run P w=.ok v w:=by
 unfold mmP at h
 split at h
 .exact⟨_,h,λw=>by simp[Builtin.min_,Builtin.min2]⟩
 .exact⟨_,h,λw=>by simp[Builtin.min_,Builtin.min2]⟩
 .exact h.elim
theorem MX(op:BinOp)(t:TypeId)(x y:Value)(d a:Operand)(e:∀p,gt c p->G->p)(h:binQ P op t x y c K) :
  ∃v,K v/\(G->∀w,(do eqGuard op t d a x y;Go.binOp op t x y:Sem Value).run P w=.ok v w):=by
 unfold binQ at h
 split at h
 .obtain⟨b,f,i⟩:=h;exact⟨_,i,λg w=>e _ f g d a w⟩
 .exact ME op t x y d a e h
theorem Cc(o:Oper){pk:Operand->Operand->Operand->Option (Bool×Value×Value)}(F:∀p,gt c p->G->p)(j:∀x v,ev x=some v->G->ρ x=v)
  (N:∀a b d r,pk a b d=some r->G->ρ a=.bool r.1/\(r.1=true->ρ b=r.2.1)/\(r.1=false->ρ d=r.2.2)) (C:∀o v,o=.const v->ρ o=v) (U:P=X.P)
  (h:ve X ev pk c o.op K):∃v,K v/\(G->∀w,(execOp ρ o).run P w=.ok (.value v) w):=by
 subst U
 cases hop:o.op <;> rw[hop]at h <;> simp only[ve]at h <;> (try exact h.elim)
 case move x=>obtain⟨v,E,h⟩:=bK h;exact⟨v,h,λg w=>by simp[execOp,hop,j x v E g]⟩
 case assign x=>obtain⟨v,E,h⟩:=bK h;exact⟨v,h,λg w=>by simp[execOp,hop,j x v E g]⟩
 case pick a b d=>
  obtain⟨r,W,h⟩:=bK h;refine⟨_,h,λg w=>?_⟩
  obtain⟨n,k,S⟩:=N a b d r W g;obtain⟨q,x,y⟩:=r;have hb:∀u,b=.const (.bool u)->ρ b=.bool u:=λu e=>C b _ e
  have hd:∀u,d=.const (.bool u)->ρ d=.bool u:=λu e=>C d _ e
  cases q
  .have:sX b d (false,x,y)=ρ d:=by
    unfold sX;rw[S rfl]
    split
    .split
     .rename_i e;dsimp only at e ⊢;rw[e];rfl
     .exact yf _ _
    .split
     .split
      .have:=hd false rfl;rw[S rfl]at this;dsimp only at this ⊢;rw[this];rfl
      .exact yf _ _
     .exact yf _ _
   simp[execOp,hop,n,asBool,this]
  .have:sX b d (true,x,y)=ρ b:=by
    unfold sX;rw[k rfl]
    split
    .split
     .have:=hb true rfl;rw[k rfl]at this;dsimp only at this ⊢;rw[this];rfl
     .exact ye _ _
    .split
     .split
      .rename_i e;dsimp only at e ⊢;rw[e];rfl
      .exact ye _ _
     .exact ye _ _
   simp[execOp,hop,n,asBool,this]
 case nilCheck x=>
  obtain⟨v,E,h⟩:=bK h
  by_cases g:G
  .have hx:=j x v E g;obtain⟨u,n,k⟩:=MO (ρ:=ρ) (K:=K) (c:=c) (P:=X.P) o x hop F (by rw[hx];exact h);exact⟨u,n,k⟩
  .unfold uX at h
   split at h
   .cases c with
    | none=>exact⟨_,(xZ.1 h).2,λH=>Vu H g⟩
    | some c=>exact⟨_,h.2,λH=>Vu H g⟩
   .exact⟨_,h,λH=>Vu H g⟩
   .exact⟨_,h,λH=>Vu H g⟩
   .exact h.elim
 case binOp op t x y yt=>
  obtain⟨a,A,h⟩:=bK h;obtain⟨b,hb,h⟩:=bK h;obtain⟨v,n,k⟩:=MX op t a b x y F h;refine⟨v,n,λg w=>?_⟩
  have:=k g w;simp only[Sem.run_bind]at this;simp only[execOp,hop,j x a A g,j y b hb g,Sem.run_bind,Sem.run_pure];generalize (eqGuard op t x y a b).run X.P w=r at this ⊢
  cases r with
  | halt hh w'=>simp at this
  | ok u w'=>
   simp only[Result.andThen_ok]at this ⊢;rw[this];rfl
 case unOp op t x=>
  obtain⟨a,A,h⟩:=bK h;obtain⟨v,n,k⟩:=MF (P:=X.P) op a h;exact⟨v,n,λg w=>by simp[execOp,hop,j x a A g,k w]⟩
 case convert s d x=>
  obtain⟨a,A,h⟩:=bK h;obtain⟨v,n,k⟩:=MQ s d a h;exact⟨v,n,λg w=>by simp[execOp,hop,j x a A g,k w]⟩
 case fieldAddr t x f=>
  obtain⟨a,A,h⟩:=bK h;obtain⟨v,n,k⟩:=ML t a f h;exact⟨v,n,λg w=>by simp[execOp,hop,j x a A g,k w]⟩
 case field t x f=>
  obtain⟨a,A,h⟩:=bK h;unfold fieldP at h
  split at h
  .split at h
   .split at h
    .obtain⟨v,n,k⟩:=oH h;exact⟨v,k,λg w=>by simp[execOp,hop,j x a A g,F _ n g w]⟩
    .exact h.elim
   .exact h.elim
  .exact h.elim
 case indexAddr t x i=>
  obtain⟨a,A,h⟩:=bK h;obtain⟨b,hb,h⟩:=bK h;obtain⟨v,n,k⟩:=MJ t a b F h;exact⟨v,n,λg w=>by simp[execOp,hop,j x a A g,j i b hb g,k g w]⟩
 case index t x i=>
  obtain⟨a,A,h⟩:=bK h;obtain⟨b,hb,h⟩:=bK h;obtain⟨v,n,k⟩:=MI t a b F h;exact⟨v,n,λg w=>by simp[execOp,hop,j x a A g,j i b hb g,k g w]⟩
 case extract t i=>
  obtain⟨a,A,h⟩:=bK h
  cases a <;> simp only at h
  case tuple vs=>
   obtain⟨v,E,h⟩:=bK h;rw[eH]at E;have L:vs[i]?=some v:=by simpa using E
   exact⟨v,h,λg w=>by simp[execOp,hop,j t _ A g,Instr.extract,L]⟩
 case slice t x lo hi mx=>
  cases mx with
  | some m=>
   cases lo with
   | none=>exact h.elim
   | some lo=>cases hi with
    | none=>exact h.elim
    | some hi=>
     obtain⟨a,A,h⟩:=bK h;obtain⟨l,I,h⟩:=bK h;obtain⟨u,O,h⟩:=bK h;obtain⟨q,T,h⟩:=bK h;obtain⟨v,n,k⟩:=MH t a l u q F h;exact⟨v,n,λg w=>by simp[execOp,hop,j x a A g,j lo l I g,j hi u O g,j m q T g,k g w]⟩
  | none=>
   obtain⟨a,A,h⟩:=bK h;obtain⟨l,I,h⟩:=bK h;obtain⟨u,O,h⟩:=bK h;obtain⟨v,n,k⟩:=MG t a l u F h;exact⟨v,n,λg w=>by simp[execOp,hop,j x a A g,BU j lo l I g,BU j hi u O g,k g w]⟩
 case build t ps=>
  obtain⟨vs,B,h⟩:=bK h;obtain⟨l,I,h⟩:=bK h;refine⟨_,h,λg w=>?_⟩
  have hm:=yg j ps.toList vs B g;have hb:=MN (P:=X.P) t vs l I w;have Q:(ps.map λ(i,x)=>(i,ρ x))=vs.toArray:=by
   apply Array.ext';simp[<-hm]
  simp only[execOp,hop,Q,Sem.run_bind,hb,Result.andThen_ok,Sem.run_pure]
 case makeInterface t x=>
  obtain⟨a,A,h⟩:=bK h
  split at h
  .exact h.elim
  .rename_i d hd Y;refine⟨_,h,λg w=>?_⟩
   have:∀m,d≠.interface m:=λm Q=>hd m Q
   cases d <;> first|(exact Vu rfl (this _))|simp[execOp,hop,j x a A g,Instr.makeInterface,fq Y]
  .exact h.elim
 case typeAssert x t u ok=>
  cases ok with
  | false=>exact h.elim
  | true=>
   obtain⟨a,A,h⟩:=bK h;obtain⟨y,J,n,k⟩:=pS h;exact⟨_,k,λg w=>by simp[execOp,hop,j x a A g,F _ n g w]⟩
 case makeFunc fn a b=>
  obtain⟨Z,A,h⟩:=bK h;obtain⟨V,hb,h⟩:=bK h;refine⟨_,h,λg w=>?_⟩
  have e1:a.map ρ=⟨Z⟩:=by apply Array.ext';simp[nl j _ _ A g]
  have e2:b.map ρ=⟨V⟩:=by apply Array.ext';simp[nl j _ _ hb g]
  simp[execOp,hop,e1,e2,Instr.makeFunc]
 case call cl=>
  split at h
  .rename_i t ts D R;obtain⟨vs,B,h⟩:=bK h
   split at h
   .rename_i v r;have M:cl.argTypes[0]?=some t:=by rw[<-Array.getElem?_toList,R];rfl
    obtain⟨u,n,k⟩:=MT t v cl.argTypes o.type ⟨v::r⟩ M (by simp) h;refine⟨u,n,λg w=>?_⟩
    have e1:cl.args.map ρ=⟨v::r⟩:=by apply Array.ext';simp[nl j _ _ B g]
    simp[execOp,hop,resolve,D,e1,invoke,builtin,k w]
   .exact h.elim
  .rename_i D;obtain⟨vs,B,h⟩:=bK h;obtain⟨u,n,k⟩:=MV (P:=X.P) vs cl.argTypes o.type h;refine⟨u,n,λg w=>?_⟩
   have e1:cl.args.map ρ=⟨vs⟩:=by apply Array.ext';simp[nl j _ _ B g]
   simp[execOp,hop,resolve,D,e1,invoke,builtin,k w]
  .rename_i D;obtain⟨vs,B,h⟩:=bK h;obtain⟨u,n,k⟩:=MW (P:=X.P) vs cl.argTypes o.type h;refine⟨u,n,λg w=>?_⟩
   have e1:cl.args.map ρ=⟨vs⟩:=by apply Array.ext';simp[nl j _ _ B g]
   simp[execOp,hop,resolve,D,e1,invoke,builtin,k w]
  .exact h.elim
end
def gw(P:Program)(w:World)(KP:KE)(K:KE):Result Next->Prop
 | .ok (.value v) w'=>bV w w'/\K v w'.heap
 | .ok .skip w'=>bV w w'/\K undef w'.heap
 | .ok (.enter f args) w'=>w'=w/\Calls P f args w (iL w K KP)
 | .ok (.round l f tmps assign body) w'=>w'=w/\RoundIn Fence.wide 0 P l f tmps assign body w (iL w K KP)
 | .halt (.panic v) w'=>bV w w'/\KP v w'.heap
 | _=>False
theorem iL.mono{w:World}{K c KP a:KE}(k:∀v H,K v H->c v H)(d:∀v H,KP v H->a v H){e:Ending}{b:World}(h:iL w K KP e b):iL w c a e b:=by
 cases e <;> simp only[iL]at h ⊢
 case returned v=>exact⟨h.1,k _ _ h.2⟩
 case panicked chain=>obtain⟨v,f,j,i⟩:=h;exact⟨v,f,j,d _ _ i⟩
theorem Fin.toP{w:World}{K KP:KE}{e:Ending}{a:World}(h:Fin w K e a):iL w K KP e a:=by
 cases e <;> simp only[Fin]at h
 exact h
theorem iL.fin{w:World}{K:KE}{e:Ending}{a:World}(h:iL w K (λ_ _=>False) e a):Fin w K e a:=by
 cases e <;> simp only[iL]at h
 case returned v=>exact h
 case panicked chain=>obtain⟨v,_,_,h⟩:=h;exact h.elim
theorem gw.mono2{P:Program}{w:World}{K j KP a:KE}{r:Result Next}(h:gw P w KP K r)(b:∀v H,K v H->j v H)(c:∀v H,KP v H->a v H):gw P w a j r:=by
 cases r with
 | halt h' w'=>
  cases h' <;> simp only[gw]at h ⊢
  exact⟨h.1,c _ _ h.2⟩
 | ok n w'=>
  cases n <;> simp only[gw]at h ⊢
  case value v=>exact⟨h.1,b _ _ h.2⟩
  case skip=>exact⟨h.1,b _ _ h.2⟩
  case enter f args=>exact⟨h.1,h.2.mono λe d i=>i.mono b c⟩
  case round l f tmps assign body=>exact⟨h.1,h.2.mono λe d i=>i.mono b c⟩
theorem gw.mono{P:Program}{w:World}{KP K a:KE}{r:Result Next}(h:gw P w KP K r)(b:∀v H,K v H->a v H):gw P w KP a r:=h.mono2 b λ_ _ h=>h
section
variable {X:Ctx}{ρ:Operand->Value}{ev:Operand->Option Value}{c:Option Prop}{G:Prop}
theorem tf{P:Program}{f:FuncId}(hb:gF P f)(args:Array Value)(w:World):(callFunc f args).run P w=.ok (.enter f args) w:=by
 obtain⟨fn,a,c,b⟩:=hb;simp only[callFunc,Sem.run_bind,run_program,Result.andThen_ok,a,b,c,WR,if_false,Sem.run_pure]
theorem Cd{P:Program}{w:World}{b o:Nat}{v:Value}(h:aL w.heap b o=some v):(load ⟨b,o,none⟩).run P w=.ok v w:=by
 simp[run_load,cell?_cellAt,h]
theorem MY{H:aD}{b o:Nat}{v:Value}{r:Os}(h:bE H b o (v::r)):aL H b o=some v/\bE H b (o+1) r:=by
 cases r with
 | nil=>exact⟨h,trivial⟩
 | cons u r=>exact h
theorem Ce{P:Program}{w:World}{b:Nat}:∀(l:Os) (o i:Nat) (acc:Array Value),bE w.heap b (o+i) l->
  (loadCellsFrom ⟨b,o,none⟩ i l.length acc).run P w=.ok (acc++l.toArray) w
 | [],o,i,acc,_=>by simp[loadCellsFrom]
 | v::r,o,i,acc,h=>by
  obtain⟨a,c⟩:=MY h;have d:=Ce (P:=P) r o (i+1) (acc.push v) (by rw[<-Wk];exact c);simp only[V1,loadCellsFrom,Sem.run_bind,te,Cd a,Result.andThen_ok,d];simp
theorem Cf{P:Program}{t:TypeId}{Q:Value->Prop}(h:exT P t Q):P.underlying t≠none:=by
 intro h0;unfold exT pL at h;simp[sW,h0]at h
theorem Cg{P:Program}{w:World}{t:TypeId}{b off:Nat}{us:Os}(a:aggT P t=true)(f:us.length=P.cellsOf t)(h:bE w.heap b off us) :
  (Instr.loadAt t (.pointer (some ⟨b,off,none⟩))).run P w=.ok (.agg ⟨us⟩) w:=by
 have e:=MM a;have c:P.info? t≠none:=by
  cases hd:P.underlying t with
  | none=>exact Vu hd e
  | some d=>exact M9 hd
 have i:=Ce (P:=P) (w:=w) (b:=b) us off 0 #[] (by simpa using h);simp only[Instr.loadAt,Instr.sureAddr,Sem.run_bind,Sem.run_pure,Result.andThen_ok,loadVar,BZ _ w e,a,if_true,me P t c,loadCells,<-f,i];simp
theorem Ch{P:Program}{w:World}{t:TypeId}{b off:Nat}{u:Value}(c:P.underlying t≠none)(a:aggT P t=false)(h:aL w.heap b off=some u) :
  (Instr.loadAt t (.pointer (some ⟨b,off,none⟩))).run P w=.ok u w:=by
 simp only[Instr.loadAt,Instr.sureAddr,Sem.run_bind,Sem.run_pure,Result.andThen_ok,loadVar,BZ _ w c,a,WR,if_false,Cd h]
theorem nq{P:Program}{w:World}{KP:KE}{v:Value}{r:Result Next}(h:r=.ok (.value v) w):gw P w KP (λa b=>a=v/\b=w.heap) r:=by
 subst h;exact⟨bV.refl w,rfl,rfl⟩
theorem Ci{n:Nat}{l:List Nat}{q:Prop}(h:if bJ n l=false then False else q):bJ n l=true/\q:=by
 split at h
 .exact h.elim
 .rename_i a;exact⟨by simpa using a,h⟩
theorem Cj(o:Oper){H:aD}{K:Value->(aD->Prop)->Prop}(N:∀p,gt c p->G->p)(A:∀x v,ev x=some v->G->ρ x=v)(hX:∀f,bJ f X.calls=true->gF X.P f)(hρ:∀f,ρ (.func f)=.func (.func f) #[] #[])
  (h:vg X ev c o H K):∃v F,K v F/\(∀q,c=some q->¬q->∀J,F J)/\(G->F H)/\(G->∀w,F w.heap->gw X.P w (λ_ _=>False) (λZ J=>Z=v/\J=w.heap) ((execOp ρ o).run X.P w)):=by
 unfold vg at h
 split at h
 .rename_i t x y;obtain⟨a,Y,h⟩:=bK h
  split at h
  .rename_i b off
   split at h
   .rename_i O;unfold uV at h
    split at h
    .rename_i V _;obtain⟨us,h⟩:=sZ (ls:=V) h
     split at h
     .rename_i R;refine⟨_,_,h.2,λq C B J=>by subst C;exact λj=>Vu j B,λg=>h.1,λg w D=>nq ?_⟩
      simp[execOp,y,A x _ Y g,Cg O R (N _ D g)]
     .exact h.elim
    .exact h.elim
   .rename_i O;have hu:=Cf h;obtain⟨u,E,I⟩:=pS h;refine⟨_,_,I,λq C B J=>by subst C;exact λj=>Vu j B,λg=>E,λg w D=>nq ?_⟩
    simp[execOp,y,A x _ Y g,Ch hu O (N _ D g)]
  .exact h.elim
 .rename_i t x i ok y;obtain⟨m,hm,h⟩:=bK h;obtain⟨k,W,h⟩:=bK h
  split at h
  .rename_i kt e ht;obtain⟨u,h⟩:=pS h
   split at h
   .obtain⟨S,E,I⟩:=h;refine⟨_,_,I,λq C B J=>by subst C;exact λj=>Vu j B,λg=>E,λg w D=>nq ?_⟩
    simp[execOp,y,A x _ hm g,A i _ W g,N _ D g w rfl]
   .refine⟨_,_,h.2,λq C B J=>by subst C;exact λj=>Vu j B,λg=>h.1,λg w D=>nq ?_⟩
    simp[execOp,y,A x _ hm g,A i _ W g,N _ D g w rfl]
  .exact h.elim
 .rename_i s d x y;obtain⟨v,T,h⟩:=bK h
  split at h
  .obtain⟨b,E,I⟩:=h;refine⟨_,_,I,λq C B J=>by subst C;exact λj=>Vu j B,λg=>E,λg w D=>nq ?_⟩
   simp[execOp,y,A x _ T g,N _ D g w rfl]
  .exact h.elim
 .rename_i it y;obtain⟨v,T,h⟩:=bK h
  split at h
  .obtain⟨k,h⟩:=oH h;obtain⟨x,E,I⟩:=oH h;refine⟨_,_,I,λq C B J=>by subst C;exact λj=>Vu j B,λg=>E,λg w D=>nq ?_⟩
   simp[execOp,y,A it _ T g,N _ D g w rfl]
  .exact h.elim
 .rename_i cl y
  split at h
  .rename_i f M
   split at h
   .obtain⟨Q,L,h⟩:=bK h;obtain⟨ss,U,h⟩:=bK h;obtain⟨u,E,I⟩:=td h;refine⟨_,_,I,λq C B J=>by subst C;exact λj=>Vu j B,λg=>E,λg w D=>nq ?_⟩
    have e1:cl.args.map ρ=⟨Q⟩:=by apply Array.ext';simp[nl A _ _ L g]
    have h3:=N _ E g w;simp only[execOp,y,resolve,M,hρ,Deferred.ofValue,invoke,e1,Sem.run_bind,Sem.run_pure,Result.andThen_ok];simpa using h3
   obtain⟨hf,h⟩:=Ci h;obtain⟨Q,L,h⟩:=bK h;obtain⟨ss,U,h⟩:=bK h;obtain⟨u,E,I⟩:=td h;refine⟨_,_,I,λq C B J=>by subst C;exact λj=>Vu j B,λg=>E,λg w D=>?_⟩
   have e1:cl.args.map ρ=⟨Q⟩:=by apply Array.ext';simp[nl A _ _ L g]
   have e2:(execOp ρ o).run X.P w=.ok (.enter f ⟨Q⟩) w:=by
    simp only[execOp,y,resolve,M,hρ,Deferred.ofValue,invoke,e1,Sem.run_bind,Sem.run_pure,Result.andThen_ok];rw[tf (hX f hf)];simp
   rw[e2];exact⟨rfl,((N _ D g).at w rfl).mono λe w2 he=>he.toP⟩
  .rename_i M;obtain⟨Q,L,h⟩:=bK h;obtain⟨n,E,I⟩:=h;refine⟨_,_,I,λq C B J=>by subst C;exact λj=>Vu j B,λg=>E,λg w D=>nq ?_⟩
   have e1:cl.args.map ρ=⟨Q⟩:=by apply Array.ext';simp[nl A _ _ L g]
   simp[execOp,y,resolve,M,e1,invoke,builtin,N _ D g w rfl]
  .exact h.elim
 .exact h.elim
theorem MZ{P:Program}{w:World}{b o:Nat}{v:Value}(hs:(aL w.heap b o).isSome=true)(d:lY w.heap b o=false)(c:cT [v]=true) :
  (store ⟨b,o,none⟩ v).run P w=.ok () (w.setCell ⟨b,o,none⟩ v):=by
 have a:v.oneCell'=true:=by cases v <;> simp[cT,Value.oneCell']at c ⊢
 rw[run_store P w _ v _ a,cell?_cellAt]
 cases hc:aL w.heap b o with
 | none=>simp[hc]at hs
 | some u=>simp[frozen?_frozenAt,d]
theorem yk{v:Value}{r:Os}(h:cT (v::r)=true):cT [v]=true/\cT r=true:=by
 cases v <;> simp[cT]at h ⊢ <;> exact h
theorem qU{P:Program}{b:Nat}:∀(l:Os) (o i:Nat) (w:World),eU w.heap b (o+i) l->(∀j,j<l.length->(aL w.heap b (o+i+j)).isSome=true/\lY w.heap b (o+i+j)=false)->cT l=true->
  ∃f,(storeCells ⟨b,o,none⟩ l i).run P w=.ok () f/\bV w f/\f.heap=fK w.heap b (o+i) l
 | [],o,i,w,_,_,_=>⟨w,rfl,bV.refl w,rfl⟩
 | v::r,o,i,w,h,ha,hp=>by
  obtain⟨m,k⟩:=yk hp;have h0:=ha 0 (by simp);have d:=MZ (P:=P) (w:=w) (b:=b) (o:=o+i) (v:=v) (by simpa using h0.1) (by simpa using h0.2) m;have a:∀x,(aL (iI w.heap b (o+i) v) b x).isSome=(aL w.heap b x).isSome/\lY (iI w.heap b (o+i) v) b x=lY w.heap b x:=by
   intro x;simp only[aL,lY,iI,Array.getElem?_modify]
   cases hb:w.heap[b]? with
   | none=>simp
   | some ob=>
    cases ob <;> simp[Array.getElem?_setIfInBounds]
    rename_i c e B
    split <;> (try split) <;> simp_all
  obtain⟨f,y,t,A⟩:=qU (P:=P) (b:=b) r o (i+1) (w.setCell ⟨b,o+i,none⟩ v) (by
    rw[yc]
    clear d
    have:∀(l:Os) (x:Nat),(∀j,j<l.length->(aL (iI w.heap b (o+i) v) b (x+j)).isSome=true/\lY (iI w.heap b (o+i) v) b (x+j)=false)->eU (iI w.heap b (o+i) v) b x l:=by
     intro l
     induction l with
     | nil=>intro x _;trivial
     | cons u l ih=>intro x s;exact⟨by simpa using s 0 (by simp),ih (x+1) (λj n=>by have:=s (j+1) (by simp;omega);rwa[show x+(j+1)=x+1+j by omega]at this)⟩
    refine this r _ λj n=>?_
    have:=ha (j+1) (by simp;omega);rw[(a _).1,(a _).2]
    rwa[show o+i+(j+1)=o+(i+1)+j by omega]at this) (λj n=>by
    rw[yc,(a _).1,(a _).2];have:=ha (j+1) (by simp;omega)
    rwa[show o+i+(j+1)=o+(i+1)+j by omega]at this) k
  refine⟨f,?_,?_,?_⟩
  .simp only[storeCells,Sem.run_bind,te,d,Result.andThen_ok,y]
  .exact bV.trans (b:=w.setCell ⟨b,o+i,none⟩ v) ⟨rfl,rfl,rfl⟩ t
  .rw [A,yc];rfl
theorem qV{H:aD}{b:Nat}:∀(l:Os) (x:Nat),eU H b x l->∀j,j<l.length->(aL H b (x+j)).isSome=true/\lY H b (x+j)=false
 | [],_,_,j,hj=>by simp at hj
 | _::r,x,h,0,_=>h.1
 | _::r,x,h,j+1,hj=>by
  have:=qV r (x+1) h.2 j (by simpa using hj)
  rwa[show x+1+j=x+(j+1) by omega]at this
theorem Na{P:Program}{t:TypeId}{b off:Nat}{v:Value}{w:World}(e:v.cells.toList.length=P.cellsOf t)(hi:P.info? t≠none)(i:cT v.cells.toList=true)(h:eU w.heap b off v.cells.toList) :
  ∃a,(Instr.storeAt t (.pointer (some ⟨b,off,none⟩)) v).run P w=.ok () a/\bV w a/\a.heap=fK w.heap b off v.cells.toList:=by
 obtain⟨a,c,f,d⟩:=qU (P:=P) (b:=b) v.cells.toList off 0 w (by simpa using h) (by simpa using qV _ _ h) i;refine⟨a,?_,f,by simpa using d⟩;simp only[Instr.storeAt,Instr.sureAddr,Sem.run_bind,Sem.run_pure,Result.andThen_ok,storeVar,me P t hi];rw[Vs (by simpa using e)];simp only[c]
theorem nY{P:Program}{s:Sem Value}{H:aD}{KP K:KE}{w:World}(b:w.heap=H)(h:cB P s H K):gw P w KP K ((do pure (Next.value (<-s)):Sem Next).run P w):=by
 obtain⟨a,f,c,e,d⟩:=h.at w b;simp only[Sem.run_bind,c,Result.andThen_ok,Sem.run_pure];exact⟨e,d⟩
theorem yl{P:Program}{s:Sem Unit}{H:aD}{KP:KE}{K:aD->Prop}{w:World}(c:w.heap=H)(h:cB P s H λ_ b=>K b):gw P w KP (λv b=>v=undef/\K b) ((do s;pure Next.skip:Sem Next).run P w):=by
 obtain⟨a,i,d,f,e⟩:=h.at w c;simp only[Sem.run_bind,d,Result.andThen_ok,Sem.run_pure];exact⟨f,rfl,e⟩
theorem Cm(z:Os)(a:z≠[]):∀(n i:Nat),i<n*z.length->(lx z n)[i]?=z[i%z.length]?
 | 0,i,h=>by simp at h
 | n+1,i,h=>by
  simp only[lx]
  by_cases hi:i<z.length
  .rw [List.getElem?_append_left hi,W5 hi]
  .rw [List.getElem?_append_right (by omega),Cm z a n (i-z.length) (by rw[Nat.succ_mul]at h;omega)];rw[<-Nat.mod_eq_sub_mod (by omega)]
theorem vl(z:Os):∀n,(lx z n).length=n*z.length
 | 0=>by simp[lx]
 | n+1=>by simp[lx,vl z n,Nat.succ_mul,WW]
theorem Nb(z:Array Value)(n:Nat):(Array.range (n*z.size)).map (λi=>z[i%z.size]!)=⟨lx z.toList n⟩:=by
 apply Array.ext';apply WI;intro i
 by_cases hz:z.toList=[]
 .have:z.size=0:=by rw[<-Wy,hz];rfl
  have d:(lx z.toList n).length=0:=by simp[vl,this]
  simp[this];omega
 by_cases hi:i<n*z.size
 .have c:=Cm z.toList hz n i (by simpa using hi);simp only[Wy]at c;rw[c];have a:0<z.size:=by
   rw[<-Wy];exact Ym.2 hz
  have b:=Wz i a;simp[hi,b]
 .rw [List.getElem?_eq_none (by simp;omega),List.getElem?_eq_none (by rw[vl];simp;omega)]
theorem Nc{P:Program}(t e:TypeId)(n:Nat)(parts:List (Nat×Value))(l:Os)(x:P.underlying t=some (.slice e))(A:n*P.cellsOf e<=16777216)(h:yb P e n parts=some l)(w:World) :
  (Instr.buildSlice t n parts.toArray).run P w=.ok (.slice (some ⟨w.heap.size,0,none⟩) n n) (w.alloc (.cells ⟨l⟩ e)):=by
 unfold yb at h
 split at h
 .rename_i z u;obtain⟨v,m,b,c⟩:=vj u
  split at h
  .rename_i a;have d:v.cells.size=P.cellsOf e:=by rw[<-Wy,m,a]
   have k:=vk _ parts ⟨lx z n⟩ l h;simp only[Instr.buildSlice,Sem.run_bind,fq x,Result.andThen_ok,me P e c];rw[nO]
   by_cases h0:n*P.cellsOf e=0
   .have f:(lx z n).length=0:=by rw[vl,a,h0]
    have y:lx z n=[]:=W6.1 f;rw[y]at k;rw[Vt h0];have j:Instr.fill (λi=>some (i*P.cellsOf e,P.cellsOf e)) #[] parts=some ⟨l⟩:=k
    have s:Array.map (λ_:Nat=>(default:Value)) (Array.range 0)=#[]:=by simp
    simp[h0];rw[s,j];simp[newRow]
   .rw [Vs h0];have f:=Nb v.cells n;rw[d,m]at f;simp only[Sem.run_bind,b,Result.andThen_ok,Sem.run_pure,d,f,k];simp[newRow]
  .cases h
 .cases h
theorem Cn(o:Oper){H:aD}{K:KE}(A:∀x v,ev x=some v->ρ x=v)(hX:∀f,bJ f X.calls=true->gF X.P f)(hρ:∀f,ρ (.func f)=.func (.func f) #[] #[])
  (h:vh X ev o H K):∀w,w.heap=H->gw X.P w X.kp K ((execOp ρ o).run X.P w):=by
 intro w I;have N:∀(l:Array Operand) L,gZ ev l.toList=some L->l.map ρ=⟨L⟩:=λl L B=>by
  apply Array.ext';simp[nl (G:=True) (λx v h _=>A x v h) _ _ B trivial]
 have h0:∀(l:Array (Nat×Operand)) L,oG ev l.toList=some L->(l.map λ(i,x)=>(i,ρ x))=L.toArray:=λl L B=>by
  apply Array.ext';simp[<-yg (G:=True) (λx v h _=>A x v h) _ _ B trivial]
 unfold vh at h
 split at h
 .rename_i t j;obtain⟨z,hz,h⟩:=bK h;obtain⟨v,C,T,_⟩:=vj hz;subst I;have:v.cells=⟨z⟩:=by apply Array.ext';simp[C]
  simp[execOp,j,Instr.alloc,T,newVar,newRow,this];exact⟨⟨rfl,rfl,rfl⟩,h _ _ rfl rfl⟩
 .rename_i t x j;obtain⟨v,C,h⟩:=bK h;subst I;simp[execOp,j,Instr.box,A x v C,newVar,newRow];exact⟨⟨rfl,rfl,rfl⟩,h _ _ rfl rfl⟩
 .rename_i t n ps j;obtain⟨L,B,h⟩:=bK h
  split at h
  .rename_i e ht;obtain⟨l,W,h⟩:=bK h
   split at h
   .rename_i hn;subst I;simp only[execOp,j,h0 ps L B,Sem.run_bind,Nc t e n L l ht hn W w,Result.andThen_ok,Sem.run_pure];exact⟨⟨rfl,rfl,rfl⟩,h _ _ rfl rfl⟩
   .exact h.elim
  .exact h.elim
 .rename_i t r j
  split at h
  .subst I;simp[execOp,j,Instr.makeMap];exact⟨⟨rfl,rfl,rfl⟩,h _ _ rfl rfl⟩
  .exact h.elim
 .rename_i t x y j;obtain⟨a,M,h⟩:=bK h;obtain⟨v,C,h⟩:=bK h
  split at h
  .rename_i b off;obtain⟨hi,_,h⟩:=pR h
   split at h
   .rename_i hc;subst I;obtain⟨w',E,D,h3⟩:=Na hc.1 hi hc.2 h.1;simp only[execOp,j,A x _ M,A y v C,Sem.run_bind,E,Result.andThen_ok,Sem.run_pure];exact⟨D,h.2 _ h3⟩
   .exact h.elim
  .exact h.elim
 .rename_i t l c j;obtain⟨a,M,h⟩:=bK h;obtain⟨b,hb,h⟩:=bK h;have:=nY (KP:=X.kp) I h;simp only[execOp,j,A l a M,A c b hb];exact this.mono λv J C=>by obtain⟨u,E,D⟩:=pS C;subst E;exact D
 .rename_i t m k x j;obtain⟨a,M,h⟩:=bK h;obtain⟨b,hb,h⟩:=bK h;obtain⟨v,C,h⟩:=bK h;simp only[execOp,j,A m a M,A k b hb,A x v C];exact (yl I h).mono λu J S=>by obtain⟨rfl,D⟩:=S;exact D
 .rename_i t m k x j;obtain⟨a,M,h⟩:=bK h;obtain⟨b,hb,h⟩:=bK h;obtain⟨v,C,h⟩:=bK h;simp only[execOp,j,A m a M,A k b hb,A x v C];exact (yl I h).mono λu J S=>by obtain⟨rfl,D⟩:=S;exact D
 .rename_i t m k j;obtain⟨a,M,h⟩:=bK h;obtain⟨b,hb,h⟩:=bK h;simp only[execOp,j,A m a M,A k b hb];refine (nY I h).mono λv J C=>?_
  split at C
  .obtain⟨u,n,E,D⟩:=pS C;subst E;exact D
  .exact C.elim
 .rename_i t m k x j;obtain⟨a,M,h⟩:=bK h;obtain⟨b,hb,h⟩:=bK h;obtain⟨v,C,h⟩:=bK h;simp only[execOp,j,A m a M,A k b hb,A x v C];exact (yl I h).mono λu J S=>by obtain⟨rfl,D⟩:=S;exact D
 .rename_i t x j;obtain⟨a,M,h⟩:=bK h;simp only[execOp,j,A x a M];exact (nY I h).mono λv J C=>by obtain⟨r,E,D⟩:=C;subst E;exact D
 .rename_i it s j;obtain⟨a,M,h⟩:=bK h;simp only[execOp,j,A it a M];refine (nY I h).mono λv J C=>?_
  rcases C with ⟨E,D⟩|⟨k,x,E,D⟩
  .subst E;exact D
  .subst E;exact D
 .rename_i s d x j;obtain⟨a,M,h⟩:=bK h;simp only[execOp,j,A x a M];exact (nY I h).mono λv J C=>by obtain⟨u,E,D⟩:=pS C;subst E;exact D
 .rename_i cl j
  split at h
  .rename_i f F;obtain⟨Y,h⟩:=Ci h;obtain⟨L,B,h⟩:=bK h;obtain⟨O,Z,h⟩:=bK h;have e2:(execOp ρ o).run X.P w=.ok (.enter f ⟨L⟩) w:=by
    simp only[execOp,j,resolve,F,hρ,Deferred.ofValue,invoke,N _ _ B,Sem.run_bind,Sem.run_pure,Result.andThen_ok];rw[tf (hX f Y)];simp
   rw[e2];refine gw.mono (K:=λv J=>lr O λu=>v=u/\K u J) ?_ λv J C=>?_
   .split at h
    .exact⟨rfl,h.at w I⟩
    .exact⟨rfl,(h.at w I).mono λe Q U=>U.toP⟩
   obtain⟨u,E,D⟩:=td C;subst E;exact D
  .rename_i x hx F;obtain⟨fv,R,hA⟩:=bK h
   clear h
   obtain⟨L,B,hB⟩:=bK hA
   clear hA
   obtain⟨O,Z,V⟩:=bK hB
   clear hB
   obtain⟨f,first,cap,rfl,h⟩|⟨l,rfl,h⟩:(∃f first cap,fv=.func (.func f) first cap/\(bJ f X.calls=true/\iK X.P f ⟨first.toList++L++cap.toList⟩ H λv J=>lr O λu=>v=u/\K u J))\/
     (∃l,fv=.func (.yield l) #[] #[]/\fJ X.P l L H λv J=>lr O λu=>v=u/\K u J):=by
    clear A hρ
    cases fv <;> (try exact V.elim)
    rename_i fn first cap
    cases fn <;> (try exact V.elim)
    .exact .inl ⟨_,_,_,rfl,V⟩
    .rcases first with ⟨_|_⟩ <;> rcases cap with ⟨_|_⟩ <;> (try exact V.elim);exact .inr ⟨_,rfl,V⟩
   .obtain⟨Y,h⟩:=h;have e2:(execOp ρ o).run X.P w=.ok (.enter f ⟨first.toList++L++cap.toList⟩) w:=by
     simp only[execOp,j,resolve,F,A x _ R,Deferred.ofValue,invoke,N _ _ B,Sem.run_bind,Sem.run_pure,Result.andThen_ok];rw[tf (hX f Y)];simp
    rw[e2];refine gw.mono (K:=λv J=>lr O λu=>v=u/\K u J) ⟨rfl,(h.at w I).mono λe Q U=>U.toP⟩ λv J C=>?_
    obtain⟨u,E,D⟩:=td C;subst E;exact D
   .obtain⟨fn,tmps,assign,body,E,D⟩:=h.at w I;have e2:(execOp ρ o).run X.P w=.ok (.round l fn tmps assign body) w:=by
     simp only[execOp,j,resolve,F,A x _ R,Deferred.ofValue,invoke,N _ _ B,Sem.run_bind,Sem.run_pure,Result.andThen_ok];simpa using E
    rw[e2];refine gw.mono (K:=λv J=>lr O λu=>v=u/\K u J) ⟨rfl,D.mono λe Q U=>U.toP⟩ λv J C=>?_
    obtain⟨u,E,D⟩:=td C;subst E;exact D
  .rename_i F;obtain⟨L,B,h⟩:=bK h;have:=nY (KP:=X.kp) I h;simp only[execOp,j,resolve,F,pure_bind,invoke,builtin,N _ _ B];exact this.mono λv J C=>by obtain⟨a,n,c,E,D⟩:=C;subst E;exact D
  .rename_i F;obtain⟨L,B,h⟩:=bK h;have:=nY (KP:=X.kp) I h;simp only[execOp,j,resolve,F,pure_bind,invoke,builtin,N _ _ B];exact this.mono λv J C=>by obtain⟨n,E,D⟩:=C;subst E;exact D
  .rename_i F;obtain⟨L,B,h⟩:=bK h;have:=nY (KP:=X.kp) I h;simp only[execOp,j,resolve,F,pure_bind,invoke,builtin,N _ _ B];exact this
  .rename_i F;obtain⟨L,B,h⟩:=bK h;have:=nY (KP:=X.kp) I h;simp only[execOp,j,resolve,F,pure_bind,invoke,builtin,N _ _ B];exact this
  .exact h.elim
 .rename_i x j;obtain⟨v,C,h⟩:=bK h;unfold panP at h
  split at h
  .subst I;simp only[execOp,j,A x _ C,Sem.run_bind,run_panic_iface,Result.andThen];exact⟨bV.refl w,h⟩
  .exact h.elim
 .exact h.elim
end
abbrev kw:=List (Nat×Option (aD->Prop))
def pT(f:Option (aD->Prop))(H:aD):Prop:=match f with|none=>True|some p=>p H
section
variable {P:Program}{ops:Array Oper}
def qW(P:Program)(w0:World)(KP:KE)(ops:Array Oper)(i:Nat)(K:Act->aD->Prop)(a:Act)(H:aD):Prop:=
 ∀w,w.heap=H->bV w0 w->match ops[i]? with
  | none=>K a H
  | some o=>if Region.wanted o (yielded ops a.tmps) then gw P w KP (λv H'=>K (a.put o.dst v) H') ((execOp a.eval o).run P w) else K (a.put o.dst undef) H
theorem Co{w0:World}{KP:KE}{i:Nat}{K d:Act->aD->Prop}{a:Act}{H:aD}(c:∀a H,K a H->d a H)(h:qW P w0 KP ops i K a H):qW P w0 KP ops i d a H:=by
 intro w e f;have:=h w e f
 cases ho:ops[i]? with
 | none=>simp only[ho]at this ⊢;exact c _ _ this
 | some o=>
  simp only[ho]at this ⊢
  split at this
  .rename_i b;rw[Vt b];exact this.mono λv j=>c _ _
  .rename_i b;rw[Vs b];exact c _ _ this
def nr(isW:Nat->Bool)(bf:Nat->Nat->Bool)(i:Nat)(pd:kw):kw:=if isW i then pd.filter (λx=>!bf i x.1) else pd
def pU(P:Program)(w0:World)(KP:KE)(ops:Array Oper)(isW:Nat->Bool)(bf:Nat->Nat->Bool)(Q:Act->aD->Prop):Nat->kw->Array Bool->Act->aD->Prop
 | 0,pd,listed,a,H=>(∀x∈pd,pT x.2 H)/\Region.ready .any ops listed=[]/\Q a H
 | n+1,pd,listed,a,H=>(∀x∈pd,pT x.2 H)/\(Region.ready .any ops listed=[]->Q a H)/\
  ∀i∈Region.ready .any ops listed,qW P w0 KP ops i (λa' H'=>pU P w0 KP ops isW bf Q n (nr isW bf i pd) (listed.setIfInBounds i true) a' H') a H
def FR(ro:Option Nat):Fence:={ Fence.wide with round:=ro }
theorem ym{o:Oper}{a:Act}{w w0:World}{ro:Option Nat}(hd:∀c,o.op≠.defer c)(j:bV w0 w){KP K:KE}{next:Act->World->Prop}{Q':Exit->Act->World->Prop}
  (m:∀v d,bV w0 d->K v d.heap->next (a.put o.dst v) d) (s:∀v d,bV w0 d->KP v d.heap->Q' (.panic [{ v,recovered:=false }]) a d)
  (h:gw P w KP K ((execOp a.eval o).run P w)):o.wpIn (FR ro) 0 P a w next Q':=by
 refine⟨λf _=>trivial,?_⟩
 have hs:o.semAt (FR ro).round a.eval=execOp a.eval o:=Oper.semAt_eq ro _ o hd;rw[hs];generalize (execOp a.eval o).run P w=r at h
 cases r with
 | halt h' d=>
  cases h' <;> simp only[gw]at h
  exact s _ _ (j.trans h.1) h.2
 | ok n d=>
  cases n <;> simp only[gw]at h
  case value v=>exact m _ _ (j.trans h.1) h.2
  case skip=>exact m _ _ (j.trans h.1) h.2
  case enter f args=>
   obtain⟨rfl,h⟩:=h;rw[Oper.uponIn_enter];refine⟨λhd=>(by cases hd),?_⟩
   have k:CallsIn Fence.wide (0-1) P f args d λ
     | .returned v,b=>next (a.put o.dst v) b
     | .panicked chain,b=>Q' (.panic chain) a b
     | .outgrown,_=>LetsOut Q':=callsIn_wide.2 (h.mono λe b i=>by
    cases e <;> simp only[iL]at i ⊢
    case returned v=>exact m _ _ (j.trans i.1) i.2
    case panicked chain=>obtain⟨v,rfl,t,k⟩:=i;exact s _ _ (j.trans t) k)
   exact k
  case round l f tmps assign body=>
   obtain⟨rfl,h⟩:=h;rw[Oper.uponIn_round];refine⟨λhd=>(by cases hd),?_⟩
   have k:RoundIn Fence.wide (0-1) P l f tmps assign body d λ
     | .returned v,b=>next (a.put o.dst v) b
     | .panicked chain,b=>Q' (.panic chain) a b
     | .outgrown,_=>LetsOut Q':=h.mono λe b i=>by
    cases e <;> simp only[iL]at i ⊢
    case returned v=>exact m _ _ (j.trans i.1) i.2
    case panicked chain=>obtain⟨v,rfl,t,k⟩:=i;exact s _ _ (j.trans t) k
   exact k
theorem vm{w0:World}{KP:KE}{ro:Option Nat}{isW:Nat->Bool}{bf:Nat->Nat->Bool}{Q:Act->aD->Prop}{Q':Exit->Act->World->Prop}(k:∀a w,bV w0 w->Q a w.heap->Q' .normal a w)
  (hd:∀o∈ops.toList,∀c,o.op≠.defer c) {Inv:Act->Prop} (d:∀a o v,o∈ops.toList->Inv a->Inv (a.put o.dst v)) (t:∀v a w,bV w0 w->Inv a->KP v w.heap->Q' (.panic [{ v,recovered:=false }]) a w) :
  ∀(n:Nat) (A:kw) (b:Array Bool) (a:Act) (w:World),bV w0 w->Inv a->pU P w0 KP ops isW bf Q n A b a w.heap->wpAnyIn (FR ro) 0 P .any ops Q' n b a w
 | 0,_,_,_,_,hr,_,h=>⟨h.2.1,k _ _ hr h.2.2⟩
 | n+1,A,b,a,w,hr,ha,h=>⟨λh0=>k _ _ hr (h.2.1 h0),λi hi=>by
  have m:=h.2.2 i hi w rfl hr;unfold wpOpIn
  split at m
  .rename_i s;simp only[s];exact vm k hd d t n _ _ a w hr ha m
  .rename_i o s;simp only[s];have e:o∈ops.toList:=by
    have:ops.toList[i]?=some o:=by simpa using s
    exact VY this
   split at m
   .rename_i u;rw[Vt u];exact ym (hd o e) hr (λv x j y=>vm k hd d t n _ _ _ x j (d _ _ _ e ha) y) (λv x j y=>t v a x j ha y) m
   .rename_i u;rw[Vs u];exact⟨λf _=>trivial,vm k hd d t n _ _ _ w hr (d _ _ _ e ha) m⟩⟩
def ly(P:Program)(ops:Array Oper)(o:Oper)(v:Value)(f:Option (aD->Prop))(a:Act):Prop:=
 (Region.wanted o (yielded ops a.tmps)=true->∀w,pT f w.heap->gw P w (λ_ _=>False) (λv' H'=>v'=v/\H'=w.heap) ((execOp a.eval o).run P w))/\
 (Region.wanted o (yielded ops a.tmps)=false->v=undef)
theorem ly.of_same{o:Oper}{v:Value}{f:Option (aD->Prop)}{a b:Act}(e:ly P ops o v f a)(d:execOp b.eval o=execOp a.eval o)
  (c:Region.wanted o (yielded ops b.tmps)=Region.wanted o (yielded ops a.tmps)):ly P ops o v f b:=by
 unfold ly at *;rw[d,c];exact e
theorem ly.step{w0:World}{KP:KE}{i:Nat}{o:Oper}{v:Value}{f:Option (aD->Prop)}{a:Act}{H:aD}(hi:ops[i]?=some o)(c:ly P ops o v f a)(j:pT f H){K:Act->aD->Prop}(h:K (a.put o.dst v) H) :
  qW P w0 KP ops i K a H:=by
 intro w d n;simp only[hi]
 split
 .rename_i b;subst d;exact (c.1 b w j).mono2 (λm s ⟨k,e⟩=>by subst k;subst e;exact h) λ_ _ h=>h.elim
 .rename_i b;rw[<-c.2 (by simpa using b)];exact h
theorem Nd{w0:World}{KP:KE}{j:Nat}{c d:Oper}{v:Value}{f:Option (aD->Prop)}(D:ops[j]?=some d)(s:c.apart ops d=true)
  (n:∀cs b,c.op≠.select cs b) (m:∀cs b,d.op≠.select cs b) {K:Act->aD->Prop} {a:Act} {H:aD}
  (k:ly P ops c v f a) (h:qW P w0 KP ops j K (a.put c.dst v) H) :
  qW P w0 KP ops j (λA B=>ly P ops c v f A/\K (A.put c.dst v) B) a H:=by
 obtain⟨x,t,y⟩:=Oper.apart_spec s;have keep:∀(a:Act),ly P ops c v f a->∀u,ly P ops c v f (a.put d.dst u):=λa k u=>
  k.of_same (execOp_put c n a d.dst u y) (wanted_put c a d.dst u y)
 intro w C E;have i:=h w C E;simp only[D]at i ⊢;rw[wanted_put d a c.dst v x]at i
 split
 .rename_i e;rw[Vt e,execOp_put d m a c.dst v x]at i;exact i.mono λu B F=>⟨keep a k u,by rw[<-Act.put_comm a v u t];exact F⟩
 .rename_i e;rw[Vs e]at i;exact⟨keep a k _,by rw[<-Act.put_comm a v undef t];exact i⟩
def pV(ops:Array Oper)(listed:Array Bool):Prop:=
 ∀j oj,ops[j]?=some oj->listed.getD j false=true->∀e∈oj.after,Region.binds .any e=true->listed.getD e.on false=true
theorem pV.set{a:Array Bool}(h:pV ops a){i:Nat}(hi:i∈Region.ready .any ops a):pV ops (a.setIfInBounds i true):=by
 obtain⟨_,n,c,b⟩:=mem_ready.1 hi;intro j m f d e k hb
 by_cases hij:i=j
 .subst hij;have:m=n:=Option.some.inj (f.symm.trans c);subst this;exact getD_set_true (b e k hb)
 .rw [getD_set_ne false hij]at d;exact getD_set_true (h j m f d e k hb)
def BfOk(ops:Array Oper)(bf:Nat->Nat->Bool):Prop:=
 ∀j oj,ops[j]?=some oj->∀i,bf j i=true->∃e∈oj.after,Region.binds .any e=true/\(e.on=i\/(e.on<j/\bf e.on i=true/\(ops[e.on]?).isSome=true))
theorem Nf{bf:Nat->Nat->Bool}(hb:BfOk ops bf){a:Array Bool}(t:pV ops a) :
  ∀(j:Nat) (b:Oper),ops[j]?=some b->a.getD j false=true->∀i,bf j i=true->a.getD i false=true:=by
 intro j
 induction j using Nat.strongRecOn with
 | _ j ih=>
  intro b f m i hi;obtain⟨e,n,d,h⟩:=hb j b f i hi;have k:=t j b f m e n d
  rcases h with h|⟨c,s,u⟩
  .rw [<-h];exact k
  .obtain⟨ok,v⟩:=Y9.1 u;exact ih e.on c ok v k i s
theorem bf_ready{bf:Nat->Nat->Bool}(hb:BfOk ops bf){a:Array Bool}(s:pV ops a){j:Nat}(k:j∈Region.ready .any ops a)(i:Nat)(hi:bf j i=true):a.getD i false=true:=by
 obtain⟨_,w,c,b⟩:=mem_ready.1 k;obtain⟨e,m,d,h⟩:=hb j w c i hi;have f:=b e m d
 rcases h with h|⟨t,n,u⟩
 .rw [<-h];exact f
 .obtain⟨ok,v⟩:=Y9.1 u;exact Nf hb s e.on ok v f i n
theorem getD_ft{a:Array Bool}{i:Nat}(h:a.getD i true=false):a.getD i false=false:=by
 rcases VO i a.size with b|b
 .simp [b]at h ⊢;exact h
 .simp [Array.getElem?_eq_none b]at h
theorem Ng{isW:Nat->Bool}{bf:Nat->Nat->Bool}{i j:Nat}{f:Option (aD->Prop)}{a:kw}(h:bf j i=false):nr isW bf j ((i,f)::a)=(i,f)::nr isW bf j a:=by
 unfold nr
 split <;> simp[h]
theorem first_R{w0:World}{KP:KE}{isW:Nat->Bool}{bf:Nat->Nat->Bool}{Q:Act->aD->Prop}(hb:BfOk ops bf)(hs:Region.noSelect ops=true){i:Nat}{F:Oper}{v:Value}{f:Option (aD->Prop)}(hi:ops[i]?=some F)(I:isW i=false) :
  ∀(n:Nat) (s:kw) (c:Array Bool) (a:Act) (H:aD),pV ops c->
   (∀j B,ops[j]?=some B->j≠i->c.getD j true=false->(∀e∈B.after,Region.binds .any e=true->e.on≠i)->F.apart ops B=true)->
   i∈Region.ready .any ops c->ly P ops F v f a->
   pU P w0 KP ops isW bf Q n ((i,f)::s) (c.setIfInBounds i true) (a.put F.dst v) H->pU P w0 KP ops isW bf Q (n+1) s c a H:=by
 intro n
 induction n with
 | zero=>
  intro s c a H T _ C N h;refine⟨λx d=>h.1 x (VD _ d),λh0=>(by rw[h0]at C;cases C),λj E=>?_⟩
  by_cases hji:j=i
  .subst hji;refine N.step hi (h.1 _ VA) ?_;refine⟨λx d=>?_,h.2⟩
   have:x∈s:=by unfold nr at d;rw[Vs (by simp[I])]at d;exact d
   exact h.1 x (VD _ this)
  .have:=ready_mono E hji;rw[h.2.1]at this
   cases this
 | succ n ih=>
  intro s c a H T t C N h;refine⟨λx d=>h.1 x (VD _ d),λh0=>(by rw[h0]at C;cases C),λj E=>?_⟩
  by_cases hji:j=i
  .subst hji;refine N.step hi (h.1 _ VA) ?_;have e1:nr isW bf j s=s:=by unfold nr;rw[Vs (by simp[I])]
   rw[e1];have m:∀(n:Nat) (s u:kw) (c:Array Bool) (a:Act) (H:aD),(∀x∈u,x∈s)->pU P w0 KP ops isW bf Q n s c a H->pU P w0 KP ops isW bf Q n u c a H:=by
    intro n
    induction n with
    | zero=>intro s u c a H hs h;exact⟨λx d=>h.1 x (hs x d),h.2⟩
    | succ n ih2=>
     intro s u c a H hs h;refine⟨λx d=>h.1 x (hs x d),h.2.1,λk U=>Co (λY Z=>ih2 _ _ _ Y Z ?_) (h.2.2 k U)⟩
     intro x d;unfold nr at d ⊢
     split
     .rename_i O;rw[Vt O]at d;rw[Wv]at d ⊢;exact⟨hs x d.1,d.2⟩
     .rename_i O;rw[Vs O]at d;exact hs x d
   exact m _ _ _ _ _ _ (λx d=>VD _ d) h
  .have M:=h.2.2 j (ready_mono E hji);obtain⟨y,B,D,J⟩:=mem_ready.1 E;have A:=getD_ft (mem_ready.1 C).1;have G:∀e∈B.after,Region.binds .any e=true->e.on≠i:=λe he V W=>by
    have M:=J e he V;rw[W,A]at M;cases M
   have K:bf j i=false:=by
    cases hbf:bf j i with
    | false=>rfl
    | true=>have:=bf_ready hb T E i hbf;rw[A]at this;cases this
   have h2:=Nd D (t j B D hji y G) (λcs b=>Region.noSelect_spec hs i F cs b hi) (λcs b=>Region.noSelect_spec hs j B cs b D) N M
   have w:∀k ok,ops[k]?=some ok->k≠i->(c.setIfInBounds j true).getD k true=false->
     (∀e∈ok.after,Region.binds .any e=true->e.on≠i)->F.apart ops ok=true:=λk ok U R L S=>by
    refine t k ok U R ?_ S
    by_cases hjk:j=k
    .subst hjk;exact y
    .rw [getD_set_ne true hjk]at L;exact L
   refine Co (λY Z h3=>ih _ (c.setIfInBounds j true) Y Z (T.set E) w (ready_mono C (Ne.symm hji)) h3.1 ?_) h2
   have h4:=h3.2;rw[Ng K,Array.setIfInBounds_comm _ _ (Ne.symm hji)]at h4;exact h4
end
abbrev Kn:=List (Nat×Bool×Bool)
inductive GC where
 | yes|no|bad
 | iff (c:Prop)
def mf:Kn->Nat->Bool->Option Bool
 | [],_,_=>none
 | (j',w',b)::r,j,w=>if Nat.beq j' j then (if w' == w then some b else (if b then some false else mf r j w)) else mf r j w
def jK(ops:Array Oper)(j:Nat):Option Tmp:=match aT ops.toList j with|some o=>o.dst|none=>none
def ns(ops:Array Oper)(fr:Fr)(kn:Kn):Nat->Option (Nat×Bool)->GC
 | _,none=>.yes
 | 0,some _=>.bad
 | n+1,some (j,w)=>match mf kn j w with
  | some true=>.yes
  | some false=>.no
  | none=>match jK ops j with
   | none=>.no
   | some d=>match aT fr d with
    | some (.p (.bool c))=>.iff (c=w)
    | some (.p (.tuple _))=>.no
    | some (.p _)=>.bad
    | some (.g h w' (.bool c))=>match ns ops fr kn n (some (h,w')) with
     | .yes=>.iff (c=w)
     | .iff p=>.iff (p/\c=w)
     | .no=>.no
     | .bad=>.bad
    | _=>.bad
def impl(ops:Array Oper)(fr:Fr):Nat->Option (Nat×Bool)->Nat->Bool->Bool
 | 0,_,_,_=>false
 | _,none,_,_=>false
 | n+1,some (j',w'),j,w=>(Nat.beq j' j&&w' == w)||(match jK ops j' with
  | some d=>match aT fr d with
   | some (.g h w'' _)=>impl ops fr n (some (h,w'')) j w
   | _=>false
  | none=>false)
def heldB(ops:Array Oper)(fr:Fr)(kn:Kn)(gd:Option (Nat×Bool))(j:Nat)(w:Bool):Bool:=
 match mf kn j w with
 | some b=>b
 | none=>impl ops fr 9 gd j w
def evG(ops:Array Oper)(fr:Fr)(kn:Kn)(gd:Option (Nat×Bool)):Operand->Option Value
 | .tmp t=>match aT fr t with
  | some (.p v)=>some v
  | some (.g j w v)=>if heldB ops fr kn gd j w then some v else none
  | _=>none
 | .const v=>some v
 | .global g=>some (.pointer (some ⟨g,0,none⟩))
 | .func f=>some (.func (.func f) #[] #[])
def nt(ops:Array Oper)(fr:Fr)(kn:Kn)(gd:Option (Nat×Bool))(side:Bool)(a x:Operand):Option Value:=
 match evG ops fr kn gd x with
 | some v=>some v
 | none=>match a,x with
  | .tmp s,.tmp t=>match aT fr t with
   | some (.g j w v)=>match jK ops j with
    | some d=>if Nat.beq d s&&w == side then some v else none
    | none=>none
   | _=>none
  | _,_=>none
def pW(ops:Array Oper):Kn->Nat->Option Bool
 | [],_=>none
 | (j,w,b)::r,t=>match jK ops j with
  | some d=>if Nat.beq d t then some (w == b) else pW ops r t
  | none=>pW ops r t
def pkG(ops:Array Oper)(fr:Fr)(kn:Kn)(gd:Option (Nat×Bool))(a b d:Operand):Option (Bool×Value×Value):=
 match evG ops fr kn gd a with
 | some (.bool c)=>match (match a with|.tmp t=>pW ops kn t|_=>none) with
  | some true=>match nt ops fr kn gd true a b with|some v=>some (true,v,v)|none=>none
  | some false=>match nt ops fr kn gd false a d with|some v=>some (false,v,v)|none=>none
  | none=>match nt ops fr kn gd true a b,nt ops fr kn gd false a d with|some x,some y=>some (c,x,y)|_,_=>none
 | _=>none
def lz(ops:Array Oper):List Nat->Option Tmp->Bool
 | _,none=>true
 | [],some _=>true
 | j::r,some t=>(match jK ops j with|some u=>!(Nat.beq u t)|none=>true)&&lz ops r (some t)
def qX(g:Option (Nat×Bool))(gs:List Nat):List Nat:=match g with|some (j,_)=>j::gs|none=>gs
section defs
variable (X:Ctx)(ops:Array Oper)
def vcPR(o:Oper)(kn:Kn)(gs:List Nat)(fr:Fr)(H:aD)(k:Fr->List Nat->Option (aD->Prop)->Prop):Prop:=
 if lz ops (qX o.guard gs) o.dst=false then False else
 match ns ops fr kn 9 o.guard with
 | .bad=>False
 | .no=>k (fr.put o.dst (.p undef)) gs none
 | .yes=>(match md X o.op with
  | .P=>ve X (evG ops fr kn o.guard) (pkG ops fr kn o.guard) none o.op λv=>k (fr.put o.dst (.p v)) gs none
  | .R=>vg X (evG ops fr kn o.guard) none o H λv f=>k (fr.put o.dst (.p v)) gs (some f)
  | .W=>False)
 | .iff c=>(match o.guard with
  | none=>False
  | some (j,w)=>(match md X o.op with
   | .P=>ve X (evG ops fr kn o.guard) (pkG ops fr kn o.guard) (some c) o.op λv=>k (fr.put o.dst (.g j w v)) (j::gs) none
   | .R=>vg X (evG ops fr kn o.guard) (some c) o H λv f=>k (fr.put o.dst (.g j w v)) (j::gs) (some f)
   | .W=>False))
def vcW(o:Oper)(kn:Kn)(gs:List Nat)(fr:Fr)(H:aD)(k:Fr->Kn->List Nat->aD->Prop):Prop:=
 if lz ops (qX o.guard gs) o.dst=false then False else
 match ns ops fr kn 9 o.guard with
 | .bad=>False
 | .no=>k (fr.put o.dst (.p undef)) kn gs H
 | .yes=>vh X (evG ops fr kn o.guard) o H λv H'=>k (fr.put o.dst (.p v)) kn gs H'
 | .iff c=>(match o.guard with
  | none=>False
  | some (j,w)=>(c->vh X (evG ops fr kn o.guard) o H λv H'=>k (fr.put o.dst (.p v)) ((j,w,true)::kn) (j::gs) H')/\
   (¬c->k (fr.put o.dst (.p undef)) ((j,w,false)::kn) (j::gs) H))
def Cp(o:Oper)(c:Call)(r:List Oper)(fr:Fr)(k:List DM->Prop):Prop:=
 match o.guard,o.dst,r,c.callee,c.args.toList with
 | none,none,[],.value x,[]=>(match evG ops fr [] none x with
  | some (.func (.func g) ⟨[]⟩ ⟨cap⟩)=>k [.fn g cap]
  | _=>False)
 | _,_,_,_,_=>False
def l7(rd:Bool)(K:Fr->List DM->aD->Prop):List Oper->Kn->List Nat->Fr->aD->Prop
 | [],_,_,fr,H=>iu (pJ fr) λfr'=>K fr' [] H
 | o::r,kn,gs,fr,H=>match o.op with
  | .defer c=>(match rd with
   | true=>Cp ops o c r fr λM=>iu (pJ fr) λfr'=>K fr' M H
   | false=>False)
  | op=>match md X op with
   | .W=>vcW X ops o kn gs fr H λfr' kn' gs' H'=>iu fr' λfr'=>l7 rd K r kn' gs' fr' H'
   | _=>vcPR X ops o kn gs fr H λfr' gs' _=>iu fr' λfr'=>l7 rd K r kn gs' fr' H
def pX(acc:List Nat):List Edge->Nat->Nat
 | [],s=>s
 | e::r,s=>pX acc r (if Region.binds .any e then s ||| 2^e.on ||| (match aT acc e.on with|some m=>m|none=>0) else s)
def jL:List Oper->List Nat->List Nat
 | [],acc=>acc
 | o::r,acc=>jL r (acc++[pX acc o.after.toList 0])
def bfB(B:List Nat)(j i:Nat):Bool:=match aT B j with|some m=>m.testBit i|none=>false
def l8:List Nat->Option Nat
 | []=>none
 | i::r=>match aT ops.toList i with
  | some o=>(match md X o.op with|.W=>l8 r|_=>some i)
  | none=>l8 r
def allL:List Nat->(Nat->Prop)->Prop
 | [],_=>False
 | [i],f=>f i
 | i::r,f=>f i/\allL r f
def vo:kw->aD->Prop->Prop
 | [],_,q=>q
 | (_,none)::r,H,q=>vo r H q
 | (_,some f)::r,H,q=>f H/\vo r H q
def pY(B:List Nat)(i:Nat):kw->kw
 | []=>[]
 | (j,f)::r=>match bfB B i j with|true=>pY B i r|false=>(j,f)::pY B i r
def vp:List Oper->Bool
 | []=>true
 | o::r=>(match o.op with|.defer _=>false|_=>true)&&vp r
theorem Cq:∀{l:List Oper},vp l=true->∀o∈l,∀c,o.op≠.defer c
 | [],_,o,a,_,_=>by cases a
 | x::r,h,o,a,c,hc=>by
  simp only[vp,Vz]at h
  rcases V9.1 a with rfl|a
  .rw [hc]at h;exact Vu h.1 (by simp)
  .exact Cq h.2 o a c hc
def pZ(ops:Array Oper)(listed:Array Bool):List Nat:=
 (List.range ops.size).filter λi=>!listed.getD i true&&((ops[i]?).map (·.after.toList.all λe=>!Region.binds .any e||listed.getD e.on false)).getD false
theorem yn(ops:Array Oper)(a:Array Bool):pZ ops a=Region.ready .any ops a:=by
 unfold pZ Region.ready;simp only[Array.all_toList]
def qb:List Bool->(List Bool->Prop)->Prop
 | [],k=>k []
 | true::r,k=>qb r λr'=>k (true::r')
 | false::r,k=>qb r λr'=>k (false::r')
theorem yo:∀(l:List Bool) (k:List Bool->Prop),qb l k=k l
 | [],_=>rfl
 | true::r,k=>by rw[qb,yo r]
 | false::r,k=>by rw[qb,yo r]
def oI(X:Ctx)(ops:Array Oper):Nat->Array Bool->Bool
 | 0,_=>true
 | n+1,listed=>match l8 X ops (pZ ops listed) with
  | some i=>Region.free .any ops listed i&&oI X ops n (listed.setIfInBounds i true)
  | none=>(pZ ops listed).all λi=>oI X ops n (listed.setIfInBounds i true)
def oJ(X:Ctx)(ops:Array Oper)(d:Bool):Bool:=match d with
 | false=>true
 | true=>Region.noSelect ops&&(vp ops.toList&&oI X ops ops.size (Array.replicate ops.size false))
def okC(X:Ctx):Code->Bool
 | .region _ ops d=>oJ X ops d
 | .seq a b=>okC X a&&okC X b
 | .cond _ a b=>okC X a&&okC X b
 | .block _ a=>okC X a
 | .loop a=>okC X a
 | .rangeFunc _ _ a b=>okC X a&&okC X b
 | _=>true
def qY(B:List Nat)(K:Fr->aD->Prop):Nat->Array Bool->kw->Kn->List Nat->Fr->aD->Prop
 | 0,listed,_,_,_,fr,H=>(match pZ ops listed with|[]=>iu (pJ fr) λfr'=>K fr' H|_=>False)
 | n+1,listed,pd,kn,gs,fr,H=>match l8 X ops (pZ ops listed) with
  | some i=>(match aT ops.toList i with
   | none=>False
   | some o=>vcPR X ops o kn gs fr H λfr' gs' f=>iu fr' λfr'=>qb (listed.setIfInBounds i true).toList λl=>qY B K n ⟨l⟩ ((i,f)::pd) kn gs' fr' H)
  | none=>allL (pZ ops listed) λi=>(match aT ops.toList i with
   | none=>False
   | some o=>vcW X ops o kn gs fr H λfr' kn' gs' H'=>vo (pY B i pd) H' (iu fr' λfr'=>qb (listed.setIfInBounds i true).toList λl=>qY B K n ⟨l⟩ (pY B i pd) kn' gs' fr' H'))
end defs
structure fS(ops:Array Oper)(fr:Fr)(kn:Kn)(gs:List Nat)(a:Act):Prop where
 size:a.tmps.size=fr.length
 pv:∀t v,aT fr t=some (.p v)->a.tmps[t]?=some v
 gv:∀t j w v,aT fr t=some (.g j w v)->j∈gs/\(yielded ops a.tmps j=some w->a.tmps[t]?=some v)/\(yielded ops a.tmps j≠some w->a.tmps[t]?=some undef)
 kn:∀x∈kn,x.1∈gs/\(yielded ops a.tmps x.1=some x.2.1↔x.2.2=true)
def fL(ops:Array Oper)(g:Option (Nat×Bool))(a:Act):Prop:=match g with|none=>True|some (j,w)=>yielded ops a.tmps j=some w
section
variable {X:Ctx}{ops:Array Oper}{fr:Fr}{kn:Kn}{gs:List Nat}{a:Act}
theorem Cr(o:Oper):Region.wanted o (yielded ops a.tmps)=true↔fL ops o.guard a:=by
 unfold Region.wanted fL
 cases o.guard with
 | none=>simp
 | some g=>simp
theorem Cs(j:Nat):jK ops j=(ops[j]?).bind (·.dst):=by
 unfold jK;rw[eH];simp only[Array.getElem?_toList]
 cases ops[j]? <;> rfl
theorem nu{j d:Nat}(h:jK ops j=some d):yielded ops a.tmps j=(match a.tmps[d]? with|some (.bool b)=>some b|_=>none):=by
 rw[Cs]at h;unfold yielded;rw[h];rfl
theorem yp{j:Nat}(h:jK ops j=none):yielded ops a.tmps j=none:=by
 rw[Cs]at h;unfold yielded;rw[h];rfl
theorem Ct(R:fS ops fr kn gs a){j:Nat}{w b:Bool}:∀(l:Kn),(∀x∈l,x∈kn)->mf l j w=some b->(yielded ops a.tmps j=some w↔b=true)/\j∈gs
 | [],_,h=>by simp[mf]at h
 | (j',w',b')::r,hs,h=>by
  simp only[mf]at h;obtain⟨hm,c⟩:=R.kn _ (hs _ VA);simp only at hm c;have k:=Ct R r (λx c=>hs x (VD _ c)) (j:=j) (w:=w) (b:=b)
  split at h
  .rename_i m;have i:j'=j:=W7 m;subst i
   split at h
   .rename_i e;have f:w'=w:=by simpa using e
    subst f
    cases h
    exact⟨c,hm⟩
   .rename_i e
    split at h
    .rename_i hb
     cases h
     have:=c.2 hb;refine⟨⟨λd=>?_,λd=>by cases d⟩,hm⟩
     rw[this]at d;exfalso;apply e;simpa using d
    .exact k h
  .exact k h
theorem Cu(R:fS ops fr kn gs a){j:Nat}{w b:Bool}(h:mf kn j w=some b):(yielded ops a.tmps j=some w↔b=true)/\j∈gs:=
 Ct R kn (λ_ c=>c) h
theorem yq(R:fS ops fr kn gs a):∀(n:Nat) (g:Option (Nat×Bool)),match ns ops fr kn n g with
  | .yes=>fL ops g a
  | .no=>¬fL ops g a
  | .bad=>True
  | .iff c=>fL ops g a↔c
 | n,none=>by cases n <;> simp[ns,fL]
 | 0,some _=>by simp[ns]
 | n+1,some (j,w)=>by
  simp only[ns]
  cases hk:mf kn j w with
  | some b=>
   have:=(Cu R hk).1
   cases b
   .simp only[fL];simp[this]
   .simp only[fL];simp[this]
  | none=>
   cases hd:jK ops j with
   | none=>simp only[fL];rw[yp hd];simp
   | some d=>
    cases hl:aT fr d with
    | none=>simp only[hl]
    | some s=>
     cases s with
     | x=>simp only[hl]
     | p v=>
      cases v with
      | bool c=>
       simp only[hl,fL];rw[nu hd,R.pv _ _ hl];simp
      | tuple c=>
       simp only[hl,fL];rw[nu hd,R.pv _ _ hl];simp
      | _=>simp only[hl]
     | g h w' v=>
      cases v <;> simp only[hl]
      rename_i c;obtain⟨_,f,i⟩:=R.gv _ _ _ _ hl;have e:=yq R n (some (h,w'))
      cases hg:ns ops fr kn n (some (h,w')) with
      | yes=>
       simp only[hg,fL]at e ⊢;rw[nu hd,f e];simp
      | no=>
       simp only[hg,fL]at e ⊢;rw[nu hd,i e];simp[undef]
      | bad=>simp only
      | iff p=>
       simp only[hg,fL]at e ⊢;rw[nu hd]
       by_cases hy:yielded ops a.tmps h=some w'
       .rw [f hy];simp[e.1 hy]
       .rw [i hy];simp[undef];intro k;exact Vu (e.2 k) hy
theorem Cv(R:fS ops fr kn gs a){j:Nat}{w:Bool}:∀(n:Nat) (g:Option (Nat×Bool)),impl ops fr n g j w=true->fL ops g a->yielded ops a.tmps j=some w
 | 0,_,h,_=>by simp[impl]at h
 | n+1,none,h,_=>by simp[impl]at h
 | n+1,some (j',w'),h,hg=>by
  simp only[impl,VE,Vz]at h
  rcases h with ⟨c,b⟩|h
  .have e1:j'=j:=W7 c;have e2:w'=w:=by simpa using b
   subst e1;subst e2;exact hg
  .cases hd:jK ops j' with
   | none=>simp[hd]at h
   | some d=>
    simp only[hd]at h
    cases hl:aT fr d with
    | none=>simp[hl]at h
    | some s=>
     cases s with
     | p v=>simp[hl]at h
     | x=>simp[hl]at h
     | g hh w'' v=>
      simp only[hl]at h;obtain⟨_,c,b⟩:=R.gv _ _ _ _ hl;refine Cv R n _ h ?_;simp only[fL]at hg ⊢
      by_cases hy:yielded ops a.tmps hh=some w''
      .exact hy
      .rw [nu hd,b hy]at hg;simp[undef]at hg
theorem Nh(R:fS ops fr kn gs a){gd:Option (Nat×Bool)}{j:Nat}{w:Bool}(h:heldB ops fr kn gd j w=true)(c:fL ops gd a):yielded ops a.tmps j=some w:=by
 unfold heldB at h
 cases hk:mf kn j w with
 | some b=>rw[hk]at h;exact (Cu R hk).1.2 h
 | none=>rw[hk]at h;exact Cv R 9 gd h c
theorem vq{t:Nat}{v:Value}(h:a.tmps[t]?=some v):a.eval (.tmp t)=v:=by
 simp[Act.eval,Yx,h]
theorem oK(R:fS ops fr kn gs a){gd:Option (Nat×Bool)}(x:Operand)(v:Value)(h:evG ops fr kn gd x=some v)(c:fL ops gd a):a.eval x=v:=by
 cases x with
 | const u=>simp[evG]at h;subst h;rfl
 | global g=>simp[evG]at h;subst h;rfl
 | func f=>simp[evG]at h;subst h;rfl
 | tmp t=>
  simp only[evG]at h
  cases hl:aT fr t with
  | none=>simp[hl]at h
  | some s=>
   cases s with
   | p u=>simp[hl]at h;subst h;exact vq (R.pv _ _ hl)
   | x=>simp[hl]at h
   | g j w u=>
    simp only[hl]at h
    split at h
    .rename_i b
     cases h
     exact vq ((R.gv _ _ _ _ hl).2.1 (Nh R b c))
    .cases h
theorem vr(R:fS ops fr kn gs a){gd:Option (Nat×Bool)}{b:Bool}{x y:Operand}{v:Value}(h:nt ops fr kn gd b x y=some v)(f:fL ops gd a)(c:a.eval x=.bool b):a.eval y=v:=by
 unfold nt at h
 cases he:evG ops fr kn gd y with
 | some u=>rw[he]at h;cases h;exact oK R y _ he f
 | none=>
  rw[he]at h
  cases x <;> cases y <;> simp only at h <;> try cases h
  rename_i s t
  cases hl:aT fr t with
  | none=>simp[hl]at h
  | some sv=>
   cases sv with
   | p u=>simp[hl]at h
   | x=>simp[hl]at h
   | g j w u=>
    simp only[hl]at h
    cases hd:jK ops j with
    | none=>simp[hd]at h
    | some d=>
     simp only[hd]at h
     split at h
     .rename_i e
      cases h
      simp only[Vz]at e;have e1:d=s:=W7 e.1;have e2:w=b:=by simpa using e.2
      subst e1;subst e2;refine vq ((R.gv _ _ _ _ hl).2.1 ?_);rw[nu hd];simp only[Act.eval,Yx]at c
      cases ht:a.tmps[d]? with
      | none=>rw[ht]at c;simp[undef]at c
      | some u'=>rw[ht]at c;simp at c;subst c;rfl
     .cases h
theorem Cw(R:fS ops fr kn gs a){t:Nat}{b c:Bool}(e:a.tmps[t]?=some (.bool c)):∀(l:Kn),(∀x∈l,x∈kn)->pW ops l t=some b->c=b
 | [],_,h=>by simp[pW]at h
 | (j,w,b')::r,hs,h=>by
  simp only[pW]at h;have f:=Cw R e r (λx i=>hs x (VD _ i)) (b:=b)
  cases hd:jK ops j with
  | none=>simp only[hd]at h;exact f h
  | some d=>
   simp only[hd]at h
   split at h
   .rename_i hb;have e1:d=t:=W7 hb;subst e1;have:=(R.kn _ (hs _ VA)).2;simp only at this;rw[nu hd,e]at this
    cases w <;> cases b' <;> cases c <;> simp at this h ⊢ <;> simp[<-h]
   .exact f h
theorem Cx(R:fS ops fr kn gs a){t:Nat}{b c:Bool}(h:pW ops kn t=some b)(d:a.tmps[t]?=some (.bool c)):c=b:=
 Cw R d kn (λ_ e=>e) h
theorem Cy(R:fS ops fr kn gs a){gd:Option (Nat×Bool)}(x y z:Operand)(r:Bool×Value×Value)(h:pkG ops fr kn gd x y z=some r)(f:fL ops gd a) :
  a.eval x=.bool r.1/\(r.1=true->a.eval y=r.2.1)/\(r.1=false->a.eval z=r.2.2):=by
 unfold pkG at h
 cases he:evG ops fr kn gd x with
 | none=>simp[he]at h
 | some u=>
  have b:=oK R x u he f
  cases u <;> simp only[he]at h <;> try cases h
  rename_i c
  split at h
  .rename_i e;have d:c=true:=by
    cases x <;> simp only at e <;> try cases e
    rename_i t;refine Cx R e ?_;simp only[Act.eval,Yx]at b
    cases ht:a.tmps[t]? with
    | none=>rw[ht]at b;simp[undef]at b
    | some u'=>rw[ht]at b;simp at b;subst b;rfl
   subst d
   cases hs:nt ops fr kn gd true x y with
   | none=>simp[hs]at h
   | some v=>simp[hs]at h;subst h;exact⟨b,λ_=>vr R hs f b,λh=>by cases h⟩
  .rename_i e;have d:c=false:=by
    cases x <;> simp only at e <;> try cases e
    rename_i t;refine Cx R e ?_;simp only[Act.eval,Yx]at b
    cases ht:a.tmps[t]? with
    | none=>rw[ht]at b;simp[undef]at b
    | some u'=>rw[ht]at b;simp at b;subst b;rfl
   subst d
   cases hs:nt ops fr kn gd false x z with
   | none=>simp[hs]at h
   | some v=>simp[hs]at h;subst h;exact⟨b,λh=>(by cases h),λ_=>vr R hs f b⟩
  .cases hs:nt ops fr kn gd true x y with
   | none=>simp[hs]at h
   | some v=>cases hs':nt ops fr kn gd false x z with
    | none=>simp[hs,hs']at h
    | some v'=>
     simp[hs,hs']at h;subst h;exact⟨b,λd=>vr R hs f (by rw[b];simp at d;rw[d]),λd=>vr R hs' f (by rw[b];simp at d;rw[d])⟩
end
structure Rel(fr:Fr)(a:Act):Prop where
 size:a.tmps.size=fr.length
 pv:∀t v,aT fr t=some (.p v)->a.tmps[t]?=some v
 ng:∀t j w v,aT fr t≠some (.g j w v)
section
variable {X:Ctx}{ops:Array Oper}{fr:Fr}{kn:Kn}{gs:List Nat}{a:Act}
theorem Cz:∀{gs:List Nat} {t:Tmp},lz ops gs (some t)=true->∀j∈gs,jK ops j≠some t
 | [],_,_,_,hj=>by cases hj
 | j::r,t,h,k,a=>by
  simp only[lz,Vz]at h
  rcases V9.1 a with rfl|a
  .intro hd;rw[hd]at h;simp at h
  .exact Cz h.2 k a
theorem qZ(a:Act)(t:Tmp)(u:Value):(a.put (some t) u).tmps=a.tmps.setIfInBounds t u:=rfl
theorem re{d:Option Tmp}(u:Value)(h:lz ops gs d=true){j:Nat}(c:j∈gs):yielded ops (a.put d u).tmps j=yielded ops a.tmps j:=by
 cases d with
 | none=>rfl
 | some t=>
  have b:=Cz h j c
  cases hd:jK ops j with
  | none=>rw[yp hd,yp hd]
  | some s=>
   have:s≠t:=λe=>b (by rw[hd,e])
   rw[nu hd,nu hd,qZ];rw[Array.getElem?_setIfInBounds,Vs (λe=>this e.symm)]
theorem C0{d:Option Tmp}{g:Option (Nat×Bool)}(h:lz ops (qX g gs) d=true):lz ops gs d=true:=by
 cases g with
 | none=>exact h
 | some x=>
  obtain⟨j,w⟩:=x
  cases d with
  | none=>cases gs <;> rfl
  | some t=>simp only[qX,lz,Vz]at h;exact h.2
theorem l9{α:Type}(l:List α)(n m:Nat)(x:α):aT (ir l n x) m=if n=m/\n<l.length then some x else aT l m:=by
 rw[eH,yd,eH,List.getElem?_set]
 by_cases h:n=m
 .subst h
  by_cases h2:n<l.length
  .simp [h2]
  .simp [h2]
 .simp [h]
theorem qd{α:Type}(l:List α)(n:Nat)(x:α):(ir l n x).length=l.length:=by rw[yd];simp
theorem mg{d:Option Tmp}{u:Value}{s:SV}{f:List Nat}(R:fS ops fr kn gs a)(i:lz ops f d=true)(b:∀j∈gs,j∈f)
  (hs:s=.p u\/∃j w v,s=.g j w v/\j∈f/\(yielded ops a.tmps j=some w->u=v)/\(yielded ops a.tmps j≠some w->u=undef)):fS ops (fr.put d s) kn f (a.put d u):=by
 cases d with
 | none=>
  exact⟨R.size,R.pv,λt j w v h=>by obtain⟨e,c⟩:=R.gv t j w v h;exact⟨b _ e,c⟩,λx C=>by obtain⟨e,c⟩:=R.kn x C;exact⟨b _ e,c⟩⟩
 | some t=>
  have B:(a.put (some t) u).tmps.size=(fr.put (some t) s).length:=by
   rw[qZ];simp only[Fr.put];rw[qd,Array.size_setIfInBounds];exact R.size
  have k:∀m,(a.put (some t) u).tmps[m]?=if t=m/\t<fr.length then some u else a.tmps[m]?:=by
   intro m;rw[qZ,Array.getElem?_setIfInBounds,<-R.size]
   by_cases h:t=m
   .subst h
    by_cases c:t<a.tmps.size
    .simp [c]
    .simp [c]
   .simp [h]
  refine⟨B,λm v h=>?_,λm j w v h=>?_,λx C=>?_⟩
  .simp only[Fr.put]at h;rw[l9]at h;rw[k]
   split at h
   .rename_i n;rw[Vt n]
    cases h
    rcases hs with hs|⟨j,w,D,hs,_⟩
    .cases hs;rfl
    .cases hs
   .rename_i n;rw[Vs n];exact R.pv _ _ h
  .simp only[Fr.put]at h;rw[l9]at h;rw[k]
   split at h
   .rename_i n;rw[Vt n]
    cases h
    rcases hs with hs|⟨E,F,D,hs,A,e,c⟩
    .cases hs
    .cases hs
     refine⟨A,λy=>?_,λy=>?_⟩
     .rw [re u i A]at y;rw[e y]
     .rw [re u i A]at y;rw[c y]
   .rename_i n;rw[Vs n];obtain⟨e,c⟩:=R.gv _ _ _ _ h;rw[re u i (b _ e)];exact⟨b _ e,c⟩
  .obtain⟨e,c⟩:=R.kn x C;rw[re u i (b _ e)];exact⟨b _ e,c⟩
theorem C7{j:Nat}{w b:Bool}(R:fS ops fr kn gs a)(d:j∈gs)(h:yielded ops a.tmps j=some w↔b=true):fS ops fr ((j,w,b)::kn) gs a:=
 ⟨R.size,R.pv,R.gv,λx c=>by
  rcases V9.1 c with rfl|c
  .exact⟨d,h⟩
  .exact R.kn x c⟩
theorem vt(a:Act)(f:FuncId):a.eval (.func f)=.func (.func f) #[] #[]:=rfl
theorem rh{c:Prop}[Decidable c]{q:Prop}(h:if c then False else q):¬c/\q:=by
 split at h
 .exact h.elim
 .rename_i a;exact⟨a,h⟩
theorem C8{o:Oper}{H:aD}{k:Fr->List Nat->Option (aD->Prop)->Prop}(T:∀f,bJ f X.calls=true->gF X.P f)(R:fS ops fr kn gs a)
  (h:vcPR X ops o kn gs fr H k):∃v f F I,k F I f/\ly X.P ops o v f a/\pT f H/\fS ops F kn I (a.put o.dst v):=by
 unfold vcPR at h;obtain⟨N,h⟩:=rh h;have n:lz ops (qX o.guard gs) o.dst=true:=by simpa using N
 have B:=C0 n;have u:=Cr (ops:=ops) (a:=a) o;have m:=yq R 9 o.guard
 cases hg:ns ops fr kn 9 o.guard with
 | bad=>simp[hg]at h
 | no=>
  simp only[hg]at h m;refine⟨undef,none,_,_,h,⟨λi=>Vu (u.1 i) m,λ_=>rfl⟩,trivial,mg R B (λ_ t=>t) (.inl rfl)⟩
 | yes=>
  simp only[hg]at h m;have i:Region.wanted o (yielded ops a.tmps)=true:=u.2 m;have y:∀x v,evG ops fr kn o.guard x=some v->True->a.eval x=v:=λx v S _=>oK R x v S m
  cases hk:md X o.op with
  | P=>
   simp only[hk]at h;obtain⟨v,C,D⟩:=Cc (P:=X.P) (G:=True) (c:=none) o (λp J _=>J) y (λb c d r Q _=>Cy R b c d r Q m) (λo v e=>by rw[e];rfl) rfl h
   exact⟨v,none,_,_,C,⟨λ_ w _=>nq (D trivial w),λs=>by rw[i]at s;cases s⟩,trivial,mg R B (λ_ t=>t) (.inl rfl)⟩
  | R=>
   simp only[hk]at h;obtain⟨v,f,C,h0,D,L⟩:=Cj (G:=True) (c:=none) o (λp J _=>J) y T (vt a) h
   exact⟨v,some f,_,_,C,⟨λ_ w O=>L trivial w O,λs=>by rw[i]at s;cases s⟩,D trivial,mg R B (λ_ t=>t) (.inl rfl)⟩
  | W=>simp[hk]at h
 | iff c=>
  simp only[hg]at h m
  cases hgd:o.guard with
  | none=>simp[hgd]at h
  | some x=>
   obtain⟨j,w⟩:=x;rw[hgd]at h m u n;simp only at h;have y:∀x v,evG ops fr kn (some (j,w)) x=some v->fL ops (some (j,w)) a->a.eval x=v:=λx v S A=>oK R x v S A
   have K:∀p,gt (some c) p->fL ops (some (j,w)) a->p:=λp J A=>J (m.1 A)
   cases hk:md X o.op with
   | P=>
    simp only[hk]at h;obtain⟨v,C,D⟩:=Cc (P:=X.P) (G:=fL ops (some (j,w)) a) (c:=some c) o K y (λb c d r Q A=>Cy R b c d r Q A) (λo v e=>by rw[e];rfl) rfl h
    by_cases i:Region.wanted o (yielded ops a.tmps)=true
    .refine⟨v,none,_,_,C,⟨λ_ M _=>nq (D (u.1 i) M),λs=>by rw[i]at s;cases s⟩,trivial,mg R n (λ_ t=>VD _ t) (.inr ⟨j,w,v,rfl,VA,λ_=>rfl,λE=>Vu (u.1 i) E⟩)⟩
    .refine⟨undef,none,_,_,C,⟨λs=>Vu s i,λ_=>rfl⟩,trivial,mg R n (λ_ t=>VD _ t) (.inr ⟨j,w,v,rfl,VA,λE=>Vu (u.2 E) i,λ_=>rfl⟩)⟩
   | R=>
    simp only[hk]at h;obtain⟨v,f,C,h0,D,L⟩:=Cj (G:=fL ops (some (j,w)) a) (c:=some c) o K y T (vt a) h
    by_cases i:Region.wanted o (yielded ops a.tmps)=true
    .refine⟨v,some f,_,_,C,⟨λ_ M O=>L (u.1 i) M O,λs=>by rw[i]at s;cases s⟩,D (u.1 i),mg R n (λ_ t=>VD _ t) (.inr ⟨j,w,v,rfl,VA,λ_=>rfl,λE=>Vu (u.1 i) E⟩)⟩
    .refine⟨undef,some f,_,_,C,⟨λs=>Vu s i,λ_=>rfl⟩,h0 c rfl (λU=>i (u.2 (m.2 U))) H,mg R n (λ_ t=>VD _ t) (.inr ⟨j,w,v,rfl,VA,λE=>Vu (u.2 E) i,λ_=>rfl⟩)⟩
   | W=>simp[hk]at h
theorem C9{o:Oper}{H:aD}{k:Fr->Kn->List Nat->aD->Prop}(F:∀f,bJ f X.calls=true->gF X.P f)(R:fS ops fr kn gs a)
  (h:vcW X ops o kn gs fr H k):∀w,w.heap=H->if Region.wanted o (yielded ops a.tmps) then gw X.P w X.kp (λv D=>∃i m n,k i m n D/\fS ops i m n (a.put o.dst v)) ((execOp a.eval o).run X.P w)
   else ∃i m n,k i m n H/\fS ops i m n (a.put o.dst undef):=by
 intro w A;unfold vcW at h;obtain⟨B,h⟩:=rh h;have b:lz ops (qX o.guard gs) o.dst=true:=by simpa using B
 have s:=C0 b;have u:=Cr (ops:=ops) (a:=a) o;have d:=yq R 9 o.guard
 cases hg:ns ops fr kn 9 o.guard with
 | bad=>simp[hg]at h
 | no=>
  simp only[hg]at h d;rw[Vs (λe=>d (u.1 e))]
  exact⟨_,_,_,h,mg R s (λ_ t=>t) (.inl rfl)⟩
 | yes=>
  simp only[hg]at h d;rw[Vt (u.2 d)];refine (Cn (X:=X) o (λx v E=>oK R x v E d) F (vt a) h w A).mono λv D C=>?_
  exact⟨_,_,_,C,mg R s (λ_ t=>t) (.inl rfl)⟩
 | iff c=>
  simp only[hg]at h d
  cases hgd:o.guard with
  | none=>simp[hgd]at h
  | some x=>
   obtain⟨j,J⟩:=x;rw[hgd]at h d u b;simp only at h
   by_cases e:Region.wanted o (yielded ops a.tmps)=true
   .rw [Vt e];have y:=u.1 e;refine (Cn (X:=X) o (λx v E=>oK R x v E y) F (vt a) (h.1 (d.1 y)) w A).mono λv D C=>?_
    refine⟨_,_,_,C,C7 (mg R b (λ_ t=>VD _ t) (.inl rfl)) VA ?_⟩
    rw[re v b VA];exact⟨λ_=>rfl,λ_=>y⟩
   .rw [Vs e];have I:¬c:=λG=>e (u.2 (d.2 G))
    refine⟨_,_,_,h.2 I,C7 (mg R b (λ_ t=>VD _ t) (.inl rfl)) VA ?_⟩
    rw[re undef b VA];exact⟨λy=>Vu (u.2 y) e,λhb=>by cases hb⟩
theorem yr{α β:Type}(f:α->β)(l:List α)(n:Nat):aT (l.map f) n=(aT l n).map f:=by
 rw[eH,eH];simp
theorem vu(R:fS ops fr kn gs a):Rel (pJ fr) a:=by
 refine⟨by rw[R.size];simp[pJ],λt v h=>?_,λt j w v h=>?_⟩
 .unfold pJ at h;rw[yr]at h
  cases hl:aT fr t with
  | none=>simp[hl]at h
  | some s=>
   cases s <;> simp[hl]at h
   subst h;exact R.pv _ _ hl
 .unfold pJ at h;rw[yr]at h
  cases hl:aT fr t with
  | none=>simp[hl]at h
  | some s=>cases s <;> simp[hl]at h
theorem rj(R:Rel fr a):fS ops fr [] [] a:=
 ⟨R.size,R.pv,λt j w v h=>Vu h (R.ng t j w v),λx b=>by cases b⟩
theorem Ni{P:Program}{o:Oper}{c:Call}{x:Operand}{ρ:Operand->Value}{g:FuncId}{cap:Os}{w:World}(d:o.op=.defer c)(b:c.callee=.value x)(e:c.args.toList=[])
  (f:ρ x=.func (.func g) ⟨[]⟩ ⟨cap⟩):(execOp ρ o).run P w=.ok (.defer { target:=.fn (.func g) ⟨cap⟩,args:=#[] }) w:=by
 have a:c.args=#[]:=by apply Array.ext';simpa using e
 simp[execOp,d,resolve,b,a,f,Deferred.ofValue]
theorem rk{K:Fr->List DM->aD->Prop}{Q:Exit->Act->World->Prop}{w0:World}{ro:Option Nat}(G:∀f,bJ f X.calls=true->gF X.P f){Inv:Act->Prop}(i:∀a o v,o∈ops.toList->Inv a->Inv (a.put o.dst v))
  (M:∀fr a w,bV w0 w->Rel fr a->K fr [] w.heap->Inv a->Q .normal a w) (n:∀fr a w g cap,ro=none->bV w0 w->Rel fr a->K fr [.fn g cap] w.heap->Inv a->Q .normal { a with defers:={ target:=.fn (.func g) ⟨cap⟩,args:=#[] }::a.defers } w)
  (N:∀v a w,bV w0 w->Inv a->X.kp v w.heap->Q (.panic [{ v,recovered:=false }]) a w):∀(l:List Oper) (kn:Kn) (gs:List Nat) (fr:Fr) (a:Act) (w:World),(∀o∈l,o∈ops.toList)->Inv a->
  fS ops fr kn gs a->bV w0 w->l7 X ops ro.isNone K l kn gs fr w.heap->wpListIn (FR ro) 0 X.P ops Q l a w
 | [],kn,gs,fr,a,w,hl,ha,R,hr,h=>M _ _ _ hr (vu R) (by simpa only[l7,lv] using h) ha
 | o::r,kn,gs,fr,a,w,hl,ha,R,hr,h=>by
  have A:∀o∈r,o∈ops.toList:=λo ho=>hl o (VD _ ho)
  have B:∀v,Inv (a.put o.dst v):=λv=>i a o v (hl o VA) ha
  by_cases hdef:∃c,o.op=.defer c
  .obtain⟨c,I⟩:=hdef;simp only[l7,I]at h
   cases ro with
   | some l0=>exact h.elim
   | none=>
    simp only[Option.isNone_none]at h;simp only[Cp,lv]at h
    split at h
    case h_2=>exact h.elim
    rename_i x hg T L D
    split at h
    case h_2=>exact h.elim
    rename_i g cap b;have R0:=rj (ops:=ops) (vu R);have hx:a.eval x=.func (.func g) ⟨[]⟩ ⟨cap⟩:=by
     cases x with
     | const u=>simp[evG]at b;subst b;rfl
     | global g=>simp[evG]at b
     | func f=>simp[evG]at b;obtain⟨rfl,rfl⟩:=b;rfl
     | tmp t=>
      simp only[evG]at b
      cases hl2:aT fr t with
      | none=>simp[hl2]at b
      | some s=>
       cases s with
       | p u=>simp[hl2]at b;subst b;exact vq (R.pv _ _ hl2)
       | x=>simp[hl2]at b
       | g j J u=>
        simp only[hl2]at b
        split at b
        .rename_i V
         cases b
         exact Vu V (by simp[heldB,mf,impl])
        .cases b
    unfold wpListIn;rw[Vt (by simp[Region.wanted,hg])];refine⟨λf _=>trivial,?_⟩
    have e1:(o.semAt (FR none).round a.eval)=execOp a.eval o:=rfl;rw[e1,Ni I L D hx,Oper.uponIn_defer,T];exact n _ _ _ g cap rfl hr (vu R) h ha
  have F:∀c,o.op≠.defer c:=λc I=>hdef ⟨c,I⟩
  have S:l7 X ops ro.isNone K (o::r) kn gs fr w.heap=(match md X o.op with
   | .W=>vcW X ops o kn gs fr w.heap λd y e Y=>l7 X ops ro.isNone K r y e d Y
   | _=>vcPR X ops o kn gs fr w.heap λd e _=>l7 X ops ro.isNone K r kn e d w.heap):=by
   rw[l7]
   split
   .rename_i c I;exact Vu I (F c)
   .simp only[lv] <;> rfl
  rw[S]at h;have pr:∀C:vcPR X ops o kn gs fr w.heap λd e _=>l7 X ops ro.isNone K r kn e d w.heap,wpListIn (FR ro) 0 X.P ops Q (o::r) a w:=by
   intro C;obtain⟨v,f,d,e,E,H,O,Z⟩:=C8 G R C;unfold wpListIn
   split
   .rename_i k;refine ym F hr (K:=λv' Y=>v'=v/\Y=w.heap) (λu J m U=>?_) (λ_ _ _ hf=>hf.elim) (H.1 k w O)
    obtain⟨rfl,V⟩:=U;exact rk G i M n N r kn e d _ J A (B _) Z m (by rw[V];exact E)
   .rename_i k;rw[<-H.2 (by simpa using k)];exact⟨λf _=>trivial,rk G i M n N r kn e d _ w A (B _) Z hr E⟩
  cases C:md X o.op with
  | P=>simp only[C]at h;exact pr h
  | R=>simp only[C]at h;exact pr h
  | W=>
   simp only[C]at h;have E:=C9 G R h w rfl;unfold wpListIn
   split
   .rename_i k;rw[Vt k]at E;refine ym F hr (λu J m U=>?_) (λv J m C=>N v a J m ha C) E
    obtain⟨d,y,e,H,O⟩:=U;exact rk G i M n N r y e d _ J A (B _) O m H
   .rename_i k;rw[Vs k]at E;obtain⟨d,y,e,H,O⟩:=E;exact⟨λf _=>trivial,rk G i M n N r y e d _ w A (B _) O hr H⟩
theorem CE(acc:List Nat):∀(c:List Edge) (s i:Nat),(pX acc c s).testBit i=true->s.testBit i=true\/∃e∈c,Region.binds .any e=true/\(e.on=i\/∃m,aT acc e.on=some m/\m.testBit i=true)
 | [],s,i,h=>.inl h
 | e::r,s,i,h=>by
  simp only[pX]at h
  rcases CE acc r _ i h with a|⟨d,b,f⟩
  .split at a
   .rename_i hb;rw[Nat.testBit_or,Nat.testBit_or,VE,VE]at a
    rcases a with (a|a)|a
    .exact .inl a
    .refine .inr ⟨e,VA,hb,.inl ?_⟩;rw[Nat.testBit_two_pow]at a;simpa using a
    .cases hl:aT acc e.on with
     | none=>simp[hl]at a
     | some m=>simp only[hl]at a;exact .inr ⟨e,VA,hb,.inr ⟨m,hl,a⟩⟩
   .exact .inl a
  .exact .inr ⟨d,VD _ b,f⟩
theorem CG:∀(r:List Oper) (acc:List Nat) (j:Nat),acc.length<=j->∀o,r[j-acc.length]?=some o->
  ∃a,a.length=j/\aT (jL r acc) j=some (pX a o.after.toList 0)/\∀k,k<j->aT a k=aT (jL r acc) k
 | [],acc,j,_,o,h=>by simp at h
 | o'::r,acc,j,hj,o,h=>by
  have pre:∀(r:List Oper) (acc:List Nat) (k:Nat),k<acc.length->aT (jL r acc) k=aT acc k:=by
   intro r
   induction r with
   | nil=>intro acc k _;rfl
   | cons x r ih=>
    intro acc k b;simp only[jL];rw[ih _ k (by simp;omega),eH,eH,List.getElem?_append_left b]
  by_cases h0:j=acc.length
  .subst h0;simp at h;subst h;refine⟨acc,rfl,?_,λk b=>?_⟩
   .simp only[jL];rw[pre r _ acc.length (by simp),eH,List.getElem?_append_right (V2 _)];simp
   .simp only[jL];rw[pre r _ k (by simp;omega),eH,eH,List.getElem?_append_left b]
  .simp only[jL];refine CG r (acc++[pX acc o'.after.toList 0]) j (by simp;omega) o ?_;rw[<-h];have:j-acc.length=(j-(acc++[pX acc o'.after.toList 0]).length)+1:=by simp;omega
   rw[this,List.getElem?_cons_succ]
theorem bf_ok(ops:Array Oper):BfOk ops (bfB (jL ops.toList [])):=by
 intro j h f i hi;have d:ops.toList[j]?=some h:=by simpa using f
 obtain⟨b,u,k,s⟩:=CG ops.toList [] j (by simp) h (by simpa using d);unfold bfB at hi;rw[k]at hi
 rcases CE b _ 0 i hi with c|⟨e,n,hb,c⟩
 .simp at c
 .refine⟨e,by simpa using n,hb,c.imp id ?_⟩;rintro⟨m,hm,hbit⟩;have a:e.on<j:=by
   rw[eH]at hm;have:=(List.getElem?_eq_some_iff.1 hm).1;omega
  refine⟨a,?_,?_⟩
  .unfold bfB;rw[<-s _ a,hm];exact hbit
  .have t:=(Array.getElem?_eq_some_iff.1 f).1;simp[show e.on<ops.size by omega]
theorem CI(B:List Nat)(i:Nat):∀a:kw,pY B i a=a.filter (λx=>!bfB B i x.1)
 | []=>rfl
 | (j,f)::r=>by
  simp only[pY,Wa]
  cases h:bfB B i j <;> simp[CI B i r]
theorem vw:∀(d:kw) (H:aD) (q:Prop),vo d H q->(∀x∈d,pT x.2 H)/\q
 | [],_,_,h=>⟨λx a=>(by cases a),h⟩
 | (i,none)::r,H,q,h=>by
  obtain⟨b,c⟩:=vw r H q h;exact⟨λx a=>by rcases V9.1 a with rfl|a;exact trivial;exact b x a,c⟩
 | (i,some f)::r,H,q,h=>by
  obtain⟨b,c⟩:=vw r H q h.2;exact⟨λx a=>by rcases V9.1 a with rfl|a;exact h.1;exact b x a,c⟩
theorem CJ{f:Nat->Prop}:∀{l:List Nat},allL l f->l≠[]/\∀i∈l,f i
 | [],h=>h.elim
 | [i],h=>⟨by simp,λj c=>by simp at c;subst c;exact h⟩
 | i::j::r,h=>by
  have b:f i/\allL (j::r) f:=h;obtain⟨_,d⟩:=CJ b.2;exact⟨by simp,λk a=>by rcases V9.1 a with rfl|a;exact b.1;exact d k a⟩
def isWB(X:Ctx)(ops:Array Oper)(i:Nat):Bool:=match aT ops.toList i with|some o=>(match md X o.op with|.W=>true|_=>false)|none=>false
theorem yu:∀{l:List Nat} {i:Nat},l8 X ops l=some i->i∈l/\isWB X ops i=false
 | [],_,h=>by cases h
 | j::r,i,h=>by
  simp only[l8]at h
  cases hl:aT ops.toList j with
  | none=>simp only[hl]at h;obtain⟨a,b⟩:=yu h;exact⟨VD _ a,b⟩
  | some o=>
   simp only[hl]at h
   cases hk:md X o.op with
   | W=>simp only[hk]at h;obtain⟨a,b⟩:=yu h;exact⟨VD _ a,b⟩
   | P=>simp only[hk]at h;cases h;exact⟨VA,by simp[isWB,hl,hk]⟩
   | R=>simp only[hk]at h;cases h;exact⟨VA,by simp[isWB,hl,hk]⟩
theorem yv:∀{l:List Nat},l8 X ops l=none->∀i∈l,∀o,aT ops.toList i=some o->isWB X ops i=true
 | [],_,i,hi,_,_=>by cases hi
 | j::r,h,i,hi,o,ho=>by
  simp only[l8]at h
  cases hl:aT ops.toList j with
  | none=>
   simp only[hl]at h
   rcases V9.1 hi with rfl|hi
   .rw [ho]at hl;cases hl
   .exact yv h i hi o ho
  | some o'=>
   simp only[hl]at h
   cases hk:md X o'.op with
   | W=>
    simp only[hk]at h
    rcases V9.1 hi with rfl|hi
    .simp [isWB,hl,hk]
    .exact yv h i hi o ho
   | P=>simp[hk]at h
   | R=>simp[hk]at h
theorem vx{K:Fr->aD->Prop}{w0:World}(C:∀f,bJ f X.calls=true->gF X.P f)(hs:Region.noSelect ops=true){Inv:Act->Prop}(d:∀a o v,o∈ops.toList->Inv a->Inv (a.put o.dst v)) :
  ∀(n:Nat) (b:Array Bool) (s:kw) (kn:Kn) (gs:List Nat) (fr:Fr) (H:aD) (a:Act),pV ops b->(∀x∈s,pT x.2 H)->fS ops fr kn gs a->Inv a->oI X ops n b=true->
  qY X ops (jL ops.toList []) K n b s kn gs fr H->
  pU X.P w0 X.kp ops (isWB X ops) (bfB (jL ops.toList [])) (λQ N=>(∃c,Rel c Q/\K c N)/\Inv Q) n s b a H
 | 0,b,s,kn,gs,fr,H,a,hc,hp,R,ha,j,h=>by
  simp only[qY,yn,lv]at h
  split at h
  .rename_i S;exact⟨hp,S,⟨_,vu R,h⟩,ha⟩
  .exact h.elim
 | n+1,b,s,kn,gs,fr,H,a,hc,hp,R,ha,j,h=>by
  simp only[qY,lv,yo,yn]at h;simp only[oI,yn]at j
  cases hf:l8 X ops (Region.ready .any ops b) with
  | some i=>
   simp only[hf]at h;simp only[hf,Vz]at j;obtain⟨hi,t⟩:=yu hf
   cases hl:aT ops.toList i with
   | none=>simp[hl]at h
   | some o=>
    simp only[hl]at h;obtain⟨v,f,c,e,B,D,E,F⟩:=C8 C R h;have k:ops[i]?=some o:=by rw[eH]at hl;simpa using hl
    have m:∀v,Inv (a.put o.dst v):=λv=>d a o v (by rw[eH]at hl;exact VY hl) ha
    refine first_R (bf_ok ops) hs k t n s b a H hc (Region.free_spec k j.1) hi D ?_;exact vx C hs d n _ _ kn e c H _ (hc.set hi) (λx O=>by rcases V9.1 O with rfl|O;exact E;exact hp x O) F (m _) j.2 B
  | none=>
   simp only[hf]at h;simp only[hf,Wg]at j;obtain⟨L,G⟩:=CJ h;refine⟨hp,λh0=>Vu h0 L,λi hi w M T=>?_⟩
   have u:=G i hi
   cases hl:aT ops.toList i with
   | none=>simp[hl]at u
   | some o=>
    simp only[hl]at u;have k:ops[i]?=some o:=by rw[eH]at hl;simpa using hl
    have m:∀v,Inv (a.put o.dst v):=λv=>d a o v (by rw[eH]at hl;exact VY hl) ha
    have t:=yv hf i hi o hl;have I:nr (isWB X ops) (bfB (jL ops.toList [])) i s=pY (jL ops.toList []) i s:=by unfold nr;rw[Vt t,CI]
    have B:=C9 C R u w M;simp only[k]
    split
    .rename_i y;rw[Vt y]at B;refine B.mono λv N j=>?_
     obtain⟨c,A,e,D,E⟩:=j;obtain⟨F,J⟩:=vw _ _ _ D;rw[I];exact vx C hs d n _ _ A e c N _ (hc.set hi) F E (m _) (j i hi) J
    .rename_i y;rw[Vs y]at B;obtain⟨c,A,e,D,E⟩:=B;obtain⟨F,J⟩:=vw _ _ _ D;rw[I];exact vx C hs d n _ _ A e c H _ (hc.set hi) F E (m _) (j i hi) J
end
end Go.Proofs.YtaaieblnikcndaaGreatDoor
