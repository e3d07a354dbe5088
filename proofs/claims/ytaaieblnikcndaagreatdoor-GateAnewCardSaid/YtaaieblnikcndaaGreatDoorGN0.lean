/-
  Lemmas for GateAnew: part 0 of what it rests on. Conditions: none.
-/
import Derived.WalkKit
import Derived.RangeFuncRecord
import Derived.WalkSmall
import Derived.OrdersIn
import Derived.TacticsIn
import Derived.RangeFuncWrites
import Derived.KernelRfl
import Derived.RecoverIn
import Derived.Laws.AppendOwn
import Derived.MapKept
import Derived.Lib.SlKeysI
import Derived.Below
import Derived.Laws.StructEq
import Derived.ChangeKeysEq
import Derived.Maps.RangeRun
import Derived.ProofKit
import Derived.Carry
import Derived.OpenShut
import Derived.ChangeSame
import Derived.Laws.MathBits
import Derived.Laws.MakeOwn
import Derived.Test.YtaaieblnikcndaaGreatDoorProg
import Derived.Shelf.Bytes.SlJoin
import Derived.Ground.SlbNamesProg
import Derived.Shelf.SlIterI.Nil
import Derived.Shelf.SortM.Plain
import Derived.Shelf.SortM.SortNone
import Derived.Shelf.SlMaps.Clone
import Derived.Ground.GgzProg
import Derived.Ground.SlgmProg
import Derived.Ground.SlmcProg
import Derived.Shelf.SlSortCmp.NoneTotal
import Derived.Shelf.Strings.OnBuilder
import Derived.Ground.SlsfProg
import Derived.Ground.NamesProg
import Derived.Laws.BytesArg
import Derived.Laws.IdiomStrings
import Derived.Laws.Cover1
import Derived.Lib.Bytealg
set_option linter.unusedVariables false
set_option linter.unusedSimpArgs false
set_option maxRecDepth 100000
set_option maxHeartbeats 16000000
open Go.IntKind (i64 u64 i8 u8 i32 u32 i16 u16)
abbrev V0:=@if_neg
abbrev V1:=@if_pos
abbrev V2:=@absurd
abbrev V3:=@List.length_append
abbrev V4:=@of_decide_eq_true
abbrev V5:=@of_decide_eq_false
abbrev V6:=@decide_eq_true_eq
abbrev V7:=@Bool.and_eq_true
abbrev V8:=@decide_eq_false_iff_not
abbrev V9:=@List.length_cons
abbrev VA:=@Nat.le_refl
abbrev VB:=@List.mem_map
abbrev VD:=@Int.toNat_natCast
abbrev VE:=@List.mem_singleton
abbrev VF:=@List.getElem_mem
abbrev VH:=@List.length_map
abbrev VI:=@List.append_assoc
abbrev VJ:=@List.mem_cons
abbrev VK:=@Bool.or_eq_false_iff
abbrev VL:=@List.mem_cons_of_mem
abbrev VM:=@List.mem_cons_self
abbrev VN:=@Bool.or_eq_true
abbrev VO:=@Nat.le_trans
abbrev VP:=@List.length_drop
abbrev VQ:=@Nat.zero_add
abbrev VR:=@List.mem_append
abbrev VS:=@decide_eq_true
abbrev VT:=@List.map_append
abbrev VU:=@List.length_take
abbrev VV:=@Nat.lt_or_ge
abbrev VW:=@List.length_nil
abbrev VX:=@Nat.zero_le
abbrev VY:=@Bool.not_eq_true'
abbrev VZ:=@List.take_of_length_le
abbrev Wa:=@List.map_cons
abbrev Wb:=@List.flatMap_cons
abbrev Wc:=@List.append_nil
abbrev Wd:=@Int.le_refl
abbrev We:=@Option.map_some
abbrev Wf:=@List.take_length
abbrev Wg:=@List.mem_of_getElem?
abbrev Wh:=@List.nil_append
abbrev Wi:=@Bool.eq_iff_iff
abbrev Wj:=@List.take_succ_eq_append_getElem
abbrev Wk:=@List.filter_cons
abbrev Wl:=@Bool.and_eq_false_iff
abbrev Wm:=@Bool.not_eq_false'
abbrev Wn:=@Nat.add_mul
abbrev Wo:=@List.length_singleton
abbrev Wp:=@decide_eq_false
abbrev Wq:=@List.all_eq_true
abbrev Wr:=@List.map_map
abbrev Ws:=@Nat.add_assoc
abbrev Wt:=@List.take_append_drop
abbrev Wu:=@List.getElem_of_mem
abbrev Wv:=@List.drop_eq_getElem_cons
abbrev Ww:=@List.mem_of_mem_take
abbrev Wx:=@List.getElem_map
abbrev Wy:=@Nat.mul_le_mul_right
abbrev Wz:=@Nat.mul_one
abbrev W0:=@List.pairwise_cons
abbrev W1:=@List.drop_length
abbrev W2:=@Nat.pow_add
abbrev W3:=@List.ext_getElem
abbrev W4:=@List.flatMap_append
abbrev W5:=@Array.length_toList
abbrev W6:=@Nat.mod_lt
abbrev W7:=@List.cons_append
abbrev W8:=@List.not_mem_nil
abbrev W9:=@List.prefix_rfl
abbrev WA:=@List.mem_filter
abbrev WB:=@List.mem_range
abbrev WE:=@List.mem_of_mem_drop
abbrev WF:=@List.take_add_one
abbrev WG:=@Nat.mod_eq_of_lt
abbrev WH:=@List.length_eq_zero_iff
abbrev WI:=@Nat.eq_of_beq_eq_true
abbrev WJ:=@Nat.add_zero
abbrev WK:=@List.eq_nil_of_length_eq_zero
abbrev WL:=@List.take_succ_cons
abbrev WM:=@List.filter_eq_nil_iff
abbrev WN:=@List.set_getElem_self
abbrev WO:=@List.ext_getElem?
abbrev WP:=@List.mem_append_left
abbrev WQ:=@List.nodup_cons
abbrev WR:=@Nat.min_eq_left
abbrev WS:=@List.map_congr_left
abbrev WT:=@Int.fdiv_eq_ediv_of_nonneg
abbrev WU:=@Int.natCast_mul
abbrev WV:=@Nat.two_pow_pos
abbrev WW:=@List.sum_cons
abbrev WX:=@List.foldl_append
abbrev WY:=@Bool.false_or
abbrev WZ:=@Bool.false_eq_true
abbrev Ya:=@Nat.add_sub_cancel_left
abbrev Yb:=@Nat.div_lt_iff_lt_mul
abbrev Yc:=@List.take_zero
abbrev Yd:=@Nat.mul_le_mul_left
abbrev Ye:=@Nat.add_comm
abbrev Yf:=@List.mem_append_right
abbrev Yg:=@Nat.zero_mul
abbrev Yh:=@List.map_nil
abbrev Yi:=@List.mem_flatMap
abbrev Yj:=@List.drop_left
abbrev Yk:=@Bool.true_and
abbrev Yl:=@List.getD_eq_getElem?_getD
abbrev Ym:=@List.map_set
abbrev Yn:=@List.set_set
abbrev Yo:=@Nat.le_of_ble_eq_true
abbrev Yp:=@List.set_cons_zero
abbrev Yq:=@Nat.div_add_mod'
abbrev Yr:=@List.take_append_of_le_length
abbrev Ys:=@List.drop_drop
abbrev Yt:=@List.pairwise_iff_getElem
abbrev Yu:=@List.length_pos_iff
abbrev Yv:=@List.filter_eq_self
abbrev Yw:=@List.pairwise_map
abbrev Yx:=@Nat.eq_zero_or_pos
abbrev Yy:=@Int.toNat_of_nonneg
abbrev Yz:=@List.filter_congr
abbrev Y0:=@List.length_filter_le
abbrev Y1:=@Bool.eq_false_iff
abbrev Y2:=@List.mem_or_eq_of_mem_set
abbrev Y3:=@Array.getD_eq_getD_getElem?
abbrev Y4:=@List.drop_succ_cons
abbrev Y5:=@List.drop_of_length_le
abbrev Y6:=@List.set_cons_succ
abbrev Y7:=@List.eq_nil_or_concat
abbrev Y8:=@List.concat_eq_append
abbrev Y9:=@BitVec.ofInt_natCast
abbrev YA:=@BitVec.toNat_ofNat
abbrev YB:=@List.replicate_succ
abbrev YC:=@Nat.add_sub_cancel
abbrev YD:=@Int.eq_ofNat_of_zero_le
abbrev YE:=@List.getElem_range
abbrev YF:=@Option.isSome_iff_exists
abbrev YG:=@Nat.two_pow_add_eq_or_of_lt
abbrev YH:=@List.eq_of_mem_replicate
namespace Go.Proofs.YtaaieblnikcndaaGreatDoor
open Go
theorem zt{α : Type}{a : Option α}{b c : α}(h : a = some b)(e : b = c := by kernel_rfl) : a = some c := h.trans (congrArg some e)
theorem nO{c : Prop}{_ : Decidable c}{α : Type}{a b : α}(h : ¬ c := by omega) : ite c a b = b := V0 h
theorem pO{c : Prop}{_ : Decidable c}{α : Type}{a b : α}(h : c := by omega) : ite c a b = a := V1 h
abbrev lt0 : ByteArray := ⟨#[0,1,2,2,3,3,3,3,4,4,4,4,4,4,4,4,5,5,5,5,5,5,5,5,5,5,5,5,5,5,5,5,6,6,6,6,6,6,6,6,6,6,6,6,6,6,6,6,6,6,6,6,6,6,6,6,6,6,6,6,6,6,6,6,7,7,7,7,7,7,7,7,7,7,7,7,7,7,7,7,7,7,7,7,7,7,7,7,7,7,7,7,7,7,7,7,7,7,7,7,7,7,7,7,7,7,7,7,7,7,7,7,7,7,7,7,7,7,7,7,7,7,7,7,7,7,7,7,8,8,8,8,8,8,8,8,8,8,8,8,8,8,8,8,8,8,8,8,8,8,8,8,8,8,8,8,8,8,8,8,8,8,8,8,8,8,8,8,8,8,8,8,8,8,8,8,8,8,8,8,8,8,8,8,8,8,8,8,8,8,8,8,8,8,8,8,8,8,8,8,8,8,8,8,8,8,8,8,8,8,8,8,8,8,8,8,8,8,8,8,8,8,8,8,8,8,8,8,8,8,8,8,8,8,8,8,8,8,8,8,8,8,8,8,8,8,8,8,8,8,8,8,8,8,8,8]⟩
abbrev aD:=Array Obj
abbrev KE:=Value->aD->Prop
abbrev KQ:=Option Addr
abbrev Os:=List Value
abbrev Fa:=ByteArray
def aL(H:aD)(b off:Nat):Option Value:=
 match H[b]? with
 | some (.cells c _ _)=>c[off]?
 | _=>none
def lZ(H:aD)(b off:Nat):Bool:=
 match H[b]? with
 | some (.cells _ _ (lo,hi))=>lo<=off&&off<hi
 | _=>false
def iJ(H:aD)(b off:Nat)(v:Value):aD:=
 H.modify b λ
  | .cells c elem frozen=>.cells (c.setIfInBounds off v) elem frozen
  | o=>o
structure bW(w w':World):Prop where
 os:w'.os=w.os
 tape:w'.tape=w.tape
 output:w'.output=w.output
inductive cU where
 | int (k:IntKind)|bool|str|ptr|slice|map|raw|fnv|adr
 | vec (k:IntKind) (n:Nat)
inductive Sh where
 | one (l:cU)
 | agg (ls:List cU)
def bX(k:IntKind)(f:Nat->Int):Nat->Nat->Os
 | 0,_=>[]
 | n+1,i=>.int k (f i)::bX k f n (i+1)
def cU.all:cU->(Value->Prop)->Prop
 | .int k,K=>∀n:Int,K (.int k n)
 | .bool,K=>∀b:Bool,K (.bool b)
 | .str,K=>∀s:Fa,K (.string s)
 | .ptr,K=>∀a:KQ,K (.pointer a)
 | .slice,K=>∀(a:KQ) (n c:Nat),K (.slice a n c)
 | .map,K=>∀r:Option Nat,K (.map r)
 | .raw,K=>∀v:Value,K v
 | .adr,K=>∀b o:Nat,K (.pointer (some ⟨b,o,none⟩))
 | .fnv,K=>∀(f:FuncId) (cap:Os),K (.func (.func f) ⟨[]⟩ ⟨cap⟩)
 | .vec _ _,_=>True
def cU.ex:cU->(Value->Prop)->Prop
 | .int k,K=>∃n:Int,K (.int k n)
 | .bool,K=>∃b:Bool,K (.bool b)
 | .str,K=>∃s:Fa,K (.string s)
 | .ptr,K=>∃a:KQ,K (.pointer a)
 | .slice,K=>∃(a:KQ) (n c:Nat),K (.slice a n c)
 | .map,K=>∃r:Option Nat,K (.map r)
 | .raw,K=>∃v:Value,K v
 | .adr,K=>∃b o:Nat,K (.pointer (some ⟨b,o,none⟩))
 | .fnv,K=>∃(f:FuncId) (cap:Os),K (.func (.func f) ⟨[]⟩ ⟨cap⟩)
 | .vec _ _,_=>False
def allLs:List cU->(Os->Prop)->Prop
 | [],K=>K []
 | l::r,K=>l.all λv=>allLs r λvs=>K (v::vs)
def exLs:List cU->(Os->Prop)->Prop
 | [],K=>K []
 | .vec k n::r,K=>∃f:Nat->Int,exLs r λvs=>K (bX k f n 0++vs)
 | l::r,K=>l.ex λv=>exLs r λvs=>K (v::vs)
def Sh.all:Sh->(Value->Prop)->Prop
 | .one l,K=>l.all K
 | .agg ls,K=>allLs ls λvs=>K (.agg ⟨vs⟩)
def Sh.ex:Sh->(Value->Prop)->Prop
 | .one l,K=>l.ex K
 | .agg ls,K=>exLs ls λvs=>K (.agg ⟨vs⟩)
def pI:List Sh->(Os->Prop)->Prop
 | [],K=>K []
 | s::r,K=>s.ex λv=>pI r λvs=>K (v::vs)
def lr:List Sh->(Value->Prop)->Prop
 | [],K=>K (.tuple #[])
 | [s],K=>s.ex K
 | s::t::r,K=>pI (s::t::r) λvs=>K (.tuple ⟨vs⟩)
def cU.fn:cU->Type->Type
 | .int _,T=>Int->T
 | .bool,T=>Bool->T
 | .str,T=>Fa->T
 | .ptr,T=>KQ->T
 | .slice,T=>KQ->Nat->Nat->T
 | .map,T=>Option Nat->T
 | .raw,T=>Value->T
 | .fnv,T=>FuncId->Os->T
 | .adr,T=>Nat->Nat->T
 | .vec _ _,T=>T
def fnLs:List cU->Type->Type
 | [],T=>T
 | l::r,T=>l.fn (fnLs r T)
def Sh.fn:Sh->Type->Type
 | .one l,T=>l.fn T
 | .agg ls,T=>fnLs ls T
abbrev dr:=List (Nat×Sh)
def JT(T:Type):dr->Type
 | []=>T
 | (_,s)::r=>s.fn (JT T r)
def cU.app:(l:cU)->{T:Type}->l.fn T->Value->Option T
 | .int k,_,f,.int k' n=>if k=k' then some (f n) else none
 | .bool,_,f,.bool b=>some (f b)
 | .str,_,f,.string s=>some (f s)
 | .ptr,_,f,.pointer a=>some (f a)
 | .slice,_,f,.slice a n c=>some (f a n c)
 | .map,_,f,.map r=>some (f r)
 | .raw,_,f,v=>some (f v)
 | .fnv,_,f,.func (.func g) ⟨[]⟩ ⟨cap⟩=>some (f g cap)
 | .adr,_,f,.pointer (some ⟨b,o,none⟩)=>some (f b o)
 | _,_,_,_=>none
def qV:(ls:List cU)->{T:Type}->fnLs ls T->Os->Option T
 | [],_,f,[]=>some f
 | l::r,_,f,v::vs=>match l.app (T:=fnLs r _) f v with|some g=>qV r g vs|none=>none
 | _,_,_,_=>none
def Sh.app:(s:Sh)->{T:Type}->s.fn T->Value->Option T
 | .one l,_,f,v=>l.app f v
 | .agg ls,_,f,.agg cs=>qV ls f cs.toList
 | .agg _,_,_,_=>none
inductive SV where
 | p (v:Value)
 | g (j:Nat) (b:Bool) (v:Value)
 | x
abbrev Fr:=List SV
def aT{α:Type}:List α->Nat->Option α
 | [],_=>none
 | a::_,0=>some a
 | _::r,n+1=>aT r n
def iq{α:Type}:List α->Nat->α->List α
 | [],_,_=>[]
 | _::r,0,x=>x::r
 | a::r,n+1,x=>a::iq r n x
def Fr.put(fr:Fr)(d:Option Tmp)(s:SV):Fr:=match d with|some t=>iq fr t s|none=>fr
def gp(ts:List Nat)(fr:Fr):Fr:=ts.foldl (λf t=>iq f t .x) fr
def pJ(fr:Fr):Fr:=fr.map fun|.g _ _ _=>.x|s=>s
def iK(fr:Fr)(t:Nat):Option Value:=match aT fr t with|some (.p v)=>some v|_=>none
def lu:(L:dr)->{T:Type}->JT T L->Fr->Option T
 | [],_,j,_=>some j
 | (t,s)::r,T,j,fr=>match iK fr t with
  | some v=>match s.app (T:=JT T r) j v with
   | some j'=>lu r j' fr
   | none=>none
  | none=>none
def jI(L:dr)(J:JT (aD->Prop) L)(fr:Fr)(H:aD):Prop:=match lu L J fr with|some p=>p H|none=>False
def ir:Fr->(Fr->Prop)->Prop
 | [],k=>k []
 | .p v::r,k=>ir r λr'=>k (.p v::r')
 | .g j b v::r,k=>ir r λr'=>k (.g j b v::r')
 | .x::r,k=>ir r λr'=>k (.x::r')
theorem lv:∀(fr:Fr) (k:Fr->Prop),ir fr k=k fr
 | [],_=>rfl
 | .p _::r,k=>by rw[ir,lv r]
 | .g _ _ _::r,k=>by rw[ir,lv r]
 | .x::r,k=>by rw[ir,lv r]
def lw(ds:List Nat):Nat->Fr->Fr
 | _,[]=>[]
 | i,s::r=>(match memD i ds with|true=>.x|false=>s)::lw ds (i+1) r
where memD (n:Nat):List Nat->Bool
 | []=>false
 | m::r=>match Nat.beq n m with|true=>true|false=>memD n r
def allJ:dr->Fr->(Fr->Prop)->Prop
 | [],fr,K=>K fr
 | (t,s)::r,fr,K=>s.all λv=>ir (iq fr t (.p v)) λfr'=>allJ r fr' K
def md(P:Program)(s:Sem Value)(v:Value):Prop:=∀w,s.run P w=.ok v w
def gZ(P:Program)(op:BinOp)(t:TypeId)(x y:Value)(b:Bool):Prop:=∀ox oy w,(do eqGuard op t ox oy x y;binOp op t x y:Sem Value).run P w=.ok (.bool b) w
def pK(P:Program)(f:FuncId)(args:Array Value)(v:Value):Prop:=∀w,(callFunc f args).run P w=.ok (.value v) w
def dj(P:Program)(s:Sem Value)(H:aD)(v:Value):Prop:=∀w,w.heap=H->s.run P w=.ok v w
@[irreducible] def cB {α:Type} (P:Program) (s:Sem α) (H:aD) (K:α->aD->Prop):Prop:=
 ∀w,w.heap=H->∃a w',s.run P w=.ok a w'/\bW w w'/\K a w'.heap
def Fin(w:World)(K:KE):Ending->World->Prop
 | .returned v,w'=>bW w w'/\K v w'.heap
 | .panicked _,_=>False
 | .outgrown,_=>False
@[irreducible] def iL (P:Program) (f:FuncId) (args:Array Value) (H:aD) (K:KE):Prop:=
 ∀w,w.heap=H->Calls P f args w (Fin w K)
def iM(w:World)(K KP:KE):Ending->World->Prop
 | .returned v,w'=>bW w w'/\K v w'.heap
 | .panicked chain,w'=>∃v,chain=[{ v,recovered:=false }]/\bW w w'/\KP v w'.heap
 | .outgrown,_=>False
@[irreducible] def ni (P:Program) (f:FuncId) (args:Array Value) (H:aD) (K KP:KE):Prop:=
 ∀w,w.heap=H->Calls P f args w (iM w K KP)
def bV(P:Program)(f:FuncId)(args:Array Value)(H:aD)(v:Value):Prop:=iL P f args H λv' H'=>v'=v/\H'=H
@[irreducible] def fL (P:Program) (l:Nat) (vs:Os) (H:aD) (K:KE):Prop:=
 ∀w,w.heap=H->∃fn tmps assign body,(Instr.yield l ⟨vs⟩).run P w=.ok (.round l fn tmps assign body) w/\RoundIn Fence.wide 0 P l fn tmps assign body w (Fin w K)
theorem cB.at{α:Type}{P:Program}{s:Sem α}{H:aD}{K:α->aD->Prop}(h:cB P s H K):∀w,w.heap=H->∃a b,s.run P w=.ok a b/\bW w b/\K a b.heap:=by unfold cB at h;exact h
theorem cB.mk{α:Type}{P:Program}{s:Sem α}{H:aD}{K:α->aD->Prop}(h:∀w,w.heap=H->∃a b,s.run P w=.ok a b/\bW w b/\K a b.heap):cB P s H K:=by unfold cB;exact h
theorem iL.at{P:Program}{f:FuncId}{args:Array Value}{H:aD}{K:KE}(h:iL P f args H K):∀w,w.heap=H->Calls P f args w (Fin w K):=by unfold iL at h;exact h
theorem iL.mk{P:Program}{f:FuncId}{args:Array Value}{H:aD}{K:KE}(h:∀w,w.heap=H->Calls P f args w (Fin w K)):iL P f args H K:=by unfold iL;exact h
theorem ni.at{P:Program}{f:FuncId}{args:Array Value}{H:aD}{K KP:KE}(h:ni P f args H K KP):∀w,w.heap=H->Calls P f args w (iM w K KP):=by unfold ni at h;exact h
theorem ni.mk{P:Program}{f:FuncId}{args:Array Value}{H:aD}{K KP:KE}(h:∀w,w.heap=H->Calls P f args w (iM w K KP)):ni P f args H K KP:=by unfold ni;exact h
theorem fL.at{P:Program}{l:Nat}{vs:Os}{H:aD}{K:KE}(h:fL P l vs H K):∀w,w.heap=H->∃fn tmps assign body,(Instr.yield l ⟨vs⟩).run P w=.ok (.round l fn tmps assign body) w/\RoundIn Fence.wide 0 P l fn tmps assign body w (Fin w K):=by unfold fL at h;exact h
theorem fL.mk{P:Program}{l:Nat}{vs:Os}{H:aD}{K:KE}(h:∀w,w.heap=H->∃fn tmps assign body,(Instr.yield l ⟨vs⟩).run P w=.ok (.round l fn tmps assign body) w/\RoundIn Fence.wide 0 P l fn tmps assign body w (Fin w K)):fL P l vs H K:=by unfold fL;exact h
def gG(P:Program)(f:FuncId):Prop:=∃fn,P.funcs[f]?=some fn/\fn.body.isNone=false/\(fn.name == "runtime.NumGoroutine")=false
inductive DM where
 | mark (r:Nat)
 | fn (g:FuncId) (cap:Os)
structure Ctx where
 P:Program
 quiet:List FuncId
 calls:List FuncId
 nexts:List (Nat×Sh×Sh):=[]
 pan:List FuncId:=[]
 ext:List FuncId:=[]
 kp:KE:=λ_ _=>False
 nop:Bool:=false
def Ctx.nx(X:Ctx)(l:List (Nat×Sh×Sh)):Ctx:={ X with nexts:=l }
def nextOf:List (Nat×Sh×Sh)->Option Tmp->Option (Sh×Sh)
 | _,none=>none
 | [],some _=>none
 | (t,k,x)::r,some d=>match Nat.beq t d with|true=>some (k,x)|false=>nextOf r (some d)
inductive Kind where
 | P|R|W
 deriving DecidableEq
def bJ(n:Nat):List Nat->Bool
 | []=>false
 | m::r=>Nat.beq n m||bJ n r
def leafOf:TypeDesc->Option cU
 | .bool=>some .bool
 | .int k=>some (.int k)
 | .string=>some .str
 | .pointer _=>some .ptr
 | .slice _=>some .slice
 | .map _ _=>some .map
 | .func _ _ _=>some .fnv
 | .interface _=>some .raw
 | _=>none
def sX(P:Program):Nat->TypeId->Option (List cU)
 | 0,_=>none
 | n+1,t=>match P.underlying t with
  | some (.struct fs)=>fs.toList.foldr (λf acc=>match sX P n f.type,acc with|some a,some b=>some (a++b)|_,_=>none) (some [])
  | some (.array k e)=>match sX P n e with
   | some a=>(match a,Nat.ble 16 k with|[.int ki],true=>some [.vec ki k]|a,_=>some ((List.replicate k a).flatten))
   | none=>none
  | some d=>match leafOf d with|some l=>some [l]|none=>none
  | none=>none
def aggT(P:Program)(t:TypeId):Bool:=match P.underlying t with|some (.struct _)|some (.array _ _)=>true|_=>false
def pL(P:Program)(t:TypeId):Option Sh:=
 match aggT P t,sX P 9 t with
 | true,some ls=>some (.agg ls)
 | false,some [l]=>some (.one l)
 | _,_=>none
def exT(P:Program)(t:TypeId)(K:Value->Prop):Prop:=match pL P t with|some s=>s.ex K|none=>False
def uW(P:Program)(t:TypeId)(K:Os->Prop):Prop:=match sX P 9 t with|some ls=>exLs ls K|none=>False
def bE(H:aD)(b:Nat):Nat->Os->Prop
 | _,[]=>True
 | o,[v]=>aL H b o=some v
 | o,v::r=>aL H b o=some v/\bE H b (o+1) r
abbrev gt:Option Prop->Prop->Prop
 | none,p=>p
 | some c,p=>c->p
def bP{α:Type}(o:Option α)(K:α->Prop):Prop:=match o with|some v=>K v|none=>False
def aX(op:BinOp)(k:IntKind)(x y:Int):Int:=
 match op with
 | .and=>k.wrap (BitVec.ofInt k.bits x &&& BitVec.ofInt k.bits y).toNat
 | .or=>k.wrap (BitVec.ofInt k.bits x ||| BitVec.ofInt k.bits y).toNat
 | .xor=>k.wrap (BitVec.ofInt k.bits x^^^BitVec.ofInt k.bits y).toNat
 | _=>k.wrap (BitVec.ofInt k.bits x &&& ~~~BitVec.ofInt k.bits y).toNat
def xW(op:BinOp)(k:IntKind)(x y:Int)(c:Option Prop)(K:Value->Prop):Prop:=
 match op with
 | .add=>K (.int k (k.wrap (x+y)))
 | .sub=>K (.int k (k.wrap (x-y)))
 | .mul=>K (.int k (k.wrap (x*y)))
 | .quo=>gt c (y≠0)/\K (.int k (k.wrap (x.tdiv y)))
 | .rem=>gt c (y≠0)/\K (.int k (x.tmod y))
 | .and=>K (.int k (aX .and k x y))
 | .or=>K (.int k (aX .or k x y))
 | .xor=>K (.int k (aX .xor k x y))
 | .andNot=>K (.int k (aX .andNot k x y))
 | .eql=>K (.bool (decide (x=y)))
 | .neq=>K (.bool (!decide (x=y)))
 | .lss=>K (.bool (decide (x<y)))
 | .leq=>K (.bool (decide (x<=y)))
 | .gtr=>K (.bool (decide (y<x)))
 | .geq=>K (.bool (decide (y<=x)))
 | .shl=>gt c (0<=y)/\K (.int k (k.wrap (x*2^(min y.toNat k.bits))))
 | .shr=>gt c (0<=y)/\K (.int k (x.fdiv (2^(min y.toNat k.bits))))
def xX(op:BinOp)(x y:Fa)(c:Option Prop)(K:Value->Prop):Prop:=
 match op with
 | .add=>gt c (((x.size+y.size:Nat):Int)<=i64.max)/\K (.string (x++y))
 | .eql=>K (.bool (x.toList == y.toList))
 | .neq=>K (.bool (!(x.toList == y.toList)))
 | .lss=>K (.bool (Op.bytesLess x.toList y.toList))
 | .leq=>K (.bool (Op.bytesLess x.toList y.toList||x.toList == y.toList))
 | .gtr=>K (.bool (!(Op.bytesLess x.toList y.toList||x.toList == y.toList)))
 | .geq=>K (.bool (!Op.bytesLess x.toList y.toList))
 | _=>False
def pM(d:Option TypeDesc)(x y:Value):Option Bool:=
 match d,x,y with
 | some .bool,.bool a,.bool b=>some (a == b)
 | some (.pointer _),.pointer a,.pointer none=>some a.isNone
 | some (.slice _),.slice a _ _,.slice none _ _=>some a.isNone
 | some (.map _ _),.map a,.map none=>some a.isNone
 | some (.func _ _ _),.func _ _ _,.nilFunc=>some false
 | some (.func _ _ _),.nilFunc,.nilFunc=>some true
 | _,_,_=>none
def binP(P:Program)(op:BinOp)(t:TypeId)(x y:Value)(c:Option Prop)(K:Value->Prop):Prop:=
 match x,y with
 | .int k a,.int k' b=>if k=k' then xW op k a b c K else (match op with
  | .shl=>gt c (0<=b)/\K (.int k (k.wrap (a*2^(min b.toNat k.bits))))
  | .shr=>gt c (0<=b)/\K (.int k (a.fdiv (2^(min b.toNat k.bits))))
  | _=>False)
 | .string a,.string b=>xX op a b c K
 | x,y=>match op,pM (P.underlying t) x y with
  | .eql,some b=>K (.bool b)
  | .neq,some b=>K (.bool !b)
  | op,none=>∃b:Bool,gt c (gZ P op t x y b)/\K (.bool b)
  | _,_=>False
def ifaceT(P:Program)(t:TypeId):Bool:=match P.underlying t with|some (.interface _)=>true|_=>false
def binQ(P:Program)(op:BinOp)(t:TypeId)(x y:Value)(c:Option Prop)(K:Value->Prop):Prop:=
 match ifaceT P t with
 | true=>∃b:Bool,gt c (gZ P op t x y b)/\K (.bool b)
 | false=>binP P op t x y c K
def unP(op:UnOp)(x:Value)(K:Value->Prop):Prop:=
 match op,x with
 | .neg,.int k n=>K (.int k (k.wrap (0-n)))
 | .xor,.int k n=>K (.int k (aX .xor k (if k.signed then -1 else k.max) n))
 | .not,.bool b=>K (.bool !b)
 | _,_=>False
def pN(c:Bool)(a b:Value):Value:=
 match a,b with
 | .bool x,.bool y=>.bool (cond c x y)
 | a,b=>cond c a b
def sY(b d:Operand)(r:Bool×Value×Value):Value:=
 match b with
 | .const (.bool true)=>(match r.2.2 with|.bool y=>.bool (r.1||y)|_=>pN r.1 r.2.1 r.2.2)
 | _=>(match d with
  | .const (.bool false)=>(match r.2.1 with|.bool x=>.bool (r.1&&x)|_=>pN r.1 r.2.1 r.2.2)
  | _=>pN r.1 r.2.1 r.2.2)
def uX(o:Nat)(n:Int):Nat->Nat
 | 1=>o+n.toNat
 | s=>o+n.toNat*s
theorem Ca(o:Nat)(n:Int)(s:Nat):uX o n s=o+n.toNat*s:=by unfold uX;split <;> simp
def nX(P:Program)(t:TypeId)(q:Prop):Prop:=match P.cellsOf t with|0=>False|_+1=>q
def cq(a:KQ)(l m size:Nat):KQ:=if m=l then a else a.map (·.add (l*size))
def iN(x:Value)(K:Int->Prop):Prop:=match x with|.int _ n=>K n|_=>False
def xY(P:Program)(t:TypeId)(x:Value)(lo hi:Option Value)(c:Option Prop)(K:Value->Prop):Prop:=
 match P.underlying t,x with
 | some .string,.string s=>
  let go (l h:Int):Prop:=gt c (0<=l/\l<=h/\h<=(s.size:Int))/\K (.string (s.extract l.toNat h.toNat))
  match lo,hi with
  | some l,some h=>iN l λl=>iN h λh=>go l h
  | some l,none=>iN l λl=>go l s.size
  | none,some h=>iN h λh=>go 0 h
  | none,none=>go 0 s.size
 | some (.slice e),.slice a len cap=>
  let go (l h:Int):Prop:=gt c (0<=l/\l<=h/\h<=(cap:Int))/\K (.slice (cq a l.toNat cap (P.cellsOf e)) (h.toNat-l.toNat) (cap-l.toNat))
  nX P e <| match lo,hi with
  | some l,some h=>iN l λl=>iN h λh=>go l h
  | some l,none=>iN l λl=>go l len
  | none,some h=>iN h λh=>go 0 h
  | none,none=>go 0 len
 | some (.array n e),.pointer (some a)=>
  let go (l h:Int):Prop:=gt c (0<=l/\l<=h/\h<=(n:Int))/\K (.slice (cq (some a) l.toNat n (P.cellsOf e)) (h.toNat-l.toNat) (n-l.toNat))
  nX P e <| match lo,hi with
  | some l,some h=>iN l λl=>iN h λh=>go l h
  | some l,none=>iN l λl=>go l n
  | none,some h=>iN h λh=>go 0 h
  | none,none=>go 0 n
 | _,_=>False
def xZ(P:Program)(t:TypeId)(x l h m:Value)(c:Option Prop)(K:Value->Prop):Prop:=
 match P.underlying t,x,l,h,m with
 | some (.slice e),.slice a _ cap,.int _ l,.int _ h,.int _ m=>nX P e <| gt c (0<=l/\l<=h/\h<=m/\m<=(cap:Int))/\K (.slice (cq a l.toNat m.toNat (P.cellsOf e)) (h.toNat-l.toNat) (m.toNat-l.toNat))
 | _,_,_,_,_=>False
def bAt(s:Fa)(i:Nat):Int:=(((s.data[i]?).getD 0).toNat:Int)
def ya(P:Program)(t:TypeId)(x i:Value)(c:Option Prop)(K:Value->Prop):Prop:=
 match P.underlying t,x,i with
 | some .string,.string s,.int _ n=>gt c (0<=n/\n<(s.size:Int))/\K (.int .u8 (bAt s n.toNat))
 | some (.array _ e),x,i=>match pL P e with
  | some s=>s.ex λv=>gt c (md P (Instr.index t x i) v)/\K v
  | none=>False
 | _,_,_=>False
def yb(P:Program)(t:TypeId)(x i:Value)(c:Option Prop)(K:Value->Prop):Prop:=
 match P.underlying t,x,i with
 | some (.slice e),.slice a len _,.int _ n=>nX P e <| gt c (0<=n/\n<(len:Int))/\∃b o:Nat,gt c (a=some ⟨b,o,none⟩)/\K (.pointer (some ⟨b,uX o n (P.cellsOf e),none⟩))
 | some (.array len e),.pointer (some ⟨b,o,none⟩),.int _ n=>nX P e <| gt c (0<=n/\n<(len:Int))/\K (.pointer (some ⟨b,uX o n (P.cellsOf e),none⟩))
 | _,_,_=>False
def yc(P:Program)(t:TypeId)(x:Value)(f:Nat)(K:Value->Prop):Prop:=
 match P.underlying t,x with
 | some (.struct fs),.pointer (some ⟨b,o,none⟩)=>match aT fs.toList f with
  | some fd=>nX P fd.type <| K (.pointer (some ⟨b,o+fd.offset,none⟩))
  | none=>False
 | _,_=>False
def fieldP(P:Program)(t:TypeId)(x:Value)(f:Nat)(c:Option Prop)(K:Value->Prop):Prop:=
 match P.underlying t with
 | some (.struct fs)=>match aT fs.toList f with
  | some fd=>match pL P fd.type with
   | some s=>s.ex λu=>gt c (md P (Instr.field t x f) u)/\K u
   | none=>False
  | none=>False
 | _=>False
def aU:KQ->Nat
 | some a=>a.block
 | none=>0
def aS:KQ->Nat
 | some a=>a.off
 | none=>0
def isA:KQ->Prop
 | some ⟨_,_,none⟩=>True
 | _=>False
def NN(a:KQ)(p:Prop):Prop:=match a with
 | some ⟨_,_,none⟩=>p
 | _=>False
theorem isA_iff{a:KQ}:isA a↔a=some ⟨aU a,aS a,none⟩:=by
 rcases a with _|⟨b,o,_|s⟩ <;> simp[isA,aU,aS]
theorem yd{a:KQ}{p:Prop}:NN a p↔a=some ⟨aU a,aS a,none⟩/\p:=by
 rcases a with _|⟨b,o,_|s⟩ <;> simp[NN,aU,aS]
def uY(x:Value)(c:Option Prop)(K:Value->Prop):Prop:=
 match x with
 | .pointer a=>(match c with
  | none=>NN a (K (.pointer (some ⟨aU a,aS a,none⟩)))
  | some c=>(c->isA a)/\K (.pointer (some ⟨aU a,aS a,none⟩)))
 | .func (.func f) a b=>K (.func (.func f) a b)
 | .func (.yield f) a b=>K (.func (.yield f) a b)
 | _=>False
def sZ(P:Program)(t:TypeId):Option (Os):=match P.info? t with|some i=>(match i.zero with|some v=>some v.cells.toList|none=>none)|none=>none
def offOf(P:Program):List Field->Nat->Option (Nat×Nat)
 | fs,i=>match aT fs i with|some f=>some (f.offset,P.cellsOf f.type)|none=>none
def uZ:Os->Nat->Os->Os
 | cs,_,[]=>cs
 | cs,o,v::r=>uZ (iq cs o v) (o+1) r
def pP(place:Nat->Option (Nat×Nat)):Os->List (Nat×Value)->Option (Os)
 | cells,[]=>some cells
 | cells,(i,v)::rest=>
  match place i with
  | none=>none
  | some (off,size)=>if v.cells.toList.length=size/\off+size<=cells.length then pP place (uZ cells off v.cells.toList) rest else none
def ve(P:Program):List Field->Bool
 | []=>true
 | f::r=>(P.info? f.type).isSome&&ve P r
def ye(P:Program)(t:TypeId)(parts:List (Nat×Value)):Option (Os):=
 match sZ P t,P.underlying t with
 | some z,some (.struct fs)=>if ve P fs.toList=true then pP (offOf P fs.toList) z parts else none
 | some z,some (.array _ e)=>match P.info? e with
  | some _=>pP (λi=>some (i*P.cellsOf e,P.cellsOf e)) z parts
  | none=>none
 | _,_=>none
def lx(z:Os):Nat->Os
 | 0=>[]
 | n+1=>z++lx z n
def yf(P:Program)(e:TypeId)(len:Nat)(parts:List (Nat×Value)):Option (Os):=
 match sZ P e with
 | some z=>if z.length=P.cellsOf e then pP (λi=>some (i*P.cellsOf e,P.cellsOf e)) (lx z len) parts else none
 | none=>none
def hI(ev:Operand->Option Value):List Operand->Option (Os)
 | []=>some []
 | x::r=>match ev x,hI ev r with|some v,some vs=>some (v::vs)|_,_=>none
def oI(ev:Operand->Option Value):List (Nat×Operand)->Option (List (Nat×Value))
 | []=>some []
 | (i,x)::r=>match ev x,oI ev r with|some v,some vs=>some ((i,v)::vs)|_,_=>none
def qW(ev:Operand->Option Value):Option Operand->Option (Option Value)
 | none=>some none
 | some x=>match ev x with|some v=>some (some v)|none=>none
def convP(P:Program)(s d:TypeId)(x:Value)(K:Value->Prop):Prop:=
 match P.underlying s,P.underlying d,x with
 | some _,some (.int k),.int _ n=>K (.int k (k.wrap n))
 | some _,some .string,.string b=>K (.string b)
 | _,_,_=>False
def lenP(P:Program)(t:TypeId)(x:Value)(K:Value->Prop):Prop:=
 match P.underlying t,x with
 | some .string,.string s=>K (.int .i64 s.size)
 | some (.slice _),.slice _ n _=>K (.int .i64 n)
 | some (.array n _),_=>K (.int .i64 n)
 | _,_=>False
def mmP(isMax:Bool):Os->(Value->Prop)->Prop
 | [.int k x,.int _ y],K=>K (.int k (match isMax with|true=>if y>x then y else x|false=>if y<x then y else x))
 | [.int k x,.int _ y,.int _ z],K=>(match isMax with
  | true=>K (.int k (if z>(if y>x then y else x) then z else (if y>x then y else x)))
  | false=>K (.int k (if z<(if y<x then y else x) then z else (if y<x then y else x))))
 | _,_=>False
def vf(X:Ctx)(ev:Operand->Option Value)(pk:Operand->Operand->Operand->Option (Bool×Value×Value))(c:Option Prop)(op:Op)(K:Value->Prop):Prop:=
 match op with
 | .move x|.assign x=>bP (ev x) K
 | .pick a b d=>bP (pk a b d) λr=>K (sY b d r)
 | .nilCheck x=>bP (ev x) λv=>uY v c K
 | .binOp op t x y _=>bP (ev x) λa=>bP (ev y) λb=>binQ X.P op t a b c K
 | .unOp op _ x=>bP (ev x) λv=>unP op v K
 | .convert s d x=>bP (ev x) λv=>convP X.P s d v K
 | .fieldAddr t x f=>bP (ev x) λv=>yc X.P t v f K
 | .field t x f=>bP (ev x) λv=>fieldP X.P t v f c K
 | .indexAddr t x i=>bP (ev x) λv=>bP (ev i) λn=>yb X.P t v n c K
 | .index t x i=>bP (ev x) λv=>bP (ev i) λn=>ya X.P t v n c K
 | .extract t i=>bP (ev t) λv=>(match v with|.tuple vs=>bP (aT vs.toList i) K|_=>False)
 | .slice t x lo hi mx=>(match mx with
  | none=>bP (ev x) λv=>bP (qW ev lo) λl=>bP (qW ev hi) λh=>xY X.P t v l h c K
  | some mx=>(match lo,hi with
   | some lo,some hi=>bP (ev x) λv=>bP (ev lo) λl=>bP (ev hi) λh=>bP (ev mx) λm=>xZ X.P t v l h m c K
   | _,_=>False))
 | .build t ps=>bP (oI ev ps.toList) λvs=>bP (ye X.P t vs) λl=>K (.agg ⟨l⟩)
 | .makeInterface t x=>bP (ev x) λv=>(match X.P.underlying t with|some (.interface _)=>False|some _=>K (.iface t v)|none=>False)
 | .typeAssert x t u ok=>(match ok with
  | true=>bP (ev x) λv=>exT X.P u λy=>∃there:Bool,gt c (md X.P (Instr.typeAssert v t u true) (.tuple #[y,.bool there]))/\K (.tuple #[y,.bool there])
  | false=>False)
 | .makeFunc fn a b=>bP (hI ev a.toList) λva=>bP (hI ev b.toList) λvb=>K (.func fn ⟨va⟩ ⟨vb⟩)
 | .call cl=>(match cl.callee,cl.argTypes.toList with
  | .builtin .len,t::_=>bP (hI ev cl.args.toList) λvs=>(match vs with|v::_=>lenP X.P t v K|[]=>False)
  | .builtin .max,_=>bP (hI ev cl.args.toList) λvs=>mmP true vs K
  | .builtin .min,_=>bP (hI ev cl.args.toList) λvs=>mmP false vs K
  | _,_=>False)
 | _=>False
def Cb(P:Program):List TypeId->Option (List Sh)
 | []=>some []
 | t::r=>match pL P t,Cb P r with|some s,some ss=>some (s::ss)|_,_=>none
def vg(P:Program)(t:TypeId):Option (List Sh):=
 match P.underlying t with
 | some (.tuple ts)=>Cb P ts.toList
 | _=>match pL P t with|some s=>some [s]|none=>none
def vh(X:Ctx)(ev:Operand->Option Value)(c:Option Prop)(o:Oper)(H:aD)(K:Value->(aD->Prop)->Prop):Prop:=
 match o.op with
 | .load t x=>bP (ev x) λv=>(match v with
  | .pointer (some ⟨b,off,none⟩)=>(match aggT X.P t with
   | true=>uW X.P t λus=>(if us.length=X.P.cellsOf t then gt c (bE H b off us)/\K (.agg ⟨us⟩) λH'=>gt c (bE H' b off us) else False)
   | false=>exT X.P t λu=>gt c (aL H b off=some u)/\K u λH'=>gt c (aL H' b off=some u))
  | _=>False)
 | .lookup t x i ok=>bP (ev x) λm=>bP (ev i) λk=>(match X.P.underlying t with
  | some (.map _ e)=>exT X.P e λu=>(match ok with
   | true=>∃there:Bool,gt c (dj X.P (Instr.lookup t m k true) H (.tuple #[u,.bool there]))/\K (.tuple #[u,.bool there]) λH'=>gt c (dj X.P (Instr.lookup t m k true) H' (.tuple #[u,.bool there]))
   | false=>gt c (dj X.P (Instr.lookup t m k false) H u)/\K u λH'=>gt c (dj X.P (Instr.lookup t m k false) H' u))
  | _=>False)
 | .convert s d x=>bP (ev x) λv=>(match X.P.underlying d with
  | some .string=>∃b:Fa,gt c (dj X.P (convert s d v) H (.string b))/\K (.string b) λH'=>gt c (dj X.P (convert s d v) H' (.string b))
  | _=>False)
 | .entry it=>bP (ev it) λv=>(match nextOf X.nexts o.dst with
  | some (ks,xs)=>ks.ex λk=>xs.ex λx=>gt c (dj X.P (Instr.entry v) H (.tuple #[k,x]))/\K (.tuple #[k,x]) λH'=>gt c (dj X.P (Instr.entry v) H' (.tuple #[k,x]))
  | none=>False)
 | .call cl=>(match cl.callee with
  | .value (.func f)=>(match bJ f X.ext with
   | true=>bP (hI ev cl.args.toList) λvs=>bP (vg X.P o.type) λss=>lr ss λu=>gt c (pK X.P f ⟨vs⟩ u)/\K u λ_=>gt c (pK X.P f ⟨vs⟩ u)
   | false=>if bJ f X.calls=false then False else bP (hI ev cl.args.toList) λvs=>bP (vg X.P o.type) λss=>lr ss λu=>gt c (bV X.P f ⟨vs⟩ H u)/\K u λH'=>gt c (bV X.P f ⟨vs⟩ H' u))
  | .builtin .len=>bP (hI ev cl.args.toList) λvs=>∃n:Int,gt c (dj X.P (Builtin.len_ cl.argTypes o.type ⟨vs⟩) H (.int .i64 n))/\K (.int .i64 n) λH'=>gt c (dj X.P (Builtin.len_ cl.argTypes o.type ⟨vs⟩) H' (.int .i64 n))
  | _=>False)
 | _=>False
def eV(H:aD)(b:Nat):Nat->Os->Prop
 | _,[]=>True
 | o,_::r=>((aL H b o).isSome=true/\lZ H b o=false)/\eV H b (o+1) r
def fM(H:aD)(b:Nat):Nat->Os->aD
 | _,[]=>H
 | o,v::r=>fM (iJ H b o v) b (o+1) r
def cT:Os->Bool
 | []=>true
 | .agg _::_=>false
 | .tuple _::_=>false
 | _::r=>cT r
def panP(v:Value)(kp:KE)(H:aD):Prop:=match v with
 | .iface t u=>kp (.iface t u) H
 | _=>False
def vi(X:Ctx)(ev:Operand->Option Value)(o:Oper)(H:aD)(K:KE):Prop:=
 match o.op with
 | .alloc t=>bP (sZ X.P t) λz=>∀(b:Nat) (H':aD),b=H.size->H'=H.push (.cells ⟨z⟩ t)->K (.pointer (some ⟨b,0,none⟩)) H'
 | .box t x=>bP (ev x) λv=>∀(b:Nat) (H':aD),b=H.size->H'=H.push (.cells v.cells t)->K (.pointer (some ⟨b,0,none⟩)) H'
 | .buildSlice t n ps=>bP (oI ev ps.toList) λvs=>(match X.P.underlying t with
  | some (.slice e)=>bP (yf X.P e n vs) λl=>(if n*X.P.cellsOf e<=16777216 then ∀(b:Nat) (H':aD),b=H.size->H'=H.push (.cells ⟨l⟩ e)->K (.slice (some ⟨b,0,none⟩) n n) H' else False)
  | _=>False)
 | .makeMap _ r=>(match r with
  | none=>∀(b:Nat) (H':aD),b=H.size->H'=H.push (.map #[] 0)->K (.map (some b)) H'
  | some _=>False)
 | .store t x y=>bP (ev x) λa=>bP (ev y) λv=>(match a with
  | .pointer (some ⟨b,off,none⟩)=>
   nX X.P t <| if v.cells.toList.length=X.P.cellsOf t/\cT v.cells.toList=true then eV H b off v.cells.toList/\∀H':aD,H'=fM H b off v.cells.toList->K undef H' else False
  | _=>False)
 | .makeSlice t l c=>bP (ev l) λa=>bP (ev c) λb=>cB X.P (Instr.makeSlice t a b) H λv H'=>exT X.P t λu=>v=u/\K u H'
 | .mapUpdate t m k x|.insert t m k x=>bP (ev m) λa=>bP (ev k) λb=>bP (ev x) λv=>cB X.P (Instr.mapUpdate t a b v) H λ_ H'=>K undef H'
 | .mapEntry t m k=>bP (ev m) λa=>bP (ev k) λb=>cB X.P (Instr.mapEntry t a b) H λv H'=>(match X.P.underlying t with
  | some (.map _ e)=>exT X.P e λu=>∃n:Int,v=.tuple #[u,.int .i64 n]/\K (.tuple #[u,.int .i64 n]) H'
  | _=>False)
 | .entryStore t m k x=>bP (ev m) λa=>bP (ev k) λb=>bP (ev x) λv=>cB X.P (Instr.entryStore t a b v) H λ_ H'=>K undef H'
 | .range t x=>bP (ev x) λv=>cB X.P (Instr.range t v) H λu H'=>∃r:Nat,u=.pointer (some ⟨r,0,none⟩)/\K (.pointer (some ⟨r,0,none⟩)) H'
 | .next it s=>bP (ev it) λv=>cB X.P (Instr.next v s o.type) H λu H'=>(u=.tuple #[.bool false]/\K (.tuple #[.bool false]) H')\/∃k x:Value,u=.tuple #[.bool true,k,x]/\K (.tuple #[.bool true,k,x]) H'
 | .convert s d x=>bP (ev x) λv=>cB X.P (convert s d v) H λu H'=>exT X.P d λu'=>u=u'/\K u' H'
 | .call cl=>(match cl.callee with
  | .value (.func f)=>if bJ f X.calls=false then False else bP (hI ev cl.args.toList) λvs=>bP (vg X.P o.type) λss=>(match bJ f X.pan with
   | true=>ni X.P f ⟨vs⟩ H (λv H'=>lr ss λu=>v=u/\K u H') X.kp
   | false=>iL X.P f ⟨vs⟩ H λv H'=>lr ss λu=>v=u/\K u H')
  | .value x=>bP (ev x) λfv=>bP (hI ev cl.args.toList) λvs=>bP (vg X.P o.type) λss=>(match fv with
   | .func (.func f) first cap=>bJ f X.calls=true/\iL X.P f ⟨first.toList++vs++cap.toList⟩ H λv H'=>lr ss λu=>v=u/\K u H'
   | .func (.yield l) ⟨[]⟩ ⟨[]⟩=>fL X.P l vs H λv H'=>lr ss λu=>v=u/\K u H'
   | _=>False)
  | .builtin .append=>bP (hI ev cl.args.toList) λvs=>cB X.P (Builtin.append_ cl.argTypes o.type ⟨vs⟩) H λv H'=>∃(a:KQ) (n c:Nat),v=.slice a n c/\K (.slice a n c) H'
  | .builtin .copy=>bP (hI ev cl.args.toList) λvs=>cB X.P (Builtin.copy_ cl.argTypes o.type ⟨vs⟩) H λv H'=>∃n:Int,v=.int .i64 n/\K (.int .i64 n) H'
  | .builtin .delete=>bP (hI ev cl.args.toList) λvs=>cB X.P (Builtin.delete_ cl.argTypes o.type ⟨vs⟩) H λv H'=>K v H'
  | .builtin .clear=>bP (hI ev cl.args.toList) λvs=>cB X.P (Builtin.clear_ cl.argTypes o.type ⟨vs⟩) H λv H'=>K v H'
  | _=>False)
 | .panic x=>bP (ev x) λv=>panP v X.kp H
 | _=>False
def basicT(P:Program)(t:TypeId):Bool:=match P.underlying t with|some .string|some (.slice _)|some (.array _ _)=>true|_=>false
def intOrStr(P:Program)(t:TypeId):Bool:=match P.underlying t with|some (.int _)|some .string=>true|_=>false
def me(X:Ctx)(op:Op):Kind:=
 match op with
 | .move _|.assign _|.pick _ _ _|.nilCheck _|.binOp _ _ _ _ _|.unOp _ _ _|.fieldAddr _ _ _|.field _ _ _|.indexAddr _ _ _|.index _ _ _|.extract _ _|.slice _ _ _ _ _|.build _ _|.makeInterface _ _|.typeAssert _ _ _ _|.makeFunc _ _ _=>.P
 | .convert s d _=>match intOrStr X.P s,X.P.underlying d with
  | true,some (.int _)=>.P
  | true,some .string=>(match X.P.underlying s with|some .string=>.P|_=>.W)
  | false,some .string=>.R
  | _,_=>.W
 | .load _ _|.lookup _ _ _ _|.entry _=>.R
 | .call cl=>match cl.callee,cl.argTypes.toList with
  | .builtin .len,t::_=>if basicT X.P t then .P else .R
  | .builtin .max,_|.builtin .min,_=>.P
  | .value (.func f),_=>if bJ f X.quiet then .R else .W
  | _,_=>.W
 | _=>.W
abbrev aB:=Value.int .i64
abbrev PA(b o:Nat):Value:=.pointer (some ⟨b,o,none⟩)
abbrev IF(c:Bool)(p q:Prop):Prop:=(c=true->p)/\(c=false->q)
abbrev AL(H:aD)(cs:Os)(t:Nat)(k:Nat->aD->Prop):Prop:=∀(b:Nat) (H':aD),b=H.size->H'=H.push (.cells ⟨cs⟩ t)->k b H'
abbrev ST(H:aD)(b o:Nat)(vs:Os)(k:aD->Prop):Prop:=eV H b o vs/\∀H':aD,H'=fM H b o vs->k H'
abbrev Z0:Nat->Int:=λ_=>0
theorem bW.refl(w:World):bW w w:=⟨rfl,rfl,rfl⟩
theorem bW.trans{a b c:World}(h:bW a b)(k:bW b c):bW a c:=⟨k.os.trans h.os,k.tape.trans h.tape,k.output.trans h.output⟩
theorem cell?_cellAt(w:World)(b o:Nat):w.cell? ⟨b,o,none⟩=aL w.heap b o:=by
 simp only[World.cell?,aL]
 cases w.heap[b]? with
 | none=>rfl
 | some x=>cases x <;> simp
theorem frozen?_frozenAt(w:World)(b o:Nat):w.frozen? ⟨b,o,none⟩=lZ w.heap b o:=rfl
theorem yg(w:World)(b o:Nat)(v:Value):(w.setCell ⟨b,o,none⟩ v).heap=iJ w.heap b o v:=by
 simp only[World.setCell,iJ];rfl
theorem ft{P:Program}{t:TypeId}{d:TypeDesc}(h:P.underlying t=some d)(w:World):(underlying t).run P w=.ok d w:=by
 simp[underlying,h]
theorem mf(P:Program)(t:TypeId)(h:P.info? t≠none)(w:World):(sizeOf t).run P w=.ok (P.cellsOf t) w:=by
 cases hi:P.info? t with
 | none=>exact V2 hi h
 | some i=>simp[sizeOf,typeInfo,hi,Program.cellsOf]
theorem MH{P:Program}{t:TypeId}{d:TypeDesc}(h:P.underlying t=some d):P.info? t≠none:=by
 intro h0;simp[Program.underlying,h0]at h
theorem eI{α:Type}(l:List α)(n:Nat):aT l n=l[n]?:=by
 induction l generalizing n with
 | nil=>simp[aT]
 | cons a r ih=>cases n <;> simp[aT,ih]
theorem yh{α:Type}(l:List α)(n:Nat)(x:α):iq l n x=l.set n x:=by
 induction l generalizing n with
 | nil=>simp[iq]
 | cons a r ih=>cases n <;> simp[iq,ih]
theorem yi(a b:Value):pN true a b=a:=by unfold pN;split <;> rfl
theorem yj(a b:Value):pN false a b=b:=by unfold pN;split <;> rfl
section
variable {X:Ctx}{ρ:Operand->Value}{ev:Operand->Option Value}{pk:Operand->Operand->Operand->Option (Bool×Value×Value)}{c:Option Prop}{G:Prop}
theorem bK{α:Type}{o:Option α}{K:α->Prop}(h:bP o K):∃v,o=some v/\K v:=by
 cases o with
 | none=>exact h.elim
 | some v=>exact⟨v,rfl,h⟩
theorem nj(a:∀x v,ev x=some v->G->ρ x=v):∀(l:List Operand) (vs:Os),hI ev l=some vs->G->l.map ρ=vs
 | [],vs,h,_=>by simp[hI]at h;simp[h]
 | x::r,vs,h,g=>by
  simp only[hI]at h
  cases h1:ev x with
  | none=>simp[h1]at h
  | some v=>cases h2:hI ev r with
   | none=>simp[h1,h2]at h
   | some vs'=>
    simp only[h1,h2,Option.some.injEq]at h;subst h;simp[a x v h1 g,nj a r vs' h2 g]
theorem yk(a:∀x v,ev x=some v->G->ρ x=v):∀(l:List (Nat×Operand)) (vs:List (Nat×Value)),oI ev l=some vs->G->l.map (λp=>(p.1,ρ p.2))=vs
 | [],vs,h,_=>by simp[oI]at h;simp[h]
 | (i,x)::r,vs,h,g=>by
  simp only[oI]at h
  cases h1:ev x with
  | none=>simp[h1]at h
  | some v=>cases h2:oI ev r with
   | none=>simp[h1,h2]at h
   | some vs'=>
    simp only[h1,h2,Option.some.injEq]at h;subst h;simp[a x v h1 g,yk a r vs' h2 g]
theorem Cc(a:∀x v,ev x=some v->G->ρ x=v)(o:Option Operand)(v:Option Value)(h:qW ev o=some v)(g:G):o.map ρ=v:=by
 cases o with
 | none=>simp[qW]at h;simp[h]
 | some x=>cases h1:ev x with
  | none=>simp[qW,h1]at h
  | some u=>simp[qW,h1]at h;subst h;simp[a x u h1 g]
theorem MI{P:Program}(op:BinOp)(t:TypeId)(k:IntKind)(x y:Int){K:Value->Prop}(a:∀p,gt c p->G->p)(h:xW op k x y c K) :
  ∃v,K v/\(G->∀w,(Go.binOp op t (.int k x) (.int k y)).run P w=.ok v w):=by
 cases op <;> simp only[xW]at h
 case quo=>exact⟨_,h.2,λg w=>by simp[Go.binOp,Op.intDiv,a _ h.1 g]⟩
 case rem=>exact⟨_,h.2,λg w=>by simp[Go.binOp,Op.intDiv,a _ h.1 g]⟩
 case shl=>exact⟨_,h.2,λg w=>by have:=a _ h.1 g;simp[Go.binOp,Op.shift];omega⟩
 case shr=>exact⟨_,h.2,λg w=>by have:=a _ h.1 g;simp[Go.binOp,Op.shift];omega⟩
 case eql=>exact⟨_,h,λ_ w=>by simp[Go.binOp,Op.intCmp];by_cases e:x=y <;> simp[e]⟩
 case neq=>exact⟨_,h,λ_ w=>by simp[Go.binOp,Op.intCmp];by_cases e:x=y <;> simp[e]⟩
 all_goals exact⟨_,h,λ_ w=>by simp[Go.binOp,Op.intArith,Op.intBits,Op.intCmp,aX]⟩
theorem MJ{P:Program}(op:BinOp)(t:TypeId)(x y:Fa){K:Value->Prop}(a:∀p,gt c p->G->p)(h:xX op x y c K) :
  ∃v,K v/\(G->∀w,(Go.binOp op t (.string x) (.string y)).run P w=.ok v w):=by
 cases op <;> simp only[xX]at h
 case add=>exact⟨_,h.2,λg w=>by
  have:=a _ h.1 g;simp only[Go.binOp,Op.stringOp];rw[nO];rfl⟩
 all_goals exact⟨_,h,λ_ w=>by simp[Go.binOp,Op.stringOp]⟩
theorem yl(op:BinOp)(t:TypeId)(f e:Operand)(a b:Value)(P:Program)(w:World)(d:a≠.nilIface\/b≠.nilIface)(c:∀x y,a≠.agg x\/b≠.agg y):(eqGuard op t f e a b).run P w=.ok () w:=by
 unfold eqGuard
 cases op
 case eql=>
  rw[V0 (by simp)]
  split
  .simp at d
  .rename_i x y;have:=c x y;simp at this
  .rfl
 case neq=>
  rw[V0 (by simp)]
  split
  .simp at d
  .rename_i x y;have:=c x y;simp at this
  .rfl
 all_goals rfl
theorem ML(t:TypeId)(x y:Value):Op.equal t x y=Op.equalIn (9999+1) t x y:=rfl
theorem eqNil_in{P:Program}{t:TypeId}{d:TypeDesc}{x y:Value}{b:Bool}(hd:P.underlying t=some d)(h:pM (some d) x y=some b)(n:Nat)(w:World) :
  (Op.equalIn (n+1) t x y).run P w=.ok b w/\(x≠.nilIface\/y≠.nilIface)/\(∀u v,x≠.agg u\/y≠.agg v):=by
 unfold pM at h
 split at h
 all_goals (try cases h)
 all_goals (rename_i c;cases c)
 case h_2=>rename_i a;cases a <;> simp[Op.equalIn,ft hd]
 case h_3=>rename_i a _ _ _ _;cases a <;> simp[Op.equalIn,ft hd]
 case h_4=>rename_i a;cases a <;> simp[Op.equalIn,ft hd]
 all_goals simp[Op.equalIn,ft hd]
theorem Cd{P:Program}{t:TypeId}{x y:Value}{b:Bool}(h:pM (P.underlying t) x y=some b)(e a:Operand)(op:BinOp)(w:World) :
  (Op.equal t x y).run P w=.ok b w/\(eqGuard op t e a x y).run P w=.ok () w:=by
 cases hd:P.underlying t with
 | none=>rw[hd]at h;simp[pM]at h
 | some d=>
  rw[hd]at h;rw[ML];obtain⟨f,c,i⟩:=eqNil_in hd h 9999 w;exact⟨f,yl _ _ _ _ _ _ _ _ c i⟩
end
section
variable {X:Ctx}{ρ:Operand->Value}{ev:Operand->Option Value}{c:Option Prop}{G:Prop}{P:Program}{K:Value->Prop}
theorem MM(op:BinOp)(t:TypeId)(x y:Value)(i f:Operand)(j:∀p,gt c p->G->p)(h:binP P op t x y c K) :
  ∃v,K v/\(G->∀w,(do eqGuard op t i f x y;Go.binOp op t x y:Sem Value).run P w=.ok v w):=by
 unfold binP at h
 split at h
 .rename_i k a s b;have m:∀w,(eqGuard op t i f (.int k a) (.int s b)).run P w=.ok () w:=λw=>yl _ _ _ _ _ _ _ _ (by simp) (by simp)
  split at h
  .rename_i n;subst n;obtain⟨v,d,e⟩:=MI (P:=P) op t k a b j h;exact⟨v,d,λg w=>by simp[m,e g w]⟩
  .rename_i n
   split at h
   .exact⟨_,h.2,λg w=>by have:=j _ h.1 g;simp[m,Go.binOp,Op.shift];omega⟩
   .exact⟨_,h.2,λg w=>by have:=j _ h.1 g;simp[m,Go.binOp,Op.shift];omega⟩
   .exact h.elim
 .rename_i a b;have m:∀w,(eqGuard op t i f (.string a) (.string b)).run P w=.ok () w:=λw=>yl _ _ _ _ _ _ _ _ (by simp) (by simp)
  obtain⟨v,d,e⟩:=MJ (P:=P) op t a b j h;exact⟨v,d,λg w=>by simp[m,e g w]⟩
 .rename_i hi hs
  split at h
  .rename_i b hb;refine⟨_,h,λ_ w=>?_⟩
   obtain⟨d,e⟩:=Cd hb i f .eql w;have:(Go.binOp .eql t x y).run P w=.ok (.bool b) w:=by
    unfold pM at hb
    split at hb <;> cases hb <;> (show Sem.run P (do pure (Value.bool (<-Op.equal t _ _))) w=_;simp[d])
   simp[e,this]
  .rename_i b hb;refine⟨_,h,λ_ w=>?_⟩
   obtain⟨d,e⟩:=Cd hb i f .neq w;have:(Go.binOp .neq t x y).run P w=.ok (.bool (!b)) w:=by
    unfold pM at hb
    split at hb <;> cases hb <;> (show Sem.run P (do pure (Value.bool (!(<-Op.equal t _ _)))) w=_;simp[d])
   simp[e,this]
  .obtain⟨b,d,e⟩:=h;exact⟨_,e,λg w=>j _ d g i f w⟩
  .exact h.elim
theorem MN(op:UnOp)(x:Value)(h:unP op x K):∃v,K v/\∀w,(Op.unary op x).run P w=.ok v w:=by
 unfold unP at h
 split at h
 .exact⟨_,h,λw=>by simp[Op.unary,Op.intArith]⟩
 .exact⟨_,h,λw=>by simp[Op.unary,Op.intBits,aX]⟩
 .exact⟨_,h,λw=>by simp[Op.unary]⟩
 .exact h.elim
theorem pQ(k:IntKind)(n:Int)(y:Nat)(code:BoundsCode)(w:World)(h:0<=n/\n<=(y:Int)):(Instr.sliceBound (.int k n) y code).run P w=.ok n.toNat w:=by
 simp[Instr.sliceBound,asIntOf,h]
theorem ym(c:Bool)(len cap:Nat)(lo hi:Option Value)(l h:Int)(w:World)
  (a:lo=none/\l=0\/∃k,lo=some (.int k l)) (b:hi=none/\h=(len:Int)\/∃k,hi=some (.int k h))
  (hb:0<=l/\l<=h/\h<=(cap:Int)):(Instr.sliceBounds c len cap lo hi none).run P w=.ok (l.toNat,h.toNat,cap) w:=by
 unfold Instr.sliceBounds
 rcases b with ⟨rfl,rfl⟩|⟨k,rfl⟩ <;> rcases a with ⟨rfl,rfl⟩|⟨d,rfl⟩
 .simp
 .simp [pQ d l len _ w ⟨hb.1,hb.2.1⟩]
 .simp [pQ k h cap _ w ⟨by omega,hb.2.2⟩]
 .have:=pQ (P:=P) d l h.toNat .sliceB w ⟨hb.1,by omega⟩;simp[pQ k h cap _ w ⟨by omega,hb.2.2⟩,this]
theorem vj{x:Value}{Kn:Int->Prop}(h:iN x Kn):∃k n,x=.int k n/\Kn n:=by
 unfold iN at h
 split at h
 .exact⟨_,_,rfl,h⟩
 .exact h.elim
theorem yn{α:Type}{lo hi:Option Value}{len:Int}{go:Int->Int->Prop}
  (c:match lo,hi with
   | some l,some h=>iN l λl=>iN h λh=>go l h
   | some l,none=>iN l λl=>go l len
   | none,some h=>iN h λh=>go 0 h
   | none,none=>go 0 len) (_:α) :
  ∃l h,go l h/\(lo=none/\l=0\/∃k,lo=some (.int k l))/\(hi=none/\h=len\/∃k,hi=some (.int k h)):=by
 cases lo with
 | none=>cases hi with
  | none=>exact⟨0,len,c,.inl ⟨rfl,rfl⟩,.inl ⟨rfl,rfl⟩⟩
  | some b=>
   obtain⟨k,n,hb,c⟩:=vj c;exact⟨0,n,c,.inl ⟨rfl,rfl⟩,.inr ⟨k,by rw[hb]⟩⟩
 | some a=>cases hi with
  | none=>
   obtain⟨k,n,d,c⟩:=vj c;exact⟨n,len,c,.inr ⟨k,by rw[d]⟩,.inl ⟨rfl,rfl⟩⟩
  | some b=>
   obtain⟨k,n,d,c⟩:=vj c;obtain⟨e,f,hb,c⟩:=vj c;exact⟨n,f,c,.inr ⟨k,by rw[d]⟩,.inr ⟨e,by rw[hb]⟩⟩
theorem pR{t:TypeId}{q:Prop}(h:nX P t q):P.info? t≠none/\P.cellsOf t≠0/\q:=by
 unfold nX at h
 split at h
 .exact h.elim
 .rename_i n a;refine⟨λh0=>?_,by omega,h⟩
  simp[Program.cellsOf,h0]at a
theorem MO(t:TypeId)(x:Value)(lo hi:Option Value)(u:∀p,gt c p->G->p)(h:xY P t x lo hi c K) :
  ∃v,K v/\(G->∀w,(Instr.sliceAt t x lo hi none).run P w=.ok v w):=by
 unfold xY at h
 split at h
 .rename_i s k;obtain⟨l,j,⟨f,i⟩,m,d⟩:=yn h ();refine⟨_,i,λg w=>?_⟩
  have hb:=ym (P:=P) false s.size s.size lo hi l j w m d (u _ f g);simp[Instr.sliceAt,Instr.slice,ft k,hb]
 .rename_i e a len cap k;obtain⟨b,y,h⟩:=pR h;obtain⟨l,j,⟨f,i⟩,m,d⟩:=yn h ();refine⟨_,i,λg w=>?_⟩
  have hb:=ym (P:=P) true len cap lo hi l j w m d (u _ f g);simp[Instr.sliceAt,Instr.slice,ft k,hb,mf P e b,cq]
 .rename_i n e a k;obtain⟨b,y,h⟩:=pR h;obtain⟨l,j,⟨f,i⟩,m,d⟩:=yn h ();refine⟨_,i,λg w=>?_⟩
  have hb:=ym (P:=P) false n n lo hi l j w m d (u _ f g);simp[Instr.sliceAt,Instr.sureAddr,ft k,hb,mf P e b,cq]
  split <;> rfl
 .exact h.elim
theorem MQ(t:TypeId)(x l h m:Value)(d:∀p,gt c p->G->p)(hs:xZ P t x l h m c K) :
  ∃v,K v/\(G->∀w,(Instr.sliceAt t x (some l) (some h) (some m)).run P w=.ok v w):=by
 unfold xZ at hs
 split at hs
 .rename_i e a len cap k1 l k2 h k3 m f;obtain⟨b,i,hs⟩:=pR hs;refine⟨_,hs.2,λg w=>?_⟩
  obtain⟨b1,b2,b3,b4⟩:=d _ hs.1 g;have r1:=pQ (P:=P) k3 m cap .slice3Acap w ⟨by omega,b4⟩;have r2:=pQ (P:=P) k2 h m.toNat .slice3B w ⟨by omega,by omega⟩;have r3:=pQ (P:=P) k1 l h.toNat .slice3C w ⟨b1,by omega⟩;simp[Instr.sliceAt,Instr.slice,Instr.sliceBounds,ft f,r1,r2,r3,mf P e b,cq]
 .exact hs.elim
theorem Ce{l:cU}{Q:Value->Prop}(h:l.ex Q):∃v,Q v:=by
 cases l <;> simp only[cU.ex]at h
 case slice=>obtain⟨a,n,c,h⟩:=h;exact⟨_,h⟩
 case fnv=>obtain⟨a,c,h⟩:=h;exact⟨_,h⟩
 case adr=>obtain⟨a,c,h⟩:=h;exact⟨_,h⟩
 all_goals (obtain⟨a,h⟩:=h;exact⟨_,h⟩)
theorem td:∀{ls:List cU} {Q:Os->Prop},exLs ls Q->∃b,Q b
 | [],_,h=>⟨[],h⟩
 | .vec k n::r,_,h=>by
  obtain⟨f,c⟩:=h;obtain⟨b,a⟩:=td (ls:=r) c;exact⟨_,a⟩
 | .int k::r,_,h|.bool::r,_,h|.str::r,_,h|.ptr::r,_,h|.slice::r,_,h|.map::r,_,h|.raw::r,_,h|.fnv::r,_,h|.adr::r,_,h=>by
  obtain⟨v,d⟩:=Ce h;obtain⟨b,a⟩:=td (ls:=r) d;exact⟨_,a⟩
theorem oJ{s:Sh}{Q:Value->Prop}(h:s.ex Q):∃v,Q v:=by
 cases s with
 | one l=>exact Ce h
 | agg ls=>obtain⟨a,h⟩:=td (ls:=ls) h;exact⟨_,h⟩
theorem Cf:∀{ls:List Sh} {Q:Os->Prop},pI ls Q->∃b,Q b
 | [],_,h=>⟨[],h⟩
 | l::r,_,h=>by
  obtain⟨v,c⟩:=oJ (s:=l) h;obtain⟨b,a⟩:=Cf (ls:=r) c;exact⟨_,a⟩
theorem te{ls:List Sh}{Q:Value->Prop}(h:lr ls Q):∃v,Q v:=by
 match ls,h with
 | [],h=>exact⟨_,h⟩
 | [s],h=>exact oJ (s:=s) h
 | s::t::r,h=>
  have b:pI (s::t::r) λa=>Q (.tuple ⟨a⟩):=h
  obtain⟨a,h⟩:=Cf b;exact⟨_,h⟩
theorem pS{t:TypeId}{Q:Value->Prop}(h:exT P t Q):∃v,Q v:=by
 unfold exT at h
 split at h
 .exact oJ h
 .exact h.elim
theorem bAt_get(s:Fa)(n:Int)(h:0<=n/\n<(s.size:Int)):∃b,(if 0<=n then s[n.toNat]? else none)=some b/\(b.toNat:Int)=bAt s n.toNat:=by
 have a:n.toNat<s.size:=by omega
 refine⟨s[n.toNat],?_,?_⟩
 .rw [V1 h.1];exact getElem?_pos s n.toNat a
 .unfold bAt;have hd:n.toNat<s.data.size:=a;rw[Array.getElem?_eq_getElem hd];rfl
theorem MT(t:TypeId)(x i:Value)(e:∀p,gt c p->G->p)(h:ya P t x i c K) :
  ∃v,K v/\(G->∀w,(Instr.index t x i).run P w=.ok v w):=by
 unfold ya at h
 split at h
 .rename_i s k n f;refine⟨_,h.2,λg w=>?_⟩
  obtain⟨b,d,a⟩:=bAt_get s n (e _ h.1 g);simp only[Instr.index,asIntOf,Sem.run_bind,Sem.run_pure,Result.andThen_ok,ft f,d,a]
 .split at h
  .obtain⟨v,d,a⟩:=oJ h;exact⟨v,a,λg w=>e _ d g w⟩
  .exact h.elim
 .exact h.elim
theorem tf(b o n:Nat):(⟨b,o,none⟩:Addr).add n=⟨b,o+n,none⟩:=by
 unfold Addr.add
 split
 .rename_i h;simp[h]
 .rfl
theorem MV(t:TypeId)(x i:Value)(f:∀p,gt c p->G->p)(h:yb P t x i c K) :
  ∃v,K v/\(G->∀w,(Instr.indexAt t x i).run P w=.ok v w):=by
 unfold yb at h
 split at h
 .rename_i e a len _ k n j;obtain⟨d,y,m,b,o,A,u⟩:=pR h;refine⟨_,u,λg w=>?_⟩
  have hb:=f _ m g;have s:=f _ A g;subst s;simp[Instr.indexAt,asIntOf,ft j,hb,mf P e d,tf,Ca]
 .rename_i len e b o k n j;obtain⟨d,y,h⟩:=pR h;refine⟨_,h.2,λg w=>?_⟩
  have hb:=f _ h.1 g;simp[Instr.indexAt,Instr.sureAddr,asIntOf,ft j,hb,mf P e d,tf,Ca]
 .exact h.elim
theorem MW(t:TypeId)(x:Value)(f:Nat)(h:yc P t x f K) :
  ∃v,K v/\∀w,(Instr.fieldAt t x f).run P w=.ok v w:=by
 unfold yc at h
 split at h
 .rename_i i b o k
  split at h
  .rename_i j d;obtain⟨a,e,h⟩:=pR h;refine⟨_,h,λw=>?_⟩
   rw[eI]at d;have c:i[f]?=some j:=by simpa using d
   simp[Instr.fieldAt,ft k,c,Instr.sureAddr,fieldPlace,mf P _ a,e,tf]
  .exact h.elim
 .exact h.elim
theorem Cg(t:TypeId)(w:World)(h:P.underlying t≠none):(isAgg t).run P w=.ok (aggT P t) w:=by
 cases hd:P.underlying t with
 | none=>exact V2 hd h
 | some d=>cases d <;> simp[isAgg,ft hd,aggT,hd]
theorem MX{t:TypeId}(h:aggT P t=true):P.underlying t≠none:=by
 intro h0;simp[aggT,h0]at h
end
section
variable {X:Ctx}{ρ:Operand->Value}{ev:Operand->Option Value}{c:Option Prop}{G:Prop}{P:Program}{K:Value->Prop}
theorem vk{t:TypeId}{z:Os}(h:sZ P t=some z):∃v,v.cells.toList=z/\(∀w,(zeroValue t).run P w=.ok v w)/\P.info? t≠none:=by
 unfold sZ at h
 split at h
 .rename_i i hi
  split at h
  .rename_i v a
   cases h
   exact⟨v,rfl,λw=>by simp[zeroValue,typeInfo,hi,a],by simp[hi]⟩
  .cases h
 .cases h
theorem Ch(off:Nat):∀(l:Os) (k:Nat) (cells:Array Value),
  ((l.zipIdx k).foldl (λcs (x:Value×Nat)=>cs.setIfInBounds (off+x.2) x.1) cells).toList=uZ cells.toList (off+k) l
 | [],_,_=>rfl
 | v::r,k,cells=>by
  simp only[List.zipIdx_cons,List.foldl_cons,uZ];rw[Ch off r (k+1)];simp[yh,Ws]
theorem vl(a:Nat->Option (Nat×Nat)):∀(parts:List (Nat×Value)) (cells:Array Value) (l:Os),
  pP a cells.toList parts=some l->Instr.fill a cells parts=some ⟨l⟩
 | [],cells,l,h=>by simp[pP]at h;subst h;simp[Instr.fill]
 | (i,v)::rest,cells,l,h=>by
  simp only[pP]at h;simp only[Instr.fill]
  cases hp:a i with
  | none=>simp[hp]at h
  | some p=>
   obtain⟨off,size⟩:=p;simp only[hp]at h ⊢
   split at h
   .rename_i b;have c:v.cells.size=size:=by simpa using b.1
    have d:off+v.cells.size<=cells.size:=by have:=b.2;simp at this;omega
    rw[V0 (by simp;exact⟨c,by omega⟩)];have:=Ch off v.cells.toList 0 cells;refine vl a rest _ l ?_;rw[<-h];congr 1;rw[<-Array.foldl_toList,Array.toList_zipIdx];simpa using this
   .cases h
theorem Ci:∀(fs:List Field) (w:World),ve P fs=true->
  (fs.mapM (m:=Sem) λf=>do pure (f.offset,<-sizeOf f.type)).run P w=.ok (fs.map λf=>(f.offset,P.cellsOf f.type)) w
 | [],w,_=>by simp
 | f::r,w,h=>by
  simp only[ve,V7]at h;have hi:P.info? f.type≠none:=by intro h0;simp[h0]at h
  have a:=Ci r w h.2;simp only[bind_pure_comp]at a;simp[List.mapM_cons,mf P _ hi,a]
theorem MY(t:TypeId)(parts:List (Nat×Value))(l:Os)(h:ye P t parts=some l)(w:World) :
  (Instr.build t parts.toArray).run P w=.ok (.agg ⟨l⟩) w:=by
 unfold ye at h
 split at h
 .rename_i z b j s;obtain⟨v,d,a,_⟩:=vk j
  split at h
  .rename_i y;have A:=Ci (P:=P) b.toList w y;have k:Instr.fill (λx=>(b.map λf=>(f.offset,P.cellsOf f.type))[x]?) v.cells parts=some ⟨l⟩:=by
    have:=vl (offOf P b.toList) parts v.cells l (by rw[d];exact h);rw[<-this];congr 1;funext i;simp only[offOf,eI]
    cases hfi:b.toList[i]? with
    | none=>simp at hfi ⊢;exact hfi
    | some f=>have c:b[i]?=some f:=by simpa using hfi
              simp[c]
   have u:(b.mapM (m:=Sem) λf=>do pure (f.offset,<-sizeOf f.type)).run P w=.ok (b.map λf=>(f.offset,P.cellsOf f.type)) w:=by
    rw[Array.mapM_eq_mapM_toList];simp only[Sem.run_map,A,Result.andThen_ok];congr 1;apply Array.ext';simp
   simp only[Instr.build,Sem.run_bind,a,Result.andThen_ok,ft s,u];simp only[k,Sem.run_pure]
  .cases h
 .rename_i z n e j s;obtain⟨v,d,a,_⟩:=vk j
  split at h
  .rename_i i hi;have k:=vl _ parts v.cells l (by rw[d];exact h);simp only[Instr.build,Sem.run_bind,a,Result.andThen_ok,ft s,mf P e (by simp[hi])];simp[k]
  .cases h
 .cases h
theorem MZ(o:Oper)(x:Operand)(d:o.op=.nilCheck x)(m:∀p,gt c p->G->p)(h:uY (ρ x) c K) :
  ∃v,K v/\(G->∀w,(execOp ρ o).run P w=.ok (.value v) w):=by
 unfold uY at h
 split at h
 .rename_i a e;have key:∃p,gt c p/\(p->a=some ⟨aU a,aS a,none⟩)/\K (.pointer (some ⟨aU a,aS a,none⟩)):=by
   cases c with
   | none=>exact⟨_,(yd.1 h).1,id,(yd.1 h).2⟩
   | some c=>exact⟨isA a,h.1,isA_iff.1,h.2⟩
  obtain⟨p,k,j,i⟩:=key;refine⟨_,i,λg w=>?_⟩
  have:=j (m _ k g);generalize aU a=b at *;generalize aS a=o' at *;subst this;simp[execOp,d,e]
 .rename_i f a b e;exact⟨_,h,λ_ w=>by simp[execOp,d,e]⟩
 .rename_i f a b e;exact⟨_,h,λ_ w=>by simp[execOp,d,e]⟩
 .exact h.elim
theorem Na(s d:TypeId)(x:Value)(h:convP P s d x K):∃v,K v/\∀w,(convert s d x).run P w=.ok v w:=by
 unfold convP at h
 split at h
 .rename_i a k c n hs hd;exact⟨_,h,λw=>by cases a <;> simp[convert,ft hs,ft hd,Conv.intToInt]⟩
 .rename_i a b hs hd;exact⟨_,h,λw=>by cases a <;> simp[convert,ft hs,ft hd]⟩
 .exact h.elim
theorem Nb(t:TypeId)(x:Value)(ts:Array TypeId)(f:TypeId)(args:Array Value)(c:ts[0]?=some t)(b:args[0]?=some x)(h:lenP P t x K) :
  ∃v,K v/\∀w,(Builtin.len_ ts f args).run P w=.ok v w:=by
 unfold lenP at h
 split at h
 .rename_i s d;exact⟨_,h,λw=>by simp[Builtin.len_,c,b,ft d,goInt]⟩
 .rename_i e a n i d;exact⟨_,h,λw=>by simp[Builtin.len_,c,b,ft d,goInt]⟩
 .rename_i x n e d;exact⟨_,h,λw=>by cases x <;> simp[Builtin.len_,c,b,ft d,goInt]⟩
 .exact h.elim
theorem Nc(vs:Os)(ts:Array TypeId)(t:TypeId)(h:mmP true vs K):∃v,K v/\∀w,(Builtin.max_ ts t ⟨vs⟩).run P w=.ok v w:=by
 unfold mmP at h
 split at h
 .exact⟨_,h,λw=>by simp[Builtin.max_,Builtin.max2]⟩
 .exact⟨_,h,λw=>by simp[Builtin.max_,Builtin.max2]⟩
 .exact h.elim
theorem Nd(vs:Os)(ts:Array TypeId)(t:TypeId)(h:mmP false vs K):∃v,K v/\∀w,(Builtin.min_ ts t ⟨vs⟩).run P w=.ok v w:=by
 unfold mmP at h
 split at h
 .exact⟨_,h,λw=>by simp[Builtin.min_,Builtin.min2]⟩
 .exact⟨_,h,λw=>by simp[Builtin.min_,Builtin.min2]⟩
 .exact h.elim
theorem Nf(op:BinOp)(t:TypeId)(x y:Value)(d a:Operand)(e:∀p,gt c p->G->p)(h:binQ P op t x y c K) :
  ∃v,K v/\(G->∀w,(do eqGuard op t d a x y;Go.binOp op t x y:Sem Value).run P w=.ok v w):=by
 unfold binQ at h
 split at h
 .obtain⟨b,i,f⟩:=h;exact⟨_,f,λg w=>e _ i g d a w⟩
 .exact MM op t x y d a e h
theorem Cj(o:Oper){pk:Operand->Operand->Operand->Option (Bool×Value×Value)}(E:∀p,gt c p->G->p)(j:∀x v,ev x=some v->G->ρ x=v)
  (J:∀a b d r,pk a b d=some r->G->ρ a=.bool r.1/\(r.1=true->ρ b=r.2.1)/\(r.1=false->ρ d=r.2.2)) (C:∀o v,o=.const v->ρ o=v) (Z:P=X.P)
  (h:vf X ev pk c o.op K):∃v,K v/\(G->∀w,(execOp ρ o).run P w=.ok (.value v) w):=by
 subst Z
 cases hop:o.op <;> rw[hop]at h <;> simp only[vf]at h <;> (try exact h.elim)
 case move x=>obtain⟨v,F,h⟩:=bK h;exact⟨v,h,λg w=>by simp[execOp,hop,j x v F g]⟩
 case assign x=>obtain⟨v,F,h⟩:=bK h;exact⟨v,h,λg w=>by simp[execOp,hop,j x v F g]⟩
 case pick a b d=>
  obtain⟨r,W,h⟩:=bK h;refine⟨_,h,λg w=>?_⟩
  obtain⟨k,n,S⟩:=J a b d r W g;obtain⟨q,x,y⟩:=r;have hb:∀u,b=.const (.bool u)->ρ b=.bool u:=λu e=>C b _ e
  have hd:∀u,d=.const (.bool u)->ρ d=.bool u:=λu e=>C d _ e
  cases q
  .have:sY b d (false,x,y)=ρ d:=by
    unfold sY;rw[S rfl]
    split
    .split
     .rename_i e;dsimp only at e ⊢;rw[e];rfl
     .exact yj _ _
    .split
     .split
      .have:=hd false rfl;rw[S rfl]at this;dsimp only at this ⊢;rw[this];rfl
      .exact yj _ _
     .exact yj _ _
   simp[execOp,hop,k,asBool,this]
  .have:sY b d (true,x,y)=ρ b:=by
    unfold sY;rw[n rfl]
    split
    .split
     .have:=hb true rfl;rw[n rfl]at this;dsimp only at this ⊢;rw[this];rfl
     .exact yi _ _
    .split
     .split
      .rename_i e;dsimp only at e ⊢;rw[e];rfl
      .exact yi _ _
     .exact yi _ _
   simp[execOp,hop,k,asBool,this]
 case nilCheck x=>
  obtain⟨v,F,h⟩:=bK h
  by_cases g:G
  .have T:=j x v F g;obtain⟨u,k,n⟩:=MZ (ρ:=ρ) (K:=K) (c:=c) (P:=X.P) o x hop E (by rw[T];exact h);exact⟨u,k,n⟩
  .unfold uY at h
   split at h
   .cases c with
    | none=>exact⟨_,(yd.1 h).2,λH=>V2 H g⟩
    | some c=>exact⟨_,h.2,λH=>V2 H g⟩
   .exact⟨_,h,λH=>V2 H g⟩
   .exact⟨_,h,λH=>V2 H g⟩
   .exact h.elim
 case binOp op t x y yt=>
  obtain⟨a,A,h⟩:=bK h;obtain⟨b,hb,h⟩:=bK h;obtain⟨v,k,n⟩:=Nf op t a b x y E h;refine⟨v,k,λg w=>?_⟩
  have:=n g w;simp only[Sem.run_bind]at this;simp only[execOp,hop,j x a A g,j y b hb g,Sem.run_bind,Sem.run_pure];generalize (eqGuard op t x y a b).run X.P w=r at this ⊢
  cases r with
  | halt hh w'=>simp at this
  | ok u w'=>
   simp only[Result.andThen_ok]at this ⊢;rw[this];rfl
 case unOp op t x=>
  obtain⟨a,A,h⟩:=bK h;obtain⟨v,k,n⟩:=MN (P:=X.P) op a h;exact⟨v,k,λg w=>by simp[execOp,hop,j x a A g,n w]⟩
 case convert s d x=>
  obtain⟨a,A,h⟩:=bK h;obtain⟨v,k,n⟩:=Na s d a h;exact⟨v,k,λg w=>by simp[execOp,hop,j x a A g,n w]⟩
 case fieldAddr t x f=>
  obtain⟨a,A,h⟩:=bK h;obtain⟨v,k,n⟩:=MW t a f h;exact⟨v,k,λg w=>by simp[execOp,hop,j x a A g,n w]⟩
 case field t x f=>
  obtain⟨a,A,h⟩:=bK h;unfold fieldP at h
  split at h
  .split at h
   .split at h
    .obtain⟨v,k,n⟩:=oJ h;exact⟨v,n,λg w=>by simp[execOp,hop,j x a A g,E _ k g w]⟩
    .exact h.elim
   .exact h.elim
  .exact h.elim
 case indexAddr t x i=>
  obtain⟨a,A,h⟩:=bK h;obtain⟨b,hb,h⟩:=bK h;obtain⟨v,k,n⟩:=MV t a b E h;exact⟨v,k,λg w=>by simp[execOp,hop,j x a A g,j i b hb g,n g w]⟩
 case index t x i=>
  obtain⟨a,A,h⟩:=bK h;obtain⟨b,hb,h⟩:=bK h;obtain⟨v,k,n⟩:=MT t a b E h;exact⟨v,k,λg w=>by simp[execOp,hop,j x a A g,j i b hb g,n g w]⟩
 case extract t i=>
  obtain⟨a,A,h⟩:=bK h
  cases a <;> simp only at h
  case tuple vs=>
   obtain⟨v,F,h⟩:=bK h;rw[eI]at F;have L:vs[i]?=some v:=by simpa using F
   exact⟨v,h,λg w=>by simp[execOp,hop,j t _ A g,Instr.extract,L]⟩
 case slice t x lo hi mx=>
  cases mx with
  | some m=>
   cases lo with
   | none=>exact h.elim
   | some lo=>cases hi with
    | none=>exact h.elim
    | some hi=>
     obtain⟨a,A,h⟩:=bK h;obtain⟨l,I,h⟩:=bK h;obtain⟨u,M,h⟩:=bK h;obtain⟨q,V,h⟩:=bK h;obtain⟨v,k,n⟩:=MQ t a l u q E h;exact⟨v,k,λg w=>by simp[execOp,hop,j x a A g,j lo l I g,j hi u M g,j m q V g,n g w]⟩
  | none=>
   obtain⟨a,A,h⟩:=bK h;obtain⟨l,I,h⟩:=bK h;obtain⟨u,M,h⟩:=bK h;obtain⟨v,k,n⟩:=MO t a l u E h;exact⟨v,k,λg w=>by simp[execOp,hop,j x a A g,Cc j lo l I g,Cc j hi u M g,n g w]⟩
 case build t ps=>
  obtain⟨vs,B,h⟩:=bK h;obtain⟨l,I,h⟩:=bK h;refine⟨_,h,λg w=>?_⟩
  have hm:=yk j ps.toList vs B g;have hb:=MY (P:=X.P) t vs l I w;have Q:(ps.map λ(i,x)=>(i,ρ x))=vs.toArray:=by
   apply Array.ext';simp[<-hm]
  simp only[execOp,hop,Q,Sem.run_bind,hb,Result.andThen_ok,Sem.run_pure]
 case makeInterface t x=>
  obtain⟨a,A,h⟩:=bK h
  split at h
  .exact h.elim
  .rename_i d hd ht;refine⟨_,h,λg w=>?_⟩
   have:∀m,d≠.interface m:=λm Q=>hd m Q
   cases d <;> first|(exact V2 rfl (this _))|simp[execOp,hop,j x a A g,Instr.makeInterface,ft ht]
  .exact h.elim
 case typeAssert x t u ok=>
  cases ok with
  | false=>exact h.elim
  | true=>
   obtain⟨a,A,h⟩:=bK h;obtain⟨y,O,k,n⟩:=pS h;exact⟨_,n,λg w=>by simp[execOp,hop,j x a A g,E _ k g w]⟩
 case makeFunc fn a b=>
  obtain⟨U,A,h⟩:=bK h;obtain⟨Y,hb,h⟩:=bK h;refine⟨_,h,λg w=>?_⟩
  have e1:a.map ρ=⟨U⟩:=by apply Array.ext';simp[nj j _ _ A g]
  have e2:b.map ρ=⟨Y⟩:=by apply Array.ext';simp[nj j _ _ hb g]
  simp[execOp,hop,e1,e2,Instr.makeFunc]
 case call cl=>
  split at h
  .rename_i t ts D N;obtain⟨vs,B,h⟩:=bK h
   split at h
   .rename_i v r;have R:cl.argTypes[0]?=some t:=by rw[<-Array.getElem?_toList,N];rfl
    obtain⟨u,k,n⟩:=Nb t v cl.argTypes o.type ⟨v::r⟩ R (by simp) h;refine⟨u,k,λg w=>?_⟩
    have e1:cl.args.map ρ=⟨v::r⟩:=by apply Array.ext';simp[nj j _ _ B g]
    simp[execOp,hop,resolve,D,e1,invoke,builtin,n w]
   .exact h.elim
  .rename_i D;obtain⟨vs,B,h⟩:=bK h;obtain⟨u,k,n⟩:=Nc (P:=X.P) vs cl.argTypes o.type h;refine⟨u,k,λg w=>?_⟩
   have e1:cl.args.map ρ=⟨vs⟩:=by apply Array.ext';simp[nj j _ _ B g]
   simp[execOp,hop,resolve,D,e1,invoke,builtin,n w]
  .rename_i D;obtain⟨vs,B,h⟩:=bK h;obtain⟨u,k,n⟩:=Nd (P:=X.P) vs cl.argTypes o.type h;refine⟨u,k,λg w=>?_⟩
   have e1:cl.args.map ρ=⟨vs⟩:=by apply Array.ext';simp[nj j _ _ B g]
   simp[execOp,hop,resolve,D,e1,invoke,builtin,n w]
  .exact h.elim
end
def gq(P:Program)(w:World)(KP:KE)(K:KE):Result Next->Prop
 | .ok (.value v) w'=>bW w w'/\K v w'.heap
 | .ok .skip w'=>bW w w'/\K undef w'.heap
 | .ok (.enter f args) w'=>w'=w/\Calls P f args w (iM w K KP)
 | .ok (.round l f tmps assign body) w'=>w'=w/\RoundIn Fence.wide 0 P l f tmps assign body w (iM w K KP)
 | .halt (.panic v) w'=>bW w w'/\KP v w'.heap
 | _=>False
theorem iM.mono{w:World}{K b KP a:KE}(f:∀v H,K v H->b v H)(j:∀v H,KP v H->a v H){e:Ending}{c:World}(h:iM w K KP e c):iM w b a e c:=by
 cases e <;> simp only[iM]at h ⊢
 case returned v=>exact⟨h.1,f _ _ h.2⟩
 case panicked chain=>obtain⟨v,i,d,k⟩:=h;exact⟨v,i,d,j _ _ k⟩
theorem Fin.toP{w:World}{K KP:KE}{e:Ending}{a:World}(h:Fin w K e a):iM w K KP e a:=by
 cases e <;> simp only[Fin]at h
 exact h
theorem iM.fin{w:World}{K:KE}{e:Ending}{a:World}(h:iM w K (λ_ _=>False) e a):Fin w K e a:=by
 cases e <;> simp only[iM]at h
 case returned v=>exact h
 case panicked chain=>obtain⟨v,_,_,h⟩:=h;exact h.elim
theorem gq.mono2{P:Program}{w:World}{K j KP a:KE}{r:Result Next}(h:gq P w KP K r)(b:∀v H,K v H->j v H)(i:∀v H,KP v H->a v H):gq P w a j r:=by
 cases r with
 | halt h' w'=>
  cases h' <;> simp only[gq]at h ⊢
  exact⟨h.1,i _ _ h.2⟩
 | ok n w'=>
  cases n <;> simp only[gq]at h ⊢
  case value v=>exact⟨h.1,b _ _ h.2⟩
  case skip=>exact⟨h.1,b _ _ h.2⟩
  case enter f args=>exact⟨h.1,h.2.mono λe c d=>d.mono b i⟩
  case round l f tmps assign body=>exact⟨h.1,h.2.mono λe c d=>d.mono b i⟩
theorem gq.mono{P:Program}{w:World}{KP K a:KE}{r:Result Next}(h:gq P w KP K r)(b:∀v H,K v H->a v H):gq P w KP a r:=h.mono2 b λ_ _ h=>h
section
variable {X:Ctx}{ρ:Operand->Value}{ev:Operand->Option Value}{c:Option Prop}{G:Prop}
theorem tg{P:Program}{f:FuncId}(hb:gG P f)(args:Array Value)(w:World):(callFunc f args).run P w=.ok (.enter f args) w:=by
 obtain⟨fn,b,a,c⟩:=hb;simp only[callFunc,Sem.run_bind,run_program,Result.andThen_ok,b,c,a,WZ,if_false,Sem.run_pure]
theorem Cm{P:Program}{w:World}{b o:Nat}{v:Value}(h:aL w.heap b o=some v):(load ⟨b,o,none⟩).run P w=.ok v w:=by
 simp[run_load,cell?_cellAt,h]
theorem Ng{H:aD}{b o:Nat}{v:Value}{r:Os}(h:bE H b o (v::r)):aL H b o=some v/\bE H b (o+1) r:=by
 cases r with
 | nil=>exact⟨h,trivial⟩
 | cons u r=>exact h
theorem Cn{P:Program}{w:World}{b:Nat}:∀(l:Os) (o i:Nat) (acc:Array Value),bE w.heap b (o+i) l->
  (loadCellsFrom ⟨b,o,none⟩ i l.length acc).run P w=.ok (acc++l.toArray) w
 | [],o,i,acc,_=>by simp[loadCellsFrom]
 | v::r,o,i,acc,h=>by
  obtain⟨d,c⟩:=Ng h;have a:=Cn (P:=P) r o (i+1) (acc.push v) (by rw[<-Ws];exact c);simp only[V9,loadCellsFrom,Sem.run_bind,tf,Cm d,Result.andThen_ok,a];simp
theorem Co{P:Program}{t:TypeId}{Q:Value->Prop}(h:exT P t Q):P.underlying t≠none:=by
 intro h0;unfold exT pL at h;simp[sX,h0]at h
theorem Cp{P:Program}{w:World}{t:TypeId}{b off:Nat}{us:Os}(a:aggT P t=true)(i:us.length=P.cellsOf t)(h:bE w.heap b off us) :
  (Instr.loadAt t (.pointer (some ⟨b,off,none⟩))).run P w=.ok (.agg ⟨us⟩) w:=by
 have e:=MX a;have c:P.info? t≠none:=by
  cases hd:P.underlying t with
  | none=>exact V2 hd e
  | some d=>exact MH hd
 have f:=Cn (P:=P) (w:=w) (b:=b) us off 0 #[] (by simpa using h);simp only[Instr.loadAt,Instr.sureAddr,Sem.run_bind,Sem.run_pure,Result.andThen_ok,loadVar,Cg _ w e,a,if_true,mf P t c,loadCells,<-i,f];simp
theorem Cq{P:Program}{w:World}{t:TypeId}{b off:Nat}{u:Value}(c:P.underlying t≠none)(a:aggT P t=false)(h:aL w.heap b off=some u) :
  (Instr.loadAt t (.pointer (some ⟨b,off,none⟩))).run P w=.ok u w:=by
 simp only[Instr.loadAt,Instr.sureAddr,Sem.run_bind,Sem.run_pure,Result.andThen_ok,loadVar,Cg _ w c,a,WZ,if_false,Cm h]
theorem nk{P:Program}{w:World}{KP:KE}{v:Value}{r:Result Next}(h:r=.ok (.value v) w):gq P w KP (λa b=>a=v/\b=w.heap) r:=by
 subst h;exact⟨bW.refl w,rfl,rfl⟩
theorem Cr{n:Nat}{l:List Nat}{q:Prop}(h:if bJ n l=false then False else q):bJ n l=true/\q:=by
 split at h
 .exact h.elim
 .rename_i a;exact⟨by simpa using a,h⟩
theorem Cs(o:Oper){H:aD}{K:Value->(aD->Prop)->Prop}(N:∀p,gt c p->G->p)(A:∀x v,ev x=some v->G->ρ x=v)(hX:∀f,bJ f X.calls=true->gG X.P f)(hρ:∀f,ρ (.func f)=.func (.func f) #[] #[])
  (h:vh X ev c o H K):∃v E,K v E/\(∀q,c=some q->¬q->∀J,E J)/\(G->E H)/\(G->∀w,E w.heap->gq X.P w (λ_ _=>False) (λv' J=>v'=v/\J=w.heap) ((execOp ρ o).run X.P w)):=by
 unfold vh at h
 split at h
 .rename_i t x y;obtain⟨a,W,h⟩:=bK h
  split at h
  .rename_i b off
   split at h
   .rename_i O;unfold uW at h
    split at h
    .rename_i Y _;obtain⟨us,h⟩:=td (ls:=Y) h
     split at h
     .rename_i R;refine⟨_,_,h.2,λq C B J=>by subst C;exact λj=>V2 j B,λg=>h.1,λg w D=>nk ?_⟩
      simp[execOp,y,A x _ W g,Cp O R (N _ D g)]
     .exact h.elim
    .exact h.elim
   .rename_i O;have hu:=Co h;obtain⟨u,F,I⟩:=pS h;refine⟨_,_,I,λq C B J=>by subst C;exact λj=>V2 j B,λg=>F,λg w D=>nk ?_⟩
    simp[execOp,y,A x _ W g,Cq hu O (N _ D g)]
  .exact h.elim
 .rename_i t x i ok y;obtain⟨m,hm,h⟩:=bK h;obtain⟨k,V,h⟩:=bK h
  split at h
  .rename_i kt e ht;obtain⟨u,h⟩:=pS h
   split at h
   .obtain⟨U,F,I⟩:=h;refine⟨_,_,I,λq C B J=>by subst C;exact λj=>V2 j B,λg=>F,λg w D=>nk ?_⟩
    simp[execOp,y,A x _ hm g,A i _ V g,N _ D g w rfl]
   .refine⟨_,_,h.2,λq C B J=>by subst C;exact λj=>V2 j B,λg=>h.1,λg w D=>nk ?_⟩
    simp[execOp,y,A x _ hm g,A i _ V g,N _ D g w rfl]
  .exact h.elim
 .rename_i s d x y;obtain⟨v,T,h⟩:=bK h
  split at h
  .obtain⟨b,F,I⟩:=h;refine⟨_,_,I,λq C B J=>by subst C;exact λj=>V2 j B,λg=>F,λg w D=>nk ?_⟩
   simp[execOp,y,A x _ T g,N _ D g w rfl]
  .exact h.elim
 .rename_i Z y;obtain⟨v,T,h⟩:=bK h
  split at h
  .obtain⟨k,h⟩:=oJ h;obtain⟨x,F,I⟩:=oJ h;refine⟨_,_,I,λq C B J=>by subst C;exact λj=>V2 j B,λg=>F,λg w D=>nk ?_⟩
   simp[execOp,y,A Z _ T g,N _ D g w rfl]
  .exact h.elim
 .rename_i cl y
  split at h
  .rename_i f M
   split at h
   .obtain⟨Q,L,h⟩:=bK h;obtain⟨ss,S,h⟩:=bK h;obtain⟨u,F,I⟩:=te h;refine⟨_,_,I,λq C B J=>by subst C;exact λj=>V2 j B,λg=>F,λg w D=>nk ?_⟩
    have e1:cl.args.map ρ=⟨Q⟩:=by apply Array.ext';simp[nj A _ _ L g]
    have h3:=N _ F g w;simp only[execOp,y,resolve,M,hρ,Deferred.ofValue,invoke,e1,Sem.run_bind,Sem.run_pure,Result.andThen_ok];simpa using h3
   obtain⟨hf,h⟩:=Cr h;obtain⟨Q,L,h⟩:=bK h;obtain⟨ss,S,h⟩:=bK h;obtain⟨u,F,I⟩:=te h;refine⟨_,_,I,λq C B J=>by subst C;exact λj=>V2 j B,λg=>F,λg w D=>?_⟩
   have e1:cl.args.map ρ=⟨Q⟩:=by apply Array.ext';simp[nj A _ _ L g]
   have e2:(execOp ρ o).run X.P w=.ok (.enter f ⟨Q⟩) w:=by
    simp only[execOp,y,resolve,M,hρ,Deferred.ofValue,invoke,e1,Sem.run_bind,Sem.run_pure,Result.andThen_ok];rw[tg (hX f hf)];simp
   rw[e2];exact⟨rfl,((N _ D g).at w rfl).mono λe w2 he=>he.toP⟩
  .rename_i M;obtain⟨Q,L,h⟩:=bK h;obtain⟨n,F,I⟩:=h;refine⟨_,_,I,λq C B J=>by subst C;exact λj=>V2 j B,λg=>F,λg w D=>nk ?_⟩
   have e1:cl.args.map ρ=⟨Q⟩:=by apply Array.ext';simp[nj A _ _ L g]
   simp[execOp,y,resolve,M,e1,invoke,builtin,N _ D g w rfl]
  .exact h.elim
 .exact h.elim
theorem Nh{P:Program}{w:World}{b o:Nat}{v:Value}(hs:(aL w.heap b o).isSome=true)(c:lZ w.heap b o=false)(d:cT [v]=true) :
  (store ⟨b,o,none⟩ v).run P w=.ok () (w.setCell ⟨b,o,none⟩ v):=by
 have a:v.oneCell'=true:=by cases v <;> simp[cT,Value.oneCell']at d ⊢
 rw[run_store P w _ v _ a,cell?_cellAt]
 cases hc:aL w.heap b o with
 | none=>simp[hc]at hs
 | some u=>simp[frozen?_frozenAt,c]
theorem yo{v:Value}{r:Os}(h:cT (v::r)=true):cT [v]=true/\cT r=true:=by
 cases v <;> simp[cT]at h ⊢ <;> exact h
theorem qX{P:Program}{b:Nat}:∀(l:Os) (o i:Nat) (w:World),eV w.heap b (o+i) l->(∀j,j<l.length->(aL w.heap b (o+i+j)).isSome=true/\lZ w.heap b (o+i+j)=false)->cT l=true->
  ∃d,(storeCells ⟨b,o,none⟩ l i).run P w=.ok () d/\bW w d/\d.heap=fM w.heap b (o+i) l
 | [],o,i,w,_,_,_=>⟨w,rfl,bW.refl w,rfl⟩
 | v::r,o,i,w,h,ha,hp=>by
  obtain⟨k,m⟩:=yo hp;have h0:=ha 0 (by simp);have f:=Nh (P:=P) (w:=w) (b:=b) (o:=o+i) (v:=v) (by simpa using h0.1) (by simpa using h0.2) k;have a:∀x,(aL (iJ w.heap b (o+i) v) b x).isSome=(aL w.heap b x).isSome/\lZ (iJ w.heap b (o+i) v) b x=lZ w.heap b x:=by
   intro x;simp only[aL,lZ,iJ,Array.getElem?_modify]
   cases hb:w.heap[b]? with
   | none=>simp
   | some ob=>
    cases ob <;> simp[Array.getElem?_setIfInBounds]
    rename_i c e B
    split <;> (try split) <;> simp_all
  obtain⟨d,t,A,y⟩:=qX (P:=P) (b:=b) r o (i+1) (w.setCell ⟨b,o+i,none⟩ v) (by
    rw[yg]
    clear f
    have:∀(l:Os) (x:Nat),(∀j,j<l.length->(aL (iJ w.heap b (o+i) v) b (x+j)).isSome=true/\lZ (iJ w.heap b (o+i) v) b (x+j)=false)->eV (iJ w.heap b (o+i) v) b x l:=by
     intro l
     induction l with
     | nil=>intro x _;trivial
     | cons u l ih=>intro x s;exact⟨by simpa using s 0 (by simp),ih (x+1) (λj n=>by have:=s (j+1) (by simp;omega);rwa[show x+(j+1)=x+1+j by omega]at this)⟩
    refine this r _ λj n=>?_
    have:=ha (j+1) (by simp;omega);rw[(a _).1,(a _).2]
    rwa[show o+i+(j+1)=o+(i+1)+j by omega]at this) (λj n=>by
    rw[yg,(a _).1,(a _).2];have:=ha (j+1) (by simp;omega)
    rwa[show o+i+(j+1)=o+(i+1)+j by omega]at this) m
  refine⟨d,?_,?_,?_⟩
  .simp only[storeCells,Sem.run_bind,tf,f,Result.andThen_ok,t]
  .exact bW.trans (b:=w.setCell ⟨b,o+i,none⟩ v) ⟨rfl,rfl,rfl⟩ A
  .rw [y,yg];rfl
theorem qY{H:aD}{b:Nat}:∀(l:Os) (x:Nat),eV H b x l->∀j,j<l.length->(aL H b (x+j)).isSome=true/\lZ H b (x+j)=false
 | [],_,_,j,hj=>by simp at hj
 | _::r,x,h,0,_=>h.1
 | _::r,x,h,j+1,hj=>by
  have:=qY r (x+1) h.2 j (by simpa using hj)
  rwa[show x+1+j=x+(j+1) by omega]at this
theorem Ni{P:Program}{t:TypeId}{b off:Nat}{v:Value}{w:World}(e:v.cells.toList.length=P.cellsOf t)(hi:P.info? t≠none)(f:cT v.cells.toList=true)(h:eV w.heap b off v.cells.toList) :
  ∃a,(Instr.storeAt t (.pointer (some ⟨b,off,none⟩)) v).run P w=.ok () a/\bW w a/\a.heap=fM w.heap b off v.cells.toList:=by
 obtain⟨a,d,c,i⟩:=qX (P:=P) (b:=b) v.cells.toList off 0 w (by simpa using h) (by simpa using qY _ _ h) f;refine⟨a,?_,c,by simpa using i⟩;simp only[Instr.storeAt,Instr.sureAddr,Sem.run_bind,Sem.run_pure,Result.andThen_ok,storeVar,mf P t hi];rw[V0 (by simpa using e)];simp only[d]
theorem nY{P:Program}{s:Sem Value}{H:aD}{KP K:KE}{w:World}(c:w.heap=H)(h:cB P s H K):gq P w KP K ((do pure (Next.value (<-s)):Sem Next).run P w):=by
 obtain⟨a,f,d,b,e⟩:=h.at w c;simp only[Sem.run_bind,d,Result.andThen_ok,Sem.run_pure];exact⟨b,e⟩
theorem yp{P:Program}{s:Sem Unit}{H:aD}{KP:KE}{K:aD->Prop}{w:World}(d:w.heap=H)(h:cB P s H λ_ b=>K b):gq P w KP (λv b=>v=undef/\K b) ((do s;pure Next.skip:Sem Next).run P w):=by
 obtain⟨a,i,e,c,f⟩:=h.at w d;simp only[Sem.run_bind,e,Result.andThen_ok,Sem.run_pure];exact⟨c,rfl,f⟩
theorem Ct(z:Os)(a:z≠[]):∀(n i:Nat),i<n*z.length->(lx z n)[i]?=z[i%z.length]?
 | 0,i,h=>by simp at h
 | n+1,i,h=>by
  simp only[lx]
  by_cases hi:i<z.length
  .rw [List.getElem?_append_left hi,WG hi]
  .rw [List.getElem?_append_right (by omega),Ct z a n (i-z.length) (by rw[Nat.succ_mul]at h;omega)];rw[<-Nat.mod_eq_sub_mod (by omega)]
theorem vm(z:Os):∀n,(lx z n).length=n*z.length
 | 0=>by simp[lx]
 | n+1=>by simp[lx,vm z n,Nat.succ_mul,Ye]
theorem Nj(z:Array Value)(n:Nat):(Array.range (n*z.size)).map (λi=>z[i%z.size]!)=⟨lx z.toList n⟩:=by
 apply Array.ext';apply WO;intro i
 by_cases hz:z.toList=[]
 .have:z.size=0:=by rw[<-W5,hz];rfl
  have d:(lx z.toList n).length=0:=by simp[vm,this]
  simp[this];omega
 by_cases hi:i<n*z.size
 .have c:=Ct z.toList hz n i (by simpa using hi);simp only[W5]at c;rw[c];have a:0<z.size:=by
   rw[<-W5];exact Yu.2 hz
  have b:=W6 i a;simp[hi,b]
 .rw [List.getElem?_eq_none (by simp;omega),List.getElem?_eq_none (by rw[vm];simp;omega)]
theorem Nk{P:Program}(t e:TypeId)(n:Nat)(parts:List (Nat×Value))(l:Os)(u:P.underlying t=some (.slice e))(A:n*P.cellsOf e<=16777216)(h:yf P e n parts=some l)(w:World) :
  (Instr.buildSlice t n parts.toArray).run P w=.ok (.slice (some ⟨w.heap.size,0,none⟩) n n) (w.alloc (.cells ⟨l⟩ e)):=by
 unfold yf at h
 split at h
 .rename_i z x;obtain⟨v,m,b,c⟩:=vk x
  split at h
  .rename_i a;have d:v.cells.size=P.cellsOf e:=by rw[<-W5,m,a]
   have k:=vl _ parts ⟨lx z n⟩ l h;simp only[Instr.buildSlice,Sem.run_bind,ft u,Result.andThen_ok,mf P e c];rw[nO]
   by_cases h0:n*P.cellsOf e=0
   .have f:(lx z n).length=0:=by rw[vm,a,h0]
    have y:lx z n=[]:=WH.1 f;rw[y]at k;rw[V1 h0];have j:Instr.fill (λi=>some (i*P.cellsOf e,P.cellsOf e)) #[] parts=some ⟨l⟩:=k
    have s:Array.map (λ_:Nat=>(default:Value)) (Array.range 0)=#[]:=by simp
    simp[h0];rw[s,j];simp[newRow]
   .rw [V0 h0];have f:=Nj v.cells n;rw[d,m]at f;simp only[Sem.run_bind,b,Result.andThen_ok,Sem.run_pure,d,f,k];simp[newRow]
  .cases h
 .cases h
theorem Cu(o:Oper){H:aD}{K:KE}(A:∀x v,ev x=some v->ρ x=v)(hX:∀f,bJ f X.calls=true->gG X.P f)(hρ:∀f,ρ (.func f)=.func (.func f) #[] #[])
  (h:vi X ev o H K):∀w,w.heap=H->gq X.P w X.kp K ((execOp ρ o).run X.P w):=by
 intro w J;have N:∀(l:Array Operand) L,hI ev l.toList=some L->l.map ρ=⟨L⟩:=λl L B=>by
  apply Array.ext';simp[nj (G:=True) (λx v h _=>A x v h) _ _ B trivial]
 have Z:∀(l:Array (Nat×Operand)) L,oI ev l.toList=some L->(l.map λ(i,x)=>(i,ρ x))=L.toArray:=λl L B=>by
  apply Array.ext';simp[<-yk (G:=True) (λx v h _=>A x v h) _ _ B trivial]
 unfold vi at h
 split at h
 .rename_i t j;obtain⟨z,hz,h⟩:=bK h;obtain⟨v,C,U,_⟩:=vk hz;subst J;have:v.cells=⟨z⟩:=by apply Array.ext';simp[C]
  simp[execOp,j,Instr.alloc,U,newVar,newRow,this];exact⟨⟨rfl,rfl,rfl⟩,h _ _ rfl rfl⟩
 .rename_i t x j;obtain⟨v,C,h⟩:=bK h;subst J;simp[execOp,j,Instr.box,A x v C,newVar,newRow];exact⟨⟨rfl,rfl,rfl⟩,h _ _ rfl rfl⟩
 .rename_i t n ps j;obtain⟨L,B,h⟩:=bK h
  split at h
  .rename_i e ht;obtain⟨l,h0,h⟩:=bK h
   split at h
   .rename_i hn;subst J;simp only[execOp,j,Z ps L B,Sem.run_bind,Nk t e n L l ht hn h0 w,Result.andThen_ok,Sem.run_pure];exact⟨⟨rfl,rfl,rfl⟩,h _ _ rfl rfl⟩
   .exact h.elim
  .exact h.elim
 .rename_i t r j
  split at h
  .subst J;simp[execOp,j,Instr.makeMap];exact⟨⟨rfl,rfl,rfl⟩,h _ _ rfl rfl⟩
  .exact h.elim
 .rename_i t x y j;obtain⟨a,M,h⟩:=bK h;obtain⟨v,C,h⟩:=bK h
  split at h
  .rename_i b off;obtain⟨hi,_,h⟩:=pR h
   split at h
   .rename_i hc;subst J;obtain⟨w',F,D,h3⟩:=Ni hc.1 hi hc.2 h.1;simp only[execOp,j,A x _ M,A y v C,Sem.run_bind,F,Result.andThen_ok,Sem.run_pure];exact⟨D,h.2 _ h3⟩
   .exact h.elim
  .exact h.elim
 .rename_i t l c j;obtain⟨a,M,h⟩:=bK h;obtain⟨b,hb,h⟩:=bK h;have:=nY (KP:=X.kp) J h;simp only[execOp,j,A l a M,A c b hb];exact this.mono λv I C=>by obtain⟨u,F,D⟩:=pS C;subst F;exact D
 .rename_i t m k x j;obtain⟨a,M,h⟩:=bK h;obtain⟨b,hb,h⟩:=bK h;obtain⟨v,C,h⟩:=bK h;simp only[execOp,j,A m a M,A k b hb,A x v C];exact (yp J h).mono λu I S=>by obtain⟨rfl,D⟩:=S;exact D
 .rename_i t m k x j;obtain⟨a,M,h⟩:=bK h;obtain⟨b,hb,h⟩:=bK h;obtain⟨v,C,h⟩:=bK h;simp only[execOp,j,A m a M,A k b hb,A x v C];exact (yp J h).mono λu I S=>by obtain⟨rfl,D⟩:=S;exact D
 .rename_i t m k j;obtain⟨a,M,h⟩:=bK h;obtain⟨b,hb,h⟩:=bK h;simp only[execOp,j,A m a M,A k b hb];refine (nY J h).mono λv I C=>?_
  split at C
  .obtain⟨u,n,F,D⟩:=pS C;subst F;exact D
  .exact C.elim
 .rename_i t m k x j;obtain⟨a,M,h⟩:=bK h;obtain⟨b,hb,h⟩:=bK h;obtain⟨v,C,h⟩:=bK h;simp only[execOp,j,A m a M,A k b hb,A x v C];exact (yp J h).mono λu I S=>by obtain⟨rfl,D⟩:=S;exact D
 .rename_i t x j;obtain⟨a,M,h⟩:=bK h;simp only[execOp,j,A x a M];exact (nY J h).mono λv I C=>by obtain⟨r,F,D⟩:=C;subst F;exact D
 .rename_i it s j;obtain⟨a,M,h⟩:=bK h;simp only[execOp,j,A it a M];refine (nY J h).mono λv I C=>?_
  rcases C with ⟨F,D⟩|⟨k,x,F,D⟩
  .subst F;exact D
  .subst F;exact D
 .rename_i s d x j;obtain⟨a,M,h⟩:=bK h;simp only[execOp,j,A x a M];exact (nY J h).mono λv I C=>by obtain⟨u,F,D⟩:=pS C;subst F;exact D
 .rename_i cl j
  split at h
  .rename_i f E;obtain⟨W,h⟩:=Cr h;obtain⟨L,B,h⟩:=bK h;obtain⟨O,Y,h⟩:=bK h;have e2:(execOp ρ o).run X.P w=.ok (.enter f ⟨L⟩) w:=by
    simp only[execOp,j,resolve,E,hρ,Deferred.ofValue,invoke,N _ _ B,Sem.run_bind,Sem.run_pure,Result.andThen_ok];rw[tg (hX f W)];simp
   rw[e2];refine gq.mono (K:=λv I=>lr O λu=>v=u/\K u I) ?_ λv I C=>?_
   .split at h
    .exact⟨rfl,h.at w J⟩
    .exact⟨rfl,(h.at w J).mono λe Q V=>V.toP⟩
   obtain⟨u,F,D⟩:=te C;subst F;exact D
  .rename_i x hx E;obtain⟨fv,T,hA⟩:=bK h
   clear h
   obtain⟨L,B,hB⟩:=bK hA
   clear hA
   obtain⟨O,Y,R⟩:=bK hB
   clear hB
   obtain⟨f,first,cap,rfl,h⟩|⟨l,rfl,h⟩:(∃f first cap,fv=.func (.func f) first cap/\(bJ f X.calls=true/\iL X.P f ⟨first.toList++L++cap.toList⟩ H λv I=>lr O λu=>v=u/\K u I))\/
     (∃l,fv=.func (.yield l) #[] #[]/\fL X.P l L H λv I=>lr O λu=>v=u/\K u I):=by
    clear A hρ
    cases fv <;> (try exact R.elim)
    rename_i fn first cap
    cases fn <;> (try exact R.elim)
    .exact .inl ⟨_,_,_,rfl,R⟩
    .rcases first with ⟨_|_⟩ <;> rcases cap with ⟨_|_⟩ <;> (try exact R.elim);exact .inr ⟨_,rfl,R⟩
   .obtain⟨W,h⟩:=h;have e2:(execOp ρ o).run X.P w=.ok (.enter f ⟨first.toList++L++cap.toList⟩) w:=by
     simp only[execOp,j,resolve,E,A x _ T,Deferred.ofValue,invoke,N _ _ B,Sem.run_bind,Sem.run_pure,Result.andThen_ok];rw[tg (hX f W)];simp
    rw[e2];refine gq.mono (K:=λv I=>lr O λu=>v=u/\K u I) ⟨rfl,(h.at w J).mono λe Q V=>V.toP⟩ λv I C=>?_
    obtain⟨u,F,D⟩:=te C;subst F;exact D
   .obtain⟨fn,tmps,assign,body,F,D⟩:=h.at w J;have e2:(execOp ρ o).run X.P w=.ok (.round l fn tmps assign body) w:=by
     simp only[execOp,j,resolve,E,A x _ T,Deferred.ofValue,invoke,N _ _ B,Sem.run_bind,Sem.run_pure,Result.andThen_ok];simpa using F
    rw[e2];refine gq.mono (K:=λv I=>lr O λu=>v=u/\K u I) ⟨rfl,D.mono λe Q V=>V.toP⟩ λv I C=>?_
    obtain⟨u,F,D⟩:=te C;subst F;exact D
  .rename_i E;obtain⟨L,B,h⟩:=bK h;have:=nY (KP:=X.kp) J h;simp only[execOp,j,resolve,E,pure_bind,invoke,builtin,N _ _ B];exact this.mono λv I C=>by obtain⟨a,n,c,F,D⟩:=C;subst F;exact D
  .rename_i E;obtain⟨L,B,h⟩:=bK h;have:=nY (KP:=X.kp) J h;simp only[execOp,j,resolve,E,pure_bind,invoke,builtin,N _ _ B];exact this.mono λv I C=>by obtain⟨n,F,D⟩:=C;subst F;exact D
  .rename_i E;obtain⟨L,B,h⟩:=bK h;have:=nY (KP:=X.kp) J h;simp only[execOp,j,resolve,E,pure_bind,invoke,builtin,N _ _ B];exact this
  .rename_i E;obtain⟨L,B,h⟩:=bK h;have:=nY (KP:=X.kp) J h;simp only[execOp,j,resolve,E,pure_bind,invoke,builtin,N _ _ B];exact this
  .exact h.elim
 .rename_i x j;obtain⟨v,C,h⟩:=bK h;unfold panP at h
  split at h
  .subst J;simp only[execOp,j,A x _ C,Sem.run_bind,run_panic_iface,Result.andThen];exact⟨bW.refl w,h⟩
  .exact h.elim
 .exact h.elim
end
abbrev kw:=List (Nat×Option (aD->Prop))
def pT(f:Option (aD->Prop))(H:aD):Prop:=match f with|none=>True|some p=>p H
section
variable {P:Program}{ops:Array Oper}
def qZ(P:Program)(w0:World)(KP:KE)(ops:Array Oper)(i:Nat)(K:Act->aD->Prop)(a:Act)(H:aD):Prop:=
 ∀w,w.heap=H->bW w0 w->match ops[i]? with
  | none=>K a H
  | some o=>if Region.wanted o (yielded ops a.tmps) then gq P w KP (λv H'=>K (a.put o.dst v) H') ((execOp a.eval o).run P w) else K (a.put o.dst undef) H
theorem Cv{w0:World}{KP:KE}{i:Nat}{K d:Act->aD->Prop}{a:Act}{H:aD}(c:∀a H,K a H->d a H)(h:qZ P w0 KP ops i K a H):qZ P w0 KP ops i d a H:=by
 intro w e f;have:=h w e f
 cases ho:ops[i]? with
 | none=>simp only[ho]at this ⊢;exact c _ _ this
 | some o=>
  simp only[ho]at this ⊢
  split at this
  .rename_i b;rw[V1 b];exact this.mono λv j=>c _ _
  .rename_i b;rw[V0 b];exact c _ _ this
def nl(isW:Nat->Bool)(bf:Nat->Nat->Bool)(i:Nat)(pd:kw):kw:=if isW i then pd.filter (λx=>!bf i x.1) else pd
def pU(P:Program)(w0:World)(KP:KE)(ops:Array Oper)(isW:Nat->Bool)(bf:Nat->Nat->Bool)(Q:Act->aD->Prop):Nat->kw->Array Bool->Act->aD->Prop
 | 0,pd,listed,a,H=>(∀x∈pd,pT x.2 H)/\Region.ready .any ops listed=[]/\Q a H
 | n+1,pd,listed,a,H=>(∀x∈pd,pT x.2 H)/\(Region.ready .any ops listed=[]->Q a H)/\
  ∀i∈Region.ready .any ops listed,qZ P w0 KP ops i (λa' H'=>pU P w0 KP ops isW bf Q n (nl isW bf i pd) (listed.setIfInBounds i true) a' H') a H
def FR(ro:Option Nat):Fence:={ Fence.wide with round:=ro }
theorem yq{o:Oper}{a:Act}{w w0:World}{ro:Option Nat}(hd:∀c,o.op≠.defer c)(j:bW w0 w){KP K:KE}{next:Act->World->Prop}{Q':Exit->Act->World->Prop}
  (m:∀v d,bW w0 d->K v d.heap->next (a.put o.dst v) d) (t:∀v d,bW w0 d->KP v d.heap->Q' (.panic [{ v,recovered:=false }]) a d)
  (h:gq P w KP K ((execOp a.eval o).run P w)):o.wpIn (FR ro) 0 P a w next Q':=by
 refine⟨λf _=>trivial,?_⟩
 have hs:o.semAt (FR ro).round a.eval=execOp a.eval o:=Oper.semAt_eq ro _ o hd;rw[hs];generalize (execOp a.eval o).run P w=r at h
 cases r with
 | halt h' d=>
  cases h' <;> simp only[gq]at h
  exact t _ _ (j.trans h.1) h.2
 | ok n d=>
  cases n <;> simp only[gq]at h
  case value v=>exact m _ _ (j.trans h.1) h.2
  case skip=>exact m _ _ (j.trans h.1) h.2
  case enter f args=>
   obtain⟨rfl,h⟩:=h;rw[Oper.uponIn_enter];refine⟨λhd=>(by cases hd),?_⟩
   have k:CallsIn Fence.wide (0-1) P f args d λ
     | .returned v,b=>next (a.put o.dst v) b
     | .panicked chain,b=>Q' (.panic chain) a b
     | .outgrown,_=>LetsOut Q':=callsIn_wide.2 (h.mono λe b i=>by
    cases e <;> simp only[iM]at i ⊢
    case returned v=>exact m _ _ (j.trans i.1) i.2
    case panicked chain=>obtain⟨v,rfl,s,k⟩:=i;exact t _ _ (j.trans s) k)
   exact k
  case round l f tmps assign body=>
   obtain⟨rfl,h⟩:=h;rw[Oper.uponIn_round];refine⟨λhd=>(by cases hd),?_⟩
   have k:RoundIn Fence.wide (0-1) P l f tmps assign body d λ
     | .returned v,b=>next (a.put o.dst v) b
     | .panicked chain,b=>Q' (.panic chain) a b
     | .outgrown,_=>LetsOut Q':=h.mono λe b i=>by
    cases e <;> simp only[iM]at i ⊢
    case returned v=>exact m _ _ (j.trans i.1) i.2
    case panicked chain=>obtain⟨v,rfl,s,k⟩:=i;exact t _ _ (j.trans s) k
   exact k
theorem vo{w0:World}{KP:KE}{ro:Option Nat}{isW:Nat->Bool}{bf:Nat->Nat->Bool}{Q:Act->aD->Prop}{Q':Exit->Act->World->Prop}(m:∀a w,bW w0 w->Q a w.heap->Q' .normal a w)
  (hd:∀o∈ops.toList,∀c,o.op≠.defer c) {Inv:Act->Prop} (d:∀a o v,o∈ops.toList->Inv a->Inv (a.put o.dst v)) (t:∀v a w,bW w0 w->Inv a->KP v w.heap->Q' (.panic [{ v,recovered:=false }]) a w) :
  ∀(n:Nat) (A:kw) (b:Array Bool) (a:Act) (w:World),bW w0 w->Inv a->pU P w0 KP ops isW bf Q n A b a w.heap->wpAnyIn (FR ro) 0 P .any ops Q' n b a w
 | 0,_,_,_,_,hr,_,h=>⟨h.2.1,m _ _ hr h.2.2⟩
 | n+1,A,b,a,w,hr,ha,h=>⟨λh0=>m _ _ hr (h.2.1 h0),λi hi=>by
  have k:=h.2.2 i hi w rfl hr;unfold wpOpIn
  split at k
  .rename_i s;simp only[s];exact vo m hd d t n _ _ a w hr ha k
  .rename_i o s;simp only[s];have e:o∈ops.toList:=by
    have:ops.toList[i]?=some o:=by simpa using s
    exact Wg this
   split at k
   .rename_i x;rw[V1 x];exact yq (hd o e) hr (λv u j y=>vo m hd d t n _ _ _ u j (d _ _ _ e ha) y) (λv u j y=>t v a u j ha y) k
   .rename_i x;rw[V0 x];exact⟨λf _=>trivial,vo m hd d t n _ _ _ w hr (d _ _ _ e ha) k⟩⟩
def ly(P:Program)(ops:Array Oper)(o:Oper)(v:Value)(f:Option (aD->Prop))(a:Act):Prop:=
 (Region.wanted o (yielded ops a.tmps)=true->∀w,pT f w.heap->gq P w (λ_ _=>False) (λv' H'=>v'=v/\H'=w.heap) ((execOp a.eval o).run P w))/\
 (Region.wanted o (yielded ops a.tmps)=false->v=undef)
theorem ly.of_same{o:Oper}{v:Value}{f:Option (aD->Prop)}{a b:Act}(c:ly P ops o v f a)(e:execOp b.eval o=execOp a.eval o)
  (d:Region.wanted o (yielded ops b.tmps)=Region.wanted o (yielded ops a.tmps)):ly P ops o v f b:=by
 unfold ly at *;rw[e,d];exact c
theorem ly.step{w0:World}{KP:KE}{i:Nat}{o:Oper}{v:Value}{f:Option (aD->Prop)}{a:Act}{H:aD}(hi:ops[i]?=some o)(c:ly P ops o v f a)(e:pT f H){K:Act->aD->Prop}(h:K (a.put o.dst v) H) :
  qZ P w0 KP ops i K a H:=by
 intro w k n;simp only[hi]
 split
 .rename_i b;subst k;exact (c.1 b w e).mono2 (λs m ⟨d,j⟩=>by subst d;subst j;exact h) λ_ _ h=>h.elim
 .rename_i b;rw[<-c.2 (by simpa using b)];exact h
theorem Nl{w0:World}{KP:KE}{j:Nat}{c d:Oper}{v:Value}{f:Option (aD->Prop)}(F:ops[j]?=some d)(s:c.apart ops d=true)
  (m:∀cs b,c.op≠.select cs b) (n:∀cs b,d.op≠.select cs b) {K:Act->aD->Prop} {a:Act} {H:aD}
  (k:ly P ops c v f a) (h:qZ P w0 KP ops j K (a.put c.dst v) H) :
  qZ P w0 KP ops j (λA t=>ly P ops c v f A/\K (A.put c.dst v) t) a H:=by
 obtain⟨x,B,y⟩:=Oper.apart_spec s;have keep:∀(a:Act),ly P ops c v f a->∀u,ly P ops c v f (a.put d.dst u):=λa k u=>
  k.of_same (execOp_put c m a d.dst u y) (wanted_put c a d.dst u y)
 intro w D C;have i:=h w D C;simp only[F]at i ⊢;rw[wanted_put d a c.dst v x]at i
 split
 .rename_i e;rw[V1 e,execOp_put d n a c.dst v x]at i;exact i.mono λu t E=>⟨keep a k u,by rw[<-Act.put_comm a v u B];exact E⟩
 .rename_i e;rw[V0 e]at i;exact⟨keep a k _,by rw[<-Act.put_comm a v undef B];exact i⟩
def pV(ops:Array Oper)(listed:Array Bool):Prop:=
 ∀j oj,ops[j]?=some oj->listed.getD j false=true->∀e∈oj.after,Region.binds .any e=true->listed.getD e.on false=true
theorem pV.set{a:Array Bool}(h:pV ops a){i:Nat}(hi:i∈Region.ready .any ops a):pV ops (a.setIfInBounds i true):=by
 obtain⟨_,n,c,b⟩:=mem_ready.1 hi;intro j d f m e k hb
 by_cases hij:i=j
 .subst hij;have:d=n:=Option.some.inj (f.symm.trans c);subst this;exact getD_set_true (b e k hb)
 .rw [getD_set_ne false hij]at m;exact getD_set_true (h j d f m e k hb)
def BfOk(ops:Array Oper)(bf:Nat->Nat->Bool):Prop:=
 ∀j oj,ops[j]?=some oj->∀i,bf j i=true->∃e∈oj.after,Region.binds .any e=true/\(e.on=i\/(e.on<j/\bf e.on i=true/\(ops[e.on]?).isSome=true))
theorem Nn{bf:Nat->Nat->Bool}(hb:BfOk ops bf){a:Array Bool}(v:pV ops a) :
  ∀(j:Nat) (b:Oper),ops[j]?=some b->a.getD j false=true->∀i,bf j i=true->a.getD i false=true:=by
 intro j
 induction j using Nat.strongRecOn with
 | _ j ih=>
  intro b k u i hi;obtain⟨e,t,c,h⟩:=hb j b k i hi;have f:=v j b k u e t c
  rcases h with h|⟨d,n,m⟩
  .rw [<-h];exact f
  .obtain⟨ok,s⟩:=YF.1 m;exact ih e.on d ok s f i n
theorem bf_ready{bf:Nat->Nat->Bool}(hb:BfOk ops bf){a:Array Bool}(w:pV ops a){j:Nat}(v:j∈Region.ready .any ops a)(i:Nat)(hi:bf j i=true):a.getD i false=true:=by
 obtain⟨_,k,d,b⟩:=mem_ready.1 v;obtain⟨e,u,c,h⟩:=hb j k d i hi;have f:=b e u c
 rcases h with h|⟨n,s,m⟩
 .rw [<-h];exact f
 .obtain⟨ok,t⟩:=YF.1 m;exact Nn hb w e.on ok t f i s
theorem getD_ft{a:Array Bool}{i:Nat}(h:a.getD i true=false):a.getD i false=false:=by
 rcases VV i a.size with b|b
 .simp [b]at h ⊢;exact h
 .simp [Array.getElem?_eq_none b]at h
theorem No{isW:Nat->Bool}{bf:Nat->Nat->Bool}{i j:Nat}{f:Option (aD->Prop)}{a:kw}(h:bf j i=false):nl isW bf j ((i,f)::a)=(i,f)::nl isW bf j a:=by
 unfold nl
 split <;> simp[h]
theorem first_R{w0:World}{KP:KE}{isW:Nat->Bool}{bf:Nat->Nat->Bool}{Q:Act->aD->Prop}(hb:BfOk ops bf)(hs:Region.noSelect ops=true){i:Nat}{E:Oper}{v:Value}{f:Option (aD->Prop)}(hi:ops[i]?=some E)(G:isW i=false) :
  ∀(n:Nat) (s:kw) (c:Array Bool) (a:Act) (H:aD),pV ops c->
   (∀j C,ops[j]?=some C->j≠i->c.getD j true=false->(∀e∈C.after,Region.binds .any e=true->e.on≠i)->E.apart ops C=true)->
   i∈Region.ready .any ops c->ly P ops E v f a->
   pU P w0 KP ops isW bf Q n ((i,f)::s) (c.setIfInBounds i true) (a.put E.dst v) H->pU P w0 KP ops isW bf Q (n+1) s c a H:=by
 intro n
 induction n with
 | zero=>
  intro s c a H Z _ D N h;refine⟨λx d=>h.1 x (VL _ d),λh0=>(by rw[h0]at D;cases D),λj F=>?_⟩
  by_cases hji:j=i
  .subst hji;refine N.step hi (h.1 _ VM) ?_;refine⟨λx d=>?_,h.2⟩
   have:x∈s:=by unfold nl at d;rw[V0 (by simp[G])]at d;exact d
   exact h.1 x (VL _ this)
  .have:=ready_mono F hji;rw[h.2.1]at this
   cases this
 | succ n ih=>
  intro s c a H Z t D N h;refine⟨λx d=>h.1 x (VL _ d),λh0=>(by rw[h0]at D;cases D),λj F=>?_⟩
  by_cases hji:j=i
  .subst hji;refine N.step hi (h.1 _ VM) ?_;have e1:nl isW bf j s=s:=by unfold nl;rw[V0 (by simp[G])]
   rw[e1];have m:∀(n:Nat) (s w:kw) (c:Array Bool) (a:Act) (H:aD),(∀x∈w,x∈s)->pU P w0 KP ops isW bf Q n s c a H->pU P w0 KP ops isW bf Q n w c a H:=by
    intro n
    induction n with
    | zero=>intro s w c a H hs h;exact⟨λx d=>h.1 x (hs x d),h.2⟩
    | succ n ih2=>
     intro s w c a H hs h;refine⟨λx d=>h.1 x (hs x d),h.2.1,λk U=>Cv (λT O=>ih2 _ _ _ T O ?_) (h.2.2 k U)⟩
     intro x d;unfold nl at d ⊢
     split
     .rename_i V;rw[V1 V]at d;rw[WA]at d ⊢;exact⟨hs x d.1,d.2⟩
     .rename_i V;rw[V0 V]at d;exact hs x d
   exact m _ _ _ _ _ _ (λx d=>VL _ d) h
  .have M:=h.2.2 j (ready_mono F hji);obtain⟨y,C,B,I⟩:=mem_ready.1 F;have A:=getD_ft (mem_ready.1 D).1;have K:∀e∈C.after,Region.binds .any e=true->e.on≠i:=λe he R S=>by
    have M:=I e he R;rw[S,A]at M;cases M
   have J:bf j i=false:=by
    cases hbf:bf j i with
    | false=>rfl
    | true=>have:=bf_ready hb Z F i hbf;rw[A]at this;cases this
   have h2:=Nl B (t j C B hji y K) (λcs b=>Region.noSelect_spec hs i E cs b hi) (λcs b=>Region.noSelect_spec hs j C cs b B) N M
   have u:∀k ok,ops[k]?=some ok->k≠i->(c.setIfInBounds j true).getD k true=false->
     (∀e∈ok.after,Region.binds .any e=true->e.on≠i)->E.apart ops ok=true:=λk ok U Y L W=>by
    refine t k ok U Y ?_ W
    by_cases hjk:j=k
    .subst hjk;exact y
    .rw [getD_set_ne true hjk]at L;exact L
   refine Cv (λT O h3=>ih _ (c.setIfInBounds j true) T O (Z.set F) u (ready_mono D (Ne.symm hji)) h3.1 ?_) h2
   have h4:=h3.2;rw[No J,Array.setIfInBounds_comm _ _ (Ne.symm hji)]at h4;exact h4
end
abbrev Kn:=List (Nat×Bool×Bool)
inductive GC where
 | yes|no|bad
 | iff (c:Prop)
def mg:Kn->Nat->Bool->Option Bool
 | [],_,_=>none
 | (j',w',b)::r,j,w=>if Nat.beq j' j then (if w' == w then some b else (if b then some false else mg r j w)) else mg r j w
def jJ(ops:Array Oper)(j:Nat):Option Tmp:=match aT ops.toList j with|some o=>o.dst|none=>none
def nq(ops:Array Oper)(fr:Fr)(kn:Kn):Nat->Option (Nat×Bool)->GC
 | _,none=>.yes
 | 0,some _=>.bad
 | n+1,some (j,w)=>match mg kn j w with
  | some true=>.yes
  | some false=>.no
  | none=>match jJ ops j with
   | none=>.no
   | some d=>match aT fr d with
    | some (.p (.bool c))=>.iff (c=w)
    | some (.p (.tuple _))=>.no
    | some (.p _)=>.bad
    | some (.g h w' (.bool c))=>match nq ops fr kn n (some (h,w')) with
     | .yes=>.iff (c=w)
     | .iff p=>.iff (p/\c=w)
     | .no=>.no
     | .bad=>.bad
    | _=>.bad
def impl(ops:Array Oper)(fr:Fr):Nat->Option (Nat×Bool)->Nat->Bool->Bool
 | 0,_,_,_=>false
 | _,none,_,_=>false
 | n+1,some (j',w'),j,w=>(Nat.beq j' j&&w' == w)||(match jJ ops j' with
  | some d=>match aT fr d with
   | some (.g h w'' _)=>impl ops fr n (some (h,w'')) j w
   | _=>false
  | none=>false)
def heldB(ops:Array Oper)(fr:Fr)(kn:Kn)(gd:Option (Nat×Bool))(j:Nat)(w:Bool):Bool:=
 match mg kn j w with
 | some b=>b
 | none=>impl ops fr 9 gd j w
def evG(ops:Array Oper)(fr:Fr)(kn:Kn)(gd:Option (Nat×Bool)):Operand->Option Value
 | .tmp t=>match aT fr t with
  | some (.p v)=>some v
  | some (.g j w v)=>if heldB ops fr kn gd j w then some v else none
  | _=>none
 | .const v=>some v
 | .global g=>some (.pointer (some ⟨g,0,none⟩))
 | .func f=>some (.func (.func f) #[] #[])
def nr(ops:Array Oper)(fr:Fr)(kn:Kn)(gd:Option (Nat×Bool))(side:Bool)(a x:Operand):Option Value:=
 match evG ops fr kn gd x with
 | some v=>some v
 | none=>match a,x with
  | .tmp s,.tmp t=>match aT fr t with
   | some (.g j w v)=>match jJ ops j with
    | some d=>if Nat.beq d s&&w == side then some v else none
    | none=>none
   | _=>none
  | _,_=>none
def pW(ops:Array Oper):Kn->Nat->Option Bool
 | [],_=>none
 | (j,w,b)::r,t=>match jJ ops j with
  | some d=>if Nat.beq d t then some (w == b) else pW ops r t
  | none=>pW ops r t
def pkG(ops:Array Oper)(fr:Fr)(kn:Kn)(gd:Option (Nat×Bool))(a b d:Operand):Option (Bool×Value×Value):=
 match evG ops fr kn gd a with
 | some (.bool c)=>match (match a with|.tmp t=>pW ops kn t|_=>none) with
  | some true=>match nr ops fr kn gd true a b with|some v=>some (true,v,v)|none=>none
  | some false=>match nr ops fr kn gd false a d with|some v=>some (false,v,v)|none=>none
  | none=>match nr ops fr kn gd true a b,nr ops fr kn gd false a d with|some x,some y=>some (c,x,y)|_,_=>none
 | _=>none
def lz(ops:Array Oper):List Nat->Option Tmp->Bool
 | _,none=>true
 | [],some _=>true
 | j::r,some t=>(match jJ ops j with|some u=>!(Nat.beq u t)|none=>true)&&lz ops r (some t)
def re(g:Option (Nat×Bool))(gs:List Nat):List Nat:=match g with|some (j,_)=>j::gs|none=>gs
section defs
variable (X:Ctx)(ops:Array Oper)
def vcPR(o:Oper)(kn:Kn)(gs:List Nat)(fr:Fr)(H:aD)(k:Fr->List Nat->Option (aD->Prop)->Prop):Prop:=
 if lz ops (re o.guard gs) o.dst=false then False else
 match nq ops fr kn 9 o.guard with
 | .bad=>False
 | .no=>k (fr.put o.dst (.p undef)) gs none
 | .yes=>(match me X o.op with
  | .P=>vf X (evG ops fr kn o.guard) (pkG ops fr kn o.guard) none o.op λv=>k (fr.put o.dst (.p v)) gs none
  | .R=>vh X (evG ops fr kn o.guard) none o H λv f=>k (fr.put o.dst (.p v)) gs (some f)
  | .W=>False)
 | .iff c=>(match o.guard with
  | none=>False
  | some (j,w)=>(match me X o.op with
   | .P=>vf X (evG ops fr kn o.guard) (pkG ops fr kn o.guard) (some c) o.op λv=>k (fr.put o.dst (.g j w v)) (j::gs) none
   | .R=>vh X (evG ops fr kn o.guard) (some c) o H λv f=>k (fr.put o.dst (.g j w v)) (j::gs) (some f)
   | .W=>False))
def vcW(o:Oper)(kn:Kn)(gs:List Nat)(fr:Fr)(H:aD)(k:Fr->Kn->List Nat->aD->Prop):Prop:=
 if lz ops (re o.guard gs) o.dst=false then False else
 match nq ops fr kn 9 o.guard with
 | .bad=>False
 | .no=>k (fr.put o.dst (.p undef)) kn gs H
 | .yes=>vi X (evG ops fr kn o.guard) o H λv H'=>k (fr.put o.dst (.p v)) kn gs H'
 | .iff c=>(match o.guard with
  | none=>False
  | some (j,w)=>(c->vi X (evG ops fr kn o.guard) o H λv H'=>k (fr.put o.dst (.p v)) ((j,w,true)::kn) (j::gs) H')/\
   (¬c->k (fr.put o.dst (.p undef)) ((j,w,false)::kn) (j::gs) H))
def Cw(o:Oper)(c:Call)(r:List Oper)(fr:Fr)(k:List DM->Prop):Prop:=
 match o.guard,o.dst,r,c.callee,c.args.toList with
 | none,none,[],.value x,[]=>(match evG ops fr [] none x with
  | some (.func (.func g) ⟨[]⟩ ⟨cap⟩)=>k [.fn g cap]
  | _=>False)
 | _,_,_,_,_=>False
def l7(rd:Bool)(K:Fr->List DM->aD->Prop):List Oper->Kn->List Nat->Fr->aD->Prop
 | [],_,_,fr,H=>ir (pJ fr) λfr'=>K fr' [] H
 | o::r,kn,gs,fr,H=>match o.op with
  | .defer c=>(match rd with
   | true=>Cw ops o c r fr λM=>ir (pJ fr) λfr'=>K fr' M H
   | false=>False)
  | op=>match me X op with
   | .W=>vcW X ops o kn gs fr H λfr' kn' gs' H'=>ir fr' λfr'=>l7 rd K r kn' gs' fr' H'
   | _=>vcPR X ops o kn gs fr H λfr' gs' _=>ir fr' λfr'=>l7 rd K r kn gs' fr' H
def pX(acc:List Nat):List Edge->Nat->Nat
 | [],s=>s
 | e::r,s=>pX acc r (if Region.binds .any e then s ||| 2^e.on ||| (match aT acc e.on with|some m=>m|none=>0) else s)
def jK:List Oper->List Nat->List Nat
 | [],acc=>acc
 | o::r,acc=>jK r (acc++[pX acc o.after.toList 0])
def bfB(B:List Nat)(j i:Nat):Bool:=match aT B j with|some m=>m.testBit i|none=>false
def l8:List Nat->Option Nat
 | []=>none
 | i::r=>match aT ops.toList i with
  | some o=>(match me X o.op with|.W=>l8 r|_=>some i)
  | none=>l8 r
def allL:List Nat->(Nat->Prop)->Prop
 | [],_=>False
 | [i],f=>f i
 | i::r,f=>f i/\allL r f
def vp:kw->aD->Prop->Prop
 | [],_,q=>q
 | (_,none)::r,H,q=>vp r H q
 | (_,some f)::r,H,q=>f H/\vp r H q
def pY(B:List Nat)(i:Nat):kw->kw
 | []=>[]
 | (j,f)::r=>match bfB B i j with|true=>pY B i r|false=>(j,f)::pY B i r
def vq:List Oper->Bool
 | []=>true
 | o::r=>(match o.op with|.defer _=>false|_=>true)&&vq r
theorem Cx:∀{l:List Oper},vq l=true->∀o∈l,∀c,o.op≠.defer c
 | [],_,o,a,_,_=>by cases a
 | x::r,h,o,a,c,hc=>by
  simp only[vq,V7]at h
  rcases VJ.1 a with rfl|a
  .rw [hc]at h;exact V2 h.1 (by simp)
  .exact Cx h.2 o a c hc
def pZ(ops:Array Oper)(listed:Array Bool):List Nat:=
 (List.range ops.size).filter λi=>!listed.getD i true&&((ops[i]?).map (·.after.toList.all λe=>!Region.binds .any e||listed.getD e.on false)).getD false
theorem yr(ops:Array Oper)(a:Array Bool):pZ ops a=Region.ready .any ops a:=by
 unfold pZ Region.ready;simp only[Array.all_toList]
def qb:List Bool->(List Bool->Prop)->Prop
 | [],k=>k []
 | true::r,k=>qb r λr'=>k (true::r')
 | false::r,k=>qb r λr'=>k (false::r')
theorem yu:∀(l:List Bool) (k:List Bool->Prop),qb l k=k l
 | [],_=>rfl
 | true::r,k=>by rw[qb,yu r]
 | false::r,k=>by rw[qb,yu r]
def oK(X:Ctx)(ops:Array Oper):Nat->Array Bool->Bool
 | 0,_=>true
 | n+1,listed=>match l8 X ops (pZ ops listed) with
  | some i=>Region.free .any ops listed i&&oK X ops n (listed.setIfInBounds i true)
  | none=>(pZ ops listed).all λi=>oK X ops n (listed.setIfInBounds i true)
def oL(X:Ctx)(ops:Array Oper)(d:Bool):Bool:=match d with
 | false=>true
 | true=>Region.noSelect ops&&(vq ops.toList&&oK X ops ops.size (Array.replicate ops.size false))
def okC(X:Ctx):Code->Bool
 | .region _ ops d=>oL X ops d
 | .seq a b=>okC X a&&okC X b
 | .cond _ a b=>okC X a&&okC X b
 | .block _ a=>okC X a
 | .loop a=>okC X a
 | .rangeFunc _ _ a b=>okC X a&&okC X b
 | _=>true
def rh(B:List Nat)(K:Fr->aD->Prop):Nat->Array Bool->kw->Kn->List Nat->Fr->aD->Prop
 | 0,listed,_,_,_,fr,H=>(match pZ ops listed with|[]=>ir (pJ fr) λfr'=>K fr' H|_=>False)
 | n+1,listed,pd,kn,gs,fr,H=>match l8 X ops (pZ ops listed) with
  | some i=>(match aT ops.toList i with
   | none=>False
   | some o=>vcPR X ops o kn gs fr H λfr' gs' f=>ir fr' λfr'=>qb (listed.setIfInBounds i true).toList λl=>rh B K n ⟨l⟩ ((i,f)::pd) kn gs' fr' H)
  | none=>allL (pZ ops listed) λi=>(match aT ops.toList i with
   | none=>False
   | some o=>vcW X ops o kn gs fr H λfr' kn' gs' H'=>vp (pY B i pd) H' (ir fr' λfr'=>qb (listed.setIfInBounds i true).toList λl=>rh B K n ⟨l⟩ (pY B i pd) kn' gs' fr' H'))
end defs
structure fV(ops:Array Oper)(fr:Fr)(kn:Kn)(gs:List Nat)(a:Act):Prop where
 size:a.tmps.size=fr.length
 pv:∀t v,aT fr t=some (.p v)->a.tmps[t]?=some v
 gv:∀t j w v,aT fr t=some (.g j w v)->j∈gs/\(yielded ops a.tmps j=some w->a.tmps[t]?=some v)/\(yielded ops a.tmps j≠some w->a.tmps[t]?=some undef)
 kn:∀x∈kn,x.1∈gs/\(yielded ops a.tmps x.1=some x.2.1↔x.2.2=true)
def fN(ops:Array Oper)(g:Option (Nat×Bool))(a:Act):Prop:=match g with|none=>True|some (j,w)=>yielded ops a.tmps j=some w
section
variable {X:Ctx}{ops:Array Oper}{fr:Fr}{kn:Kn}{gs:List Nat}{a:Act}
theorem Cy(o:Oper):Region.wanted o (yielded ops a.tmps)=true↔fN ops o.guard a:=by
 unfold Region.wanted fN
 cases o.guard with
 | none=>simp
 | some g=>simp
theorem Cz(j:Nat):jJ ops j=(ops[j]?).bind (·.dst):=by
 unfold jJ;rw[eI];simp only[Array.getElem?_toList]
 cases ops[j]? <;> rfl
theorem ns{j d:Nat}(h:jJ ops j=some d):yielded ops a.tmps j=(match a.tmps[d]? with|some (.bool b)=>some b|_=>none):=by
 rw[Cz]at h;unfold yielded;rw[h];rfl
theorem yv{j:Nat}(h:jJ ops j=none):yielded ops a.tmps j=none:=by
 rw[Cz]at h;unfold yielded;rw[h];rfl
theorem C0(R:fV ops fr kn gs a){j:Nat}{w b:Bool}:∀(l:Kn),(∀x∈l,x∈kn)->mg l j w=some b->(yielded ops a.tmps j=some w↔b=true)/\j∈gs
 | [],_,h=>by simp[mg]at h
 | (j',w',b')::r,hs,h=>by
  simp only[mg]at h;obtain⟨hm,c⟩:=R.kn _ (hs _ VM);simp only at hm c;have k:=C0 R r (λx c=>hs x (VL _ c)) (j:=j) (w:=w) (b:=b)
  split at h
  .rename_i m;have i:j'=j:=WI m;subst i
   split at h
   .rename_i f;have e:w'=w:=by simpa using f
    subst e
    cases h
    exact⟨c,hm⟩
   .rename_i f
    split at h
    .rename_i hb
     cases h
     have:=c.2 hb;refine⟨⟨λd=>?_,λd=>by cases d⟩,hm⟩
     rw[this]at d;exfalso;apply f;simpa using d
    .exact k h
  .exact k h
theorem C7(R:fV ops fr kn gs a){j:Nat}{w b:Bool}(h:mg kn j w=some b):(yielded ops a.tmps j=some w↔b=true)/\j∈gs:=
 C0 R kn (λ_ c=>c) h
theorem yw(R:fV ops fr kn gs a):∀(n:Nat) (g:Option (Nat×Bool)),match nq ops fr kn n g with
  | .yes=>fN ops g a
  | .no=>¬fN ops g a
  | .bad=>True
  | .iff c=>fN ops g a↔c
 | n,none=>by cases n <;> simp[nq,fN]
 | 0,some _=>by simp[nq]
 | n+1,some (j,w)=>by
  simp only[nq]
  cases hk:mg kn j w with
  | some b=>
   have:=(C7 R hk).1
   cases b
   .simp only[fN];simp[this]
   .simp only[fN];simp[this]
  | none=>
   cases hd:jJ ops j with
   | none=>simp only[fN];rw[yv hd];simp
   | some d=>
    cases hl:aT fr d with
    | none=>simp only[hl]
    | some s=>
     cases s with
     | x=>simp only[hl]
     | p v=>
      cases v with
      | bool c=>
       simp only[hl,fN];rw[ns hd,R.pv _ _ hl];simp
      | tuple c=>
       simp only[hl,fN];rw[ns hd,R.pv _ _ hl];simp
      | _=>simp only[hl]
     | g h w' v=>
      cases v <;> simp only[hl]
      rename_i c;obtain⟨_,i,f⟩:=R.gv _ _ _ _ hl;have e:=yw R n (some (h,w'))
      cases hg:nq ops fr kn n (some (h,w')) with
      | yes=>
       simp only[hg,fN]at e ⊢;rw[ns hd,i e];simp
      | no=>
       simp only[hg,fN]at e ⊢;rw[ns hd,f e];simp[undef]
      | bad=>simp only
      | iff p=>
       simp only[hg,fN]at e ⊢;rw[ns hd]
       by_cases hy:yielded ops a.tmps h=some w'
       .rw [i hy];simp[e.1 hy]
       .rw [f hy];simp[undef];intro k;exact V2 (e.2 k) hy
theorem C8(R:fV ops fr kn gs a){j:Nat}{w:Bool}:∀(n:Nat) (g:Option (Nat×Bool)),impl ops fr n g j w=true->fN ops g a->yielded ops a.tmps j=some w
 | 0,_,h,_=>by simp[impl]at h
 | n+1,none,h,_=>by simp[impl]at h
 | n+1,some (j',w'),h,hg=>by
  simp only[impl,VN,V7]at h
  rcases h with ⟨c,b⟩|h
  .have e1:j'=j:=WI c;have e2:w'=w:=by simpa using b
   subst e1;subst e2;exact hg
  .cases hd:jJ ops j' with
   | none=>simp[hd]at h
   | some d=>
    simp only[hd]at h
    cases hl:aT fr d with
    | none=>simp[hl]at h
    | some s=>
     cases s with
     | p v=>simp[hl]at h
     | x=>simp[hl]at h
     | g hh w'' v=>
      simp only[hl]at h;obtain⟨_,c,b⟩:=R.gv _ _ _ _ hl;refine C8 R n _ h ?_;simp only[fN]at hg ⊢
      by_cases hy:yielded ops a.tmps hh=some w''
      .exact hy
      .rw [ns hd,b hy]at hg;simp[undef]at hg
theorem Np(R:fV ops fr kn gs a){gd:Option (Nat×Bool)}{j:Nat}{w:Bool}(h:heldB ops fr kn gd j w=true)(c:fN ops gd a):yielded ops a.tmps j=some w:=by
 unfold heldB at h
 cases hk:mg kn j w with
 | some b=>rw[hk]at h;exact (C7 R hk).1.2 h
 | none=>rw[hk]at h;exact C8 R 9 gd h c
theorem vr{t:Nat}{v:Value}(h:a.tmps[t]?=some v):a.eval (.tmp t)=v:=by
 simp[Act.eval,Y3,h]
theorem oM(R:fV ops fr kn gs a){gd:Option (Nat×Bool)}(x:Operand)(v:Value)(h:evG ops fr kn gd x=some v)(b:fN ops gd a):a.eval x=v:=by
 cases x with
 | const u=>simp[evG]at h;subst h;rfl
 | global g=>simp[evG]at h;subst h;rfl
 | func f=>simp[evG]at h;subst h;rfl
 | tmp t=>
  simp only[evG]at h
  cases hl:aT fr t with
  | none=>simp[hl]at h
  | some s=>
   cases s with
   | p u=>simp[hl]at h;subst h;exact vr (R.pv _ _ hl)
   | x=>simp[hl]at h
   | g j w u=>
    simp only[hl]at h
    split at h
    .rename_i c
     cases h
     exact vr ((R.gv _ _ _ _ hl).2.1 (Np R c b))
    .cases h
theorem vt(R:fV ops fr kn gs a){gd:Option (Nat×Bool)}{b:Bool}{x y:Operand}{v:Value}(h:nr ops fr kn gd b x y=some v)(f:fN ops gd a)(c:a.eval x=.bool b):a.eval y=v:=by
 unfold nr at h
 cases he:evG ops fr kn gd y with
 | some u=>rw[he]at h;cases h;exact oM R y _ he f
 | none=>
  rw[he]at h
  cases x <;> cases y <;> simp only at h <;> try cases h
  rename_i s t
  cases hl:aT fr t with
  | none=>simp[hl]at h
  | some sv=>
   cases sv with
   | p u=>simp[hl]at h
   | x=>simp[hl]at h
   | g j w u=>
    simp only[hl]at h
    cases hd:jJ ops j with
    | none=>simp[hd]at h
    | some d=>
     simp only[hd]at h
     split at h
     .rename_i e
      cases h
      simp only[V7]at e;have e1:d=s:=WI e.1;have e2:w=b:=by simpa using e.2
      subst e1;subst e2;refine vr ((R.gv _ _ _ _ hl).2.1 ?_);rw[ns hd];simp only[Act.eval,Y3]at c
      cases ht:a.tmps[d]? with
      | none=>rw[ht]at c;simp[undef]at c
      | some u'=>rw[ht]at c;simp at c;subst c;rfl
     .cases h
theorem C9(R:fV ops fr kn gs a){t:Nat}{b c:Bool}(f:a.tmps[t]?=some (.bool c)):∀(l:Kn),(∀x∈l,x∈kn)->pW ops l t=some b->c=b
 | [],_,h=>by simp[pW]at h
 | (j,w,b')::r,hs,h=>by
  simp only[pW]at h;have e:=C9 R f r (λx i=>hs x (VL _ i)) (b:=b)
  cases hd:jJ ops j with
  | none=>simp only[hd]at h;exact e h
  | some d=>
   simp only[hd]at h
   split at h
   .rename_i hb;have e1:d=t:=WI hb;subst e1;have:=(R.kn _ (hs _ VM)).2;simp only at this;rw[ns hd,f]at this
    cases w <;> cases b' <;> cases c <;> simp at this h ⊢ <;> simp[<-h]
   .exact e h
theorem CE(R:fV ops fr kn gs a){t:Nat}{b c:Bool}(h:pW ops kn t=some b)(d:a.tmps[t]?=some (.bool c)):c=b:=
 C9 R d kn (λ_ e=>e) h
theorem CG(R:fV ops fr kn gs a){gd:Option (Nat×Bool)}(x y z:Operand)(r:Bool×Value×Value)(h:pkG ops fr kn gd x y z=some r)(f:fN ops gd a) :
  a.eval x=.bool r.1/\(r.1=true->a.eval y=r.2.1)/\(r.1=false->a.eval z=r.2.2):=by
 unfold pkG at h
 cases he:evG ops fr kn gd x with
 | none=>simp[he]at h
 | some u=>
  have b:=oM R x u he f
  cases u <;> simp only[he]at h <;> try cases h
  rename_i c
  split at h
  .rename_i e;have d:c=true:=by
    cases x <;> simp only at e <;> try cases e
    rename_i t;refine CE R e ?_;simp only[Act.eval,Y3]at b
    cases ht:a.tmps[t]? with
    | none=>rw[ht]at b;simp[undef]at b
    | some u'=>rw[ht]at b;simp at b;subst b;rfl
   subst d
   cases hs:nr ops fr kn gd true x y with
   | none=>simp[hs]at h
   | some v=>simp[hs]at h;subst h;exact⟨b,λ_=>vt R hs f b,λh=>by cases h⟩
  .rename_i e;have d:c=false:=by
    cases x <;> simp only at e <;> try cases e
    rename_i t;refine CE R e ?_;simp only[Act.eval,Y3]at b
    cases ht:a.tmps[t]? with
    | none=>rw[ht]at b;simp[undef]at b
    | some u'=>rw[ht]at b;simp at b;subst b;rfl
   subst d
   cases hs:nr ops fr kn gd false x z with
   | none=>simp[hs]at h
   | some v=>simp[hs]at h;subst h;exact⟨b,λh=>(by cases h),λ_=>vt R hs f b⟩
  .cases hs:nr ops fr kn gd true x y with
   | none=>simp[hs]at h
   | some v=>cases hs':nr ops fr kn gd false x z with
    | none=>simp[hs,hs']at h
    | some v'=>
     simp[hs,hs']at h;subst h;exact⟨b,λd=>vt R hs f (by rw[b];simp at d;rw[d]),λd=>vt R hs' f (by rw[b];simp at d;rw[d])⟩
end
structure Rel(fr:Fr)(a:Act):Prop where
 size:a.tmps.size=fr.length
 pv:∀t v,aT fr t=some (.p v)->a.tmps[t]?=some v
 ng:∀t j w v,aT fr t≠some (.g j w v)
section
variable {X:Ctx}{ops:Array Oper}{fr:Fr}{kn:Kn}{gs:List Nat}{a:Act}
theorem CI:∀{gs:List Nat} {t:Tmp},lz ops gs (some t)=true->∀j∈gs,jJ ops j≠some t
 | [],_,_,_,hj=>by cases hj
 | j::r,t,h,k,a=>by
  simp only[lz,V7]at h
  rcases VJ.1 a with rfl|a
  .intro hd;rw[hd]at h;simp at h
  .exact CI h.2 k a
theorem rj(a:Act)(t:Tmp)(u:Value):(a.put (some t) u).tmps=a.tmps.setIfInBounds t u:=rfl
theorem rk{d:Option Tmp}(u:Value)(h:lz ops gs d=true){j:Nat}(c:j∈gs):yielded ops (a.put d u).tmps j=yielded ops a.tmps j:=by
 cases d with
 | none=>rfl
 | some t=>
  have b:=CI h j c
  cases hd:jJ ops j with
  | none=>rw[yv hd,yv hd]
  | some s=>
   have:s≠t:=λe=>b (by rw[hd,e])
   rw[ns hd,ns hd,rj];rw[Array.getElem?_setIfInBounds,V0 (λe=>this e.symm)]
theorem CJ{d:Option Tmp}{g:Option (Nat×Bool)}(h:lz ops (re g gs) d=true):lz ops gs d=true:=by
 cases g with
 | none=>exact h
 | some x=>
  obtain⟨j,w⟩:=x
  cases d with
  | none=>cases gs <;> rfl
  | some t=>simp only[re,lz,V7]at h;exact h.2
theorem l9{α:Type}(l:List α)(n m:Nat)(x:α):aT (iq l n x) m=if n=m/\n<l.length then some x else aT l m:=by
 rw[eI,yh,eI,List.getElem?_set]
 by_cases h:n=m
 .subst h
  by_cases h2:n<l.length
  .simp [h2]
  .simp [h2]
 .simp [h]
theorem qd{α:Type}(l:List α)(n:Nat)(x:α):(iq l n x).length=l.length:=by rw[yh];simp
theorem mh{d:Option Tmp}{u:Value}{s:SV}{i:List Nat}(R:fV ops fr kn gs a)(f:lz ops i d=true)(b:∀j∈gs,j∈i)
  (hs:s=.p u\/∃j w v,s=.g j w v/\j∈i/\(yielded ops a.tmps j=some w->u=v)/\(yielded ops a.tmps j≠some w->u=undef)):fV ops (fr.put d s) kn i (a.put d u):=by
 cases d with
 | none=>
  exact⟨R.size,R.pv,λt j w v h=>by obtain⟨e,c⟩:=R.gv t j w v h;exact⟨b _ e,c⟩,λx B=>by obtain⟨e,c⟩:=R.kn x B;exact⟨b _ e,c⟩⟩
 | some t=>
  have A:(a.put (some t) u).tmps.size=(fr.put (some t) s).length:=by
   rw[rj];simp only[Fr.put];rw[qd,Array.size_setIfInBounds];exact R.size
  have k:∀m,(a.put (some t) u).tmps[m]?=if t=m/\t<fr.length then some u else a.tmps[m]?:=by
   intro m;rw[rj,Array.getElem?_setIfInBounds,<-R.size]
   by_cases h:t=m
   .subst h
    by_cases c:t<a.tmps.size
    .simp [c]
    .simp [c]
   .simp [h]
  refine⟨A,λm v h=>?_,λm j w v h=>?_,λx B=>?_⟩
  .simp only[Fr.put]at h;rw[l9]at h;rw[k]
   split at h
   .rename_i n;rw[V1 n]
    cases h
    rcases hs with hs|⟨j,w,D,hs,_⟩
    .cases hs;rfl
    .cases hs
   .rename_i n;rw[V0 n];exact R.pv _ _ h
  .simp only[Fr.put]at h;rw[l9]at h;rw[k]
   split at h
   .rename_i n;rw[V1 n]
    cases h
    rcases hs with hs|⟨F,E,D,hs,C,e,c⟩
    .cases hs
    .cases hs
     refine⟨C,λy=>?_,λy=>?_⟩
     .rw [rk u f C]at y;rw[e y]
     .rw [rk u f C]at y;rw[c y]
   .rename_i n;rw[V0 n];obtain⟨e,c⟩:=R.gv _ _ _ _ h;rw[rk u f (b _ e)];exact⟨b _ e,c⟩
  .obtain⟨e,c⟩:=R.kn x B;rw[rk u f (b _ e)];exact⟨b _ e,c⟩
theorem CK{j:Nat}{w b:Bool}(R:fV ops fr kn gs a)(d:j∈gs)(h:yielded ops a.tmps j=some w↔b=true):fV ops fr ((j,w,b)::kn) gs a:=
 ⟨R.size,R.pv,R.gv,λx c=>by
  rcases VJ.1 c with rfl|c
  .exact⟨d,h⟩
  .exact R.kn x c⟩
theorem vu(a:Act)(f:FuncId):a.eval (.func f)=.func (.func f) #[] #[]:=rfl
theorem rp{c:Prop}[Decidable c]{q:Prop}(h:if c then False else q):¬c/\q:=by
 split at h
 .exact h.elim
 .rename_i a;exact⟨a,h⟩
theorem CN{o:Oper}{H:aD}{k:Fr->List Nat->Option (aD->Prop)->Prop}(T:∀f,bJ f X.calls=true->gG X.P f)(R:fV ops fr kn gs a)
  (h:vcPR X ops o kn gs fr H k):∃v f F K,k F K f/\ly X.P ops o v f a/\pT f H/\fV ops F kn K (a.put o.dst v):=by
 unfold vcPR at h;obtain⟨Q,h⟩:=rp h;have n:lz ops (re o.guard gs) o.dst=true:=by simpa using Q
 have A:=CJ n;have B:=Cy (ops:=ops) (a:=a) o;have m:=yw R 9 o.guard
 cases hg:nq ops fr kn 9 o.guard with
 | bad=>simp[hg]at h
 | no=>
  simp only[hg]at h m;refine⟨undef,none,_,_,h,⟨λi=>V2 (B.1 i) m,λ_=>rfl⟩,trivial,mh R A (λ_ t=>t) (.inl rfl)⟩
 | yes=>
  simp only[hg]at h m;have i:Region.wanted o (yielded ops a.tmps)=true:=B.2 m;have u:∀x v,evG ops fr kn o.guard x=some v->True->a.eval x=v:=λx v S _=>oM R x v S m
  cases hk:me X o.op with
  | P=>
   simp only[hk]at h;obtain⟨v,C,D⟩:=Cj (P:=X.P) (G:=True) (c:=none) o (λp J _=>J) u (λb c d r N _=>CG R b c d r N m) (λo v e=>by rw[e];rfl) rfl h
   exact⟨v,none,_,_,C,⟨λ_ w _=>nk (D trivial w),λs=>by rw[i]at s;cases s⟩,trivial,mh R A (λ_ t=>t) (.inl rfl)⟩
  | R=>
   simp only[hk]at h;obtain⟨v,f,C,h0,D,O⟩:=Cs (G:=True) (c:=none) o (λp J _=>J) u T (vu a) h
   exact⟨v,some f,_,_,C,⟨λ_ w M=>O trivial w M,λs=>by rw[i]at s;cases s⟩,D trivial,mh R A (λ_ t=>t) (.inl rfl)⟩
  | W=>simp[hk]at h
 | iff c=>
  simp only[hg]at h m
  cases hgd:o.guard with
  | none=>simp[hgd]at h
  | some x=>
   obtain⟨j,w⟩:=x;rw[hgd]at h m B n;simp only at h;have u:∀x v,evG ops fr kn (some (j,w)) x=some v->fN ops (some (j,w)) a->a.eval x=v:=λx v S y=>oM R x v S y
   have I:∀p,gt (some c) p->fN ops (some (j,w)) a->p:=λp J y=>J (m.1 y)
   cases hk:me X o.op with
   | P=>
    simp only[hk]at h;obtain⟨v,C,D⟩:=Cj (P:=X.P) (G:=fN ops (some (j,w)) a) (c:=some c) o I u (λb c d r N y=>CG R b c d r N y) (λo v e=>by rw[e];rfl) rfl h
    by_cases i:Region.wanted o (yielded ops a.tmps)=true
    .refine⟨v,none,_,_,C,⟨λ_ L _=>nk (D (B.1 i) L),λs=>by rw[i]at s;cases s⟩,trivial,mh R n (λ_ t=>VL _ t) (.inr ⟨j,w,v,rfl,VM,λ_=>rfl,λE=>V2 (B.1 i) E⟩)⟩
    .refine⟨undef,none,_,_,C,⟨λs=>V2 s i,λ_=>rfl⟩,trivial,mh R n (λ_ t=>VL _ t) (.inr ⟨j,w,v,rfl,VM,λE=>V2 (B.2 E) i,λ_=>rfl⟩)⟩
   | R=>
    simp only[hk]at h;obtain⟨v,f,C,h0,D,O⟩:=Cs (G:=fN ops (some (j,w)) a) (c:=some c) o I u T (vu a) h
    by_cases i:Region.wanted o (yielded ops a.tmps)=true
    .refine⟨v,some f,_,_,C,⟨λ_ L M=>O (B.1 i) L M,λs=>by rw[i]at s;cases s⟩,D (B.1 i),mh R n (λ_ t=>VL _ t) (.inr ⟨j,w,v,rfl,VM,λ_=>rfl,λE=>V2 (B.1 i) E⟩)⟩
    .refine⟨undef,some f,_,_,C,⟨λs=>V2 s i,λ_=>rfl⟩,h0 c rfl (λU=>i (B.2 (m.2 U))) H,mh R n (λ_ t=>VL _ t) (.inr ⟨j,w,v,rfl,VM,λE=>V2 (B.2 E) i,λ_=>rfl⟩)⟩
   | W=>simp[hk]at h
theorem CR{o:Oper}{H:aD}{k:Fr->Kn->List Nat->aD->Prop}(F:∀f,bJ f X.calls=true->gG X.P f)(R:fV ops fr kn gs a)
  (h:vcW X ops o kn gs fr H k):∀w,w.heap=H->if Region.wanted o (yielded ops a.tmps) then gq X.P w X.kp (λv B=>∃i m n,k i m n B/\fV ops i m n (a.put o.dst v)) ((execOp a.eval o).run X.P w)
   else ∃i m n,k i m n H/\fV ops i m n (a.put o.dst undef):=by
 intro w y;unfold vcW at h;obtain⟨C,h⟩:=rp h;have b:lz ops (re o.guard gs) o.dst=true:=by simpa using C
 have s:=CJ b;have u:=Cy (ops:=ops) (a:=a) o;have d:=yw R 9 o.guard
 cases hg:nq ops fr kn 9 o.guard with
 | bad=>simp[hg]at h
 | no=>
  simp only[hg]at h d;rw[V0 (λe=>d (u.1 e))]
  exact⟨_,_,_,h,mh R s (λ_ t=>t) (.inl rfl)⟩
 | yes=>
  simp only[hg]at h d;rw[V1 (u.2 d)];refine (Cu (X:=X) o (λx v E=>oM R x v E d) F (vu a) h w y).mono λv B D=>?_
  exact⟨_,_,_,D,mh R s (λ_ t=>t) (.inl rfl)⟩
 | iff c=>
  simp only[hg]at h d
  cases hgd:o.guard with
  | none=>simp[hgd]at h
  | some x=>
   obtain⟨j,J⟩:=x;rw[hgd]at h d u b;simp only at h
   by_cases e:Region.wanted o (yielded ops a.tmps)=true
   .rw [V1 e];have A:=u.1 e;refine (Cu (X:=X) o (λx v E=>oM R x v E A) F (vu a) (h.1 (d.1 A)) w y).mono λv B D=>?_
    refine⟨_,_,_,D,CK (mh R b (λ_ t=>VL _ t) (.inl rfl)) VM ?_⟩
    rw[rk v b VM];exact⟨λ_=>rfl,λ_=>A⟩
   .rw [V0 e];have G:¬c:=λI=>e (u.2 (d.2 I))
    refine⟨_,_,_,h.2 G,CK (mh R b (λ_ t=>VL _ t) (.inl rfl)) VM ?_⟩
    rw[rk undef b VM];exact⟨λA=>V2 (u.2 A) e,λhb=>by cases hb⟩
theorem yx{α β:Type}(f:α->β)(l:List α)(n:Nat):aT (l.map f) n=(aT l n).map f:=by
 rw[eI,eI];simp
theorem vw(R:fV ops fr kn gs a):Rel (pJ fr) a:=by
 refine⟨by rw[R.size];simp[pJ],λt v h=>?_,λt j w v h=>?_⟩
 .unfold pJ at h;rw[yx]at h
  cases hl:aT fr t with
  | none=>simp[hl]at h
  | some s=>
   cases s <;> simp[hl]at h
   subst h;exact R.pv _ _ hl
 .unfold pJ at h;rw[yx]at h
  cases hl:aT fr t with
  | none=>simp[hl]at h
  | some s=>cases s <;> simp[hl]at h
theorem rq(R:Rel fr a):fV ops fr [] [] a:=
 ⟨R.size,R.pv,λt j w v h=>V2 h (R.ng t j w v),λx b=>by cases b⟩
theorem Nq{P:Program}{o:Oper}{c:Call}{x:Operand}{ρ:Operand->Value}{g:FuncId}{cap:Os}{w:World}(d:o.op=.defer c)(e:c.callee=.value x)(b:c.args.toList=[])
  (f:ρ x=.func (.func g) ⟨[]⟩ ⟨cap⟩):(execOp ρ o).run P w=.ok (.defer { target:=.fn (.func g) ⟨cap⟩,args:=#[] }) w:=by
 have a:c.args=#[]:=by apply Array.ext';simpa using b
 simp[execOp,d,resolve,e,a,f,Deferred.ofValue]
theorem rr{K:Fr->List DM->aD->Prop}{Q:Exit->Act->World->Prop}{w0:World}{ro:Option Nat}(H:∀f,bJ f X.calls=true->gG X.P f){Inv:Act->Prop}(i:∀a o v,o∈ops.toList->Inv a->Inv (a.put o.dst v))
  (O:∀fr a w,bW w0 w->Rel fr a->K fr [] w.heap->Inv a->Q .normal a w) (y:∀fr a w g cap,ro=none->bW w0 w->Rel fr a->K fr [.fn g cap] w.heap->Inv a->Q .normal { a with defers:={ target:=.fn (.func g) ⟨cap⟩,args:=#[] }::a.defers } w)
  (S:∀v a w,bW w0 w->Inv a->X.kp v w.heap->Q (.panic [{ v,recovered:=false }]) a w):∀(l:List Oper) (kn:Kn) (gs:List Nat) (fr:Fr) (a:Act) (w:World),(∀o∈l,o∈ops.toList)->Inv a->
  fV ops fr kn gs a->bW w0 w->l7 X ops ro.isNone K l kn gs fr w.heap->wpListIn (FR ro) 0 X.P ops Q l a w
 | [],kn,gs,fr,a,w,hl,ha,R,hr,h=>O _ _ _ hr (vw R) (by simpa only[l7,lv] using h) ha
 | o::r,kn,gs,fr,a,w,hl,ha,R,hr,h=>by
  have B:∀o∈r,o∈ops.toList:=λo ho=>hl o (VL _ ho)
  have A:∀v,Inv (a.put o.dst v):=λv=>i a o v (hl o VM) ha
  by_cases hdef:∃c,o.op=.defer c
  .obtain⟨c,J⟩:=hdef;simp only[l7,J]at h
   cases ro with
   | some l0=>exact h.elim
   | none=>
    simp only[Option.isNone_none]at h;simp only[Cw,lv]at h
    split at h
    case h_2=>exact h.elim
    rename_i x hg U L F
    split at h
    case h_2=>exact h.elim
    rename_i g cap b;have R0:=rq (ops:=ops) (vw R);have hx:a.eval x=.func (.func g) ⟨[]⟩ ⟨cap⟩:=by
     cases x with
     | const u=>simp[evG]at b;subst b;rfl
     | global g=>simp[evG]at b
     | func f=>simp[evG]at b;obtain⟨rfl,rfl⟩:=b;rfl
     | tmp t=>
      simp only[evG]at b
      cases hl2:aT fr t with
      | none=>simp[hl2]at b
      | some s=>
       cases s with
       | p u=>simp[hl2]at b;subst b;exact vr (R.pv _ _ hl2)
       | x=>simp[hl2]at b
       | g j G u=>
        simp only[hl2]at b
        split at b
        .rename_i Y
         cases b
         exact V2 Y (by simp[heldB,mg,impl])
        .cases b
    unfold wpListIn;rw[V1 (by simp[Region.wanted,hg])];refine⟨λf _=>trivial,?_⟩
    have e1:(o.semAt (FR none).round a.eval)=execOp a.eval o:=rfl;rw[e1,Nq J L F hx,Oper.uponIn_defer,U];exact y _ _ _ g cap rfl hr (vw R) h ha
  have E:∀c,o.op≠.defer c:=λc J=>hdef ⟨c,J⟩
  have N:l7 X ops ro.isNone K (o::r) kn gs fr w.heap=(match me X o.op with
   | .W=>vcW X ops o kn gs fr w.heap λd n e T=>l7 X ops ro.isNone K r n e d T
   | _=>vcPR X ops o kn gs fr w.heap λd e _=>l7 X ops ro.isNone K r kn e d w.heap):=by
   rw[l7]
   split
   .rename_i c J;exact V2 J (E c)
   .simp only[lv] <;> rfl
  rw[N]at h;have pr:∀C:vcPR X ops o kn gs fr w.heap λd e _=>l7 X ops ro.isNone K r kn e d w.heap,wpListIn (FR ro) 0 X.P ops Q (o::r) a w:=by
   intro C;obtain⟨v,f,d,e,D,I,M,Z⟩:=CN H R C;unfold wpListIn
   split
   .rename_i k;refine yq E hr (K:=λv' T=>v'=v/\T=w.heap) (λu G m V=>?_) (λ_ _ _ hf=>hf.elim) (I.1 k w M)
    obtain⟨rfl,Y⟩:=V;exact rr H i O y S r kn e d _ G B (A _) Z m (by rw[Y];exact D)
   .rename_i k;rw[<-I.2 (by simpa using k)];exact⟨λf _=>trivial,rr H i O y S r kn e d _ w B (A _) Z hr D⟩
  cases C:me X o.op with
  | P=>simp only[C]at h;exact pr h
  | R=>simp only[C]at h;exact pr h
  | W=>
   simp only[C]at h;have D:=CR H R h w rfl;unfold wpListIn
   split
   .rename_i k;rw[V1 k]at D;refine yq E hr (λu G m V=>?_) (λv G m C=>S v a G m ha C) D
    obtain⟨d,n,e,I,M⟩:=V;exact rr H i O y S r n e d _ G B (A _) M m I
   .rename_i k;rw[V0 k]at D;obtain⟨d,n,e,I,M⟩:=D;exact⟨λf _=>trivial,rr H i O y S r n e d _ w B (A _) M hr I⟩
theorem CZ(acc:List Nat):∀(c:List Edge) (s i:Nat),(pX acc c s).testBit i=true->s.testBit i=true\/∃e∈c,Region.binds .any e=true/\(e.on=i\/∃m,aT acc e.on=some m/\m.testBit i=true)
 | [],s,i,h=>.inl h
 | e::r,s,i,h=>by
  simp only[pX]at h
  rcases CZ acc r _ i h with a|⟨d,b,f⟩
  .split at a
   .rename_i hb;rw[Nat.testBit_or,Nat.testBit_or,VN,VN]at a
    rcases a with (a|a)|a
    .exact .inl a
    .refine .inr ⟨e,VM,hb,.inl ?_⟩;rw[Nat.testBit_two_pow]at a;simpa using a
    .cases hl:aT acc e.on with
     | none=>simp[hl]at a
     | some m=>simp only[hl]at a;exact .inr ⟨e,VM,hb,.inr ⟨m,hl,a⟩⟩
   .exact .inl a
  .exact .inr ⟨d,VL _ b,f⟩
theorem Da:∀(r:List Oper) (acc:List Nat) (j:Nat),acc.length<=j->∀o,r[j-acc.length]?=some o->
  ∃a,a.length=j/\aT (jK r acc) j=some (pX a o.after.toList 0)/\∀k,k<j->aT a k=aT (jK r acc) k
 | [],acc,j,_,o,h=>by simp at h
 | o'::r,acc,j,hj,o,h=>by
  have pre:∀(r:List Oper) (acc:List Nat) (k:Nat),k<acc.length->aT (jK r acc) k=aT acc k:=by
   intro r
   induction r with
   | nil=>intro acc k _;rfl
   | cons x r ih=>
    intro acc k b;simp only[jK];rw[ih _ k (by simp;omega),eI,eI,List.getElem?_append_left b]
  by_cases h0:j=acc.length
  .subst h0;simp at h;subst h;refine⟨acc,rfl,?_,λk b=>?_⟩
   .simp only[jK];rw[pre r _ acc.length (by simp),eI,List.getElem?_append_right (VA _)];simp
   .simp only[jK];rw[pre r _ k (by simp;omega),eI,eI,List.getElem?_append_left b]
  .simp only[jK];refine Da r (acc++[pX acc o'.after.toList 0]) j (by simp;omega) o ?_;rw[<-h];have:j-acc.length=(j-(acc++[pX acc o'.after.toList 0]).length)+1:=by simp;omega
   rw[this,List.getElem?_cons_succ]
theorem bf_ok(ops:Array Oper):BfOk ops (bfB (jK ops.toList [])):=by
 intro j f h i hi;have c:ops.toList[j]?=some f:=by simpa using h
 obtain⟨b,u,s,n⟩:=Da ops.toList [] j (by simp) f (by simpa using c);unfold bfB at hi;rw[s]at hi
 rcases CZ b _ 0 i hi with d|⟨e,t,hb,d⟩
 .simp at d
 .refine⟨e,by simpa using t,hb,d.imp id ?_⟩;rintro⟨m,hm,hbit⟩;have a:e.on<j:=by
   rw[eI]at hm;have:=(List.getElem?_eq_some_iff.1 hm).1;omega
  refine⟨a,?_,?_⟩
  .unfold bfB;rw[<-n _ a,hm];exact hbit
  .have k:=(Array.getElem?_eq_some_iff.1 h).1;simp[show e.on<ops.size by omega]
theorem Db(B:List Nat)(i:Nat):∀a:kw,pY B i a=a.filter (λx=>!bfB B i x.1)
 | []=>rfl
 | (j,f)::r=>by
  simp only[pY,Wk]
  cases h:bfB B i j <;> simp[Db B i r]
theorem vx:∀(d:kw) (H:aD) (q:Prop),vp d H q->(∀x∈d,pT x.2 H)/\q
 | [],_,_,h=>⟨λx a=>(by cases a),h⟩
 | (i,none)::r,H,q,h=>by
  obtain⟨c,b⟩:=vx r H q h;exact⟨λx a=>by rcases VJ.1 a with rfl|a;exact trivial;exact c x a,b⟩
 | (i,some f)::r,H,q,h=>by
  obtain⟨c,b⟩:=vx r H q h.2;exact⟨λx a=>by rcases VJ.1 a with rfl|a;exact h.1;exact c x a,b⟩
theorem Dc{f:Nat->Prop}:∀{l:List Nat},allL l f->l≠[]/\∀i∈l,f i
 | [],h=>h.elim
 | [i],h=>⟨by simp,λj c=>by simp at c;subst c;exact h⟩
 | i::j::r,h=>by
  have b:f i/\allL (j::r) f:=h;obtain⟨_,d⟩:=Dc b.2;exact⟨by simp,λk a=>by rcases VJ.1 a with rfl|a;exact b.1;exact d k a⟩
def isWB(X:Ctx)(ops:Array Oper)(i:Nat):Bool:=match aT ops.toList i with|some o=>(match me X o.op with|.W=>true|_=>false)|none=>false
theorem yy:∀{l:List Nat} {i:Nat},l8 X ops l=some i->i∈l/\isWB X ops i=false
 | [],_,h=>by cases h
 | j::r,i,h=>by
  simp only[l8]at h
  cases hl:aT ops.toList j with
  | none=>simp only[hl]at h;obtain⟨a,b⟩:=yy h;exact⟨VL _ a,b⟩
  | some o=>
   simp only[hl]at h
   cases hk:me X o.op with
   | W=>simp only[hk]at h;obtain⟨a,b⟩:=yy h;exact⟨VL _ a,b⟩
   | P=>simp only[hk]at h;cases h;exact⟨VM,by simp[isWB,hl,hk]⟩
   | R=>simp only[hk]at h;cases h;exact⟨VM,by simp[isWB,hl,hk]⟩
theorem yz:∀{l:List Nat},l8 X ops l=none->∀i∈l,∀o,aT ops.toList i=some o->isWB X ops i=true
 | [],_,i,hi,_,_=>by cases hi
 | j::r,h,i,hi,o,ho=>by
  simp only[l8]at h
  cases hl:aT ops.toList j with
  | none=>
   simp only[hl]at h
   rcases VJ.1 hi with rfl|hi
   .rw [ho]at hl;cases hl
   .exact yz h i hi o ho
  | some o'=>
   simp only[hl]at h
   cases hk:me X o'.op with
   | W=>
    simp only[hk]at h
    rcases VJ.1 hi with rfl|hi
    .simp [isWB,hl,hk]
    .exact yz h i hi o ho
   | P=>simp[hk]at h
   | R=>simp[hk]at h
theorem vy{K:Fr->aD->Prop}{w0:World}(I:∀f,bJ f X.calls=true->gG X.P f)(hs:Region.noSelect ops=true){Inv:Act->Prop}(d:∀a o v,o∈ops.toList->Inv a->Inv (a.put o.dst v)) :
  ∀(n:Nat) (b:Array Bool) (s:kw) (kn:Kn) (gs:List Nat) (fr:Fr) (H:aD) (a:Act),pV ops b->(∀x∈s,pT x.2 H)->fV ops fr kn gs a->Inv a->oK X ops n b=true->
  rh X ops (jK ops.toList []) K n b s kn gs fr H->
  pU X.P w0 X.kp ops (isWB X ops) (bfB (jK ops.toList [])) (λQ L=>(∃c,Rel c Q/\K c L)/\Inv Q) n s b a H
 | 0,b,s,kn,gs,fr,H,a,hc,hp,R,ha,j,h=>by
  simp only[rh,yr,lv]at h
  split at h
  .rename_i S;exact⟨hp,S,⟨_,vw R,h⟩,ha⟩
  .exact h.elim
 | n+1,b,s,kn,gs,fr,H,a,hc,hp,R,ha,j,h=>by
  simp only[rh,lv,yu,yr]at h;simp only[oK,yr]at j
  cases hf:l8 X ops (Region.ready .any ops b) with
  | some i=>
   simp only[hf]at h;simp only[hf,V7]at j;obtain⟨hi,u⟩:=yy hf
   cases hl:aT ops.toList i with
   | none=>simp[hl]at h
   | some o=>
    simp only[hl]at h;obtain⟨v,f,c,e,B,E,G,D⟩:=CN I R h;have m:ops[i]?=some o:=by rw[eI]at hl;simpa using hl
    have k:∀v,Inv (a.put o.dst v):=λv=>d a o v (by rw[eI]at hl;exact Wg hl) ha
    refine first_R (bf_ok ops) hs m u n s b a H hc (Region.free_spec m j.1) hi E ?_;exact vy I hs d n _ _ kn e c H _ (hc.set hi) (λx N=>by rcases VJ.1 N with rfl|N;exact G;exact hp x N) D (k _) j.2 B
  | none=>
   simp only[hf]at h;simp only[hf,Wq]at j;obtain⟨M,F⟩:=Dc h;refine⟨hp,λh0=>V2 h0 M,λi hi w J T=>?_⟩
   have A:=F i hi
   cases hl:aT ops.toList i with
   | none=>simp[hl]at A
   | some o=>
    simp only[hl]at A;have m:ops[i]?=some o:=by rw[eI]at hl;simpa using hl
    have k:∀v,Inv (a.put o.dst v):=λv=>d a o v (by rw[eI]at hl;exact Wg hl) ha
    have u:=yz hf i hi o hl;have C:nl (isWB X ops) (bfB (jK ops.toList [])) i s=pY (jK ops.toList []) i s:=by unfold nl;rw[V1 u,Db]
    have B:=CR I R A w J;simp only[m]
    split
    .rename_i t;rw[V1 t]at B;refine B.mono λv L j=>?_
     obtain⟨c,y,e,E,G⟩:=j;obtain⟨D,O⟩:=vx _ _ _ E;rw[C];exact vy I hs d n _ _ y e c L _ (hc.set hi) D G (k _) (j i hi) O
    .rename_i t;rw[V0 t]at B;obtain⟨c,y,e,E,G⟩:=B;obtain⟨D,O⟩:=vx _ _ _ E;rw[C];exact vy I hs d n _ _ y e c H _ (hc.set hi) D G (k _) (j i hi) O
end
end Go.Proofs.YtaaieblnikcndaaGreatDoor
