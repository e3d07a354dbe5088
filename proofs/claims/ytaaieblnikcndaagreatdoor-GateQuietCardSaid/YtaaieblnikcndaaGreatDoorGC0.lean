/-
  Lemmas for GateQuiet: part 0 of what it rests on. Conditions: none.
-/
import Derived.WalkKit
import Derived.RangeFuncRecord
import Derived.WalkSmall
import Derived.OrdersIn
import Derived.TacticsIn
import Derived.RangeFuncWrites
import Derived.KernelRfl
import Derived.RecoverIn
import Derived.Laws.AppendOwn
import Derived.MapKept
import Derived.Lib.SlKeysI
import Derived.Below
import Derived.Laws.StructEq
import Derived.ChangeKeysEq
import Derived.Maps.RangeRun
import Derived.ProofKit
import Derived.Carry
import Derived.OpenShut
import Derived.ChangeSame
import Derived.Laws.MathBits
import Derived.Laws.MakeOwn
import Derived.Test.YtaaieblnikcndaaGreatDoorProg
import Derived.Shelf.Bytes.SlJoin
import Derived.Ground.SlbNamesProg
import Derived.Shelf.SlIterI.Nil
import Derived.Shelf.SortM.Plain
import Derived.Shelf.SortM.SortNone
import Derived.Shelf.SlMaps.Clone
import Derived.Ground.GgzProg
import Derived.Ground.SlgmProg
import Derived.Ground.SlmcProg
import Derived.Shelf.SlSortCmp.NoneTotal
import Derived.Shelf.Strings.OnBuilder
import Derived.Ground.SlsfProg
import Derived.Ground.NamesProg
import Derived.Laws.BytesArg
import Derived.Laws.IdiomStrings
import Derived.Laws.Cover1
import Derived.Lib.Bytealg
set_option linter.unusedVariables false
set_option linter.unusedSimpArgs false
set_option maxRecDepth 100000
set_option maxHeartbeats 16000000
open Go.IntKind (i64 u64 i8 u8 i32 u32 i16 u16)
abbrev UW:=@if_neg
abbrev UX:=@if_pos
abbrev UY:=@absurd
abbrev UZ:=@List.length_append
abbrev Va:=@of_decide_eq_true
abbrev Vb:=@of_decide_eq_false
abbrev Vc:=@decide_eq_true_eq
abbrev Vd:=@Bool.and_eq_true
abbrev Ve:=@decide_eq_false_iff_not
abbrev Vf:=@List.length_cons
abbrev Vg:=@Nat.le_refl
abbrev Vh:=@List.mem_map
abbrev Vi:=@Int.toNat_natCast
abbrev Vj:=@List.append_assoc
abbrev Vk:=@List.getElem_mem
abbrev Vl:=@List.length_map
abbrev Vm:=@List.mem_cons
abbrev Vn:=@List.mem_cons_self
abbrev Vo:=@List.mem_singleton
abbrev Vp:=@Bool.or_eq_false_iff
abbrev Vq:=@List.mem_cons_of_mem
abbrev Vr:=@Bool.or_eq_true
abbrev Vs:=@decide_eq_true
abbrev Vt:=@List.length_drop
abbrev Vu:=@Nat.le_trans
abbrev Vv:=@List.map_append
abbrev Vw:=@Nat.zero_add
abbrev Vx:=@List.length_take
abbrev Vy:=@List.length_nil
abbrev Vz:=@List.mem_append
abbrev V0:=@Nat.lt_or_ge
abbrev V1:=@Bool.not_eq_true'
abbrev V2:=@List.take_of_length_le
abbrev V3:=@Nat.zero_le
abbrev V4:=@List.append_nil
abbrev V5:=@List.map_cons
abbrev V6:=@List.flatMap_cons
abbrev V7:=@Int.le_refl
abbrev V8:=@List.take_length
abbrev V9:=@Option.map_some
abbrev VA:=@List.mem_of_getElem?
abbrev VB:=@List.nil_append
abbrev VD:=@List.filter_cons
abbrev VE:=@List.take_succ_eq_append_getElem
abbrev VF:=@Bool.and_eq_false_iff
abbrev VH:=@Bool.eq_iff_iff
abbrev VI:=@Bool.not_eq_false'
abbrev VJ:=@Nat.add_mul
abbrev VK:=@decide_eq_false
abbrev VL:=@List.all_eq_true
abbrev VM:=@List.map_map
abbrev VN:=@List.length_singleton
abbrev VO:=@List.take_append_drop
abbrev VP:=@List.drop_eq_getElem_cons
abbrev VQ:=@Nat.add_assoc
abbrev VR:=@List.mem_of_mem_take
abbrev VS:=@Nat.mul_le_mul_right
abbrev VT:=@Nat.mul_one
abbrev VU:=@List.getElem_of_mem
abbrev VV:=@List.getElem_map
abbrev VW:=@List.flatMap_append
abbrev VX:=@List.pairwise_cons
abbrev VY:=@List.drop_length
abbrev VZ:=@Nat.pow_add
abbrev Wa:=@List.ext_getElem
abbrev Wb:=@Array.length_toList
abbrev Wc:=@Nat.mod_lt
abbrev Wd:=@List.mem_filter
abbrev We:=@List.not_mem_nil
abbrev Wf:=@List.cons_append
abbrev Wg:=@List.mem_range
abbrev Wh:=@List.mem_of_mem_drop
abbrev Wi:=@List.take_add_one
abbrev Wj:=@Nat.mod_eq_of_lt
abbrev Wk:=@List.length_eq_zero_iff
abbrev Wl:=@Nat.eq_of_beq_eq_true
abbrev Wm:=@Nat.add_zero
abbrev Wn:=@List.eq_nil_of_length_eq_zero
abbrev Wo:=@List.take_succ_cons
abbrev Wp:=@List.map_congr_left
abbrev Wq:=@List.filter_eq_nil_iff
abbrev Wr:=@List.foldl_append
abbrev Ws:=@List.set_getElem_self
abbrev Wt:=@List.prefix_rfl
abbrev Wu:=@List.ext_getElem?
abbrev Wv:=@List.nodup_cons
abbrev Ww:=@Nat.min_eq_left
abbrev Wx:=@Int.fdiv_eq_ediv_of_nonneg
abbrev Wy:=@Int.natCast_mul
abbrev Wz:=@Nat.two_pow_pos
abbrev W0:=@List.sum_cons
abbrev W1:=@Bool.false_or
abbrev W2:=@Bool.false_eq_true
abbrev W3:=@Nat.div_lt_iff_lt_mul
abbrev W4:=@List.take_zero
abbrev W5:=@Nat.mul_le_mul_left
abbrev W6:=@Nat.add_comm
abbrev W7:=@Nat.add_sub_cancel_left
abbrev W8:=@Nat.zero_mul
abbrev W9:=@List.map_nil
abbrev WA:=@List.drop_left
abbrev WB:=@Bool.true_and
abbrev WE:=@List.map_set
abbrev WF:=@List.set_set
abbrev WG:=@List.mem_append_right
abbrev WH:=@Nat.le_of_ble_eq_true
abbrev WI:=@List.set_cons_zero
abbrev WJ:=@Nat.div_add_mod'
abbrev WK:=@List.mem_flatMap
abbrev WL:=@List.take_append_of_le_length
abbrev WM:=@List.drop_drop
abbrev WN:=@List.getD_eq_getElem?_getD
abbrev WO:=@List.length_pos_iff
abbrev WP:=@List.mem_append_left
abbrev WQ:=@List.filter_eq_self
abbrev WR:=@List.pairwise_map
abbrev WS:=@Nat.eq_zero_or_pos
abbrev WT:=@Int.toNat_of_nonneg
abbrev WU:=@List.filter_congr
abbrev WV:=@List.length_filter_le
abbrev WW:=@Bool.eq_false_iff
abbrev WX:=@List.mem_or_eq_of_mem_set
abbrev WY:=@List.length_set
abbrev WZ:=@Array.getD_eq_getD_getElem?
abbrev Ya:=@List.drop_succ_cons
abbrev Yb:=@List.drop_of_length_le
abbrev Yc:=@List.set_cons_succ
abbrev Yd:=@BitVec.ofInt_natCast
abbrev Ye:=@BitVec.toNat_ofNat
abbrev Yf:=@List.replicate_succ
abbrev Yg:=@Nat.add_sub_cancel
abbrev Yh:=@Int.eq_ofNat_of_zero_le
abbrev Yi:=@List.pairwise_iff_getElem
abbrev Yj:=@List.getElem_range
abbrev Yk:=@List.prefix_append
abbrev Yl:=@Option.isSome_iff_exists
abbrev Ym:=@Nat.two_pow_add_eq_or_of_lt
abbrev Yn:=@List.eq_of_mem_replicate
namespace Go.Proofs.YtaaieblnikcndaaGreatDoor
open Go
theorem zt{α : Type}{a : Option α}{b c : α}(h : a = some b)(e : b = c := by kernel_rfl) : a = some c := h.trans (congrArg some e)
theorem nO{c : Prop}{_ : Decidable c}{α : Type}{a b : α}(h : ¬ c := by omega) : ite c a b = b := UW h
theorem pO{c : Prop}{_ : Decidable c}{α : Type}{a b : α}(h : c := by omega) : ite c a b = a := UX h
abbrev lt0 : ByteArray := ⟨#[0,1,2,2,3,3,3,3,4,4,4,4,4,4,4,4,5,5,5,5,5,5,5,5,5,5,5,5,5,5,5,5,6,6,6,6,6,6,6,6,6,6,6,6,6,6,6,6,6,6,6,6,6,6,6,6,6,6,6,6,6,6,6,6,7,7,7,7,7,7,7,7,7,7,7,7,7,7,7,7,7,7,7,7,7,7,7,7,7,7,7,7,7,7,7,7,7,7,7,7,7,7,7,7,7,7,7,7,7,7,7,7,7,7,7,7,7,7,7,7,7,7,7,7,7,7,7,7,8,8,8,8,8,8,8,8,8,8,8,8,8,8,8,8,8,8,8,8,8,8,8,8,8,8,8,8,8,8,8,8,8,8,8,8,8,8,8,8,8,8,8,8,8,8,8,8,8,8,8,8,8,8,8,8,8,8,8,8,8,8,8,8,8,8,8,8,8,8,8,8,8,8,8,8,8,8,8,8,8,8,8,8,8,8,8,8,8,8,8,8,8,8,8,8,8,8,8,8,8,8,8,8,8,8,8,8,8,8,8,8,8,8,8,8,8,8,8,8,8,8,8,8,8,8,8,8]⟩
abbrev aC:=Array Obj
abbrev KE:=Value->aC->Prop
abbrev KQ:=Option Addr
abbrev Os:=List Value
abbrev Fa:=ByteArray
def aK(H:aC)(b off:Nat):Option Value:=
 match H[b]? with
 | some (.cells c _ _)=>c[off]?
 | _=>none
def lT(H:aC)(b off:Nat):Bool:=
 match H[b]? with
 | some (.cells _ _ (lo,hi))=>lo<=off&&off<hi
 | _=>false
def iF(H:aC)(b off:Nat)(v:Value):aC:=
 H.modify b λ
  | .cells c elem frozen=>.cells (c.setIfInBounds off v) elem frozen
  | o=>o
structure bV(w w':World):Prop where
 os:w'.os=w.os
 tape:w'.tape=w.tape
 output:w'.output=w.output
inductive cT where
 | int (k:IntKind)|bool|str|ptr|slice|map|raw|fnv|adr
 | vec (k:IntKind) (n:Nat)
inductive Sh where
 | one (l:cT)
 | agg (ls:List cT)
def bW(k:IntKind)(f:Nat->Int):Nat->Nat->Os
 | 0,_=>[]
 | n+1,i=>.int k (f i)::bW k f n (i+1)
def cT.all:cT->(Value->Prop)->Prop
 | .int k,K=>∀n:Int,K (.int k n)
 | .bool,K=>∀b:Bool,K (.bool b)
 | .str,K=>∀s:Fa,K (.string s)
 | .ptr,K=>∀a:KQ,K (.pointer a)
 | .slice,K=>∀(a:KQ) (n c:Nat),K (.slice a n c)
 | .map,K=>∀r:Option Nat,K (.map r)
 | .raw,K=>∀v:Value,K v
 | .adr,K=>∀b o:Nat,K (.pointer (some ⟨b,o,none⟩))
 | .fnv,K=>∀(f:FuncId) (cap:Os),K (.func (.func f) ⟨[]⟩ ⟨cap⟩)
 | .vec _ _,_=>True
def cT.ex:cT->(Value->Prop)->Prop
 | .int k,K=>∃n:Int,K (.int k n)
 | .bool,K=>∃b:Bool,K (.bool b)
 | .str,K=>∃s:Fa,K (.string s)
 | .ptr,K=>∃a:KQ,K (.pointer a)
 | .slice,K=>∃(a:KQ) (n c:Nat),K (.slice a n c)
 | .map,K=>∃r:Option Nat,K (.map r)
 | .raw,K=>∃v:Value,K v
 | .adr,K=>∃b o:Nat,K (.pointer (some ⟨b,o,none⟩))
 | .fnv,K=>∃(f:FuncId) (cap:Os),K (.func (.func f) ⟨[]⟩ ⟨cap⟩)
 | .vec _ _,_=>False
def allLs:List cT->(Os->Prop)->Prop
 | [],K=>K []
 | l::r,K=>l.all λv=>allLs r λvs=>K (v::vs)
def exLs:List cT->(Os->Prop)->Prop
 | [],K=>K []
 | .vec k n::r,K=>∃f:Nat->Int,exLs r λvs=>K (bW k f n 0++vs)
 | l::r,K=>l.ex λv=>exLs r λvs=>K (v::vs)
def Sh.all:Sh->(Value->Prop)->Prop
 | .one l,K=>l.all K
 | .agg ls,K=>allLs ls λvs=>K (.agg ⟨vs⟩)
def Sh.ex:Sh->(Value->Prop)->Prop
 | .one l,K=>l.ex K
 | .agg ls,K=>exLs ls λvs=>K (.agg ⟨vs⟩)
def pB:List Sh->(Os->Prop)->Prop
 | [],K=>K []
 | s::r,K=>s.ex λv=>pB r λvs=>K (v::vs)
def lk:List Sh->(Value->Prop)->Prop
 | [],K=>K (.tuple #[])
 | [s],K=>s.ex K
 | s::t::r,K=>pB (s::t::r) λvs=>K (.tuple ⟨vs⟩)
def cT.fn:cT->Type->Type
 | .int _,T=>Int->T
 | .bool,T=>Bool->T
 | .str,T=>Fa->T
 | .ptr,T=>KQ->T
 | .slice,T=>KQ->Nat->Nat->T
 | .map,T=>Option Nat->T
 | .raw,T=>Value->T
 | .fnv,T=>FuncId->Os->T
 | .adr,T=>Nat->Nat->T
 | .vec _ _,T=>T
def fnLs:List cT->Type->Type
 | [],T=>T
 | l::r,T=>l.fn (fnLs r T)
def Sh.fn:Sh->Type->Type
 | .one l,T=>l.fn T
 | .agg ls,T=>fnLs ls T
abbrev dt:=List (Nat×Sh)
def JT(T:Type):dt->Type
 | []=>T
 | (_,s)::r=>s.fn (JT T r)
def cT.app:(l:cT)->{T:Type}->l.fn T->Value->Option T
 | .int k,_,f,.int k' n=>if k=k' then some (f n) else none
 | .bool,_,f,.bool b=>some (f b)
 | .str,_,f,.string s=>some (f s)
 | .ptr,_,f,.pointer a=>some (f a)
 | .slice,_,f,.slice a n c=>some (f a n c)
 | .map,_,f,.map r=>some (f r)
 | .raw,_,f,v=>some (f v)
 | .fnv,_,f,.func (.func g) ⟨[]⟩ ⟨cap⟩=>some (f g cap)
 | .adr,_,f,.pointer (some ⟨b,o,none⟩)=>some (f b o)
 | _,_,_,_=>none
def qK:(ls:List cT)->{T:Type}->fnLs ls T->Os->Option T
 | [],_,f,[]=>some f
 | l::r,_,f,v::vs=>match l.app (T:=fnLs r _) f v with|some g=>qK r g vs|none=>none
 | _,_,_,_=>none
def Sh.app:(s:Sh)->{T:Type}->s.fn T->Value->Option T
 | .one l,_,f,v=>l.app f v
 | .agg ls,_,f,.agg cs=>qK ls f cs.toList
 | .agg _,_,_,_=>none
inductive SV where
 | p (v:Value)
 | g (j:Nat) (b:Bool) (v:Value)
 | x
abbrev Fr:=List SV
def aT{α:Type}:List α->Nat->Option α
 | [],_=>none
 | a::_,0=>some a
 | _::r,n+1=>aT r n
def im{α:Type}:List α->Nat->α->List α
 | [],_,_=>[]
 | _::r,0,x=>x::r
 | a::r,n+1,x=>a::im r n x
def Fr.put(fr:Fr)(d:Option Tmp)(s:SV):Fr:=match d with|some t=>im fr t s|none=>fr
def gl(ts:List Nat)(fr:Fr):Fr:=ts.foldl (λf t=>im f t .x) fr
def pC(fr:Fr):Fr:=fr.map fun|.g _ _ _=>.x|s=>s
def iG(fr:Fr)(t:Nat):Option Value:=match aT fr t with|some (.p v)=>some v|_=>none
def lm:(L:dt)->{T:Type}->JT T L->Fr->Option T
 | [],_,j,_=>some j
 | (t,s)::r,T,j,fr=>match iG fr t with
  | some v=>match s.app (T:=JT T r) j v with
   | some j'=>lm r j' fr
   | none=>none
  | none=>none
def jE(L:dt)(J:JT (aC->Prop) L)(fr:Fr)(H:aC):Prop:=match lm L J fr with|some p=>p H|none=>False
def io:Fr->(Fr->Prop)->Prop
 | [],k=>k []
 | .p v::r,k=>io r λr'=>k (.p v::r')
 | .g j b v::r,k=>io r λr'=>k (.g j b v::r')
 | .x::r,k=>io r λr'=>k (.x::r')
theorem lp:∀(fr:Fr) (k:Fr->Prop),io fr k=k fr
 | [],_=>rfl
 | .p _::r,k=>by rw[io,lp r]
 | .g _ _ _::r,k=>by rw[io,lp r]
 | .x::r,k=>by rw[io,lp r]
def lq(ds:List Nat):Nat->Fr->Fr
 | _,[]=>[]
 | i,s::r=>(match memD i ds with|true=>.x|false=>s)::lq ds (i+1) r
where memD (n:Nat):List Nat->Bool
 | []=>false
 | m::r=>match Nat.beq n m with|true=>true|false=>memD n r
def allJ:dt->Fr->(Fr->Prop)->Prop
 | [],fr,K=>K fr
 | (t,s)::r,fr,K=>s.all λv=>io (im fr t (.p v)) λfr'=>allJ r fr' K
def lU(P:Program)(s:Sem Value)(v:Value):Prop:=∀w,s.run P w=.ok v w
def iH(P:Program)(op:BinOp)(t:TypeId)(x y:Value)(b:Bool):Prop:=∀ox oy w,(do eqGuard op t ox oy x y;binOp op t x y:Sem Value).run P w=.ok (.bool b) w
def pD(P:Program)(f:FuncId)(args:Array Value)(v:Value):Prop:=∀w,(callFunc f args).run P w=.ok (.value v) w
def dj(P:Program)(s:Sem Value)(H:aC)(v:Value):Prop:=∀w,w.heap=H->s.run P w=.ok v w
@[irreducible] def cA {α:Type} (P:Program) (s:Sem α) (H:aC) (K:α->aC->Prop):Prop:=
 ∀w,w.heap=H->∃a w',s.run P w=.ok a w'/\bV w w'/\K a w'.heap
def Fin(w:World)(K:KE):Ending->World->Prop
 | .returned v,w'=>bV w w'/\K v w'.heap
 | .panicked _,_=>False
 | .outgrown,_=>False
@[irreducible] def iI (P:Program) (f:FuncId) (args:Array Value) (H:aC) (K:KE):Prop:=
 ∀w,w.heap=H->Calls P f args w (Fin w K)
def iJ(w:World)(K KP:KE):Ending->World->Prop
 | .returned v,w'=>bV w w'/\K v w'.heap
 | .panicked chain,w'=>∃v,chain=[{ v,recovered:=false }]/\bV w w'/\KP v w'.heap
 | .outgrown,_=>False
@[irreducible] def mX (P:Program) (f:FuncId) (args:Array Value) (H:aC) (K KP:KE):Prop:=
 ∀w,w.heap=H->Calls P f args w (iJ w K KP)
def bU(P:Program)(f:FuncId)(args:Array Value)(H:aC)(v:Value):Prop:=iI P f args H λv' H'=>v'=v/\H'=H
@[irreducible] def fI (P:Program) (l:Nat) (vs:Os) (H:aC) (K:KE):Prop:=
 ∀w,w.heap=H->∃fn tmps assign body,(Instr.yield l ⟨vs⟩).run P w=.ok (.round l fn tmps assign body) w/\RoundIn Fence.wide 0 P l fn tmps assign body w (Fin w K)
theorem cA.at{α:Type}{P:Program}{s:Sem α}{H:aC}{K:α->aC->Prop}(h:cA P s H K):∀w,w.heap=H->∃a b,s.run P w=.ok a b/\bV w b/\K a b.heap:=by unfold cA at h;exact h
theorem cA.mk{α:Type}{P:Program}{s:Sem α}{H:aC}{K:α->aC->Prop}(h:∀w,w.heap=H->∃a b,s.run P w=.ok a b/\bV w b/\K a b.heap):cA P s H K:=by unfold cA;exact h
theorem iI.at{P:Program}{f:FuncId}{args:Array Value}{H:aC}{K:KE}(h:iI P f args H K):∀w,w.heap=H->Calls P f args w (Fin w K):=by unfold iI at h;exact h
theorem iI.mk{P:Program}{f:FuncId}{args:Array Value}{H:aC}{K:KE}(h:∀w,w.heap=H->Calls P f args w (Fin w K)):iI P f args H K:=by unfold iI;exact h
theorem mX.at{P:Program}{f:FuncId}{args:Array Value}{H:aC}{K KP:KE}(h:mX P f args H K KP):∀w,w.heap=H->Calls P f args w (iJ w K KP):=by unfold mX at h;exact h
theorem mX.mk{P:Program}{f:FuncId}{args:Array Value}{H:aC}{K KP:KE}(h:∀w,w.heap=H->Calls P f args w (iJ w K KP)):mX P f args H K KP:=by unfold mX;exact h
theorem fI.at{P:Program}{l:Nat}{vs:Os}{H:aC}{K:KE}(h:fI P l vs H K):∀w,w.heap=H->∃fn tmps assign body,(Instr.yield l ⟨vs⟩).run P w=.ok (.round l fn tmps assign body) w/\RoundIn Fence.wide 0 P l fn tmps assign body w (Fin w K):=by unfold fI at h;exact h
theorem fI.mk{P:Program}{l:Nat}{vs:Os}{H:aC}{K:KE}(h:∀w,w.heap=H->∃fn tmps assign body,(Instr.yield l ⟨vs⟩).run P w=.ok (.round l fn tmps assign body) w/\RoundIn Fence.wide 0 P l fn tmps assign body w (Fin w K)):fI P l vs H K:=by unfold fI;exact h
def gC(P:Program)(f:FuncId):Prop:=∃fn,P.funcs[f]?=some fn/\fn.body.isNone=false/\(fn.name == "runtime.NumGoroutine")=false
inductive DM where
 | mark (r:Nat)
 | fn (g:FuncId) (cap:Os)
structure Ctx where
 P:Program
 quiet:List FuncId
 calls:List FuncId
 nexts:List (Nat×Sh×Sh):=[]
 pan:List FuncId:=[]
 ext:List FuncId:=[]
 kp:KE:=λ_ _=>False
 nop:Bool:=false
def Ctx.nx(X:Ctx)(l:List (Nat×Sh×Sh)):Ctx:={ X with nexts:=l }
def nextOf:List (Nat×Sh×Sh)->Option Tmp->Option (Sh×Sh)
 | _,none=>none
 | [],some _=>none
 | (t,k,x)::r,some d=>match Nat.beq t d with|true=>some (k,x)|false=>nextOf r (some d)
inductive Kind where
 | P|R|W
 deriving DecidableEq
def bI(n:Nat):List Nat->Bool
 | []=>false
 | m::r=>Nat.beq n m||bI n r
def leafOf:TypeDesc->Option cT
 | .bool=>some .bool
 | .int k=>some (.int k)
 | .string=>some .str
 | .pointer _=>some .ptr
 | .slice _=>some .slice
 | .map _ _=>some .map
 | .func _ _ _=>some .fnv
 | .interface _=>some .raw
 | _=>none
def sH(P:Program):Nat->TypeId->Option (List cT)
 | 0,_=>none
 | n+1,t=>match P.underlying t with
  | some (.struct fs)=>fs.toList.foldr (λf acc=>match sH P n f.type,acc with|some a,some b=>some (a++b)|_,_=>none) (some [])
  | some (.array k e)=>match sH P n e with
   | some a=>(match a,Nat.ble 16 k with|[.int ki],true=>some [.vec ki k]|a,_=>some ((List.replicate k a).flatten))
   | none=>none
  | some d=>match leafOf d with|some l=>some [l]|none=>none
  | none=>none
def aggT(P:Program)(t:TypeId):Bool:=match P.underlying t with|some (.struct _)|some (.array _ _)=>true|_=>false
def pE(P:Program)(t:TypeId):Option Sh:=
 match aggT P t,sH P 9 t with
 | true,some ls=>some (.agg ls)
 | false,some [l]=>some (.one l)
 | _,_=>none
def exT(P:Program)(t:TypeId)(K:Value->Prop):Prop:=match pE P t with|some s=>s.ex K|none=>False
def uM(P:Program)(t:TypeId)(K:Os->Prop):Prop:=match sH P 9 t with|some ls=>exLs ls K|none=>False
def bD(H:aC)(b:Nat):Nat->Os->Prop
 | _,[]=>True
 | o,[v]=>aK H b o=some v
 | o,v::r=>aK H b o=some v/\bD H b (o+1) r
abbrev gt:Option Prop->Prop->Prop
 | none,p=>p
 | some c,p=>c->p
def bO{α:Type}(o:Option α)(K:α->Prop):Prop:=match o with|some v=>K v|none=>False
def aY(op:BinOp)(k:IntKind)(x y:Int):Int:=
 match op with
 | .and=>k.wrap (BitVec.ofInt k.bits x &&& BitVec.ofInt k.bits y).toNat
 | .or=>k.wrap (BitVec.ofInt k.bits x ||| BitVec.ofInt k.bits y).toNat
 | .xor=>k.wrap (BitVec.ofInt k.bits x^^^BitVec.ofInt k.bits y).toNat
 | _=>k.wrap (BitVec.ofInt k.bits x &&& ~~~BitVec.ofInt k.bits y).toNat
def xL(op:BinOp)(k:IntKind)(x y:Int)(c:Option Prop)(K:Value->Prop):Prop:=
 match op with
 | .add=>K (.int k (k.wrap (x+y)))
 | .sub=>K (.int k (k.wrap (x-y)))
 | .mul=>K (.int k (k.wrap (x*y)))
 | .quo=>gt c (y≠0)/\K (.int k (k.wrap (x.tdiv y)))
 | .rem=>gt c (y≠0)/\K (.int k (x.tmod y))
 | .and=>K (.int k (aY .and k x y))
 | .or=>K (.int k (aY .or k x y))
 | .xor=>K (.int k (aY .xor k x y))
 | .andNot=>K (.int k (aY .andNot k x y))
 | .eql=>K (.bool (decide (x=y)))
 | .neq=>K (.bool (!decide (x=y)))
 | .lss=>K (.bool (decide (x<y)))
 | .leq=>K (.bool (decide (x<=y)))
 | .gtr=>K (.bool (decide (y<x)))
 | .geq=>K (.bool (decide (y<=x)))
 | .shl=>gt c (0<=y)/\K (.int k (k.wrap (x*2^(min y.toNat k.bits))))
 | .shr=>gt c (0<=y)/\K (.int k (x.fdiv (2^(min y.toNat k.bits))))
def xM(op:BinOp)(x y:Fa)(c:Option Prop)(K:Value->Prop):Prop:=
 match op with
 | .add=>gt c (((x.size+y.size:Nat):Int)<=i64.max)/\K (.string (x++y))
 | .eql=>K (.bool (x.toList == y.toList))
 | .neq=>K (.bool (!(x.toList == y.toList)))
 | .lss=>K (.bool (Op.bytesLess x.toList y.toList))
 | .leq=>K (.bool (Op.bytesLess x.toList y.toList||x.toList == y.toList))
 | .gtr=>K (.bool (!(Op.bytesLess x.toList y.toList||x.toList == y.toList)))
 | .geq=>K (.bool (!Op.bytesLess x.toList y.toList))
 | _=>False
def pF(d:Option TypeDesc)(x y:Value):Option Bool:=
 match d,x,y with
 | some .bool,.bool a,.bool b=>some (a == b)
 | some (.pointer _),.pointer a,.pointer none=>some a.isNone
 | some (.slice _),.slice a _ _,.slice none _ _=>some a.isNone
 | some (.map _ _),.map a,.map none=>some a.isNone
 | some (.func _ _ _),.func _ _ _,.nilFunc=>some false
 | some (.func _ _ _),.nilFunc,.nilFunc=>some true
 | _,_,_=>none
def binP(P:Program)(op:BinOp)(t:TypeId)(x y:Value)(c:Option Prop)(K:Value->Prop):Prop:=
 match x,y with
 | .int k a,.int k' b=>if k=k' then xL op k a b c K else (match op with
  | .shl=>gt c (0<=b)/\K (.int k (k.wrap (a*2^(min b.toNat k.bits))))
  | .shr=>gt c (0<=b)/\K (.int k (a.fdiv (2^(min b.toNat k.bits))))
  | _=>False)
 | .string a,.string b=>xM op a b c K
 | x,y=>match op,pF (P.underlying t) x y with
  | .eql,some b=>K (.bool b)
  | .neq,some b=>K (.bool !b)
  | op,none=>∃b:Bool,gt c (iH P op t x y b)/\K (.bool b)
  | _,_=>False
def ifaceT(P:Program)(t:TypeId):Bool:=match P.underlying t with|some (.interface _)=>true|_=>false
def binQ(P:Program)(op:BinOp)(t:TypeId)(x y:Value)(c:Option Prop)(K:Value->Prop):Prop:=
 match ifaceT P t with
 | true=>∃b:Bool,gt c (iH P op t x y b)/\K (.bool b)
 | false=>binP P op t x y c K
def unP(op:UnOp)(x:Value)(K:Value->Prop):Prop:=
 match op,x with
 | .neg,.int k n=>K (.int k (k.wrap (0-n)))
 | .xor,.int k n=>K (.int k (aY .xor k (if k.signed then -1 else k.max) n))
 | .not,.bool b=>K (.bool !b)
 | _,_=>False
def pG(c:Bool)(a b:Value):Value:=
 match a,b with
 | .bool x,.bool y=>.bool (cond c x y)
 | a,b=>cond c a b
def sJ(b d:Operand)(r:Bool×Value×Value):Value:=
 match b with
 | .const (.bool true)=>(match r.2.2 with|.bool y=>.bool (r.1||y)|_=>pG r.1 r.2.1 r.2.2)
 | _=>(match d with
  | .const (.bool false)=>(match r.2.1 with|.bool x=>.bool (r.1&&x)|_=>pG r.1 r.2.1 r.2.2)
  | _=>pG r.1 r.2.1 r.2.2)
def uN(o:Nat)(n:Int):Nat->Nat
 | 1=>o+n.toNat
 | s=>o+n.toNat*s
theorem BL(o:Nat)(n:Int)(s:Nat):uN o n s=o+n.toNat*s:=by unfold uN;split <;> simp
def nQ(P:Program)(t:TypeId)(q:Prop):Prop:=match P.cellsOf t with|0=>False|_+1=>q
def bZ(a:KQ)(l m size:Nat):KQ:=if m=l then a else a.map (·.add (l*size))
def iK(x:Value)(K:Int->Prop):Prop:=match x with|.int _ n=>K n|_=>False
def xN(P:Program)(t:TypeId)(x:Value)(lo hi:Option Value)(c:Option Prop)(K:Value->Prop):Prop:=
 match P.underlying t,x with
 | some .string,.string s=>
  let go (l h:Int):Prop:=gt c (0<=l/\l<=h/\h<=(s.size:Int))/\K (.string (s.extract l.toNat h.toNat))
  match lo,hi with
  | some l,some h=>iK l λl=>iK h λh=>go l h
  | some l,none=>iK l λl=>go l s.size
  | none,some h=>iK h λh=>go 0 h
  | none,none=>go 0 s.size
 | some (.slice e),.slice a len cap=>
  let go (l h:Int):Prop:=gt c (0<=l/\l<=h/\h<=(cap:Int))/\K (.slice (bZ a l.toNat cap (P.cellsOf e)) (h.toNat-l.toNat) (cap-l.toNat))
  nQ P e <| match lo,hi with
  | some l,some h=>iK l λl=>iK h λh=>go l h
  | some l,none=>iK l λl=>go l len
  | none,some h=>iK h λh=>go 0 h
  | none,none=>go 0 len
 | some (.array n e),.pointer (some a)=>
  let go (l h:Int):Prop:=gt c (0<=l/\l<=h/\h<=(n:Int))/\K (.slice (bZ (some a) l.toNat n (P.cellsOf e)) (h.toNat-l.toNat) (n-l.toNat))
  nQ P e <| match lo,hi with
  | some l,some h=>iK l λl=>iK h λh=>go l h
  | some l,none=>iK l λl=>go l n
  | none,some h=>iK h λh=>go 0 h
  | none,none=>go 0 n
 | _,_=>False
def xO(P:Program)(t:TypeId)(x l h m:Value)(c:Option Prop)(K:Value->Prop):Prop:=
 match P.underlying t,x,l,h,m with
 | some (.slice e),.slice a _ cap,.int _ l,.int _ h,.int _ m=>nQ P e <| gt c (0<=l/\l<=h/\h<=m/\m<=(cap:Int))/\K (.slice (bZ a l.toNat m.toNat (P.cellsOf e)) (h.toNat-l.toNat) (m.toNat-l.toNat))
 | _,_,_,_,_=>False
def bAt(s:Fa)(i:Nat):Int:=(((s.data[i]?).getD 0).toNat:Int)
def xP(P:Program)(t:TypeId)(x i:Value)(c:Option Prop)(K:Value->Prop):Prop:=
 match P.underlying t,x,i with
 | some .string,.string s,.int _ n=>gt c (0<=n/\n<(s.size:Int))/\K (.int .u8 (bAt s n.toNat))
 | some (.array _ e),x,i=>match pE P e with
  | some s=>s.ex λv=>gt c (lU P (Instr.index t x i) v)/\K v
  | none=>False
 | _,_,_=>False
def xQ(P:Program)(t:TypeId)(x i:Value)(c:Option Prop)(K:Value->Prop):Prop:=
 match P.underlying t,x,i with
 | some (.slice e),.slice a len _,.int _ n=>nQ P e <| gt c (0<=n/\n<(len:Int))/\∃b o:Nat,gt c (a=some ⟨b,o,none⟩)/\K (.pointer (some ⟨b,uN o n (P.cellsOf e),none⟩))
 | some (.array len e),.pointer (some ⟨b,o,none⟩),.int _ n=>nQ P e <| gt c (0<=n/\n<(len:Int))/\K (.pointer (some ⟨b,uN o n (P.cellsOf e),none⟩))
 | _,_,_=>False
def xR(P:Program)(t:TypeId)(x:Value)(f:Nat)(K:Value->Prop):Prop:=
 match P.underlying t,x with
 | some (.struct fs),.pointer (some ⟨b,o,none⟩)=>match aT fs.toList f with
  | some fd=>nQ P fd.type <| K (.pointer (some ⟨b,o+fd.offset,none⟩))
  | none=>False
 | _,_=>False
def fieldP(P:Program)(t:TypeId)(x:Value)(f:Nat)(c:Option Prop)(K:Value->Prop):Prop:=
 match P.underlying t with
 | some (.struct fs)=>match aT fs.toList f with
  | some fd=>match pE P fd.type with
   | some s=>s.ex λu=>gt c (lU P (Instr.field t x f) u)/\K u
   | none=>False
  | none=>False
 | _=>False
def aV:KQ->Nat
 | some a=>a.block
 | none=>0
def aS:KQ->Nat
 | some a=>a.off
 | none=>0
def isA:KQ->Prop
 | some ⟨_,_,none⟩=>True
 | _=>False
def NN(a:KQ)(p:Prop):Prop:=match a with
 | some ⟨_,_,none⟩=>p
 | _=>False
theorem isA_iff{a:KQ}:isA a↔a=some ⟨aV a,aS a,none⟩:=by
 rcases a with _|⟨b,o,_|s⟩ <;> simp[isA,aV,aS]
theorem xS{a:KQ}{p:Prop}:NN a p↔a=some ⟨aV a,aS a,none⟩/\p:=by
 rcases a with _|⟨b,o,_|s⟩ <;> simp[NN,aV,aS]
def uO(x:Value)(c:Option Prop)(K:Value->Prop):Prop:=
 match x with
 | .pointer a=>(match c with
  | none=>NN a (K (.pointer (some ⟨aV a,aS a,none⟩)))
  | some c=>(c->isA a)/\K (.pointer (some ⟨aV a,aS a,none⟩)))
 | .func (.func f) a b=>K (.func (.func f) a b)
 | .func (.yield f) a b=>K (.func (.yield f) a b)
 | _=>False
def sK(P:Program)(t:TypeId):Option (Os):=match P.info? t with|some i=>(match i.zero with|some v=>some v.cells.toList|none=>none)|none=>none
def offOf(P:Program):List Field->Nat->Option (Nat×Nat)
 | fs,i=>match aT fs i with|some f=>some (f.offset,P.cellsOf f.type)|none=>none
def uP:Os->Nat->Os->Os
 | cs,_,[]=>cs
 | cs,o,v::r=>uP (im cs o v) (o+1) r
def pH(place:Nat->Option (Nat×Nat)):Os->List (Nat×Value)->Option (Os)
 | cells,[]=>some cells
 | cells,(i,v)::rest=>
  match place i with
  | none=>none
  | some (off,size)=>if v.cells.toList.length=size/\off+size<=cells.length then pH place (uP cells off v.cells.toList) rest else none
def uQ(P:Program):List Field->Bool
 | []=>true
 | f::r=>(P.info? f.type).isSome&&uQ P r
def xT(P:Program)(t:TypeId)(parts:List (Nat×Value)):Option (Os):=
 match sK P t,P.underlying t with
 | some z,some (.struct fs)=>if uQ P fs.toList=true then pH (offOf P fs.toList) z parts else none
 | some z,some (.array _ e)=>match P.info? e with
  | some _=>pH (λi=>some (i*P.cellsOf e,P.cellsOf e)) z parts
  | none=>none
 | _,_=>none
def lr(z:Os):Nat->Os
 | 0=>[]
 | n+1=>z++lr z n
def xU(P:Program)(e:TypeId)(len:Nat)(parts:List (Nat×Value)):Option (Os):=
 match sK P e with
 | some z=>if z.length=P.cellsOf e then pH (λi=>some (i*P.cellsOf e,P.cellsOf e)) (lr z len) parts else none
 | none=>none
def gW(ev:Operand->Option Value):List Operand->Option (Os)
 | []=>some []
 | x::r=>match ev x,gW ev r with|some v,some vs=>some (v::vs)|_,_=>none
def ow(ev:Operand->Option Value):List (Nat×Operand)->Option (List (Nat×Value))
 | []=>some []
 | (i,x)::r=>match ev x,ow ev r with|some v,some vs=>some ((i,v)::vs)|_,_=>none
def qL(ev:Operand->Option Value):Option Operand->Option (Option Value)
 | none=>some none
 | some x=>match ev x with|some v=>some (some v)|none=>none
def convP(P:Program)(s d:TypeId)(x:Value)(K:Value->Prop):Prop:=
 match P.underlying s,P.underlying d,x with
 | some _,some (.int k),.int _ n=>K (.int k (k.wrap n))
 | some _,some .string,.string b=>K (.string b)
 | _,_,_=>False
def lenP(P:Program)(t:TypeId)(x:Value)(K:Value->Prop):Prop:=
 match P.underlying t,x with
 | some .string,.string s=>K (.int .i64 s.size)
 | some (.slice _),.slice _ n _=>K (.int .i64 n)
 | some (.array n _),_=>K (.int .i64 n)
 | _,_=>False
def mmP(isMax:Bool):Os->(Value->Prop)->Prop
 | [.int k x,.int _ y],K=>K (.int k (match isMax with|true=>if y>x then y else x|false=>if y<x then y else x))
 | [.int k x,.int _ y,.int _ z],K=>(match isMax with
  | true=>K (.int k (if z>(if y>x then y else x) then z else (if y>x then y else x)))
  | false=>K (.int k (if z<(if y<x then y else x) then z else (if y<x then y else x))))
 | _,_=>False
def uR(X:Ctx)(ev:Operand->Option Value)(pk:Operand->Operand->Operand->Option (Bool×Value×Value))(c:Option Prop)(op:Op)(K:Value->Prop):Prop:=
 match op with
 | .move x|.assign x=>bO (ev x) K
 | .pick a b d=>bO (pk a b d) λr=>K (sJ b d r)
 | .nilCheck x=>bO (ev x) λv=>uO v c K
 | .binOp op t x y _=>bO (ev x) λa=>bO (ev y) λb=>binQ X.P op t a b c K
 | .unOp op _ x=>bO (ev x) λv=>unP op v K
 | .convert s d x=>bO (ev x) λv=>convP X.P s d v K
 | .fieldAddr t x f=>bO (ev x) λv=>xR X.P t v f K
 | .field t x f=>bO (ev x) λv=>fieldP X.P t v f c K
 | .indexAddr t x i=>bO (ev x) λv=>bO (ev i) λn=>xQ X.P t v n c K
 | .index t x i=>bO (ev x) λv=>bO (ev i) λn=>xP X.P t v n c K
 | .extract t i=>bO (ev t) λv=>(match v with|.tuple vs=>bO (aT vs.toList i) K|_=>False)
 | .slice t x lo hi mx=>(match mx with
  | none=>bO (ev x) λv=>bO (qL ev lo) λl=>bO (qL ev hi) λh=>xN X.P t v l h c K
  | some mx=>(match lo,hi with
   | some lo,some hi=>bO (ev x) λv=>bO (ev lo) λl=>bO (ev hi) λh=>bO (ev mx) λm=>xO X.P t v l h m c K
   | _,_=>False))
 | .build t ps=>bO (ow ev ps.toList) λvs=>bO (xT X.P t vs) λl=>K (.agg ⟨l⟩)
 | .makeInterface t x=>bO (ev x) λv=>(match X.P.underlying t with|some (.interface _)=>False|some _=>K (.iface t v)|none=>False)
 | .typeAssert x t u ok=>(match ok with
  | true=>bO (ev x) λv=>exT X.P u λy=>∃there:Bool,gt c (lU X.P (Instr.typeAssert v t u true) (.tuple #[y,.bool there]))/\K (.tuple #[y,.bool there])
  | false=>False)
 | .makeFunc fn a b=>bO (gW ev a.toList) λva=>bO (gW ev b.toList) λvb=>K (.func fn ⟨va⟩ ⟨vb⟩)
 | .call cl=>(match cl.callee,cl.argTypes.toList with
  | .builtin .len,t::_=>bO (gW ev cl.args.toList) λvs=>(match vs with|v::_=>lenP X.P t v K|[]=>False)
  | .builtin .max,_=>bO (gW ev cl.args.toList) λvs=>mmP true vs K
  | .builtin .min,_=>bO (gW ev cl.args.toList) λvs=>mmP false vs K
  | _,_=>False)
 | _=>False
def BM(P:Program):List TypeId->Option (List Sh)
 | []=>some []
 | t::r=>match pE P t,BM P r with|some s,some ss=>some (s::ss)|_,_=>none
def uS(P:Program)(t:TypeId):Option (List Sh):=
 match P.underlying t with
 | some (.tuple ts)=>BM P ts.toList
 | _=>match pE P t with|some s=>some [s]|none=>none
def uT(X:Ctx)(ev:Operand->Option Value)(c:Option Prop)(o:Oper)(H:aC)(K:Value->(aC->Prop)->Prop):Prop:=
 match o.op with
 | .load t x=>bO (ev x) λv=>(match v with
  | .pointer (some ⟨b,off,none⟩)=>(match aggT X.P t with
   | true=>uM X.P t λus=>(if us.length=X.P.cellsOf t then gt c (bD H b off us)/\K (.agg ⟨us⟩) λH'=>gt c (bD H' b off us) else False)
   | false=>exT X.P t λu=>gt c (aK H b off=some u)/\K u λH'=>gt c (aK H' b off=some u))
  | _=>False)
 | .lookup t x i ok=>bO (ev x) λm=>bO (ev i) λk=>(match X.P.underlying t with
  | some (.map _ e)=>exT X.P e λu=>(match ok with
   | true=>∃there:Bool,gt c (dj X.P (Instr.lookup t m k true) H (.tuple #[u,.bool there]))/\K (.tuple #[u,.bool there]) λH'=>gt c (dj X.P (Instr.lookup t m k true) H' (.tuple #[u,.bool there]))
   | false=>gt c (dj X.P (Instr.lookup t m k false) H u)/\K u λH'=>gt c (dj X.P (Instr.lookup t m k false) H' u))
  | _=>False)
 | .convert s d x=>bO (ev x) λv=>(match X.P.underlying d with
  | some .string=>∃b:Fa,gt c (dj X.P (convert s d v) H (.string b))/\K (.string b) λH'=>gt c (dj X.P (convert s d v) H' (.string b))
  | _=>False)
 | .entry it=>bO (ev it) λv=>(match nextOf X.nexts o.dst with
  | some (ks,xs)=>ks.ex λk=>xs.ex λx=>gt c (dj X.P (Instr.entry v) H (.tuple #[k,x]))/\K (.tuple #[k,x]) λH'=>gt c (dj X.P (Instr.entry v) H' (.tuple #[k,x]))
  | none=>False)
 | .call cl=>(match cl.callee with
  | .value (.func f)=>(match bI f X.ext with
   | true=>bO (gW ev cl.args.toList) λvs=>bO (uS X.P o.type) λss=>lk ss λu=>gt c (pD X.P f ⟨vs⟩ u)/\K u λ_=>gt c (pD X.P f ⟨vs⟩ u)
   | false=>if bI f X.calls=false then False else bO (gW ev cl.args.toList) λvs=>bO (uS X.P o.type) λss=>lk ss λu=>gt c (bU X.P f ⟨vs⟩ H u)/\K u λH'=>gt c (bU X.P f ⟨vs⟩ H' u))
  | .builtin .len=>bO (gW ev cl.args.toList) λvs=>∃n:Int,gt c (dj X.P (Builtin.len_ cl.argTypes o.type ⟨vs⟩) H (.int .i64 n))/\K (.int .i64 n) λH'=>gt c (dj X.P (Builtin.len_ cl.argTypes o.type ⟨vs⟩) H' (.int .i64 n))
  | _=>False)
 | _=>False
def eQ(H:aC)(b:Nat):Nat->Os->Prop
 | _,[]=>True
 | o,_::r=>((aK H b o).isSome=true/\lT H b o=false)/\eQ H b (o+1) r
def fJ(H:aC)(b:Nat):Nat->Os->aC
 | _,[]=>H
 | o,v::r=>fJ (iF H b o v) b (o+1) r
def cR:Os->Bool
 | []=>true
 | .agg _::_=>false
 | .tuple _::_=>false
 | _::r=>cR r
def panP(v:Value)(kp:KE)(H:aC):Prop:=match v with
 | .iface t u=>kp (.iface t u) H
 | _=>False
def uU(X:Ctx)(ev:Operand->Option Value)(o:Oper)(H:aC)(K:KE):Prop:=
 match o.op with
 | .alloc t=>bO (sK X.P t) λz=>∀(b:Nat) (H':aC),b=H.size->H'=H.push (.cells ⟨z⟩ t)->K (.pointer (some ⟨b,0,none⟩)) H'
 | .box t x=>bO (ev x) λv=>∀(b:Nat) (H':aC),b=H.size->H'=H.push (.cells v.cells t)->K (.pointer (some ⟨b,0,none⟩)) H'
 | .buildSlice t n ps=>bO (ow ev ps.toList) λvs=>(match X.P.underlying t with
  | some (.slice e)=>bO (xU X.P e n vs) λl=>(if n*X.P.cellsOf e<=16777216 then ∀(b:Nat) (H':aC),b=H.size->H'=H.push (.cells ⟨l⟩ e)->K (.slice (some ⟨b,0,none⟩) n n) H' else False)
  | _=>False)
 | .makeMap _ r=>(match r with
  | none=>∀(b:Nat) (H':aC),b=H.size->H'=H.push (.map #[] 0)->K (.map (some b)) H'
  | some _=>False)
 | .store t x y=>bO (ev x) λa=>bO (ev y) λv=>(match a with
  | .pointer (some ⟨b,off,none⟩)=>
   nQ X.P t <| if v.cells.toList.length=X.P.cellsOf t/\cR v.cells.toList=true then eQ H b off v.cells.toList/\∀H':aC,H'=fJ H b off v.cells.toList->K undef H' else False
  | _=>False)
 | .makeSlice t l c=>bO (ev l) λa=>bO (ev c) λb=>cA X.P (Instr.makeSlice t a b) H λv H'=>exT X.P t λu=>v=u/\K u H'
 | .mapUpdate t m k x|.insert t m k x=>bO (ev m) λa=>bO (ev k) λb=>bO (ev x) λv=>cA X.P (Instr.mapUpdate t a b v) H λ_ H'=>K undef H'
 | .mapEntry t m k=>bO (ev m) λa=>bO (ev k) λb=>cA X.P (Instr.mapEntry t a b) H λv H'=>(match X.P.underlying t with
  | some (.map _ e)=>exT X.P e λu=>∃n:Int,v=.tuple #[u,.int .i64 n]/\K (.tuple #[u,.int .i64 n]) H'
  | _=>False)
 | .entryStore t m k x=>bO (ev m) λa=>bO (ev k) λb=>bO (ev x) λv=>cA X.P (Instr.entryStore t a b v) H λ_ H'=>K undef H'
 | .range t x=>bO (ev x) λv=>cA X.P (Instr.range t v) H λu H'=>∃r:Nat,u=.pointer (some ⟨r,0,none⟩)/\K (.pointer (some ⟨r,0,none⟩)) H'
 | .next it s=>bO (ev it) λv=>cA X.P (Instr.next v s o.type) H λu H'=>(u=.tuple #[.bool false]/\K (.tuple #[.bool false]) H')\/∃k x:Value,u=.tuple #[.bool true,k,x]/\K (.tuple #[.bool true,k,x]) H'
 | .convert s d x=>bO (ev x) λv=>cA X.P (convert s d v) H λu H'=>exT X.P d λu'=>u=u'/\K u' H'
 | .call cl=>(match cl.callee with
  | .value (.func f)=>if bI f X.calls=false then False else bO (gW ev cl.args.toList) λvs=>bO (uS X.P o.type) λss=>(match bI f X.pan with
   | true=>mX X.P f ⟨vs⟩ H (λv H'=>lk ss λu=>v=u/\K u H') X.kp
   | false=>iI X.P f ⟨vs⟩ H λv H'=>lk ss λu=>v=u/\K u H')
  | .value x=>bO (ev x) λfv=>bO (gW ev cl.args.toList) λvs=>bO (uS X.P o.type) λss=>(match fv with
   | .func (.func f) first cap=>bI f X.calls=true/\iI X.P f ⟨first.toList++vs++cap.toList⟩ H λv H'=>lk ss λu=>v=u/\K u H'
   | .func (.yield l) ⟨[]⟩ ⟨[]⟩=>fI X.P l vs H λv H'=>lk ss λu=>v=u/\K u H'
   | _=>False)
  | .builtin .append=>bO (gW ev cl.args.toList) λvs=>cA X.P (Builtin.append_ cl.argTypes o.type ⟨vs⟩) H λv H'=>∃(a:KQ) (n c:Nat),v=.slice a n c/\K (.slice a n c) H'
  | .builtin .copy=>bO (gW ev cl.args.toList) λvs=>cA X.P (Builtin.copy_ cl.argTypes o.type ⟨vs⟩) H λv H'=>∃n:Int,v=.int .i64 n/\K (.int .i64 n) H'
  | .builtin .delete=>bO (gW ev cl.args.toList) λvs=>cA X.P (Builtin.delete_ cl.argTypes o.type ⟨vs⟩) H λv H'=>K v H'
  | .builtin .clear=>bO (gW ev cl.args.toList) λvs=>cA X.P (Builtin.clear_ cl.argTypes o.type ⟨vs⟩) H λv H'=>K v H'
  | _=>False)
 | .panic x=>bO (ev x) λv=>panP v X.kp H
 | _=>False
def basicT(P:Program)(t:TypeId):Bool:=match P.underlying t with|some .string|some (.slice _)|some (.array _ _)=>true|_=>false
def intOrStr(P:Program)(t:TypeId):Bool:=match P.underlying t with|some (.int _)|some .string=>true|_=>false
def lV(X:Ctx)(op:Op):Kind:=
 match op with
 | .move _|.assign _|.pick _ _ _|.nilCheck _|.binOp _ _ _ _ _|.unOp _ _ _|.fieldAddr _ _ _|.field _ _ _|.indexAddr _ _ _|.index _ _ _|.extract _ _|.slice _ _ _ _ _|.build _ _|.makeInterface _ _|.typeAssert _ _ _ _|.makeFunc _ _ _=>.P
 | .convert s d _=>match intOrStr X.P s,X.P.underlying d with
  | true,some (.int _)=>.P
  | true,some .string=>(match X.P.underlying s with|some .string=>.P|_=>.W)
  | false,some .string=>.R
  | _,_=>.W
 | .load _ _|.lookup _ _ _ _|.entry _=>.R
 | .call cl=>match cl.callee,cl.argTypes.toList with
  | .builtin .len,t::_=>if basicT X.P t then .P else .R
  | .builtin .max,_|.builtin .min,_=>.P
  | .value (.func f),_=>if bI f X.quiet then .R else .W
  | _,_=>.W
 | _=>.W
abbrev aB:=Value.int .i64
abbrev PA(b o:Nat):Value:=.pointer (some ⟨b,o,none⟩)
abbrev IF(c:Bool)(p q:Prop):Prop:=(c=true->p)/\(c=false->q)
abbrev AL(H:aC)(cs:Os)(t:Nat)(k:Nat->aC->Prop):Prop:=∀(b:Nat) (H':aC),b=H.size->H'=H.push (.cells ⟨cs⟩ t)->k b H'
abbrev ST(H:aC)(b o:Nat)(vs:Os)(k:aC->Prop):Prop:=eQ H b o vs/\∀H':aC,H'=fJ H b o vs->k H'
abbrev Z0:Nat->Int:=λ_=>0
theorem bV.refl(w:World):bV w w:=⟨rfl,rfl,rfl⟩
theorem bV.trans{a b c:World}(h:bV a b)(k:bV b c):bV a c:=⟨k.os.trans h.os,k.tape.trans h.tape,k.output.trans h.output⟩
theorem cell?_cellAt(w:World)(b o:Nat):w.cell? ⟨b,o,none⟩=aK w.heap b o:=by
 simp only[World.cell?,aK]
 cases w.heap[b]? with
 | none=>rfl
 | some x=>cases x <;> simp
theorem frozen?_frozenAt(w:World)(b o:Nat):w.frozen? ⟨b,o,none⟩=lT w.heap b o:=rfl
theorem xV(w:World)(b o:Nat)(v:Value):(w.setCell ⟨b,o,none⟩ v).heap=iF w.heap b o v:=by
 simp only[World.setCell,iF];rfl
theorem fm{P:Program}{t:TypeId}{d:TypeDesc}(h:P.underlying t=some d)(w:World):(underlying t).run P w=.ok d w:=by
 simp[underlying,h]
theorem lW(P:Program)(t:TypeId)(h:P.info? t≠none)(w:World):(sizeOf t).run P w=.ok (P.cellsOf t) w:=by
 cases hi:P.info? t with
 | none=>exact UY hi h
 | some i=>simp[sizeOf,typeInfo,hi,Program.cellsOf]
theorem Mq{P:Program}{t:TypeId}{d:TypeDesc}(h:P.underlying t=some d):P.info? t≠none:=by
 intro h0;simp[Program.underlying,h0]at h
theorem eH{α:Type}(l:List α)(n:Nat):aT l n=l[n]?:=by
 induction l generalizing n with
 | nil=>simp[aT]
 | cons a r ih=>cases n <;> simp[aT,ih]
theorem xW{α:Type}(l:List α)(n:Nat)(x:α):im l n x=l.set n x:=by
 induction l generalizing n with
 | nil=>simp[im]
 | cons a r ih=>cases n <;> simp[im,ih]
theorem xX(a b:Value):pG true a b=a:=by unfold pG;split <;> rfl
theorem xY(a b:Value):pG false a b=b:=by unfold pG;split <;> rfl
section
variable {X:Ctx}{ρ:Operand->Value}{ev:Operand->Option Value}{pk:Operand->Operand->Operand->Option (Bool×Value×Value)}{c:Option Prop}{G:Prop}
theorem bJ{α:Type}{o:Option α}{K:α->Prop}(h:bO o K):∃v,o=some v/\K v:=by
 cases o with
 | none=>exact h.elim
 | some v=>exact⟨v,rfl,h⟩
theorem mY(a:∀x v,ev x=some v->G->ρ x=v):∀(l:List Operand) (vs:Os),gW ev l=some vs->G->l.map ρ=vs
 | [],vs,h,_=>by simp[gW]at h;simp[h]
 | x::r,vs,h,g=>by
  simp only[gW]at h
  cases h1:ev x with
  | none=>simp[h1]at h
  | some v=>cases h2:gW ev r with
   | none=>simp[h1,h2]at h
   | some vs'=>
    simp only[h1,h2,Option.some.injEq]at h;subst h;simp[a x v h1 g,mY a r vs' h2 g]
theorem xZ(a:∀x v,ev x=some v->G->ρ x=v):∀(l:List (Nat×Operand)) (vs:List (Nat×Value)),ow ev l=some vs->G->l.map (λp=>(p.1,ρ p.2))=vs
 | [],vs,h,_=>by simp[ow]at h;simp[h]
 | (i,x)::r,vs,h,g=>by
  simp only[ow]at h
  cases h1:ev x with
  | none=>simp[h1]at h
  | some v=>cases h2:ow ev r with
   | none=>simp[h1,h2]at h
   | some vs'=>
    simp only[h1,h2,Option.some.injEq]at h;subst h;simp[a x v h1 g,xZ a r vs' h2 g]
theorem BN(a:∀x v,ev x=some v->G->ρ x=v)(o:Option Operand)(v:Option Value)(h:qL ev o=some v)(g:G):o.map ρ=v:=by
 cases o with
 | none=>simp[qL]at h;simp[h]
 | some x=>cases h1:ev x with
  | none=>simp[qL,h1]at h
  | some u=>simp[qL,h1]at h;subst h;simp[a x u h1 g]
theorem Mr{P:Program}(op:BinOp)(t:TypeId)(k:IntKind)(x y:Int){K:Value->Prop}(a:∀p,gt c p->G->p)(h:xL op k x y c K) :
  ∃v,K v/\(G->∀w,(Go.binOp op t (.int k x) (.int k y)).run P w=.ok v w):=by
 cases op <;> simp only[xL]at h
 case quo=>exact⟨_,h.2,λg w=>by simp[Go.binOp,Op.intDiv,a _ h.1 g]⟩
 case rem=>exact⟨_,h.2,λg w=>by simp[Go.binOp,Op.intDiv,a _ h.1 g]⟩
 case shl=>exact⟨_,h.2,λg w=>by have:=a _ h.1 g;simp[Go.binOp,Op.shift];omega⟩
 case shr=>exact⟨_,h.2,λg w=>by have:=a _ h.1 g;simp[Go.binOp,Op.shift];omega⟩
 case eql=>exact⟨_,h,λ_ w=>by simp[Go.binOp,Op.intCmp];by_cases e:x=y <;> simp[e]⟩
 case neq=>exact⟨_,h,λ_ w=>by simp[Go.binOp,Op.intCmp];by_cases e:x=y <;> simp[e]⟩
 all_goals exact⟨_,h,λ_ w=>by simp[Go.binOp,Op.intArith,Op.intBits,Op.intCmp,aY]⟩
theorem Ms{P:Program}(op:BinOp)(t:TypeId)(x y:Fa){K:Value->Prop}(a:∀p,gt c p->G->p)(h:xM op x y c K) :
  ∃v,K v/\(G->∀w,(Go.binOp op t (.string x) (.string y)).run P w=.ok v w):=by
 cases op <;> simp only[xM]at h
 case add=>exact⟨_,h.2,λg w=>by
  have:=a _ h.1 g;simp only[Go.binOp,Op.stringOp];rw[nO];rfl⟩
 all_goals exact⟨_,h,λ_ w=>by simp[Go.binOp,Op.stringOp]⟩
theorem ya(op:BinOp)(t:TypeId)(f e:Operand)(a b:Value)(P:Program)(w:World)(d:a≠.nilIface\/b≠.nilIface)(c:∀x y,a≠.agg x\/b≠.agg y):(eqGuard op t f e a b).run P w=.ok () w:=by
 unfold eqGuard
 cases op
 case eql=>
  rw[UW (by simp)]
  split
  .simp at d
  .rename_i x y;have:=c x y;simp at this
  .rfl
 case neq=>
  rw[UW (by simp)]
  split
  .simp at d
  .rename_i x y;have:=c x y;simp at this
  .rfl
 all_goals rfl
theorem Mt(t:TypeId)(x y:Value):Op.equal t x y=Op.equalIn (9999+1) t x y:=rfl
theorem eqNil_in{P:Program}{t:TypeId}{d:TypeDesc}{x y:Value}{b:Bool}(hd:P.underlying t=some d)(h:pF (some d) x y=some b)(n:Nat)(w:World) :
  (Op.equalIn (n+1) t x y).run P w=.ok b w/\(x≠.nilIface\/y≠.nilIface)/\(∀u v,x≠.agg u\/y≠.agg v):=by
 unfold pF at h
 split at h
 all_goals (try cases h)
 all_goals (rename_i c;cases c)
 case h_2=>rename_i a;cases a <;> simp[Op.equalIn,fm hd]
 case h_3=>rename_i a _ _ _ _;cases a <;> simp[Op.equalIn,fm hd]
 case h_4=>rename_i a;cases a <;> simp[Op.equalIn,fm hd]
 all_goals simp[Op.equalIn,fm hd]
theorem BO{P:Program}{t:TypeId}{x y:Value}{b:Bool}(h:pF (P.underlying t) x y=some b)(e c:Operand)(op:BinOp)(w:World) :
  (Op.equal t x y).run P w=.ok b w/\(eqGuard op t e c x y).run P w=.ok () w:=by
 cases hd:P.underlying t with
 | none=>rw[hd]at h;simp[pF]at h
 | some d=>
  rw[hd]at h;rw[Mt];obtain⟨f,a,i⟩:=eqNil_in hd h 9999 w;exact⟨f,ya _ _ _ _ _ _ _ _ a i⟩
end
section
variable {X:Ctx}{ρ:Operand->Value}{ev:Operand->Option Value}{c:Option Prop}{G:Prop}{P:Program}{K:Value->Prop}
theorem Mu(op:BinOp)(t:TypeId)(x y:Value)(i f:Operand)(m:∀p,gt c p->G->p)(h:binP P op t x y c K) :
  ∃v,K v/\(G->∀w,(do eqGuard op t i f x y;Go.binOp op t x y:Sem Value).run P w=.ok v w):=by
 unfold binP at h
 split at h
 .rename_i k a s b;have j:∀w,(eqGuard op t i f (.int k a) (.int s b)).run P w=.ok () w:=λw=>ya _ _ _ _ _ _ _ _ (by simp) (by simp)
  split at h
  .rename_i n;subst n;obtain⟨v,e,d⟩:=Mr (P:=P) op t k a b m h;exact⟨v,e,λg w=>by simp[j,d g w]⟩
  .rename_i n
   split at h
   .exact⟨_,h.2,λg w=>by have:=m _ h.1 g;simp[j,Go.binOp,Op.shift];omega⟩
   .exact⟨_,h.2,λg w=>by have:=m _ h.1 g;simp[j,Go.binOp,Op.shift];omega⟩
   .exact h.elim
 .rename_i a b;have j:∀w,(eqGuard op t i f (.string a) (.string b)).run P w=.ok () w:=λw=>ya _ _ _ _ _ _ _ _ (by simp) (by simp)
  obtain⟨v,e,d⟩:=Ms (P:=P) op t a b m h;exact⟨v,e,λg w=>by simp[j,d g w]⟩
 .rename_i hi hs
  split at h
  .rename_i b hb;refine⟨_,h,λ_ w=>?_⟩
   obtain⟨e,d⟩:=BO hb i f .eql w;have:(Go.binOp .eql t x y).run P w=.ok (.bool b) w:=by
    unfold pF at hb
    split at hb <;> cases hb <;> (show Sem.run P (do pure (Value.bool (<-Op.equal t _ _))) w=_;simp[e])
   simp[d,this]
  .rename_i b hb;refine⟨_,h,λ_ w=>?_⟩
   obtain⟨e,d⟩:=BO hb i f .neq w;have:(Go.binOp .neq t x y).run P w=.ok (.bool (!b)) w:=by
    unfold pF at hb
    split at hb <;> cases hb <;> (show Sem.run P (do pure (Value.bool (!(<-Op.equal t _ _)))) w=_;simp[e])
   simp[d,this]
  .obtain⟨b,e,d⟩:=h;exact⟨_,d,λg w=>m _ e g i f w⟩
  .exact h.elim
theorem Mv(op:UnOp)(x:Value)(h:unP op x K):∃v,K v/\∀w,(Op.unary op x).run P w=.ok v w:=by
 unfold unP at h
 split at h
 .exact⟨_,h,λw=>by simp[Op.unary,Op.intArith]⟩
 .exact⟨_,h,λw=>by simp[Op.unary,Op.intBits,aY]⟩
 .exact⟨_,h,λw=>by simp[Op.unary]⟩
 .exact h.elim
theorem pI(k:IntKind)(n:Int)(y:Nat)(code:BoundsCode)(w:World)(h:0<=n/\n<=(y:Int)):(Instr.sliceBound (.int k n) y code).run P w=.ok n.toNat w:=by
 simp[Instr.sliceBound,asIntOf,h]
theorem yb(a:Bool)(len cap:Nat)(lo hi:Option Value)(l h:Int)(w:World)
  (c:lo=none/\l=0\/∃k,lo=some (.int k l)) (b:hi=none/\h=(len:Int)\/∃k,hi=some (.int k h))
  (hb:0<=l/\l<=h/\h<=(cap:Int)):(Instr.sliceBounds a len cap lo hi none).run P w=.ok (l.toNat,h.toNat,cap) w:=by
 unfold Instr.sliceBounds
 rcases b with ⟨rfl,rfl⟩|⟨k,rfl⟩ <;> rcases c with ⟨rfl,rfl⟩|⟨d,rfl⟩
 .simp
 .simp [pI d l len _ w ⟨hb.1,hb.2.1⟩]
 .simp [pI k h cap _ w ⟨by omega,hb.2.2⟩]
 .have:=pI (P:=P) d l h.toNat .sliceB w ⟨hb.1,by omega⟩;simp[pI k h cap _ w ⟨by omega,hb.2.2⟩,this]
theorem uV{x:Value}{Kn:Int->Prop}(h:iK x Kn):∃k n,x=.int k n/\Kn n:=by
 unfold iK at h
 split at h
 .exact⟨_,_,rfl,h⟩
 .exact h.elim
theorem yc{α:Type}{lo hi:Option Value}{len:Int}{go:Int->Int->Prop}
  (c:match lo,hi with
   | some l,some h=>iK l λl=>iK h λh=>go l h
   | some l,none=>iK l λl=>go l len
   | none,some h=>iK h λh=>go 0 h
   | none,none=>go 0 len) (_:α) :
  ∃l h,go l h/\(lo=none/\l=0\/∃k,lo=some (.int k l))/\(hi=none/\h=len\/∃k,hi=some (.int k h)):=by
 cases lo with
 | none=>cases hi with
  | none=>exact⟨0,len,c,.inl ⟨rfl,rfl⟩,.inl ⟨rfl,rfl⟩⟩
  | some b=>
   obtain⟨k,n,hb,c⟩:=uV c;exact⟨0,n,c,.inl ⟨rfl,rfl⟩,.inr ⟨k,by rw[hb]⟩⟩
 | some a=>cases hi with
  | none=>
   obtain⟨k,n,d,c⟩:=uV c;exact⟨n,len,c,.inr ⟨k,by rw[d]⟩,.inl ⟨rfl,rfl⟩⟩
  | some b=>
   obtain⟨k,n,d,c⟩:=uV c;obtain⟨e,f,hb,c⟩:=uV c;exact⟨n,f,c,.inr ⟨k,by rw[d]⟩,.inr ⟨e,by rw[hb]⟩⟩
theorem pJ{t:TypeId}{q:Prop}(h:nQ P t q):P.info? t≠none/\P.cellsOf t≠0/\q:=by
 unfold nQ at h
 split at h
 .exact h.elim
 .rename_i n a;refine⟨λh0=>?_,by omega,h⟩
  simp[Program.cellsOf,h0]at a
theorem Mw(t:TypeId)(x:Value)(lo hi:Option Value)(u:∀p,gt c p->G->p)(h:xN P t x lo hi c K) :
  ∃v,K v/\(G->∀w,(Instr.sliceAt t x lo hi none).run P w=.ok v w):=by
 unfold xN at h
 split at h
 .rename_i s j;obtain⟨l,i,⟨m,f⟩,k,d⟩:=yc h ();refine⟨_,f,λg w=>?_⟩
  have hb:=yb (P:=P) false s.size s.size lo hi l i w k d (u _ m g);simp[Instr.sliceAt,Instr.slice,fm j,hb]
 .rename_i e a len cap j;obtain⟨b,y,h⟩:=pJ h;obtain⟨l,i,⟨m,f⟩,k,d⟩:=yc h ();refine⟨_,f,λg w=>?_⟩
  have hb:=yb (P:=P) true len cap lo hi l i w k d (u _ m g);simp[Instr.sliceAt,Instr.slice,fm j,hb,lW P e b,bZ]
 .rename_i n e a j;obtain⟨b,y,h⟩:=pJ h;obtain⟨l,i,⟨m,f⟩,k,d⟩:=yc h ();refine⟨_,f,λg w=>?_⟩
  have hb:=yb (P:=P) false n n lo hi l i w k d (u _ m g);simp[Instr.sliceAt,Instr.sureAddr,fm j,hb,lW P e b,bZ]
  split <;> rfl
 .exact h.elim
theorem Mx(t:TypeId)(x l h m:Value)(f:∀p,gt c p->G->p)(hs:xO P t x l h m c K) :
  ∃v,K v/\(G->∀w,(Instr.sliceAt t x (some l) (some h) (some m)).run P w=.ok v w):=by
 unfold xO at hs
 split at hs
 .rename_i e a len cap k1 l k2 h k3 m d;obtain⟨b,i,hs⟩:=pJ hs;refine⟨_,hs.2,λg w=>?_⟩
  obtain⟨b1,b2,b3,b4⟩:=f _ hs.1 g;have r1:=pI (P:=P) k3 m cap .slice3Acap w ⟨by omega,b4⟩;have r2:=pI (P:=P) k2 h m.toNat .slice3B w ⟨by omega,by omega⟩;have r3:=pI (P:=P) k1 l h.toNat .slice3C w ⟨b1,by omega⟩;simp[Instr.sliceAt,Instr.slice,Instr.sliceBounds,fm d,r1,r2,r3,lW P e b,bZ]
 .exact hs.elim
theorem BP{l:cT}{Q:Value->Prop}(h:l.ex Q):∃v,Q v:=by
 cases l <;> simp only[cT.ex]at h
 case slice=>obtain⟨a,n,c,h⟩:=h;exact⟨_,h⟩
 case fnv=>obtain⟨a,c,h⟩:=h;exact⟨_,h⟩
 case adr=>obtain⟨a,c,h⟩:=h;exact⟨_,h⟩
 all_goals (obtain⟨a,h⟩:=h;exact⟨_,h⟩)
theorem sL:∀{ls:List cT} {Q:Os->Prop},exLs ls Q->∃b,Q b
 | [],_,h=>⟨[],h⟩
 | .vec k n::r,_,h=>by
  obtain⟨f,d⟩:=h;obtain⟨b,a⟩:=sL (ls:=r) d;exact⟨_,a⟩
 | .int k::r,_,h|.bool::r,_,h|.str::r,_,h|.ptr::r,_,h|.slice::r,_,h|.map::r,_,h|.raw::r,_,h|.fnv::r,_,h|.adr::r,_,h=>by
  obtain⟨v,c⟩:=BP h;obtain⟨b,a⟩:=sL (ls:=r) c;exact⟨_,a⟩
theorem oz{s:Sh}{Q:Value->Prop}(h:s.ex Q):∃v,Q v:=by
 cases s with
 | one l=>exact BP h
 | agg ls=>obtain⟨a,h⟩:=sL (ls:=ls) h;exact⟨_,h⟩
theorem BQ:∀{ls:List Sh} {Q:Os->Prop},pB ls Q->∃b,Q b
 | [],_,h=>⟨[],h⟩
 | l::r,_,h=>by
  obtain⟨v,c⟩:=oz (s:=l) h;obtain⟨b,a⟩:=BQ (ls:=r) c;exact⟨_,a⟩
theorem sM{ls:List Sh}{Q:Value->Prop}(h:lk ls Q):∃v,Q v:=by
 match ls,h with
 | [],h=>exact⟨_,h⟩
 | [s],h=>exact oz (s:=s) h
 | s::t::r,h=>
  have b:pB (s::t::r) λa=>Q (.tuple ⟨a⟩):=h
  obtain⟨a,h⟩:=BQ b;exact⟨_,h⟩
theorem pK{t:TypeId}{Q:Value->Prop}(h:exT P t Q):∃v,Q v:=by
 unfold exT at h
 split at h
 .exact oz h
 .exact h.elim
theorem bAt_get(s:Fa)(n:Int)(h:0<=n/\n<(s.size:Int)):∃b,(if 0<=n then s[n.toNat]? else none)=some b/\(b.toNat:Int)=bAt s n.toNat:=by
 have a:n.toNat<s.size:=by omega
 refine⟨s[n.toNat],?_,?_⟩
 .rw [UX h.1];exact getElem?_pos s n.toNat a
 .unfold bAt;have hd:n.toNat<s.data.size:=a;rw[Array.getElem?_eq_getElem hd];rfl
theorem My(t:TypeId)(x i:Value)(e:∀p,gt c p->G->p)(h:xP P t x i c K) :
  ∃v,K v/\(G->∀w,(Instr.index t x i).run P w=.ok v w):=by
 unfold xP at h
 split at h
 .rename_i s k n f;refine⟨_,h.2,λg w=>?_⟩
  obtain⟨b,d,a⟩:=bAt_get s n (e _ h.1 g);simp only[Instr.index,asIntOf,Sem.run_bind,Sem.run_pure,Result.andThen_ok,fm f,d,a]
 .split at h
  .obtain⟨v,d,a⟩:=oz h;exact⟨v,a,λg w=>e _ d g w⟩
  .exact h.elim
 .exact h.elim
theorem sO(b o n:Nat):(⟨b,o,none⟩:Addr).add n=⟨b,o+n,none⟩:=by
 unfold Addr.add
 split
 .rename_i h;simp[h]
 .rfl
theorem Mz(t:TypeId)(x i:Value)(j:∀p,gt c p->G->p)(h:xQ P t x i c K) :
  ∃v,K v/\(G->∀w,(Instr.indexAt t x i).run P w=.ok v w):=by
 unfold xQ at h
 split at h
 .rename_i e a len _ k n f;obtain⟨d,s,y,b,o,m,A⟩:=pJ h;refine⟨_,A,λg w=>?_⟩
  have hb:=j _ y g;have u:=j _ m g;subst u;simp[Instr.indexAt,asIntOf,fm f,hb,lW P e d,sO,BL]
 .rename_i len e b o k n f;obtain⟨d,s,h⟩:=pJ h;refine⟨_,h.2,λg w=>?_⟩
  have hb:=j _ h.1 g;simp[Instr.indexAt,Instr.sureAddr,asIntOf,fm f,hb,lW P e d,sO,BL]
 .exact h.elim
theorem M0(t:TypeId)(x:Value)(f:Nat)(h:xR P t x f K) :
  ∃v,K v/\∀w,(Instr.fieldAt t x f).run P w=.ok v w:=by
 unfold xR at h
 split at h
 .rename_i i b o e
  split at h
  .rename_i k d;obtain⟨a,j,h⟩:=pJ h;refine⟨_,h,λw=>?_⟩
   rw[eH]at d;have c:i[f]?=some k:=by simpa using d
   simp[Instr.fieldAt,fm e,c,Instr.sureAddr,fieldPlace,lW P _ a,j,sO]
  .exact h.elim
 .exact h.elim
theorem BR(t:TypeId)(w:World)(h:P.underlying t≠none):(isAgg t).run P w=.ok (aggT P t) w:=by
 cases hd:P.underlying t with
 | none=>exact UY hd h
 | some d=>cases d <;> simp[isAgg,fm hd,aggT,hd]
theorem M1{t:TypeId}(h:aggT P t=true):P.underlying t≠none:=by
 intro h0;simp[aggT,h0]at h
end
section
variable {X:Ctx}{ρ:Operand->Value}{ev:Operand->Option Value}{c:Option Prop}{G:Prop}{P:Program}{K:Value->Prop}
theorem uW{t:TypeId}{z:Os}(h:sK P t=some z):∃v,v.cells.toList=z/\(∀w,(zeroValue t).run P w=.ok v w)/\P.info? t≠none:=by
 unfold sK at h
 split at h
 .rename_i i hi
  split at h
  .rename_i v a
   cases h
   exact⟨v,rfl,λw=>by simp[zeroValue,typeInfo,hi,a],by simp[hi]⟩
  .cases h
 .cases h
theorem BS(off:Nat):∀(l:Os) (k:Nat) (cells:Array Value),
  ((l.zipIdx k).foldl (λcs (x:Value×Nat)=>cs.setIfInBounds (off+x.2) x.1) cells).toList=uP cells.toList (off+k) l
 | [],_,_=>rfl
 | v::r,k,cells=>by
  simp only[List.zipIdx_cons,List.foldl_cons,uP];rw[BS off r (k+1)];simp[xW,VQ]
theorem uX(a:Nat->Option (Nat×Nat)):∀(parts:List (Nat×Value)) (cells:Array Value) (l:Os),
  pH a cells.toList parts=some l->Instr.fill a cells parts=some ⟨l⟩
 | [],cells,l,h=>by simp[pH]at h;subst h;simp[Instr.fill]
 | (i,v)::rest,cells,l,h=>by
  simp only[pH]at h;simp only[Instr.fill]
  cases hp:a i with
  | none=>simp[hp]at h
  | some p=>
   obtain⟨off,size⟩:=p;simp only[hp]at h ⊢
   split at h
   .rename_i b;have c:v.cells.size=size:=by simpa using b.1
    have d:off+v.cells.size<=cells.size:=by have:=b.2;simp at this;omega
    rw[UW (by simp;exact⟨c,by omega⟩)];have:=BS off v.cells.toList 0 cells;refine uX a rest _ l ?_;rw[<-h];congr 1;rw[<-Array.foldl_toList,Array.toList_zipIdx];simpa using this
   .cases h
theorem BT:∀(fs:List Field) (w:World),uQ P fs=true->
  (fs.mapM (m:=Sem) λf=>do pure (f.offset,<-sizeOf f.type)).run P w=.ok (fs.map λf=>(f.offset,P.cellsOf f.type)) w
 | [],w,_=>by simp
 | f::r,w,h=>by
  simp only[uQ,Vd]at h;have hi:P.info? f.type≠none:=by intro h0;simp[h0]at h
  have a:=BT r w h.2;simp only[bind_pure_comp]at a;simp[List.mapM_cons,lW P _ hi,a]
theorem M3(t:TypeId)(parts:List (Nat×Value))(l:Os)(h:xT P t parts=some l)(w:World) :
  (Instr.build t parts.toArray).run P w=.ok (.agg ⟨l⟩) w:=by
 unfold xT at h
 split at h
 .rename_i z b d k;obtain⟨v,u,a,_⟩:=uW d
  split at h
  .rename_i y;have A:=BT (P:=P) b.toList w y;have j:Instr.fill (λx=>(b.map λf=>(f.offset,P.cellsOf f.type))[x]?) v.cells parts=some ⟨l⟩:=by
    have:=uX (offOf P b.toList) parts v.cells l (by rw[u];exact h);rw[<-this];congr 1;funext i;simp only[offOf,eH]
    cases hfi:b.toList[i]? with
    | none=>simp at hfi ⊢;exact hfi
    | some f=>have c:b[i]?=some f:=by simpa using hfi
              simp[c]
   have s:(b.mapM (m:=Sem) λf=>do pure (f.offset,<-sizeOf f.type)).run P w=.ok (b.map λf=>(f.offset,P.cellsOf f.type)) w:=by
    rw[Array.mapM_eq_mapM_toList];simp only[Sem.run_map,A,Result.andThen_ok];congr 1;apply Array.ext';simp
   simp only[Instr.build,Sem.run_bind,a,Result.andThen_ok,fm k,s];simp only[j,Sem.run_pure]
  .cases h
 .rename_i z n e d k;obtain⟨v,u,a,_⟩:=uW d
  split at h
  .rename_i i hi;have j:=uX _ parts v.cells l (by rw[u];exact h);simp only[Instr.build,Sem.run_bind,a,Result.andThen_ok,fm k,lW P e (by simp[hi])];simp[j]
  .cases h
 .cases h
theorem M4(o:Oper)(x:Operand)(d:o.op=.nilCheck x)(j:∀p,gt c p->G->p)(h:uO (ρ x) c K) :
  ∃v,K v/\(G->∀w,(execOp ρ o).run P w=.ok (.value v) w):=by
 unfold uO at h
 split at h
 .rename_i a e;have key:∃p,gt c p/\(p->a=some ⟨aV a,aS a,none⟩)/\K (.pointer (some ⟨aV a,aS a,none⟩)):=by
   cases c with
   | none=>exact⟨_,(xS.1 h).1,id,(xS.1 h).2⟩
   | some c=>exact⟨isA a,h.1,isA_iff.1,h.2⟩
  obtain⟨p,k,m,i⟩:=key;refine⟨_,i,λg w=>?_⟩
  have:=m (j _ k g);generalize aV a=b at *;generalize aS a=o' at *;subst this;simp[execOp,d,e]
 .rename_i f a b e;exact⟨_,h,λ_ w=>by simp[execOp,d,e]⟩
 .rename_i f a b e;exact⟨_,h,λ_ w=>by simp[execOp,d,e]⟩
 .exact h.elim
theorem M5(s d:TypeId)(x:Value)(h:convP P s d x K):∃v,K v/\∀w,(convert s d x).run P w=.ok v w:=by
 unfold convP at h
 split at h
 .rename_i a k c n hs hd;exact⟨_,h,λw=>by cases a <;> simp[convert,fm hs,fm hd,Conv.intToInt]⟩
 .rename_i a b hs hd;exact⟨_,h,λw=>by cases a <;> simp[convert,fm hs,fm hd]⟩
 .exact h.elim
theorem M6(t:TypeId)(x:Value)(ts:Array TypeId)(f:TypeId)(args:Array Value)(c:ts[0]?=some t)(b:args[0]?=some x)(h:lenP P t x K) :
  ∃v,K v/\∀w,(Builtin.len_ ts f args).run P w=.ok v w:=by
 unfold lenP at h
 split at h
 .rename_i s d;exact⟨_,h,λw=>by simp[Builtin.len_,c,b,fm d,goInt]⟩
 .rename_i e a n i d;exact⟨_,h,λw=>by simp[Builtin.len_,c,b,fm d,goInt]⟩
 .rename_i x n e d;exact⟨_,h,λw=>by cases x <;> simp[Builtin.len_,c,b,fm d,goInt]⟩
 .exact h.elim
theorem M7(vs:Os)(ts:Array TypeId)(t:TypeId)(h:mmP true vs K):∃v,K v/\∀w,(Builtin.max_ ts t ⟨vs⟩).run P w=.ok v w:=by
 unfold mmP at h
 split at h
 .exact⟨_,h,λw=>by simp[Builtin.max_,Builtin.max2]⟩
 .exact⟨_,h,λw=>by simp[Builtin.max_,Builtin.max2]⟩
 .exact h.elim
theorem M8(vs:Os)(ts:Array TypeId)(t:TypeId)(h:mmP false vs K):∃v,K v/\∀w,(Builtin.min_ ts t ⟨vs⟩).run P w=.ok v w:=by
 unfold mmP at h
 split at h
 .exact⟨_,h,λw=>by simp[Builtin.min_,Builtin.min2]⟩
 .exact⟨_,h,λw=>by simp[Builtin.min_,Builtin.min2]⟩
 .exact h.elim
theorem M9(op:BinOp)(t:TypeId)(x y:Value)(d a:Operand)(e:∀p,gt c p->G->p)(h:binQ P op t x y c K) :
  ∃v,K v/\(G->∀w,(do eqGuard op t d a x y;Go.binOp op t x y:Sem Value).run P w=.ok v w):=by
 unfold binQ at h
 split at h
 .obtain⟨b,i,f⟩:=h;exact⟨_,f,λg w=>e _ i g d a w⟩
 .exact Mu op t x y d a e h
theorem BU(o:Oper){pk:Operand->Operand->Operand->Option (Bool×Value×Value)}(E:∀p,gt c p->G->p)(j:∀x v,ev x=some v->G->ρ x=v)
  (J:∀a b d r,pk a b d=some r->G->ρ a=.bool r.1/\(r.1=true->ρ b=r.2.1)/\(r.1=false->ρ d=r.2.2)) (C:∀o v,o=.const v->ρ o=v) (U:P=X.P)
  (h:uR X ev pk c o.op K):∃v,K v/\(G->∀w,(execOp ρ o).run P w=.ok (.value v) w):=by
 subst U
 cases hop:o.op <;> rw[hop]at h <;> simp only[uR]at h <;> (try exact h.elim)
 case move x=>obtain⟨v,F,h⟩:=bJ h;exact⟨v,h,λg w=>by simp[execOp,hop,j x v F g]⟩
 case assign x=>obtain⟨v,F,h⟩:=bJ h;exact⟨v,h,λg w=>by simp[execOp,hop,j x v F g]⟩
 case pick a b d=>
  obtain⟨r,hr,h⟩:=bJ h;refine⟨_,h,λg w=>?_⟩
  obtain⟨k,n,S⟩:=J a b d r hr g;obtain⟨q,x,y⟩:=r;have hb:∀u,b=.const (.bool u)->ρ b=.bool u:=λu e=>C b _ e
  have hd:∀u,d=.const (.bool u)->ρ d=.bool u:=λu e=>C d _ e
  cases q
  .have:sJ b d (false,x,y)=ρ d:=by
    unfold sJ;rw[S rfl]
    split
    .split
     .rename_i e;dsimp only at e ⊢;rw[e];rfl
     .exact xY _ _
    .split
     .split
      .have:=hd false rfl;rw[S rfl]at this;dsimp only at this ⊢;rw[this];rfl
      .exact xY _ _
     .exact xY _ _
   simp[execOp,hop,k,asBool,this]
  .have:sJ b d (true,x,y)=ρ b:=by
    unfold sJ;rw[n rfl]
    split
    .split
     .have:=hb true rfl;rw[n rfl]at this;dsimp only at this ⊢;rw[this];rfl
     .exact xX _ _
    .split
     .split
      .rename_i e;dsimp only at e ⊢;rw[e];rfl
      .exact xX _ _
     .exact xX _ _
   simp[execOp,hop,k,asBool,this]
 case nilCheck x=>
  obtain⟨v,F,h⟩:=bJ h
  by_cases g:G
  .have W:=j x v F g;obtain⟨u,k,n⟩:=M4 (ρ:=ρ) (K:=K) (c:=c) (P:=X.P) o x hop E (by rw[W];exact h);exact⟨u,k,n⟩
  .unfold uO at h
   split at h
   .cases c with
    | none=>exact⟨_,(xS.1 h).2,λH=>UY H g⟩
    | some c=>exact⟨_,h.2,λH=>UY H g⟩
   .exact⟨_,h,λH=>UY H g⟩
   .exact⟨_,h,λH=>UY H g⟩
   .exact h.elim
 case binOp op t x y yt=>
  obtain⟨a,A,h⟩:=bJ h;obtain⟨b,hb,h⟩:=bJ h;obtain⟨v,k,n⟩:=M9 op t a b x y E h;refine⟨v,k,λg w=>?_⟩
  have:=n g w;simp only[Sem.run_bind]at this;simp only[execOp,hop,j x a A g,j y b hb g,Sem.run_bind,Sem.run_pure];generalize (eqGuard op t x y a b).run X.P w=r at this ⊢
  cases r with
  | halt hh w'=>simp at this
  | ok u w'=>
   simp only[Result.andThen_ok]at this ⊢;rw[this];rfl
 case unOp op t x=>
  obtain⟨a,A,h⟩:=bJ h;obtain⟨v,k,n⟩:=Mv (P:=X.P) op a h;exact⟨v,k,λg w=>by simp[execOp,hop,j x a A g,n w]⟩
 case convert s d x=>
  obtain⟨a,A,h⟩:=bJ h;obtain⟨v,k,n⟩:=M5 s d a h;exact⟨v,k,λg w=>by simp[execOp,hop,j x a A g,n w]⟩
 case fieldAddr t x f=>
  obtain⟨a,A,h⟩:=bJ h;obtain⟨v,k,n⟩:=M0 t a f h;exact⟨v,k,λg w=>by simp[execOp,hop,j x a A g,n w]⟩
 case field t x f=>
  obtain⟨a,A,h⟩:=bJ h;unfold fieldP at h
  split at h
  .split at h
   .split at h
    .obtain⟨v,k,n⟩:=oz h;exact⟨v,n,λg w=>by simp[execOp,hop,j x a A g,E _ k g w]⟩
    .exact h.elim
   .exact h.elim
  .exact h.elim
 case indexAddr t x i=>
  obtain⟨a,A,h⟩:=bJ h;obtain⟨b,hb,h⟩:=bJ h;obtain⟨v,k,n⟩:=Mz t a b E h;exact⟨v,k,λg w=>by simp[execOp,hop,j x a A g,j i b hb g,n g w]⟩
 case index t x i=>
  obtain⟨a,A,h⟩:=bJ h;obtain⟨b,hb,h⟩:=bJ h;obtain⟨v,k,n⟩:=My t a b E h;exact⟨v,k,λg w=>by simp[execOp,hop,j x a A g,j i b hb g,n g w]⟩
 case extract t i=>
  obtain⟨a,A,h⟩:=bJ h
  cases a <;> simp only at h
  case tuple vs=>
   obtain⟨v,F,h⟩:=bJ h;rw[eH]at F;have O:vs[i]?=some v:=by simpa using F
   exact⟨v,h,λg w=>by simp[execOp,hop,j t _ A g,Instr.extract,O]⟩
 case slice t x lo hi mx=>
  cases mx with
  | some m=>
   cases lo with
   | none=>exact h.elim
   | some lo=>cases hi with
    | none=>exact h.elim
    | some hi=>
     obtain⟨a,A,h⟩:=bJ h;obtain⟨l,I,h⟩:=bJ h;obtain⟨u,L,h⟩:=bJ h;obtain⟨q,V,h⟩:=bJ h;obtain⟨v,k,n⟩:=Mx t a l u q E h;exact⟨v,k,λg w=>by simp[execOp,hop,j x a A g,j lo l I g,j hi u L g,j m q V g,n g w]⟩
  | none=>
   obtain⟨a,A,h⟩:=bJ h;obtain⟨l,I,h⟩:=bJ h;obtain⟨u,L,h⟩:=bJ h;obtain⟨v,k,n⟩:=Mw t a l u E h;exact⟨v,k,λg w=>by simp[execOp,hop,j x a A g,BN j lo l I g,BN j hi u L g,n g w]⟩
 case build t ps=>
  obtain⟨vs,B,h⟩:=bJ h;obtain⟨l,I,h⟩:=bJ h;refine⟨_,h,λg w=>?_⟩
  have hm:=xZ j ps.toList vs B g;have hb:=M3 (P:=X.P) t vs l I w;have N:(ps.map λ(i,x)=>(i,ρ x))=vs.toArray:=by
   apply Array.ext';simp[<-hm]
  simp only[execOp,hop,N,Sem.run_bind,hb,Result.andThen_ok,Sem.run_pure]
 case makeInterface t x=>
  obtain⟨a,A,h⟩:=bJ h
  split at h
  .exact h.elim
  .rename_i d hd T;refine⟨_,h,λg w=>?_⟩
   have:∀m,d≠.interface m:=λm N=>hd m N
   cases d <;> first|(exact UY rfl (this _))|simp[execOp,hop,j x a A g,Instr.makeInterface,fm T]
  .exact h.elim
 case typeAssert x t u ok=>
  cases ok with
  | false=>exact h.elim
  | true=>
   obtain⟨a,A,h⟩:=bJ h;obtain⟨y,M,k,n⟩:=pK h;exact⟨_,n,λg w=>by simp[execOp,hop,j x a A g,E _ k g w]⟩
 case makeFunc fn a b=>
  obtain⟨Z,A,h⟩:=bJ h;obtain⟨Y,hb,h⟩:=bJ h;refine⟨_,h,λg w=>?_⟩
  have e1:a.map ρ=⟨Z⟩:=by apply Array.ext';simp[mY j _ _ A g]
  have e2:b.map ρ=⟨Y⟩:=by apply Array.ext';simp[mY j _ _ hb g]
  simp[execOp,hop,e1,e2,Instr.makeFunc]
 case call cl=>
  split at h
  .rename_i t ts D Q;obtain⟨vs,B,h⟩:=bJ h
   split at h
   .rename_i v r;have R:cl.argTypes[0]?=some t:=by rw[<-Array.getElem?_toList,Q];rfl
    obtain⟨u,k,n⟩:=M6 t v cl.argTypes o.type ⟨v::r⟩ R (by simp) h;refine⟨u,k,λg w=>?_⟩
    have e1:cl.args.map ρ=⟨v::r⟩:=by apply Array.ext';simp[mY j _ _ B g]
    simp[execOp,hop,resolve,D,e1,invoke,builtin,n w]
   .exact h.elim
  .rename_i D;obtain⟨vs,B,h⟩:=bJ h;obtain⟨u,k,n⟩:=M7 (P:=X.P) vs cl.argTypes o.type h;refine⟨u,k,λg w=>?_⟩
   have e1:cl.args.map ρ=⟨vs⟩:=by apply Array.ext';simp[mY j _ _ B g]
   simp[execOp,hop,resolve,D,e1,invoke,builtin,n w]
  .rename_i D;obtain⟨vs,B,h⟩:=bJ h;obtain⟨u,k,n⟩:=M8 (P:=X.P) vs cl.argTypes o.type h;refine⟨u,k,λg w=>?_⟩
   have e1:cl.args.map ρ=⟨vs⟩:=by apply Array.ext';simp[mY j _ _ B g]
   simp[execOp,hop,resolve,D,e1,invoke,builtin,n w]
  .exact h.elim
end
def gm(P:Program)(w:World)(KP:KE)(K:KE):Result Next->Prop
 | .ok (.value v) w'=>bV w w'/\K v w'.heap
 | .ok .skip w'=>bV w w'/\K undef w'.heap
 | .ok (.enter f args) w'=>w'=w/\Calls P f args w (iJ w K KP)
 | .ok (.round l f tmps assign body) w'=>w'=w/\RoundIn Fence.wide 0 P l f tmps assign body w (iJ w K KP)
 | .halt (.panic v) w'=>bV w w'/\KP v w'.heap
 | _=>False
theorem iJ.mono{w:World}{K b KP a:KE}(d:∀v H,K v H->b v H)(i:∀v H,KP v H->a v H){e:Ending}{c:World}(h:iJ w K KP e c):iJ w b a e c:=by
 cases e <;> simp only[iJ]at h ⊢
 case returned v=>exact⟨h.1,d _ _ h.2⟩
 case panicked chain=>obtain⟨v,j,f,k⟩:=h;exact⟨v,j,f,i _ _ k⟩
theorem Fin.toP{w:World}{K KP:KE}{e:Ending}{a:World}(h:Fin w K e a):iJ w K KP e a:=by
 cases e <;> simp only[Fin]at h
 exact h
theorem iJ.fin{w:World}{K:KE}{e:Ending}{a:World}(h:iJ w K (λ_ _=>False) e a):Fin w K e a:=by
 cases e <;> simp only[iJ]at h
 case returned v=>exact h
 case panicked chain=>obtain⟨v,_,_,h⟩:=h;exact h.elim
theorem gm.mono2{P:Program}{w:World}{K j KP a:KE}{r:Result Next}(h:gm P w KP K r)(b:∀v H,K v H->j v H)(d:∀v H,KP v H->a v H):gm P w a j r:=by
 cases r with
 | halt h' w'=>
  cases h' <;> simp only[gm]at h ⊢
  exact⟨h.1,d _ _ h.2⟩
 | ok n w'=>
  cases n <;> simp only[gm]at h ⊢
  case value v=>exact⟨h.1,b _ _ h.2⟩
  case skip=>exact⟨h.1,b _ _ h.2⟩
  case enter f args=>exact⟨h.1,h.2.mono λe i c=>c.mono b d⟩
  case round l f tmps assign body=>exact⟨h.1,h.2.mono λe i c=>c.mono b d⟩
theorem gm.mono{P:Program}{w:World}{KP K a:KE}{r:Result Next}(h:gm P w KP K r)(b:∀v H,K v H->a v H):gm P w KP a r:=h.mono2 b λ_ _ h=>h
section
variable {X:Ctx}{ρ:Operand->Value}{ev:Operand->Option Value}{c:Option Prop}{G:Prop}
theorem sQ{P:Program}{f:FuncId}(hb:gC P f)(args:Array Value)(w:World):(callFunc f args).run P w=.ok (.enter f args) w:=by
 obtain⟨fn,b,a,c⟩:=hb;simp only[callFunc,Sem.run_bind,run_program,Result.andThen_ok,b,c,a,W2,if_false,Sem.run_pure]
theorem BV{P:Program}{w:World}{b o:Nat}{v:Value}(h:aK w.heap b o=some v):(load ⟨b,o,none⟩).run P w=.ok v w:=by
 simp[run_load,cell?_cellAt,h]
theorem MB{H:aC}{b o:Nat}{v:Value}{r:Os}(h:bD H b o (v::r)):aK H b o=some v/\bD H b (o+1) r:=by
 cases r with
 | nil=>exact⟨h,trivial⟩
 | cons u r=>exact h
theorem BW{P:Program}{w:World}{b:Nat}:∀(l:Os) (o i:Nat) (acc:Array Value),bD w.heap b (o+i) l->
  (loadCellsFrom ⟨b,o,none⟩ i l.length acc).run P w=.ok (acc++l.toArray) w
 | [],o,i,acc,_=>by simp[loadCellsFrom]
 | v::r,o,i,acc,h=>by
  obtain⟨d,a⟩:=MB h;have c:=BW (P:=P) r o (i+1) (acc.push v) (by rw[<-VQ];exact a);simp only[Vf,loadCellsFrom,Sem.run_bind,sO,BV d,Result.andThen_ok,c];simp
theorem BX{P:Program}{t:TypeId}{Q:Value->Prop}(h:exT P t Q):P.underlying t≠none:=by
 intro h0;unfold exT pE at h;simp[sH,h0]at h
theorem BZ{P:Program}{w:World}{t:TypeId}{b off:Nat}{us:Os}(a:aggT P t=true)(f:us.length=P.cellsOf t)(h:bD w.heap b off us) :
  (Instr.loadAt t (.pointer (some ⟨b,off,none⟩))).run P w=.ok (.agg ⟨us⟩) w:=by
 have e:=M1 a;have c:P.info? t≠none:=by
  cases hd:P.underlying t with
  | none=>exact UY hd e
  | some d=>exact Mq hd
 have i:=BW (P:=P) (w:=w) (b:=b) us off 0 #[] (by simpa using h);simp only[Instr.loadAt,Instr.sureAddr,Sem.run_bind,Sem.run_pure,Result.andThen_ok,loadVar,BR _ w e,a,if_true,lW P t c,loadCells,<-f,i];simp
theorem Ca{P:Program}{w:World}{t:TypeId}{b off:Nat}{u:Value}(c:P.underlying t≠none)(a:aggT P t=false)(h:aK w.heap b off=some u) :
  (Instr.loadAt t (.pointer (some ⟨b,off,none⟩))).run P w=.ok u w:=by
 simp only[Instr.loadAt,Instr.sureAddr,Sem.run_bind,Sem.run_pure,Result.andThen_ok,loadVar,BR _ w c,a,W2,if_false,BV h]
theorem mZ{P:Program}{w:World}{KP:KE}{v:Value}{r:Result Next}(h:r=.ok (.value v) w):gm P w KP (λa b=>a=v/\b=w.heap) r:=by
 subst h;exact⟨bV.refl w,rfl,rfl⟩
theorem Cb{n:Nat}{l:List Nat}{q:Prop}(h:if bI n l=false then False else q):bI n l=true/\q:=by
 split at h
 .exact h.elim
 .rename_i a;exact⟨by simpa using a,h⟩
theorem Cc(o:Oper){H:aC}{K:Value->(aC->Prop)->Prop}(M:∀p,gt c p->G->p)(A:∀x v,ev x=some v->G->ρ x=v)(hX:∀f,bI f X.calls=true->gC X.P f)(hρ:∀f,ρ (.func f)=.func (.func f) #[] #[])
  (h:uT X ev c o H K):∃v F,K v F/\(∀q,c=some q->¬q->∀J,F J)/\(G->F H)/\(G->∀w,F w.heap->gm X.P w (λ_ _=>False) (λv' J=>v'=v/\J=w.heap) ((execOp ρ o).run X.P w)):=by
 unfold uT at h
 split at h
 .rename_i t x y;obtain⟨a,V,h⟩:=bJ h
  split at h
  .rename_i b off
   split at h
   .rename_i O;unfold uM at h
    split at h
    .rename_i Y _;obtain⟨us,h⟩:=sL (ls:=Y) h
     split at h
     .rename_i R;refine⟨_,_,h.2,λq C B J=>by subst C;exact λj=>UY j B,λg=>h.1,λg w D=>mZ ?_⟩
      simp[execOp,y,A x _ V g,BZ O R (M _ D g)]
     .exact h.elim
    .exact h.elim
   .rename_i O;have hu:=BX h;obtain⟨u,E,I⟩:=pK h;refine⟨_,_,I,λq C B J=>by subst C;exact λj=>UY j B,λg=>E,λg w D=>mZ ?_⟩
    simp[execOp,y,A x _ V g,Ca hu O (M _ D g)]
  .exact h.elim
 .rename_i t x i ok y;obtain⟨m,hm,h⟩:=bJ h;obtain⟨k,W,h⟩:=bJ h
  split at h
  .rename_i kt e ht;obtain⟨u,h⟩:=pK h
   split at h
   .obtain⟨T,E,I⟩:=h;refine⟨_,_,I,λq C B J=>by subst C;exact λj=>UY j B,λg=>E,λg w D=>mZ ?_⟩
    simp[execOp,y,A x _ hm g,A i _ W g,M _ D g w rfl]
   .refine⟨_,_,h.2,λq C B J=>by subst C;exact λj=>UY j B,λg=>h.1,λg w D=>mZ ?_⟩
    simp[execOp,y,A x _ hm g,A i _ W g,M _ D g w rfl]
  .exact h.elim
 .rename_i s d x y;obtain⟨v,S,h⟩:=bJ h
  split at h
  .obtain⟨b,E,I⟩:=h;refine⟨_,_,I,λq C B J=>by subst C;exact λj=>UY j B,λg=>E,λg w D=>mZ ?_⟩
   simp[execOp,y,A x _ S g,M _ D g w rfl]
  .exact h.elim
 .rename_i it y;obtain⟨v,S,h⟩:=bJ h
  split at h
  .obtain⟨k,h⟩:=oz h;obtain⟨x,E,I⟩:=oz h;refine⟨_,_,I,λq C B J=>by subst C;exact λj=>UY j B,λg=>E,λg w D=>mZ ?_⟩
   simp[execOp,y,A it _ S g,M _ D g w rfl]
  .exact h.elim
 .rename_i cl y
  split at h
  .rename_i f N
   split at h
   .obtain⟨Q,L,h⟩:=bJ h;obtain⟨ss,U,h⟩:=bJ h;obtain⟨u,E,I⟩:=sM h;refine⟨_,_,I,λq C B J=>by subst C;exact λj=>UY j B,λg=>E,λg w D=>mZ ?_⟩
    have e1:cl.args.map ρ=⟨Q⟩:=by apply Array.ext';simp[mY A _ _ L g]
    have h3:=M _ E g w;simp only[execOp,y,resolve,N,hρ,Deferred.ofValue,invoke,e1,Sem.run_bind,Sem.run_pure,Result.andThen_ok];simpa using h3
   obtain⟨Z,h⟩:=Cb h;obtain⟨Q,L,h⟩:=bJ h;obtain⟨ss,U,h⟩:=bJ h;obtain⟨u,E,I⟩:=sM h;refine⟨_,_,I,λq C B J=>by subst C;exact λj=>UY j B,λg=>E,λg w D=>?_⟩
   have e1:cl.args.map ρ=⟨Q⟩:=by apply Array.ext';simp[mY A _ _ L g]
   have e2:(execOp ρ o).run X.P w=.ok (.enter f ⟨Q⟩) w:=by
    simp only[execOp,y,resolve,N,hρ,Deferred.ofValue,invoke,e1,Sem.run_bind,Sem.run_pure,Result.andThen_ok];rw[sQ (hX f Z)];simp
   rw[e2];exact⟨rfl,((M _ D g).at w rfl).mono λe w2 he=>he.toP⟩
  .rename_i N;obtain⟨Q,L,h⟩:=bJ h;obtain⟨n,E,I⟩:=h;refine⟨_,_,I,λq C B J=>by subst C;exact λj=>UY j B,λg=>E,λg w D=>mZ ?_⟩
   have e1:cl.args.map ρ=⟨Q⟩:=by apply Array.ext';simp[mY A _ _ L g]
   simp[execOp,y,resolve,N,e1,invoke,builtin,M _ D g w rfl]
  .exact h.elim
 .exact h.elim
theorem MC{P:Program}{w:World}{b o:Nat}{v:Value}(hs:(aK w.heap b o).isSome=true)(d:lT w.heap b o=false)(c:cR [v]=true) :
  (store ⟨b,o,none⟩ v).run P w=.ok () (w.setCell ⟨b,o,none⟩ v):=by
 have a:v.oneCell'=true:=by cases v <;> simp[cR,Value.oneCell']at c ⊢
 rw[run_store P w _ v _ a,cell?_cellAt]
 cases hc:aK w.heap b o with
 | none=>simp[hc]at hs
 | some u=>simp[frozen?_frozenAt,d]
theorem yd{v:Value}{r:Os}(h:cR (v::r)=true):cR [v]=true/\cR r=true:=by
 cases v <;> simp[cR]at h ⊢ <;> exact h
theorem qM{P:Program}{b:Nat}:∀(l:Os) (o i:Nat) (w:World),eQ w.heap b (o+i) l->(∀j,j<l.length->(aK w.heap b (o+i+j)).isSome=true/\lT w.heap b (o+i+j)=false)->cR l=true->
  ∃d,(storeCells ⟨b,o,none⟩ l i).run P w=.ok () d/\bV w d/\d.heap=fJ w.heap b (o+i) l
 | [],o,i,w,_,_,_=>⟨w,rfl,bV.refl w,rfl⟩
 | v::r,o,i,w,h,ha,hp=>by
  obtain⟨k,m⟩:=yd hp;have h0:=ha 0 (by simp);have f:=MC (P:=P) (w:=w) (b:=b) (o:=o+i) (v:=v) (by simpa using h0.1) (by simpa using h0.2) k;have a:∀x,(aK (iF w.heap b (o+i) v) b x).isSome=(aK w.heap b x).isSome/\lT (iF w.heap b (o+i) v) b x=lT w.heap b x:=by
   intro x;simp only[aK,lT,iF,Array.getElem?_modify]
   cases hb:w.heap[b]? with
   | none=>simp
   | some ob=>
    cases ob <;> simp[Array.getElem?_setIfInBounds]
    rename_i c e B
    split <;> (try split) <;> simp_all
  obtain⟨d,y,t,A⟩:=qM (P:=P) (b:=b) r o (i+1) (w.setCell ⟨b,o+i,none⟩ v) (by
    rw[xV]
    clear f
    have:∀(l:Os) (x:Nat),(∀j,j<l.length->(aK (iF w.heap b (o+i) v) b (x+j)).isSome=true/\lT (iF w.heap b (o+i) v) b (x+j)=false)->eQ (iF w.heap b (o+i) v) b x l:=by
     intro l
     induction l with
     | nil=>intro x _;trivial
     | cons u l ih=>intro x n;exact⟨by simpa using n 0 (by simp),ih (x+1) (λj s=>by have:=n (j+1) (by simp;omega);rwa[show x+(j+1)=x+1+j by omega]at this)⟩
    refine this r _ λj s=>?_
    have:=ha (j+1) (by simp;omega);rw[(a _).1,(a _).2]
    rwa[show o+i+(j+1)=o+(i+1)+j by omega]at this) (λj s=>by
    rw[xV,(a _).1,(a _).2];have:=ha (j+1) (by simp;omega)
    rwa[show o+i+(j+1)=o+(i+1)+j by omega]at this) m
  refine⟨d,?_,?_,?_⟩
  .simp only[storeCells,Sem.run_bind,sO,f,Result.andThen_ok,y]
  .exact bV.trans (b:=w.setCell ⟨b,o+i,none⟩ v) ⟨rfl,rfl,rfl⟩ t
  .rw [A,xV];rfl
theorem qN{H:aC}{b:Nat}:∀(l:Os) (x:Nat),eQ H b x l->∀j,j<l.length->(aK H b (x+j)).isSome=true/\lT H b (x+j)=false
 | [],_,_,j,hj=>by simp at hj
 | _::r,x,h,0,_=>h.1
 | _::r,x,h,j+1,hj=>by
  have:=qN r (x+1) h.2 j (by simpa using hj)
  rwa[show x+1+j=x+(j+1) by omega]at this
theorem MD{P:Program}{t:TypeId}{b off:Nat}{v:Value}{w:World}(c:v.cells.toList.length=P.cellsOf t)(hi:P.info? t≠none)(e:cR v.cells.toList=true)(h:eQ w.heap b off v.cells.toList) :
  ∃a,(Instr.storeAt t (.pointer (some ⟨b,off,none⟩)) v).run P w=.ok () a/\bV w a/\a.heap=fJ w.heap b off v.cells.toList:=by
 obtain⟨a,f,d,i⟩:=qM (P:=P) (b:=b) v.cells.toList off 0 w (by simpa using h) (by simpa using qN _ _ h) e;refine⟨a,?_,d,by simpa using i⟩;simp only[Instr.storeAt,Instr.sureAddr,Sem.run_bind,Sem.run_pure,Result.andThen_ok,storeVar,lW P t hi];rw[UW (by simpa using c)];simp only[f]
theorem nR{P:Program}{s:Sem Value}{H:aC}{KP K:KE}{w:World}(c:w.heap=H)(h:cA P s H K):gm P w KP K ((do pure (Next.value (<-s)):Sem Next).run P w):=by
 obtain⟨a,f,d,b,e⟩:=h.at w c;simp only[Sem.run_bind,d,Result.andThen_ok,Sem.run_pure];exact⟨b,e⟩
theorem ye{P:Program}{s:Sem Unit}{H:aC}{KP:KE}{K:aC->Prop}{w:World}(d:w.heap=H)(h:cA P s H λ_ b=>K b):gm P w KP (λv b=>v=undef/\K b) ((do s;pure Next.skip:Sem Next).run P w):=by
 obtain⟨a,i,e,c,f⟩:=h.at w d;simp only[Sem.run_bind,e,Result.andThen_ok,Sem.run_pure];exact⟨c,rfl,f⟩
theorem Cd(z:Os)(a:z≠[]):∀(n i:Nat),i<n*z.length->(lr z n)[i]?=z[i%z.length]?
 | 0,i,h=>by simp at h
 | n+1,i,h=>by
  simp only[lr]
  by_cases hi:i<z.length
  .rw [List.getElem?_append_left hi,Wj hi]
  .rw [List.getElem?_append_right (by omega),Cd z a n (i-z.length) (by rw[Nat.succ_mul]at h;omega)];rw[<-Nat.mod_eq_sub_mod (by omega)]
theorem uY(z:Os):∀n,(lr z n).length=n*z.length
 | 0=>by simp[lr]
 | n+1=>by simp[lr,uY z n,Nat.succ_mul,W6]
theorem ME(z:Array Value)(n:Nat):(Array.range (n*z.size)).map (λi=>z[i%z.size]!)=⟨lr z.toList n⟩:=by
 apply Array.ext';apply Wu;intro i
 by_cases hz:z.toList=[]
 .have:z.size=0:=by rw[<-Wb,hz];rfl
  have d:(lr z.toList n).length=0:=by simp[uY,this]
  simp[this];omega
 by_cases hi:i<n*z.size
 .have c:=Cd z.toList hz n i (by simpa using hi);simp only[Wb]at c;rw[c];have a:0<z.size:=by
   rw[<-Wb];exact WO.2 hz
  have b:=Wc i a;simp[hi,b]
 .rw [List.getElem?_eq_none (by simp;omega),List.getElem?_eq_none (by rw[uY];simp;omega)]
theorem MF{P:Program}(t e:TypeId)(n:Nat)(parts:List (Nat×Value))(l:Os)(x:P.underlying t=some (.slice e))(A:n*P.cellsOf e<=16777216)(h:xU P e n parts=some l)(w:World) :
  (Instr.buildSlice t n parts.toArray).run P w=.ok (.slice (some ⟨w.heap.size,0,none⟩) n n) (w.alloc (.cells ⟨l⟩ e)):=by
 unfold xU at h
 split at h
 .rename_i z u;obtain⟨v,m,c,d⟩:=uW u
  split at h
  .rename_i a;have b:v.cells.size=P.cellsOf e:=by rw[<-Wb,m,a]
   have j:=uX _ parts ⟨lr z n⟩ l h;simp only[Instr.buildSlice,Sem.run_bind,fm x,Result.andThen_ok,lW P e d];rw[nO]
   by_cases h0:n*P.cellsOf e=0
   .have f:(lr z n).length=0:=by rw[uY,a,h0]
    have s:lr z n=[]:=Wk.1 f;rw[s]at j;rw[UX h0];have k:Instr.fill (λi=>some (i*P.cellsOf e,P.cellsOf e)) #[] parts=some ⟨l⟩:=j
    have y:Array.map (λ_:Nat=>(default:Value)) (Array.range 0)=#[]:=by simp
    simp[h0];rw[y,k];simp[newRow]
   .rw [UW h0];have f:=ME v.cells n;rw[b,m]at f;simp only[Sem.run_bind,c,Result.andThen_ok,Sem.run_pure,b,f,j];simp[newRow]
  .cases h
 .cases h
theorem Ce(o:Oper){H:aC}{K:KE}(A:∀x v,ev x=some v->ρ x=v)(hX:∀f,bI f X.calls=true->gC X.P f)(hρ:∀f,ρ (.func f)=.func (.func f) #[] #[])
  (h:uU X ev o H K):∀w,w.heap=H->gm X.P w X.kp K ((execOp ρ o).run X.P w):=by
 intro w I;have N:∀(l:Array Operand) L,gW ev l.toList=some L->l.map ρ=⟨L⟩:=λl L B=>by
  apply Array.ext';simp[mY (G:=True) (λx v h _=>A x v h) _ _ B trivial]
 have Z:∀(l:Array (Nat×Operand)) L,ow ev l.toList=some L->(l.map λ(i,x)=>(i,ρ x))=L.toArray:=λl L B=>by
  apply Array.ext';simp[<-xZ (G:=True) (λx v h _=>A x v h) _ _ B trivial]
 unfold uU at h
 split at h
 .rename_i t j;obtain⟨z,hz,h⟩:=bJ h;obtain⟨v,C,V,_⟩:=uW hz;subst I;have:v.cells=⟨z⟩:=by apply Array.ext';simp[C]
  simp[execOp,j,Instr.alloc,V,newVar,newRow,this];exact⟨⟨rfl,rfl,rfl⟩,h _ _ rfl rfl⟩
 .rename_i t x j;obtain⟨v,C,h⟩:=bJ h;subst I;simp[execOp,j,Instr.box,A x v C,newVar,newRow];exact⟨⟨rfl,rfl,rfl⟩,h _ _ rfl rfl⟩
 .rename_i t n ps j;obtain⟨L,B,h⟩:=bJ h
  split at h
  .rename_i e ht;obtain⟨l,W,h⟩:=bJ h
   split at h
   .rename_i hn;subst I;simp only[execOp,j,Z ps L B,Sem.run_bind,MF t e n L l ht hn W w,Result.andThen_ok,Sem.run_pure];exact⟨⟨rfl,rfl,rfl⟩,h _ _ rfl rfl⟩
   .exact h.elim
  .exact h.elim
 .rename_i t r j
  split at h
  .subst I;simp[execOp,j,Instr.makeMap];exact⟨⟨rfl,rfl,rfl⟩,h _ _ rfl rfl⟩
  .exact h.elim
 .rename_i t x y j;obtain⟨a,M,h⟩:=bJ h;obtain⟨v,C,h⟩:=bJ h
  split at h
  .rename_i b off;obtain⟨hi,_,h⟩:=pJ h
   split at h
   .rename_i hc;subst I;obtain⟨w',E,D,h3⟩:=MD hc.1 hi hc.2 h.1;simp only[execOp,j,A x _ M,A y v C,Sem.run_bind,E,Result.andThen_ok,Sem.run_pure];exact⟨D,h.2 _ h3⟩
   .exact h.elim
  .exact h.elim
 .rename_i t l c j;obtain⟨a,M,h⟩:=bJ h;obtain⟨b,hb,h⟩:=bJ h;have:=nR (KP:=X.kp) I h;simp only[execOp,j,A l a M,A c b hb];exact this.mono λv J C=>by obtain⟨u,E,D⟩:=pK C;subst E;exact D
 .rename_i t m k x j;obtain⟨a,M,h⟩:=bJ h;obtain⟨b,hb,h⟩:=bJ h;obtain⟨v,C,h⟩:=bJ h;simp only[execOp,j,A m a M,A k b hb,A x v C];exact (ye I h).mono λu J S=>by obtain⟨rfl,D⟩:=S;exact D
 .rename_i t m k x j;obtain⟨a,M,h⟩:=bJ h;obtain⟨b,hb,h⟩:=bJ h;obtain⟨v,C,h⟩:=bJ h;simp only[execOp,j,A m a M,A k b hb,A x v C];exact (ye I h).mono λu J S=>by obtain⟨rfl,D⟩:=S;exact D
 .rename_i t m k j;obtain⟨a,M,h⟩:=bJ h;obtain⟨b,hb,h⟩:=bJ h;simp only[execOp,j,A m a M,A k b hb];refine (nR I h).mono λv J C=>?_
  split at C
  .obtain⟨u,n,E,D⟩:=pK C;subst E;exact D
  .exact C.elim
 .rename_i t m k x j;obtain⟨a,M,h⟩:=bJ h;obtain⟨b,hb,h⟩:=bJ h;obtain⟨v,C,h⟩:=bJ h;simp only[execOp,j,A m a M,A k b hb,A x v C];exact (ye I h).mono λu J S=>by obtain⟨rfl,D⟩:=S;exact D
 .rename_i t x j;obtain⟨a,M,h⟩:=bJ h;simp only[execOp,j,A x a M];exact (nR I h).mono λv J C=>by obtain⟨r,E,D⟩:=C;subst E;exact D
 .rename_i it s j;obtain⟨a,M,h⟩:=bJ h;simp only[execOp,j,A it a M];refine (nR I h).mono λv J C=>?_
  rcases C with ⟨E,D⟩|⟨k,x,E,D⟩
  .subst E;exact D
  .subst E;exact D
 .rename_i s d x j;obtain⟨a,M,h⟩:=bJ h;simp only[execOp,j,A x a M];exact (nR I h).mono λv J C=>by obtain⟨u,E,D⟩:=pK C;subst E;exact D
 .rename_i cl j
  split at h
  .rename_i f F;obtain⟨Y,h⟩:=Cb h;obtain⟨L,B,h⟩:=bJ h;obtain⟨O,h0,h⟩:=bJ h;have e2:(execOp ρ o).run X.P w=.ok (.enter f ⟨L⟩) w:=by
    simp only[execOp,j,resolve,F,hρ,Deferred.ofValue,invoke,N _ _ B,Sem.run_bind,Sem.run_pure,Result.andThen_ok];rw[sQ (hX f Y)];simp
   rw[e2];refine gm.mono (K:=λv J=>lk O λu=>v=u/\K u J) ?_ λv J C=>?_
   .split at h
    .exact⟨rfl,h.at w I⟩
    .exact⟨rfl,(h.at w I).mono λe T U=>U.toP⟩
   obtain⟨u,E,D⟩:=sM C;subst E;exact D
  .rename_i x hx F;obtain⟨fv,Q,hA⟩:=bJ h
   clear h
   obtain⟨L,B,hB⟩:=bJ hA
   clear hA
   obtain⟨O,h0,R⟩:=bJ hB
   clear hB
   obtain⟨f,first,cap,rfl,h⟩|⟨l,rfl,h⟩:(∃f first cap,fv=.func (.func f) first cap/\(bI f X.calls=true/\iI X.P f ⟨first.toList++L++cap.toList⟩ H λv J=>lk O λu=>v=u/\K u J))\/
     (∃l,fv=.func (.yield l) #[] #[]/\fI X.P l L H λv J=>lk O λu=>v=u/\K u J):=by
    clear A hρ
    cases fv <;> (try exact R.elim)
    rename_i fn first cap
    cases fn <;> (try exact R.elim)
    .exact .inl ⟨_,_,_,rfl,R⟩
    .rcases first with ⟨_|_⟩ <;> rcases cap with ⟨_|_⟩ <;> (try exact R.elim);exact .inr ⟨_,rfl,R⟩
   .obtain⟨Y,h⟩:=h;have e2:(execOp ρ o).run X.P w=.ok (.enter f ⟨first.toList++L++cap.toList⟩) w:=by
     simp only[execOp,j,resolve,F,A x _ Q,Deferred.ofValue,invoke,N _ _ B,Sem.run_bind,Sem.run_pure,Result.andThen_ok];rw[sQ (hX f Y)];simp
    rw[e2];refine gm.mono (K:=λv J=>lk O λu=>v=u/\K u J) ⟨rfl,(h.at w I).mono λe T U=>U.toP⟩ λv J C=>?_
    obtain⟨u,E,D⟩:=sM C;subst E;exact D
   .obtain⟨fn,tmps,assign,body,E,D⟩:=h.at w I;have e2:(execOp ρ o).run X.P w=.ok (.round l fn tmps assign body) w:=by
     simp only[execOp,j,resolve,F,A x _ Q,Deferred.ofValue,invoke,N _ _ B,Sem.run_bind,Sem.run_pure,Result.andThen_ok];simpa using E
    rw[e2];refine gm.mono (K:=λv J=>lk O λu=>v=u/\K u J) ⟨rfl,D.mono λe T U=>U.toP⟩ λv J C=>?_
    obtain⟨u,E,D⟩:=sM C;subst E;exact D
  .rename_i F;obtain⟨L,B,h⟩:=bJ h;have:=nR (KP:=X.kp) I h;simp only[execOp,j,resolve,F,pure_bind,invoke,builtin,N _ _ B];exact this.mono λv J C=>by obtain⟨a,n,c,E,D⟩:=C;subst E;exact D
  .rename_i F;obtain⟨L,B,h⟩:=bJ h;have:=nR (KP:=X.kp) I h;simp only[execOp,j,resolve,F,pure_bind,invoke,builtin,N _ _ B];exact this.mono λv J C=>by obtain⟨n,E,D⟩:=C;subst E;exact D
  .rename_i F;obtain⟨L,B,h⟩:=bJ h;have:=nR (KP:=X.kp) I h;simp only[execOp,j,resolve,F,pure_bind,invoke,builtin,N _ _ B];exact this
  .rename_i F;obtain⟨L,B,h⟩:=bJ h;have:=nR (KP:=X.kp) I h;simp only[execOp,j,resolve,F,pure_bind,invoke,builtin,N _ _ B];exact this
  .exact h.elim
 .rename_i x j;obtain⟨v,C,h⟩:=bJ h;unfold panP at h
  split at h
  .subst I;simp only[execOp,j,A x _ C,Sem.run_bind,run_panic_iface,Result.andThen];exact⟨bV.refl w,h⟩
  .exact h.elim
 .exact h.elim
end
abbrev kj:=List (Nat×Option (aC->Prop))
def pL(f:Option (aC->Prop))(H:aC):Prop:=match f with|none=>True|some p=>p H
section
variable {P:Program}{ops:Array Oper}
def qO(P:Program)(w0:World)(KP:KE)(ops:Array Oper)(i:Nat)(K:Act->aC->Prop)(a:Act)(H:aC):Prop:=
 ∀w,w.heap=H->bV w0 w->match ops[i]? with
  | none=>K a H
  | some o=>if Region.wanted o (yielded ops a.tmps) then gm P w KP (λv H'=>K (a.put o.dst v) H') ((execOp a.eval o).run P w) else K (a.put o.dst undef) H
theorem Cf{w0:World}{KP:KE}{i:Nat}{K d:Act->aC->Prop}{a:Act}{H:aC}(c:∀a H,K a H->d a H)(h:qO P w0 KP ops i K a H):qO P w0 KP ops i d a H:=by
 intro w e f;have:=h w e f
 cases ho:ops[i]? with
 | none=>simp only[ho]at this ⊢;exact c _ _ this
 | some o=>
  simp only[ho]at this ⊢
  split at this
  .rename_i b;rw[UX b];exact this.mono λv j=>c _ _
  .rename_i b;rw[UW b];exact c _ _ this
def ne(isW:Nat->Bool)(bf:Nat->Nat->Bool)(i:Nat)(pd:kj):kj:=if isW i then pd.filter (λx=>!bf i x.1) else pd
def pM(P:Program)(w0:World)(KP:KE)(ops:Array Oper)(isW:Nat->Bool)(bf:Nat->Nat->Bool)(Q:Act->aC->Prop):Nat->kj->Array Bool->Act->aC->Prop
 | 0,pd,listed,a,H=>(∀x∈pd,pL x.2 H)/\Region.ready .any ops listed=[]/\Q a H
 | n+1,pd,listed,a,H=>(∀x∈pd,pL x.2 H)/\(Region.ready .any ops listed=[]->Q a H)/\
  ∀i∈Region.ready .any ops listed,qO P w0 KP ops i (λa' H'=>pM P w0 KP ops isW bf Q n (ne isW bf i pd) (listed.setIfInBounds i true) a' H') a H
def FR(ro:Option Nat):Fence:={ Fence.wide with round:=ro }
theorem yf{o:Oper}{a:Act}{w w0:World}{ro:Option Nat}(hd:∀c,o.op≠.defer c)(k:bV w0 w){KP K:KE}{next:Act->World->Prop}{Q':Exit->Act->World->Prop}
  (m:∀v d,bV w0 d->K v d.heap->next (a.put o.dst v) d) (s:∀v d,bV w0 d->KP v d.heap->Q' (.panic [{ v,recovered:=false }]) a d)
  (h:gm P w KP K ((execOp a.eval o).run P w)):o.wpIn (FR ro) 0 P a w next Q':=by
 refine⟨λf _=>trivial,?_⟩
 have hs:o.semAt (FR ro).round a.eval=execOp a.eval o:=Oper.semAt_eq ro _ o hd;rw[hs];generalize (execOp a.eval o).run P w=r at h
 cases r with
 | halt h' d=>
  cases h' <;> simp only[gm]at h
  exact s _ _ (k.trans h.1) h.2
 | ok n d=>
  cases n <;> simp only[gm]at h
  case value v=>exact m _ _ (k.trans h.1) h.2
  case skip=>exact m _ _ (k.trans h.1) h.2
  case enter f args=>
   obtain⟨rfl,h⟩:=h;rw[Oper.uponIn_enter];refine⟨λhd=>(by cases hd),?_⟩
   have j:CallsIn Fence.wide (0-1) P f args d λ
     | .returned v,b=>next (a.put o.dst v) b
     | .panicked chain,b=>Q' (.panic chain) a b
     | .outgrown,_=>LetsOut Q':=callsIn_wide.2 (h.mono λe b i=>by
    cases e <;> simp only[iJ]at i ⊢
    case returned v=>exact m _ _ (k.trans i.1) i.2
    case panicked chain=>obtain⟨v,rfl,t,j⟩:=i;exact s _ _ (k.trans t) j)
   exact j
  case round l f tmps assign body=>
   obtain⟨rfl,h⟩:=h;rw[Oper.uponIn_round];refine⟨λhd=>(by cases hd),?_⟩
   have j:RoundIn Fence.wide (0-1) P l f tmps assign body d λ
     | .returned v,b=>next (a.put o.dst v) b
     | .panicked chain,b=>Q' (.panic chain) a b
     | .outgrown,_=>LetsOut Q':=h.mono λe b i=>by
    cases e <;> simp only[iJ]at i ⊢
    case returned v=>exact m _ _ (k.trans i.1) i.2
    case panicked chain=>obtain⟨v,rfl,t,j⟩:=i;exact s _ _ (k.trans t) j
   exact j
theorem uZ{w0:World}{KP:KE}{ro:Option Nat}{isW:Nat->Bool}{bf:Nat->Nat->Bool}{Q:Act->aC->Prop}{Q':Exit->Act->World->Prop}(k:∀a w,bV w0 w->Q a w.heap->Q' .normal a w)
  (hd:∀o∈ops.toList,∀c,o.op≠.defer c) {Inv:Act->Prop} (d:∀a o v,o∈ops.toList->Inv a->Inv (a.put o.dst v)) (s:∀v a w,bV w0 w->Inv a->KP v w.heap->Q' (.panic [{ v,recovered:=false }]) a w) :
  ∀(n:Nat) (A:kj) (b:Array Bool) (a:Act) (w:World),bV w0 w->Inv a->pM P w0 KP ops isW bf Q n A b a w.heap->wpAnyIn (FR ro) 0 P .any ops Q' n b a w
 | 0,_,_,_,_,hr,_,h=>⟨h.2.1,k _ _ hr h.2.2⟩
 | n+1,A,b,a,w,hr,ha,h=>⟨λh0=>k _ _ hr (h.2.1 h0),λi hi=>by
  have m:=h.2.2 i hi w rfl hr;unfold wpOpIn
  split at m
  .rename_i t;simp only[t];exact uZ k hd d s n _ _ a w hr ha m
  .rename_i o t;simp only[t];have e:o∈ops.toList:=by
    have:ops.toList[i]?=some o:=by simpa using t
    exact VA this
   split at m
   .rename_i y;rw[UX y];exact yf (hd o e) hr (λv u j x=>uZ k hd d s n _ _ _ u j (d _ _ _ e ha) x) (λv u j x=>s v a u j ha x) m
   .rename_i y;rw[UW y];exact⟨λf _=>trivial,uZ k hd d s n _ _ _ w hr (d _ _ _ e ha) m⟩⟩
def lu(P:Program)(ops:Array Oper)(o:Oper)(v:Value)(f:Option (aC->Prop))(a:Act):Prop:=
 (Region.wanted o (yielded ops a.tmps)=true->∀w,pL f w.heap->gm P w (λ_ _=>False) (λv' H'=>v'=v/\H'=w.heap) ((execOp a.eval o).run P w))/\
 (Region.wanted o (yielded ops a.tmps)=false->v=undef)
theorem lu.of_same{o:Oper}{v:Value}{f:Option (aC->Prop)}{a b:Act}(e:lu P ops o v f a)(d:execOp b.eval o=execOp a.eval o)
  (c:Region.wanted o (yielded ops b.tmps)=Region.wanted o (yielded ops a.tmps)):lu P ops o v f b:=by
 unfold lu at *;rw[d,c];exact e
theorem lu.step{w0:World}{KP:KE}{i:Nat}{o:Oper}{v:Value}{f:Option (aC->Prop)}{a:Act}{H:aC}(hi:ops[i]?=some o)(c:lu P ops o v f a)(e:pL f H){K:Act->aC->Prop}(h:K (a.put o.dst v) H) :
  qO P w0 KP ops i K a H:=by
 intro w j s;simp only[hi]
 split
 .rename_i b;subst j;exact (c.1 b w e).mono2 (λm n ⟨k,d⟩=>by subst k;subst d;exact h) λ_ _ h=>h.elim
 .rename_i b;rw[<-c.2 (by simpa using b)];exact h
theorem MG{w0:World}{KP:KE}{j:Nat}{c d:Oper}{v:Value}{f:Option (aC->Prop)}(C:ops[j]?=some d)(m:c.apart ops d=true)
  (n:∀cs b,c.op≠.select cs b) (s:∀cs b,d.op≠.select cs b) {K:Act->aC->Prop} {a:Act} {H:aC}
  (k:lu P ops c v f a) (h:qO P w0 KP ops j K (a.put c.dst v) H) :
  qO P w0 KP ops j (λx B=>lu P ops c v f x/\K (x.put c.dst v) B) a H:=by
 obtain⟨A,t,y⟩:=Oper.apart_spec m;have keep:∀(a:Act),lu P ops c v f a->∀u,lu P ops c v f (a.put d.dst u):=λa k u=>
  k.of_same (execOp_put c n a d.dst u y) (wanted_put c a d.dst u y)
 intro w E F;have i:=h w E F;simp only[C]at i ⊢;rw[wanted_put d a c.dst v A]at i
 split
 .rename_i e;rw[UX e,execOp_put d s a c.dst v A]at i;exact i.mono λu B D=>⟨keep a k u,by rw[<-Act.put_comm a v u t];exact D⟩
 .rename_i e;rw[UW e]at i;exact⟨keep a k _,by rw[<-Act.put_comm a v undef t];exact i⟩
def pN(ops:Array Oper)(listed:Array Bool):Prop:=
 ∀j oj,ops[j]?=some oj->listed.getD j false=true->∀e∈oj.after,Region.binds .any e=true->listed.getD e.on false=true
theorem pN.set{a:Array Bool}(h:pN ops a){i:Nat}(hi:i∈Region.ready .any ops a):pN ops (a.setIfInBounds i true):=by
 obtain⟨_,n,c,b⟩:=mem_ready.1 hi;intro j d k f e m hb
 by_cases hij:i=j
 .subst hij;have:d=n:=Option.some.inj (k.symm.trans c);subst this;exact getD_set_true (b e m hb)
 .rw [getD_set_ne false hij]at f;exact getD_set_true (h j d k f e m hb)
def BfOk(ops:Array Oper)(bf:Nat->Nat->Bool):Prop:=
 ∀j oj,ops[j]?=some oj->∀i,bf j i=true->∃e∈oj.after,Region.binds .any e=true/\(e.on=i\/(e.on<j/\bf e.on i=true/\(ops[e.on]?).isSome=true))
theorem MH{bf:Nat->Nat->Bool}(hb:BfOk ops bf){a:Array Bool}(m:pN ops a) :
  ∀(j:Nat) (b:Oper),ops[j]?=some b->a.getD j false=true->∀i,bf j i=true->a.getD i false=true:=by
 intro j
 induction j using Nat.strongRecOn with
 | _ j ih=>
  intro b f t i hi;obtain⟨e,v,c,h⟩:=hb j b f i hi;have k:=m j b f t e v c
  rcases h with h|⟨d,n,s⟩
  .rw [<-h];exact k
  .obtain⟨ok,u⟩:=Yl.1 s;exact ih e.on d ok u k i n
theorem bf_ready{bf:Nat->Nat->Bool}(hb:BfOk ops bf){a:Array Bool}(k:pN ops a){j:Nat}(t:j∈Region.ready .any ops a)(i:Nat)(hi:bf j i=true):a.getD i false=true:=by
 obtain⟨_,s,d,b⟩:=mem_ready.1 t;obtain⟨e,v,c,h⟩:=hb j s d i hi;have f:=b e v c
 rcases h with h|⟨w,m,n⟩
 .rw [<-h];exact f
 .obtain⟨ok,u⟩:=Yl.1 n;exact MH hb k e.on ok u f i m
theorem getD_ft{a:Array Bool}{i:Nat}(h:a.getD i true=false):a.getD i false=false:=by
 rcases V0 i a.size with b|b
 .simp [b]at h ⊢;exact h
 .simp [Array.getElem?_eq_none b]at h
theorem MI{isW:Nat->Bool}{bf:Nat->Nat->Bool}{i j:Nat}{f:Option (aC->Prop)}{a:kj}(h:bf j i=false):ne isW bf j ((i,f)::a)=(i,f)::ne isW bf j a:=by
 unfold ne
 split <;> simp[h]
theorem first_R{w0:World}{KP:KE}{isW:Nat->Bool}{bf:Nat->Nat->Bool}{Q:Act->aC->Prop}(hb:BfOk ops bf)(hs:Region.noSelect ops=true){i:Nat}{E:Oper}{v:Value}{f:Option (aC->Prop)}(hi:ops[i]?=some E)(G:isW i=false) :
  ∀(n:Nat) (s:kj) (c:Array Bool) (a:Act) (H:aC),pN ops c->
   (∀j B,ops[j]?=some B->j≠i->c.getD j true=false->(∀e∈B.after,Region.binds .any e=true->e.on≠i)->E.apart ops B=true)->
   i∈Region.ready .any ops c->lu P ops E v f a->
   pM P w0 KP ops isW bf Q n ((i,f)::s) (c.setIfInBounds i true) (a.put E.dst v) H->pM P w0 KP ops isW bf Q (n+1) s c a H:=by
 intro n
 induction n with
 | zero=>
  intro s c a H O _ D N h;refine⟨λx d=>h.1 x (Vq _ d),λh0=>(by rw[h0]at D;cases D),λj F=>?_⟩
  by_cases hji:j=i
  .subst hji;refine N.step hi (h.1 _ Vn) ?_;refine⟨λx d=>?_,h.2⟩
   have:x∈s:=by unfold ne at d;rw[UW (by simp[G])]at d;exact d
   exact h.1 x (Vq _ this)
  .have:=ready_mono F hji;rw[h.2.1]at this
   cases this
 | succ n ih=>
  intro s c a H O t D N h;refine⟨λx d=>h.1 x (Vq _ d),λh0=>(by rw[h0]at D;cases D),λj F=>?_⟩
  by_cases hji:j=i
  .subst hji;refine N.step hi (h.1 _ Vn) ?_;have e1:ne isW bf j s=s:=by unfold ne;rw[UW (by simp[G])]
   rw[e1];have m:∀(n:Nat) (s u:kj) (c:Array Bool) (a:Act) (H:aC),(∀x∈u,x∈s)->pM P w0 KP ops isW bf Q n s c a H->pM P w0 KP ops isW bf Q n u c a H:=by
    intro n
    induction n with
    | zero=>intro s u c a H hs h;exact⟨λx d=>h.1 x (hs x d),h.2⟩
    | succ n ih2=>
     intro s u c a H hs h;refine⟨λx d=>h.1 x (hs x d),h.2.1,λk T=>Cf (λR V=>ih2 _ _ _ R V ?_) (h.2.2 k T)⟩
     intro x d;unfold ne at d ⊢
     split
     .rename_i U;rw[UX U]at d;rw[Wd]at d ⊢;exact⟨hs x d.1,d.2⟩
     .rename_i U;rw[UW U]at d;exact hs x d
   exact m _ _ _ _ _ _ (λx d=>Vq _ d) h
  .have M:=h.2.2 j (ready_mono F hji);obtain⟨y,B,C,J⟩:=mem_ready.1 F;have A:=getD_ft (mem_ready.1 D).1;have I:∀e∈B.after,Region.binds .any e=true->e.on≠i:=λe he Y W=>by
    have M:=J e he Y;rw[W,A]at M;cases M
   have K:bf j i=false:=by
    cases hbf:bf j i with
    | false=>rfl
    | true=>have:=bf_ready hb O F i hbf;rw[A]at this;cases this
   have h2:=MG C (t j B C hji y I) (λcs b=>Region.noSelect_spec hs i E cs b hi) (λcs b=>Region.noSelect_spec hs j B cs b C) N M
   have w:∀k ok,ops[k]?=some ok->k≠i->(c.setIfInBounds j true).getD k true=false->
     (∀e∈ok.after,Region.binds .any e=true->e.on≠i)->E.apart ops ok=true:=λk ok T S L Z=>by
    refine t k ok T S ?_ Z
    by_cases hjk:j=k
    .subst hjk;exact y
    .rw [getD_set_ne true hjk]at L;exact L
   refine Cf (λR V h3=>ih _ (c.setIfInBounds j true) R V (O.set F) w (ready_mono D (Ne.symm hji)) h3.1 ?_) h2
   have h4:=h3.2;rw[MI K,Array.setIfInBounds_comm _ _ (Ne.symm hji)]at h4;exact h4
end
abbrev Kn:=List (Nat×Bool×Bool)
inductive GC where
 | yes|no|bad
 | iff (c:Prop)
def lX:Kn->Nat->Bool->Option Bool
 | [],_,_=>none
 | (j',w',b)::r,j,w=>if Nat.beq j' j then (if w' == w then some b else (if b then some false else lX r j w)) else lX r j w
def jF(ops:Array Oper)(j:Nat):Option Tmp:=match aT ops.toList j with|some o=>o.dst|none=>none
def nf(ops:Array Oper)(fr:Fr)(kn:Kn):Nat->Option (Nat×Bool)->GC
 | _,none=>.yes
 | 0,some _=>.bad
 | n+1,some (j,w)=>match lX kn j w with
  | some true=>.yes
  | some false=>.no
  | none=>match jF ops j with
   | none=>.no
   | some d=>match aT fr d with
    | some (.p (.bool c))=>.iff (c=w)
    | some (.p (.tuple _))=>.no
    | some (.p _)=>.bad
    | some (.g h w' (.bool c))=>match nf ops fr kn n (some (h,w')) with
     | .yes=>.iff (c=w)
     | .iff p=>.iff (p/\c=w)
     | .no=>.no
     | .bad=>.bad
    | _=>.bad
def impl(ops:Array Oper)(fr:Fr):Nat->Option (Nat×Bool)->Nat->Bool->Bool
 | 0,_,_,_=>false
 | _,none,_,_=>false
 | n+1,some (j',w'),j,w=>(Nat.beq j' j&&w' == w)||(match jF ops j' with
  | some d=>match aT fr d with
   | some (.g h w'' _)=>impl ops fr n (some (h,w'')) j w
   | _=>false
  | none=>false)
def heldB(ops:Array Oper)(fr:Fr)(kn:Kn)(gd:Option (Nat×Bool))(j:Nat)(w:Bool):Bool:=
 match lX kn j w with
 | some b=>b
 | none=>impl ops fr 9 gd j w
def evG(ops:Array Oper)(fr:Fr)(kn:Kn)(gd:Option (Nat×Bool)):Operand->Option Value
 | .tmp t=>match aT fr t with
  | some (.p v)=>some v
  | some (.g j w v)=>if heldB ops fr kn gd j w then some v else none
  | _=>none
 | .const v=>some v
 | .global g=>some (.pointer (some ⟨g,0,none⟩))
 | .func f=>some (.func (.func f) #[] #[])
def nh(ops:Array Oper)(fr:Fr)(kn:Kn)(gd:Option (Nat×Bool))(side:Bool)(a x:Operand):Option Value:=
 match evG ops fr kn gd x with
 | some v=>some v
 | none=>match a,x with
  | .tmp s,.tmp t=>match aT fr t with
   | some (.g j w v)=>match jF ops j with
    | some d=>if Nat.beq d s&&w == side then some v else none
    | none=>none
   | _=>none
  | _,_=>none
def pP(ops:Array Oper):Kn->Nat->Option Bool
 | [],_=>none
 | (j,w,b)::r,t=>match jF ops j with
  | some d=>if Nat.beq d t then some (w == b) else pP ops r t
  | none=>pP ops r t
def pkG(ops:Array Oper)(fr:Fr)(kn:Kn)(gd:Option (Nat×Bool))(a b d:Operand):Option (Bool×Value×Value):=
 match evG ops fr kn gd a with
 | some (.bool c)=>match (match a with|.tmp t=>pP ops kn t|_=>none) with
  | some true=>match nh ops fr kn gd true a b with|some v=>some (true,v,v)|none=>none
  | some false=>match nh ops fr kn gd false a d with|some v=>some (false,v,v)|none=>none
  | none=>match nh ops fr kn gd true a b,nh ops fr kn gd false a d with|some x,some y=>some (c,x,y)|_,_=>none
 | _=>none
def lv(ops:Array Oper):List Nat->Option Tmp->Bool
 | _,none=>true
 | [],some _=>true
 | j::r,some t=>(match jF ops j with|some u=>!(Nat.beq u t)|none=>true)&&lv ops r (some t)
def qP(g:Option (Nat×Bool))(gs:List Nat):List Nat:=match g with|some (j,_)=>j::gs|none=>gs
section defs
variable (X:Ctx)(ops:Array Oper)
def vcPR(o:Oper)(kn:Kn)(gs:List Nat)(fr:Fr)(H:aC)(k:Fr->List Nat->Option (aC->Prop)->Prop):Prop:=
 if lv ops (qP o.guard gs) o.dst=false then False else
 match nf ops fr kn 9 o.guard with
 | .bad=>False
 | .no=>k (fr.put o.dst (.p undef)) gs none
 | .yes=>(match lV X o.op with
  | .P=>uR X (evG ops fr kn o.guard) (pkG ops fr kn o.guard) none o.op λv=>k (fr.put o.dst (.p v)) gs none
  | .R=>uT X (evG ops fr kn o.guard) none o H λv f=>k (fr.put o.dst (.p v)) gs (some f)
  | .W=>False)
 | .iff c=>(match o.guard with
  | none=>False
  | some (j,w)=>(match lV X o.op with
   | .P=>uR X (evG ops fr kn o.guard) (pkG ops fr kn o.guard) (some c) o.op λv=>k (fr.put o.dst (.g j w v)) (j::gs) none
   | .R=>uT X (evG ops fr kn o.guard) (some c) o H λv f=>k (fr.put o.dst (.g j w v)) (j::gs) (some f)
   | .W=>False))
def vcW(o:Oper)(kn:Kn)(gs:List Nat)(fr:Fr)(H:aC)(k:Fr->Kn->List Nat->aC->Prop):Prop:=
 if lv ops (qP o.guard gs) o.dst=false then False else
 match nf ops fr kn 9 o.guard with
 | .bad=>False
 | .no=>k (fr.put o.dst (.p undef)) kn gs H
 | .yes=>uU X (evG ops fr kn o.guard) o H λv H'=>k (fr.put o.dst (.p v)) kn gs H'
 | .iff c=>(match o.guard with
  | none=>False
  | some (j,w)=>(c->uU X (evG ops fr kn o.guard) o H λv H'=>k (fr.put o.dst (.p v)) ((j,w,true)::kn) (j::gs) H')/\
   (¬c->k (fr.put o.dst (.p undef)) ((j,w,false)::kn) (j::gs) H))
def Cg(o:Oper)(c:Call)(r:List Oper)(fr:Fr)(k:List DM->Prop):Prop:=
 match o.guard,o.dst,r,c.callee,c.args.toList with
 | none,none,[],.value x,[]=>(match evG ops fr [] none x with
  | some (.func (.func g) ⟨[]⟩ ⟨cap⟩)=>k [.fn g cap]
  | _=>False)
 | _,_,_,_,_=>False
def lw(rd:Bool)(K:Fr->List DM->aC->Prop):List Oper->Kn->List Nat->Fr->aC->Prop
 | [],_,_,fr,H=>io (pC fr) λfr'=>K fr' [] H
 | o::r,kn,gs,fr,H=>match o.op with
  | .defer c=>(match rd with
   | true=>Cg ops o c r fr λM=>io (pC fr) λfr'=>K fr' M H
   | false=>False)
  | op=>match lV X op with
   | .W=>vcW X ops o kn gs fr H λfr' kn' gs' H'=>io fr' λfr'=>lw rd K r kn' gs' fr' H'
   | _=>vcPR X ops o kn gs fr H λfr' gs' _=>io fr' λfr'=>lw rd K r kn gs' fr' H
def pQ(acc:List Nat):List Edge->Nat->Nat
 | [],s=>s
 | e::r,s=>pQ acc r (if Region.binds .any e then s ||| 2^e.on ||| (match aT acc e.on with|some m=>m|none=>0) else s)
def jG:List Oper->List Nat->List Nat
 | [],acc=>acc
 | o::r,acc=>jG r (acc++[pQ acc o.after.toList 0])
def bfB(B:List Nat)(j i:Nat):Bool:=match aT B j with|some m=>m.testBit i|none=>false
def lx:List Nat->Option Nat
 | []=>none
 | i::r=>match aT ops.toList i with
  | some o=>(match lV X o.op with|.W=>lx r|_=>some i)
  | none=>lx r
def allL:List Nat->(Nat->Prop)->Prop
 | [],_=>False
 | [i],f=>f i
 | i::r,f=>f i/\allL r f
def ve:kj->aC->Prop->Prop
 | [],_,q=>q
 | (_,none)::r,H,q=>ve r H q
 | (_,some f)::r,H,q=>f H/\ve r H q
def pR(B:List Nat)(i:Nat):kj->kj
 | []=>[]
 | (j,f)::r=>match bfB B i j with|true=>pR B i r|false=>(j,f)::pR B i r
def vf:List Oper->Bool
 | []=>true
 | o::r=>(match o.op with|.defer _=>false|_=>true)&&vf r
theorem Ch:∀{l:List Oper},vf l=true->∀o∈l,∀c,o.op≠.defer c
 | [],_,o,a,_,_=>by cases a
 | x::r,h,o,a,c,hc=>by
  simp only[vf,Vd]at h
  rcases Vm.1 a with rfl|a
  .rw [hc]at h;exact UY h.1 (by simp)
  .exact Ch h.2 o a c hc
def pS(ops:Array Oper)(listed:Array Bool):List Nat:=
 (List.range ops.size).filter λi=>!listed.getD i true&&((ops[i]?).map (·.after.toList.all λe=>!Region.binds .any e||listed.getD e.on false)).getD false
theorem yg(ops:Array Oper)(a:Array Bool):pS ops a=Region.ready .any ops a:=by
 unfold pS Region.ready;simp only[Array.all_toList]
def pT:List Bool->(List Bool->Prop)->Prop
 | [],k=>k []
 | true::r,k=>pT r λr'=>k (true::r')
 | false::r,k=>pT r λr'=>k (false::r')
theorem yh:∀(l:List Bool) (k:List Bool->Prop),pT l k=k l
 | [],_=>rfl
 | true::r,k=>by rw[pT,yh r]
 | false::r,k=>by rw[pT,yh r]
def oA(X:Ctx)(ops:Array Oper):Nat->Array Bool->Bool
 | 0,_=>true
 | n+1,listed=>match lx X ops (pS ops listed) with
  | some i=>Region.free .any ops listed i&&oA X ops n (listed.setIfInBounds i true)
  | none=>(pS ops listed).all λi=>oA X ops n (listed.setIfInBounds i true)
def oB(X:Ctx)(ops:Array Oper)(d:Bool):Bool:=match d with
 | false=>true
 | true=>Region.noSelect ops&&(vf ops.toList&&oA X ops ops.size (Array.replicate ops.size false))
def okC(X:Ctx):Code->Bool
 | .region _ ops d=>oB X ops d
 | .seq a b=>okC X a&&okC X b
 | .cond _ a b=>okC X a&&okC X b
 | .block _ a=>okC X a
 | .loop a=>okC X a
 | .rangeFunc _ _ a b=>okC X a&&okC X b
 | _=>true
def qQ(B:List Nat)(K:Fr->aC->Prop):Nat->Array Bool->kj->Kn->List Nat->Fr->aC->Prop
 | 0,listed,_,_,_,fr,H=>(match pS ops listed with|[]=>io (pC fr) λfr'=>K fr' H|_=>False)
 | n+1,listed,pd,kn,gs,fr,H=>match lx X ops (pS ops listed) with
  | some i=>(match aT ops.toList i with
   | none=>False
   | some o=>vcPR X ops o kn gs fr H λfr' gs' f=>io fr' λfr'=>pT (listed.setIfInBounds i true).toList λl=>qQ B K n ⟨l⟩ ((i,f)::pd) kn gs' fr' H)
  | none=>allL (pS ops listed) λi=>(match aT ops.toList i with
   | none=>False
   | some o=>vcW X ops o kn gs fr H λfr' kn' gs' H'=>ve (pR B i pd) H' (io fr' λfr'=>pT (listed.setIfInBounds i true).toList λl=>qQ B K n ⟨l⟩ (pR B i pd) kn' gs' fr' H'))
end defs
structure fQ(ops:Array Oper)(fr:Fr)(kn:Kn)(gs:List Nat)(a:Act):Prop where
 size:a.tmps.size=fr.length
 pv:∀t v,aT fr t=some (.p v)->a.tmps[t]?=some v
 gv:∀t j w v,aT fr t=some (.g j w v)->j∈gs/\(yielded ops a.tmps j=some w->a.tmps[t]?=some v)/\(yielded ops a.tmps j≠some w->a.tmps[t]?=some undef)
 kn:∀x∈kn,x.1∈gs/\(yielded ops a.tmps x.1=some x.2.1↔x.2.2=true)
def fK(ops:Array Oper)(g:Option (Nat×Bool))(a:Act):Prop:=match g with|none=>True|some (j,w)=>yielded ops a.tmps j=some w
section
variable {X:Ctx}{ops:Array Oper}{fr:Fr}{kn:Kn}{gs:List Nat}{a:Act}
theorem Ci(o:Oper):Region.wanted o (yielded ops a.tmps)=true↔fK ops o.guard a:=by
 unfold Region.wanted fK
 cases o.guard with
 | none=>simp
 | some g=>simp
theorem Cj(j:Nat):jF ops j=(ops[j]?).bind (·.dst):=by
 unfold jF;rw[eH];simp only[Array.getElem?_toList]
 cases ops[j]? <;> rfl
theorem ni{j d:Nat}(h:jF ops j=some d):yielded ops a.tmps j=(match a.tmps[d]? with|some (.bool b)=>some b|_=>none):=by
 rw[Cj]at h;unfold yielded;rw[h];rfl
theorem yi{j:Nat}(h:jF ops j=none):yielded ops a.tmps j=none:=by
 rw[Cj]at h;unfold yielded;rw[h];rfl
theorem Cm(R:fQ ops fr kn gs a){j:Nat}{w b:Bool}:∀(l:Kn),(∀x∈l,x∈kn)->lX l j w=some b->(yielded ops a.tmps j=some w↔b=true)/\j∈gs
 | [],_,h=>by simp[lX]at h
 | (j',w',b')::r,hs,h=>by
  simp only[lX]at h;obtain⟨hm,c⟩:=R.kn _ (hs _ Vn);simp only at hm c;have k:=Cm R r (λx c=>hs x (Vq _ c)) (j:=j) (w:=w) (b:=b)
  split at h
  .rename_i m;have i:j'=j:=Wl m;subst i
   split at h
   .rename_i f;have e:w'=w:=by simpa using f
    subst e
    cases h
    exact⟨c,hm⟩
   .rename_i f
    split at h
    .rename_i hb
     cases h
     have:=c.2 hb;refine⟨⟨λd=>?_,λd=>by cases d⟩,hm⟩
     rw[this]at d;exfalso;apply f;simpa using d
    .exact k h
  .exact k h
theorem Cn(R:fQ ops fr kn gs a){j:Nat}{w b:Bool}(h:lX kn j w=some b):(yielded ops a.tmps j=some w↔b=true)/\j∈gs:=
 Cm R kn (λ_ c=>c) h
theorem yj(R:fQ ops fr kn gs a):∀(n:Nat) (g:Option (Nat×Bool)),match nf ops fr kn n g with
  | .yes=>fK ops g a
  | .no=>¬fK ops g a
  | .bad=>True
  | .iff c=>fK ops g a↔c
 | n,none=>by cases n <;> simp[nf,fK]
 | 0,some _=>by simp[nf]
 | n+1,some (j,w)=>by
  simp only[nf]
  cases hk:lX kn j w with
  | some b=>
   have:=(Cn R hk).1
   cases b
   .simp only[fK];simp[this]
   .simp only[fK];simp[this]
  | none=>
   cases hd:jF ops j with
   | none=>simp only[fK];rw[yi hd];simp
   | some d=>
    cases hl:aT fr d with
    | none=>simp only[hl]
    | some s=>
     cases s with
     | x=>simp only[hl]
     | p v=>
      cases v with
      | bool c=>
       simp only[hl,fK];rw[ni hd,R.pv _ _ hl];simp
      | tuple c=>
       simp only[hl,fK];rw[ni hd,R.pv _ _ hl];simp
      | _=>simp only[hl]
     | g h w' v=>
      cases v <;> simp only[hl]
      rename_i c;obtain⟨_,i,f⟩:=R.gv _ _ _ _ hl;have e:=yj R n (some (h,w'))
      cases hg:nf ops fr kn n (some (h,w')) with
      | yes=>
       simp only[hg,fK]at e ⊢;rw[ni hd,i e];simp
      | no=>
       simp only[hg,fK]at e ⊢;rw[ni hd,f e];simp[undef]
      | bad=>simp only
      | iff p=>
       simp only[hg,fK]at e ⊢;rw[ni hd]
       by_cases hy:yielded ops a.tmps h=some w'
       .rw [i hy];simp[e.1 hy]
       .rw [f hy];simp[undef];intro k;exact UY (e.2 k) hy
theorem Co(R:fQ ops fr kn gs a){j:Nat}{w:Bool}:∀(n:Nat) (g:Option (Nat×Bool)),impl ops fr n g j w=true->fK ops g a->yielded ops a.tmps j=some w
 | 0,_,h,_=>by simp[impl]at h
 | n+1,none,h,_=>by simp[impl]at h
 | n+1,some (j',w'),h,hg=>by
  simp only[impl,Vr,Vd]at h
  rcases h with ⟨c,b⟩|h
  .have e1:j'=j:=Wl c;have e2:w'=w:=by simpa using b
   subst e1;subst e2;exact hg
  .cases hd:jF ops j' with
   | none=>simp[hd]at h
   | some d=>
    simp only[hd]at h
    cases hl:aT fr d with
    | none=>simp[hl]at h
    | some s=>
     cases s with
     | p v=>simp[hl]at h
     | x=>simp[hl]at h
     | g hh w'' v=>
      simp only[hl]at h;obtain⟨_,c,b⟩:=R.gv _ _ _ _ hl;refine Co R n _ h ?_;simp only[fK]at hg ⊢
      by_cases hy:yielded ops a.tmps hh=some w''
      .exact hy
      .rw [ni hd,b hy]at hg;simp[undef]at hg
theorem MJ(R:fQ ops fr kn gs a){gd:Option (Nat×Bool)}{j:Nat}{w:Bool}(h:heldB ops fr kn gd j w=true)(c:fK ops gd a):yielded ops a.tmps j=some w:=by
 unfold heldB at h
 cases hk:lX kn j w with
 | some b=>rw[hk]at h;exact (Cn R hk).1.2 h
 | none=>rw[hk]at h;exact Co R 9 gd h c
theorem vg{t:Nat}{v:Value}(h:a.tmps[t]?=some v):a.eval (.tmp t)=v:=by
 simp[Act.eval,WZ,h]
theorem oC(R:fQ ops fr kn gs a){gd:Option (Nat×Bool)}(x:Operand)(v:Value)(h:evG ops fr kn gd x=some v)(c:fK ops gd a):a.eval x=v:=by
 cases x with
 | const u=>simp[evG]at h;subst h;rfl
 | global g=>simp[evG]at h;subst h;rfl
 | func f=>simp[evG]at h;subst h;rfl
 | tmp t=>
  simp only[evG]at h
  cases hl:aT fr t with
  | none=>simp[hl]at h
  | some s=>
   cases s with
   | p u=>simp[hl]at h;subst h;exact vg (R.pv _ _ hl)
   | x=>simp[hl]at h
   | g j w u=>
    simp only[hl]at h
    split at h
    .rename_i b
     cases h
     exact vg ((R.gv _ _ _ _ hl).2.1 (MJ R b c))
    .cases h
theorem vh(R:fQ ops fr kn gs a){gd:Option (Nat×Bool)}{b:Bool}{x y:Operand}{v:Value}(h:nh ops fr kn gd b x y=some v)(f:fK ops gd a)(c:a.eval x=.bool b):a.eval y=v:=by
 unfold nh at h
 cases he:evG ops fr kn gd y with
 | some u=>rw[he]at h;cases h;exact oC R y _ he f
 | none=>
  rw[he]at h
  cases x <;> cases y <;> simp only at h <;> try cases h
  rename_i s t
  cases hl:aT fr t with
  | none=>simp[hl]at h
  | some sv=>
   cases sv with
   | p u=>simp[hl]at h
   | x=>simp[hl]at h
   | g j w u=>
    simp only[hl]at h
    cases hd:jF ops j with
    | none=>simp[hd]at h
    | some d=>
     simp only[hd]at h
     split at h
     .rename_i e
      cases h
      simp only[Vd]at e;have e1:d=s:=Wl e.1;have e2:w=b:=by simpa using e.2
      subst e1;subst e2;refine vg ((R.gv _ _ _ _ hl).2.1 ?_);rw[ni hd];simp only[Act.eval,WZ]at c
      cases ht:a.tmps[d]? with
      | none=>rw[ht]at c;simp[undef]at c
      | some u'=>rw[ht]at c;simp at c;subst c;rfl
     .cases h
theorem Cp(R:fQ ops fr kn gs a){t:Nat}{b c:Bool}(e:a.tmps[t]?=some (.bool c)):∀(l:Kn),(∀x∈l,x∈kn)->pP ops l t=some b->c=b
 | [],_,h=>by simp[pP]at h
 | (j,w,b')::r,hs,h=>by
  simp only[pP]at h;have f:=Cp R e r (λx i=>hs x (Vq _ i)) (b:=b)
  cases hd:jF ops j with
  | none=>simp only[hd]at h;exact f h
  | some d=>
   simp only[hd]at h
   split at h
   .rename_i hb;have e1:d=t:=Wl hb;subst e1;have:=(R.kn _ (hs _ Vn)).2;simp only at this;rw[ni hd,e]at this
    cases w <;> cases b' <;> cases c <;> simp at this h ⊢ <;> simp[<-h]
   .exact f h
theorem Cq(R:fQ ops fr kn gs a){t:Nat}{b c:Bool}(h:pP ops kn t=some b)(e:a.tmps[t]?=some (.bool c)):c=b:=
 Cp R e kn (λ_ d=>d) h
theorem Cr(R:fQ ops fr kn gs a){gd:Option (Nat×Bool)}(x y z:Operand)(r:Bool×Value×Value)(h:pkG ops fr kn gd x y z=some r)(f:fK ops gd a) :
  a.eval x=.bool r.1/\(r.1=true->a.eval y=r.2.1)/\(r.1=false->a.eval z=r.2.2):=by
 unfold pkG at h
 cases he:evG ops fr kn gd x with
 | none=>simp[he]at h
 | some u=>
  have b:=oC R x u he f
  cases u <;> simp only[he]at h <;> try cases h
  rename_i c
  split at h
  .rename_i e;have d:c=true:=by
    cases x <;> simp only at e <;> try cases e
    rename_i t;refine Cq R e ?_;simp only[Act.eval,WZ]at b
    cases ht:a.tmps[t]? with
    | none=>rw[ht]at b;simp[undef]at b
    | some u'=>rw[ht]at b;simp at b;subst b;rfl
   subst d
   cases hs:nh ops fr kn gd true x y with
   | none=>simp[hs]at h
   | some v=>simp[hs]at h;subst h;exact⟨b,λ_=>vh R hs f b,λh=>by cases h⟩
  .rename_i e;have d:c=false:=by
    cases x <;> simp only at e <;> try cases e
    rename_i t;refine Cq R e ?_;simp only[Act.eval,WZ]at b
    cases ht:a.tmps[t]? with
    | none=>rw[ht]at b;simp[undef]at b
    | some u'=>rw[ht]at b;simp at b;subst b;rfl
   subst d
   cases hs:nh ops fr kn gd false x z with
   | none=>simp[hs]at h
   | some v=>simp[hs]at h;subst h;exact⟨b,λh=>(by cases h),λ_=>vh R hs f b⟩
  .cases hs:nh ops fr kn gd true x y with
   | none=>simp[hs]at h
   | some v=>cases hs':nh ops fr kn gd false x z with
    | none=>simp[hs,hs']at h
    | some v'=>
     simp[hs,hs']at h;subst h;exact⟨b,λd=>vh R hs f (by rw[b];simp at d;rw[d]),λd=>vh R hs' f (by rw[b];simp at d;rw[d])⟩
end
structure Rel(fr:Fr)(a:Act):Prop where
 size:a.tmps.size=fr.length
 pv:∀t v,aT fr t=some (.p v)->a.tmps[t]?=some v
 ng:∀t j w v,aT fr t≠some (.g j w v)
section
variable {X:Ctx}{ops:Array Oper}{fr:Fr}{kn:Kn}{gs:List Nat}{a:Act}
theorem Cs:∀{gs:List Nat} {t:Tmp},lv ops gs (some t)=true->∀j∈gs,jF ops j≠some t
 | [],_,_,_,hj=>by cases hj
 | j::r,t,h,k,a=>by
  simp only[lv,Vd]at h
  rcases Vm.1 a with rfl|a
  .intro hd;rw[hd]at h;simp at h
  .exact Cs h.2 k a
theorem qR(a:Act)(t:Tmp)(u:Value):(a.put (some t) u).tmps=a.tmps.setIfInBounds t u:=rfl
theorem qS{d:Option Tmp}(u:Value)(h:lv ops gs d=true){j:Nat}(c:j∈gs):yielded ops (a.put d u).tmps j=yielded ops a.tmps j:=by
 cases d with
 | none=>rfl
 | some t=>
  have b:=Cs h j c
  cases hd:jF ops j with
  | none=>rw[yi hd,yi hd]
  | some s=>
   have:s≠t:=λe=>b (by rw[hd,e])
   rw[ni hd,ni hd,qR];rw[Array.getElem?_setIfInBounds,UW (λe=>this e.symm)]
theorem Ct{d:Option Tmp}{g:Option (Nat×Bool)}(h:lv ops (qP g gs) d=true):lv ops gs d=true:=by
 cases g with
 | none=>exact h
 | some x=>
  obtain⟨j,w⟩:=x
  cases d with
  | none=>cases gs <;> rfl
  | some t=>simp only[qP,lv,Vd]at h;exact h.2
theorem ly{α:Type}(l:List α)(n m:Nat)(x:α):aT (im l n x) m=if n=m/\n<l.length then some x else aT l m:=by
 rw[eH,xW,eH,List.getElem?_set]
 by_cases h:n=m
 .subst h
  by_cases h2:n<l.length
  .simp [h2]
  .simp [h2]
 .simp [h]
theorem pU{α:Type}(l:List α)(n:Nat)(x:α):(im l n x).length=l.length:=by rw[xW];simp
theorem lY{d:Option Tmp}{u:Value}{s:SV}{i:List Nat}(R:fQ ops fr kn gs a)(f:lv ops i d=true)(b:∀j∈gs,j∈i)
  (hs:s=.p u\/∃j w v,s=.g j w v/\j∈i/\(yielded ops a.tmps j=some w->u=v)/\(yielded ops a.tmps j≠some w->u=undef)):fQ ops (fr.put d s) kn i (a.put d u):=by
 cases d with
 | none=>
  exact⟨R.size,R.pv,λt j w v h=>by obtain⟨e,c⟩:=R.gv t j w v h;exact⟨b _ e,c⟩,λx A=>by obtain⟨e,c⟩:=R.kn x A;exact⟨b _ e,c⟩⟩
 | some t=>
  have C:(a.put (some t) u).tmps.size=(fr.put (some t) s).length:=by
   rw[qR];simp only[Fr.put];rw[pU,Array.size_setIfInBounds];exact R.size
  have k:∀m,(a.put (some t) u).tmps[m]?=if t=m/\t<fr.length then some u else a.tmps[m]?:=by
   intro m;rw[qR,Array.getElem?_setIfInBounds,<-R.size]
   by_cases h:t=m
   .subst h
    by_cases c:t<a.tmps.size
    .simp [c]
    .simp [c]
   .simp [h]
  refine⟨C,λm v h=>?_,λm j w v h=>?_,λx A=>?_⟩
  .simp only[Fr.put]at h;rw[ly]at h;rw[k]
   split at h
   .rename_i n;rw[UX n]
    cases h
    rcases hs with hs|⟨j,w,D,hs,_⟩
    .cases hs;rfl
    .cases hs
   .rename_i n;rw[UW n];exact R.pv _ _ h
  .simp only[Fr.put]at h;rw[ly]at h;rw[k]
   split at h
   .rename_i n;rw[UX n]
    cases h
    rcases hs with hs|⟨F,E,D,hs,B,e,c⟩
    .cases hs
    .cases hs
     refine⟨B,λy=>?_,λy=>?_⟩
     .rw [qS u f B]at y;rw[e y]
     .rw [qS u f B]at y;rw[c y]
   .rename_i n;rw[UW n];obtain⟨e,c⟩:=R.gv _ _ _ _ h;rw[qS u f (b _ e)];exact⟨b _ e,c⟩
  .obtain⟨e,c⟩:=R.kn x A;rw[qS u f (b _ e)];exact⟨b _ e,c⟩
theorem Cu{j:Nat}{w b:Bool}(R:fQ ops fr kn gs a)(d:j∈gs)(h:yielded ops a.tmps j=some w↔b=true):fQ ops fr ((j,w,b)::kn) gs a:=
 ⟨R.size,R.pv,R.gv,λx c=>by
  rcases Vm.1 c with rfl|c
  .exact⟨d,h⟩
  .exact R.kn x c⟩
theorem vi(a:Act)(f:FuncId):a.eval (.func f)=.func (.func f) #[] #[]:=rfl
theorem qT{c:Prop}[Decidable c]{q:Prop}(h:if c then False else q):¬c/\q:=by
 split at h
 .exact h.elim
 .rename_i a;exact⟨a,h⟩
theorem Cv{o:Oper}{H:aC}{k:Fr->List Nat->Option (aC->Prop)->Prop}(T:∀f,bI f X.calls=true->gC X.P f)(R:fQ ops fr kn gs a)
  (h:vcPR X ops o kn gs fr H k):∃v f I J,k I J f/\lu X.P ops o v f a/\pL f H/\fQ ops I kn J (a.put o.dst v):=by
 unfold vcPR at h;obtain⟨N,h⟩:=qT h;have n:lv ops (qP o.guard gs) o.dst=true:=by simpa using N
 have u:=Ct n;have A:=Ci (ops:=ops) (a:=a) o;have m:=yj R 9 o.guard
 cases hg:nf ops fr kn 9 o.guard with
 | bad=>simp[hg]at h
 | no=>
  simp only[hg]at h m;refine⟨undef,none,_,_,h,⟨λi=>UY (A.1 i) m,λ_=>rfl⟩,trivial,lY R u (λ_ t=>t) (.inl rfl)⟩
 | yes=>
  simp only[hg]at h m;have i:Region.wanted o (yielded ops a.tmps)=true:=A.2 m;have y:∀x v,evG ops fr kn o.guard x=some v->True->a.eval x=v:=λx v O _=>oC R x v O m
  cases hk:lV X o.op with
  | P=>
   simp only[hk]at h;obtain⟨v,C,E⟩:=BU (P:=X.P) (G:=True) (c:=none) o (λp F _=>F) y (λb c d r S _=>Cr R b c d r S m) (λo v e=>by rw[e];rfl) rfl h
   exact⟨v,none,_,_,C,⟨λ_ w _=>mZ (E trivial w),λs=>by rw[i]at s;cases s⟩,trivial,lY R u (λ_ t=>t) (.inl rfl)⟩
  | R=>
   simp only[hk]at h;obtain⟨v,f,C,h0,E,L⟩:=Cc (G:=True) (c:=none) o (λp F _=>F) y T (vi a) h
   exact⟨v,some f,_,_,C,⟨λ_ w M=>L trivial w M,λs=>by rw[i]at s;cases s⟩,E trivial,lY R u (λ_ t=>t) (.inl rfl)⟩
  | W=>simp[hk]at h
 | iff c=>
  simp only[hg]at h m
  cases hgd:o.guard with
  | none=>simp[hgd]at h
  | some x=>
   obtain⟨j,w⟩:=x;rw[hgd]at h m A n;simp only at h;have y:∀x v,evG ops fr kn (some (j,w)) x=some v->fK ops (some (j,w)) a->a.eval x=v:=λx v O B=>oC R x v O B
   have K:∀p,gt (some c) p->fK ops (some (j,w)) a->p:=λp F B=>F (m.1 B)
   cases hk:lV X o.op with
   | P=>
    simp only[hk]at h;obtain⟨v,C,E⟩:=BU (P:=X.P) (G:=fK ops (some (j,w)) a) (c:=some c) o K y (λb c d r S B=>Cr R b c d r S B) (λo v e=>by rw[e];rfl) rfl h
    by_cases i:Region.wanted o (yielded ops a.tmps)=true
    .refine⟨v,none,_,_,C,⟨λ_ Q _=>mZ (E (A.1 i) Q),λs=>by rw[i]at s;cases s⟩,trivial,lY R n (λ_ t=>Vq _ t) (.inr ⟨j,w,v,rfl,Vn,λ_=>rfl,λD=>UY (A.1 i) D⟩)⟩
    .refine⟨undef,none,_,_,C,⟨λs=>UY s i,λ_=>rfl⟩,trivial,lY R n (λ_ t=>Vq _ t) (.inr ⟨j,w,v,rfl,Vn,λD=>UY (A.2 D) i,λ_=>rfl⟩)⟩
   | R=>
    simp only[hk]at h;obtain⟨v,f,C,h0,E,L⟩:=Cc (G:=fK ops (some (j,w)) a) (c:=some c) o K y T (vi a) h
    by_cases i:Region.wanted o (yielded ops a.tmps)=true
    .refine⟨v,some f,_,_,C,⟨λ_ Q M=>L (A.1 i) Q M,λs=>by rw[i]at s;cases s⟩,E (A.1 i),lY R n (λ_ t=>Vq _ t) (.inr ⟨j,w,v,rfl,Vn,λ_=>rfl,λD=>UY (A.1 i) D⟩)⟩
    .refine⟨undef,some f,_,_,C,⟨λs=>UY s i,λ_=>rfl⟩,h0 c rfl (λU=>i (A.2 (m.2 U))) H,lY R n (λ_ t=>Vq _ t) (.inr ⟨j,w,v,rfl,Vn,λD=>UY (A.2 D) i,λ_=>rfl⟩)⟩
   | W=>simp[hk]at h
theorem Cw{o:Oper}{H:aC}{k:Fr->Kn->List Nat->aC->Prop}(F:∀f,bI f X.calls=true->gC X.P f)(R:fQ ops fr kn gs a)
  (h:vcW X ops o kn gs fr H k):∀w,w.heap=H->if Region.wanted o (yielded ops a.tmps) then gm X.P w X.kp (λv E=>∃i m n,k i m n E/\fQ ops i m n (a.put o.dst v)) ((execOp a.eval o).run X.P w)
   else ∃i m n,k i m n H/\fQ ops i m n (a.put o.dst undef):=by
 intro w y;unfold vcW at h;obtain⟨B,h⟩:=qT h;have b:lv ops (qP o.guard gs) o.dst=true:=by simpa using B
 have s:=Ct b;have u:=Ci (ops:=ops) (a:=a) o;have d:=yj R 9 o.guard
 cases hg:nf ops fr kn 9 o.guard with
 | bad=>simp[hg]at h
 | no=>
  simp only[hg]at h d;rw[UW (λe=>d (u.1 e))]
  exact⟨_,_,_,h,lY R s (λ_ t=>t) (.inl rfl)⟩
 | yes=>
  simp only[hg]at h d;rw[UX (u.2 d)];refine (Ce (X:=X) o (λx v C=>oC R x v C d) F (vi a) h w y).mono λv E D=>?_
  exact⟨_,_,_,D,lY R s (λ_ t=>t) (.inl rfl)⟩
 | iff c=>
  simp only[hg]at h d
  cases hgd:o.guard with
  | none=>simp[hgd]at h
  | some x=>
   obtain⟨j,J⟩:=x;rw[hgd]at h d u b;simp only at h
   by_cases e:Region.wanted o (yielded ops a.tmps)=true
   .rw [UX e];have A:=u.1 e;refine (Ce (X:=X) o (λx v C=>oC R x v C A) F (vi a) (h.1 (d.1 A)) w y).mono λv E D=>?_
    refine⟨_,_,_,D,Cu (lY R b (λ_ t=>Vq _ t) (.inl rfl)) Vn ?_⟩
    rw[qS v b Vn];exact⟨λ_=>rfl,λ_=>A⟩
   .rw [UW e];have I:¬c:=λG=>e (u.2 (d.2 G))
    refine⟨_,_,_,h.2 I,Cu (lY R b (λ_ t=>Vq _ t) (.inl rfl)) Vn ?_⟩
    rw[qS undef b Vn];exact⟨λA=>UY (u.2 A) e,λhb=>by cases hb⟩
theorem yk{α β:Type}(f:α->β)(l:List α)(n:Nat):aT (l.map f) n=(aT l n).map f:=by
 rw[eH,eH];simp
theorem vj(R:fQ ops fr kn gs a):Rel (pC fr) a:=by
 refine⟨by rw[R.size];simp[pC],λt v h=>?_,λt j w v h=>?_⟩
 .unfold pC at h;rw[yk]at h
  cases hl:aT fr t with
  | none=>simp[hl]at h
  | some s=>
   cases s <;> simp[hl]at h
   subst h;exact R.pv _ _ hl
 .unfold pC at h;rw[yk]at h
  cases hl:aT fr t with
  | none=>simp[hl]at h
  | some s=>cases s <;> simp[hl]at h
theorem qU(R:Rel fr a):fQ ops fr [] [] a:=
 ⟨R.size,R.pv,λt j w v h=>UY h (R.ng t j w v),λx b=>by cases b⟩
theorem ML{P:Program}{o:Oper}{c:Call}{x:Operand}{ρ:Operand->Value}{g:FuncId}{cap:Os}{w:World}(f:o.op=.defer c)(d:c.callee=.value x)(e:c.args.toList=[])
  (b:ρ x=.func (.func g) ⟨[]⟩ ⟨cap⟩):(execOp ρ o).run P w=.ok (.defer { target:=.fn (.func g) ⟨cap⟩,args:=#[] }) w:=by
 have a:c.args=#[]:=by apply Array.ext';simpa using e
 simp[execOp,f,resolve,d,a,b,Deferred.ofValue]
theorem qV{K:Fr->List DM->aC->Prop}{Q:Exit->Act->World->Prop}{w0:World}{ro:Option Nat}(J:∀f,bI f X.calls=true->gC X.P f){Inv:Act->Prop}(i:∀a o v,o∈ops.toList->Inv a->Inv (a.put o.dst v))
  (L:∀fr a w,bV w0 w->Rel fr a->K fr [] w.heap->Inv a->Q .normal a w) (y:∀fr a w g cap,ro=none->bV w0 w->Rel fr a->K fr [.fn g cap] w.heap->Inv a->Q .normal { a with defers:={ target:=.fn (.func g) ⟨cap⟩,args:=#[] }::a.defers } w)
  (M:∀v a w,bV w0 w->Inv a->X.kp v w.heap->Q (.panic [{ v,recovered:=false }]) a w):∀(l:List Oper) (kn:Kn) (gs:List Nat) (fr:Fr) (a:Act) (w:World),(∀o∈l,o∈ops.toList)->Inv a->
  fQ ops fr kn gs a->bV w0 w->lw X ops ro.isNone K l kn gs fr w.heap->wpListIn (FR ro) 0 X.P ops Q l a w
 | [],kn,gs,fr,a,w,hl,ha,R,hr,h=>L _ _ _ hr (vj R) (by simpa only[lw,lp] using h) ha
 | o::r,kn,gs,fr,a,w,hl,ha,R,hr,h=>by
  have A:∀o∈r,o∈ops.toList:=λo ho=>hl o (Vq _ ho)
  have B:∀v,Inv (a.put o.dst v):=λv=>i a o v (hl o Vn) ha
  by_cases hdef:∃c,o.op=.defer c
  .obtain⟨c,G⟩:=hdef;simp only[lw,G]at h
   cases ro with
   | some l0=>exact h.elim
   | none=>
    simp only[Option.isNone_none]at h;simp only[Cg,lp]at h
    split at h
    case h_2=>exact h.elim
    rename_i x hg V N D
    split at h
    case h_2=>exact h.elim
    rename_i g cap b;have R0:=qU (ops:=ops) (vj R);have hx:a.eval x=.func (.func g) ⟨[]⟩ ⟨cap⟩:=by
     cases x with
     | const u=>simp[evG]at b;subst b;rfl
     | global g=>simp[evG]at b
     | func f=>simp[evG]at b;obtain⟨rfl,rfl⟩:=b;rfl
     | tmp t=>
      simp only[evG]at b
      cases hl2:aT fr t with
      | none=>simp[hl2]at b
      | some s=>
       cases s with
       | p u=>simp[hl2]at b;subst b;exact vg (R.pv _ _ hl2)
       | x=>simp[hl2]at b
       | g j I u=>
        simp only[hl2]at b
        split at b
        .rename_i U
         cases b
         exact UY U (by simp[heldB,lX,impl])
        .cases b
    unfold wpListIn;rw[UX (by simp[Region.wanted,hg])];refine⟨λf _=>trivial,?_⟩
    have e1:(o.semAt (FR none).round a.eval)=execOp a.eval o:=rfl;rw[e1,ML G N D hx,Oper.uponIn_defer,V];exact y _ _ _ g cap rfl hr (vj R) h ha
  have F:∀c,o.op≠.defer c:=λc G=>hdef ⟨c,G⟩
  have O:lw X ops ro.isNone K (o::r) kn gs fr w.heap=(match lV X o.op with
   | .W=>vcW X ops o kn gs fr w.heap λd m e T=>lw X ops ro.isNone K r m e d T
   | _=>vcPR X ops o kn gs fr w.heap λd e _=>lw X ops ro.isNone K r kn e d w.heap):=by
   rw[lw]
   split
   .rename_i c G;exact UY G (F c)
   .simp only[lp] <;> rfl
  rw[O]at h;have Z:∀C:vcPR X ops o kn gs fr w.heap λd e _=>lw X ops ro.isNone K r kn e d w.heap,wpListIn (FR ro) 0 X.P ops Q (o::r) a w:=by
   intro C;obtain⟨v,f,d,e,E,H,S,h4⟩:=Cv J R C;unfold wpListIn
   split
   .rename_i k;refine yf F hr (K:=λv' T=>v'=v/\T=w.heap) (λu I n Y=>?_) (λ_ _ _ hf=>hf.elim) (H.1 k w S)
    obtain⟨rfl,U⟩:=Y;exact qV J i L y M r kn e d _ I A (B _) h4 n (by rw[U];exact E)
   .rename_i k;rw[<-H.2 (by simpa using k)];exact⟨λf _=>trivial,qV J i L y M r kn e d _ w A (B _) h4 hr E⟩
  cases C:lV X o.op with
  | P=>simp only[C]at h;exact Z h
  | R=>simp only[C]at h;exact Z h
  | W=>
   simp only[C]at h;have E:=Cw J R h w rfl;unfold wpListIn
   split
   .rename_i k;rw[UX k]at E;refine yf F hr (λu I n Y=>?_) (λv I n C=>M v a I n ha C) E
    obtain⟨d,m,e,H,S⟩:=Y;exact qV J i L y M r m e d _ I A (B _) S n H
   .rename_i k;rw[UW k]at E;obtain⟨d,m,e,H,S⟩:=E;exact⟨λf _=>trivial,qV J i L y M r m e d _ w A (B _) S hr H⟩
theorem Cx(acc:List Nat):∀(c:List Edge) (s i:Nat),(pQ acc c s).testBit i=true->s.testBit i=true\/∃e∈c,Region.binds .any e=true/\(e.on=i\/∃m,aT acc e.on=some m/\m.testBit i=true)
 | [],s,i,h=>.inl h
 | e::r,s,i,h=>by
  simp only[pQ]at h
  rcases Cx acc r _ i h with a|⟨d,b,f⟩
  .split at a
   .rename_i hb;rw[Nat.testBit_or,Nat.testBit_or,Vr,Vr]at a
    rcases a with (a|a)|a
    .exact .inl a
    .refine .inr ⟨e,Vn,hb,.inl ?_⟩;rw[Nat.testBit_two_pow]at a;simpa using a
    .cases hl:aT acc e.on with
     | none=>simp[hl]at a
     | some m=>simp only[hl]at a;exact .inr ⟨e,Vn,hb,.inr ⟨m,hl,a⟩⟩
   .exact .inl a
  .exact .inr ⟨d,Vq _ b,f⟩
theorem Cy:∀(r:List Oper) (acc:List Nat) (j:Nat),acc.length<=j->∀o,r[j-acc.length]?=some o->
  ∃a,a.length=j/\aT (jG r acc) j=some (pQ a o.after.toList 0)/\∀k,k<j->aT a k=aT (jG r acc) k
 | [],acc,j,_,o,h=>by simp at h
 | o'::r,acc,j,hj,o,h=>by
  have pre:∀(r:List Oper) (acc:List Nat) (k:Nat),k<acc.length->aT (jG r acc) k=aT acc k:=by
   intro r
   induction r with
   | nil=>intro acc k _;rfl
   | cons x r ih=>
    intro acc k b;simp only[jG];rw[ih _ k (by simp;omega),eH,eH,List.getElem?_append_left b]
  by_cases h0:j=acc.length
  .subst h0;simp at h;subst h;refine⟨acc,rfl,?_,λk b=>?_⟩
   .simp only[jG];rw[pre r _ acc.length (by simp),eH,List.getElem?_append_right (Vg _)];simp
   .simp only[jG];rw[pre r _ k (by simp;omega),eH,eH,List.getElem?_append_left b]
  .simp only[jG];refine Cy r (acc++[pQ acc o'.after.toList 0]) j (by simp;omega) o ?_;rw[<-h];have:j-acc.length=(j-(acc++[pQ acc o'.after.toList 0]).length)+1:=by simp;omega
   rw[this,List.getElem?_cons_succ]
theorem bf_ok(ops:Array Oper):BfOk ops (bfB (jG ops.toList [])):=by
 intro j f h i hi;have d:ops.toList[j]?=some f:=by simpa using h
 obtain⟨a,u,s,k⟩:=Cy ops.toList [] j (by simp) f (by simpa using d);unfold bfB at hi;rw[s]at hi
 rcases Cx a _ 0 i hi with c|⟨e,n,hb,c⟩
 .simp at c
 .refine⟨e,by simpa using n,hb,c.imp id ?_⟩;rintro⟨m,hm,hbit⟩;have b:e.on<j:=by
   rw[eH]at hm;have:=(List.getElem?_eq_some_iff.1 hm).1;omega
  refine⟨b,?_,?_⟩
  .unfold bfB;rw[<-k _ b,hm];exact hbit
  .have t:=(Array.getElem?_eq_some_iff.1 h).1;simp[show e.on<ops.size by omega]
theorem Cz(B:List Nat)(i:Nat):∀a:kj,pR B i a=a.filter (λx=>!bfB B i x.1)
 | []=>rfl
 | (j,f)::r=>by
  simp only[pR,VD]
  cases h:bfB B i j <;> simp[Cz B i r]
theorem vk:∀(d:kj) (H:aC) (q:Prop),ve d H q->(∀x∈d,pL x.2 H)/\q
 | [],_,_,h=>⟨λx a=>(by cases a),h⟩
 | (i,none)::r,H,q,h=>by
  obtain⟨c,b⟩:=vk r H q h;exact⟨λx a=>by rcases Vm.1 a with rfl|a;exact trivial;exact c x a,b⟩
 | (i,some f)::r,H,q,h=>by
  obtain⟨c,b⟩:=vk r H q h.2;exact⟨λx a=>by rcases Vm.1 a with rfl|a;exact h.1;exact c x a,b⟩
theorem C0{f:Nat->Prop}:∀{l:List Nat},allL l f->l≠[]/\∀i∈l,f i
 | [],h=>h.elim
 | [i],h=>⟨by simp,λj b=>by simp at b;subst b;exact h⟩
 | i::j::r,h=>by
  have c:f i/\allL (j::r) f:=h;obtain⟨_,d⟩:=C0 c.2;exact⟨by simp,λk a=>by rcases Vm.1 a with rfl|a;exact c.1;exact d k a⟩
def isWB(X:Ctx)(ops:Array Oper)(i:Nat):Bool:=match aT ops.toList i with|some o=>(match lV X o.op with|.W=>true|_=>false)|none=>false
theorem yl:∀{l:List Nat} {i:Nat},lx X ops l=some i->i∈l/\isWB X ops i=false
 | [],_,h=>by cases h
 | j::r,i,h=>by
  simp only[lx]at h
  cases hl:aT ops.toList j with
  | none=>simp only[hl]at h;obtain⟨a,b⟩:=yl h;exact⟨Vq _ a,b⟩
  | some o=>
   simp only[hl]at h
   cases hk:lV X o.op with
   | W=>simp only[hk]at h;obtain⟨a,b⟩:=yl h;exact⟨Vq _ a,b⟩
   | P=>simp only[hk]at h;cases h;exact⟨Vn,by simp[isWB,hl,hk]⟩
   | R=>simp only[hk]at h;cases h;exact⟨Vn,by simp[isWB,hl,hk]⟩
theorem ym:∀{l:List Nat},lx X ops l=none->∀i∈l,∀o,aT ops.toList i=some o->isWB X ops i=true
 | [],_,i,hi,_,_=>by cases hi
 | j::r,h,i,hi,o,ho=>by
  simp only[lx]at h
  cases hl:aT ops.toList j with
  | none=>
   simp only[hl]at h
   rcases Vm.1 hi with rfl|hi
   .rw [ho]at hl;cases hl
   .exact ym h i hi o ho
  | some o'=>
   simp only[hl]at h
   cases hk:lV X o'.op with
   | W=>
    simp only[hk]at h
    rcases Vm.1 hi with rfl|hi
    .simp [isWB,hl,hk]
    .exact ym h i hi o ho
   | P=>simp[hk]at h
   | R=>simp[hk]at h
theorem vl{K:Fr->aC->Prop}{w0:World}(F:∀f,bI f X.calls=true->gC X.P f)(hs:Region.noSelect ops=true){Inv:Act->Prop}(d:∀a o v,o∈ops.toList->Inv a->Inv (a.put o.dst v)) :
  ∀(n:Nat) (b:Array Bool) (s:kj) (kn:Kn) (gs:List Nat) (fr:Fr) (H:aC) (a:Act),pN ops b->(∀x∈s,pL x.2 H)->fQ ops fr kn gs a->Inv a->oA X ops n b=true->
  qQ X ops (jG ops.toList []) K n b s kn gs fr H->
  pM X.P w0 X.kp ops (isWB X ops) (bfB (jG ops.toList [])) (λQ M=>(∃c,Rel c Q/\K c M)/\Inv Q) n s b a H
 | 0,b,s,kn,gs,fr,H,a,hc,hp,R,ha,j,h=>by
  simp only[qQ,yg,lp]at h
  split at h
  .rename_i S;exact⟨hp,S,⟨_,vj R,h⟩,ha⟩
  .exact h.elim
 | n+1,b,s,kn,gs,fr,H,a,hc,hp,R,ha,j,h=>by
  simp only[qQ,lp,yh,yg]at h;simp only[oA,yg]at j
  cases hf:lx X ops (Region.ready .any ops b) with
  | some i=>
   simp only[hf]at h;simp only[hf,Vd]at j;obtain⟨hi,t⟩:=yl hf
   cases hl:aT ops.toList i with
   | none=>simp[hl]at h
   | some o=>
    simp only[hl]at h;obtain⟨v,f,c,e,B,E,I,G⟩:=Cv F R h;have m:ops[i]?=some o:=by rw[eH]at hl;simpa using hl
    have k:∀v,Inv (a.put o.dst v):=λv=>d a o v (by rw[eH]at hl;exact VA hl) ha
    refine first_R (bf_ok ops) hs m t n s b a H hc (Region.free_spec m j.1) hi E ?_;exact vl F hs d n _ _ kn e c H _ (hc.set hi) (λx N=>by rcases Vm.1 N with rfl|N;exact I;exact hp x N) G (k _) j.2 B
  | none=>
   simp only[hf]at h;simp only[hf,VL]at j;obtain⟨L,D⟩:=C0 h;refine⟨hp,λh0=>UY h0 L,λi hi w J T=>?_⟩
   have A:=D i hi
   cases hl:aT ops.toList i with
   | none=>simp[hl]at A
   | some o=>
    simp only[hl]at A;have m:ops[i]?=some o:=by rw[eH]at hl;simpa using hl
    have k:∀v,Inv (a.put o.dst v):=λv=>d a o v (by rw[eH]at hl;exact VA hl) ha
    have t:=ym hf i hi o hl;have C:ne (isWB X ops) (bfB (jG ops.toList [])) i s=pR (jG ops.toList []) i s:=by unfold ne;rw[UX t,Cz]
    have B:=Cw F R A w J;simp only[m]
    split
    .rename_i u;rw[UX u]at B;refine B.mono λv M j=>?_
     obtain⟨c,y,e,E,I⟩:=j;obtain⟨G,O⟩:=vk _ _ _ E;rw[C];exact vl F hs d n _ _ y e c M _ (hc.set hi) G I (k _) (j i hi) O
    .rename_i u;rw[UW u]at B;obtain⟨c,y,e,E,I⟩:=B;obtain⟨G,O⟩:=vk _ _ _ E;rw[C];exact vl F hs d n _ _ y e c H _ (hc.set hi) G I (k _) (j i hi) O
end
end Go.Proofs.YtaaieblnikcndaaGreatDoor
