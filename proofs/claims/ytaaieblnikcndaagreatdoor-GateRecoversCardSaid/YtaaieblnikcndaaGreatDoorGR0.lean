/-
  Lemmas for GateRecovers: part 0 of what it rests on. Conditions: none.
-/
import Derived.WalkKit
import Derived.RangeFuncRecord
import Derived.WalkSmall
import Derived.OrdersIn
import Derived.TacticsIn
import Derived.RangeFuncWrites
import Derived.KernelRfl
import Derived.RecoverIn
import Derived.Laws.AppendOwn
import Derived.MapKept
import Derived.Lib.SlKeysI
import Derived.Below
import Derived.Laws.StructEq
import Derived.ChangeKeysEq
import Derived.Maps.RangeRun
import Derived.ProofKit
import Derived.Carry
import Derived.OpenShut
import Derived.ChangeSame
import Derived.Laws.MathBits
import Derived.Laws.MakeOwn
import Derived.Test.YtaaieblnikcndaaGreatDoorProg
import Derived.Shelf.Bytes.SlJoin
import Derived.Ground.SlbNamesProg
import Derived.Shelf.SlIterI.Nil
import Derived.Shelf.SortM.Plain
import Derived.Shelf.SortM.SortNone
import Derived.Shelf.SlMaps.Clone
import Derived.Ground.GgzProg
import Derived.Ground.SlgmProg
import Derived.Ground.SlmcProg
import Derived.Shelf.SlSortCmp.NoneTotal
import Derived.Shelf.Strings.OnBuilder
import Derived.Ground.SlsfProg
import Derived.Ground.NamesProg
import Derived.Laws.BytesArg
import Derived.Laws.IdiomStrings
import Derived.Laws.Cover1
import Derived.Lib.Bytealg
set_option linter.unusedVariables false
set_option linter.unusedSimpArgs false
set_option maxRecDepth 100000
set_option maxHeartbeats 16000000
open Go.IntKind (i64 u64 i8 u8 i32 u32 i16 u16)
abbrev V4:=@if_neg
abbrev V5:=@if_pos
abbrev V6:=@absurd
abbrev V7:=@List.length_append
abbrev V8:=@of_decide_eq_true
abbrev V9:=@of_decide_eq_false
abbrev VA:=@decide_eq_true_eq
abbrev VB:=@Bool.and_eq_true
abbrev VD:=@decide_eq_false_iff_not
abbrev VE:=@List.length_cons
abbrev VF:=@Nat.le_refl
abbrev VH:=@List.mem_map
abbrev VI:=@List.mem_singleton
abbrev VJ:=@Int.toNat_natCast
abbrev VK:=@List.append_assoc
abbrev VL:=@List.getElem_mem
abbrev VM:=@List.length_map
abbrev VN:=@List.mem_cons
abbrev VO:=@List.mem_cons_self
abbrev VP:=@Bool.or_eq_false_iff
abbrev VQ:=@List.mem_cons_of_mem
abbrev VR:=@Bool.or_eq_true
abbrev VS:=@decide_eq_true
abbrev VT:=@Nat.le_trans
abbrev VU:=@List.length_drop
abbrev VV:=@List.mem_append
abbrev VW:=@List.map_append
abbrev VX:=@Nat.zero_add
abbrev VY:=@List.length_take
abbrev VZ:=@List.length_nil
abbrev Wa:=@Nat.lt_or_ge
abbrev Wb:=@Bool.not_eq_true'
abbrev Wc:=@List.take_of_length_le
abbrev Wd:=@Nat.zero_le
abbrev We:=@List.append_nil
abbrev Wf:=@List.map_cons
abbrev Wg:=@List.flatMap_cons
abbrev Wh:=@Int.le_refl
abbrev Wi:=@List.take_length
abbrev Wj:=@Option.map_some
abbrev Wk:=@List.mem_of_getElem?
abbrev Wl:=@List.nil_append
abbrev Wm:=@List.filter_cons
abbrev Wn:=@List.take_succ_eq_append_getElem
abbrev Wo:=@Bool.and_eq_false_iff
abbrev Wp:=@Bool.eq_iff_iff
abbrev Wq:=@Bool.not_eq_false'
abbrev Wr:=@Nat.add_mul
abbrev Ws:=@decide_eq_false
abbrev Wt:=@List.all_eq_true
abbrev Wu:=@List.map_map
abbrev Wv:=@List.length_singleton
abbrev Ww:=@List.take_append_drop
abbrev Wx:=@List.drop_eq_getElem_cons
abbrev Wy:=@Nat.add_assoc
abbrev Wz:=@List.getElem_of_mem
abbrev W0:=@List.mem_of_mem_take
abbrev W1:=@Nat.mul_le_mul_right
abbrev W2:=@Nat.mul_one
abbrev W3:=@List.getElem_map
abbrev W4:=@List.flatMap_append
abbrev W5:=@List.pairwise_cons
abbrev W6:=@List.drop_length
abbrev W7:=@List.mem_filter
abbrev W8:=@Nat.pow_add
abbrev W9:=@List.ext_getElem
abbrev WA:=@Array.length_toList
abbrev WB:=@Nat.mod_lt
abbrev WE:=@List.cons_append
abbrev WF:=@List.not_mem_nil
abbrev WG:=@List.mem_range
abbrev WH:=@List.mem_of_mem_drop
abbrev WI:=@List.take_add_one
abbrev WJ:=@Nat.mod_eq_of_lt
abbrev WK:=@List.length_eq_zero_iff
abbrev WL:=@Nat.eq_of_beq_eq_true
abbrev WM:=@Nat.add_zero
abbrev WN:=@List.eq_nil_of_length_eq_zero
abbrev WO:=@List.take_succ_cons
abbrev WP:=@List.map_congr_left
abbrev WQ:=@List.filter_eq_nil_iff
abbrev WR:=@List.foldl_append
abbrev WS:=@List.set_getElem_self
abbrev WT:=@List.prefix_rfl
abbrev WU:=@List.ext_getElem?
abbrev WV:=@List.mem_append_left
abbrev WW:=@List.nodup_cons
abbrev WX:=@Nat.min_eq_left
abbrev WY:=@Int.fdiv_eq_ediv_of_nonneg
abbrev WZ:=@Int.natCast_mul
abbrev Ya:=@Nat.two_pow_pos
abbrev Yb:=@List.sum_cons
abbrev Yc:=@Bool.false_or
abbrev Yd:=@Nat.mul_le_mul_left
abbrev Ye:=@Bool.false_eq_true
abbrev Yf:=@Nat.add_sub_cancel_left
abbrev Yg:=@List.map_nil
abbrev Yh:=@Nat.div_lt_iff_lt_mul
abbrev Yi:=@List.take_zero
abbrev Yj:=@Nat.add_comm
abbrev Yk:=@List.mem_append_right
abbrev Yl:=@Nat.zero_mul
abbrev Ym:=@List.mem_flatMap
abbrev Yn:=@List.drop_left
abbrev Yo:=@Bool.true_and
abbrev Yp:=@List.getD_eq_getElem?_getD
abbrev Yq:=@List.map_set
abbrev Yr:=@List.set_set
abbrev Ys:=@Nat.le_of_ble_eq_true
abbrev Yt:=@List.set_cons_zero
abbrev Yu:=@Nat.div_add_mod'
abbrev Yv:=@List.take_append_of_le_length
abbrev Yw:=@List.drop_drop
abbrev Yx:=@List.pairwise_iff_getElem
abbrev Yy:=@List.length_pos_iff
abbrev Yz:=@List.filter_eq_self
abbrev Y0:=@List.pairwise_map
abbrev Y1:=@Nat.eq_zero_or_pos
abbrev Y2:=@Int.toNat_of_nonneg
abbrev Y3:=@List.filter_congr
abbrev Y4:=@List.length_filter_le
abbrev Y5:=@Bool.eq_false_iff
abbrev Y6:=@List.mem_or_eq_of_mem_set
abbrev Y7:=@List.length_set
abbrev Y8:=@Array.getD_eq_getD_getElem?
abbrev Y9:=@List.drop_succ_cons
abbrev YA:=@List.drop_of_length_le
abbrev YB:=@List.set_cons_succ
abbrev YC:=@List.eq_nil_or_concat
abbrev YD:=@List.concat_eq_append
abbrev YE:=@BitVec.ofInt_natCast
abbrev YF:=@BitVec.toNat_ofNat
abbrev YG:=@List.replicate_succ
abbrev YH:=@Nat.add_sub_cancel
abbrev YI:=@Int.eq_ofNat_of_zero_le
abbrev YJ:=@List.getElem_range
abbrev YK:=@List.prefix_append
abbrev YL:=@Option.isSome_iff_exists
abbrev YN:=@List.getElem_append_left
abbrev YO:=@Nat.two_pow_add_eq_or_of_lt
abbrev YP:=@List.eq_of_mem_replicate
namespace Go.Proofs.YtaaieblnikcndaaGreatDoor
open Go
theorem zt{α : Type}{a : Option α}{b c : α}(h : a = some b)(e : b = c := by kernel_rfl) : a = some c := h.trans (congrArg some e)
theorem nO{c : Prop}{_ : Decidable c}{α : Type}{a b : α}(h : ¬ c := by omega) : ite c a b = b := V4 h
theorem pO{c : Prop}{_ : Decidable c}{α : Type}{a b : α}(h : c := by omega) : ite c a b = a := V5 h
abbrev lt0 : ByteArray := ⟨#[0,1,2,2,3,3,3,3,4,4,4,4,4,4,4,4,5,5,5,5,5,5,5,5,5,5,5,5,5,5,5,5,6,6,6,6,6,6,6,6,6,6,6,6,6,6,6,6,6,6,6,6,6,6,6,6,6,6,6,6,6,6,6,6,7,7,7,7,7,7,7,7,7,7,7,7,7,7,7,7,7,7,7,7,7,7,7,7,7,7,7,7,7,7,7,7,7,7,7,7,7,7,7,7,7,7,7,7,7,7,7,7,7,7,7,7,7,7,7,7,7,7,7,7,7,7,7,7,8,8,8,8,8,8,8,8,8,8,8,8,8,8,8,8,8,8,8,8,8,8,8,8,8,8,8,8,8,8,8,8,8,8,8,8,8,8,8,8,8,8,8,8,8,8,8,8,8,8,8,8,8,8,8,8,8,8,8,8,8,8,8,8,8,8,8,8,8,8,8,8,8,8,8,8,8,8,8,8,8,8,8,8,8,8,8,8,8,8,8,8,8,8,8,8,8,8,8,8,8,8,8,8,8,8,8,8,8,8,8,8,8,8,8,8,8,8,8,8,8,8,8,8,8,8,8,8]⟩
abbrev aC:=Array Obj
abbrev KE:=Value->aC->Prop
abbrev KQ:=Option Addr
abbrev Os:=List Value
abbrev Fa:=ByteArray
def aL(H:aC)(b off:Nat):Option Value:=
 match H[b]? with
 | some (.cells c _ _)=>c[off]?
 | _=>none
def md(H:aC)(b off:Nat):Bool:=
 match H[b]? with
 | some (.cells _ _ (lo,hi))=>lo<=off&&off<hi
 | _=>false
def iJ(H:aC)(b off:Nat)(v:Value):aC:=
 H.modify b λ
  | .cells c elem frozen=>.cells (c.setIfInBounds off v) elem frozen
  | o=>o
structure bW(w w':World):Prop where
 os:w'.os=w.os
 tape:w'.tape=w.tape
 output:w'.output=w.output
inductive cU where
 | int (k:IntKind)|bool|str|ptr|slice|map|raw|fnv|adr
 | vec (k:IntKind) (n:Nat)
inductive Sh where
 | one (l:cU)
 | agg (ls:List cU)
def bX(k:IntKind)(f:Nat->Int):Nat->Nat->Os
 | 0,_=>[]
 | n+1,i=>.int k (f i)::bX k f n (i+1)
def cU.all:cU->(Value->Prop)->Prop
 | .int k,K=>∀n:Int,K (.int k n)
 | .bool,K=>∀b:Bool,K (.bool b)
 | .str,K=>∀s:Fa,K (.string s)
 | .ptr,K=>∀a:KQ,K (.pointer a)
 | .slice,K=>∀(a:KQ) (n c:Nat),K (.slice a n c)
 | .map,K=>∀r:Option Nat,K (.map r)
 | .raw,K=>∀v:Value,K v
 | .adr,K=>∀b o:Nat,K (.pointer (some ⟨b,o,none⟩))
 | .fnv,K=>∀(f:FuncId) (cap:Os),K (.func (.func f) ⟨[]⟩ ⟨cap⟩)
 | .vec _ _,_=>True
def cU.ex:cU->(Value->Prop)->Prop
 | .int k,K=>∃n:Int,K (.int k n)
 | .bool,K=>∃b:Bool,K (.bool b)
 | .str,K=>∃s:Fa,K (.string s)
 | .ptr,K=>∃a:KQ,K (.pointer a)
 | .slice,K=>∃(a:KQ) (n c:Nat),K (.slice a n c)
 | .map,K=>∃r:Option Nat,K (.map r)
 | .raw,K=>∃v:Value,K v
 | .adr,K=>∃b o:Nat,K (.pointer (some ⟨b,o,none⟩))
 | .fnv,K=>∃(f:FuncId) (cap:Os),K (.func (.func f) ⟨[]⟩ ⟨cap⟩)
 | .vec _ _,_=>False
def allLs:List cU->(Os->Prop)->Prop
 | [],K=>K []
 | l::r,K=>l.all λv=>allLs r λvs=>K (v::vs)
def exLs:List cU->(Os->Prop)->Prop
 | [],K=>K []
 | .vec k n::r,K=>∃f:Nat->Int,exLs r λvs=>K (bX k f n 0++vs)
 | l::r,K=>l.ex λv=>exLs r λvs=>K (v::vs)
def Sh.all:Sh->(Value->Prop)->Prop
 | .one l,K=>l.all K
 | .agg ls,K=>allLs ls λvs=>K (.agg ⟨vs⟩)
def Sh.ex:Sh->(Value->Prop)->Prop
 | .one l,K=>l.ex K
 | .agg ls,K=>exLs ls λvs=>K (.agg ⟨vs⟩)
def pI:List Sh->(Os->Prop)->Prop
 | [],K=>K []
 | s::r,K=>s.ex λv=>pI r λvs=>K (v::vs)
def lr:List Sh->(Value->Prop)->Prop
 | [],K=>K (.tuple #[])
 | [s],K=>s.ex K
 | s::t::r,K=>pI (s::t::r) λvs=>K (.tuple ⟨vs⟩)
def cU.fn:cU->Type->Type
 | .int _,T=>Int->T
 | .bool,T=>Bool->T
 | .str,T=>Fa->T
 | .ptr,T=>KQ->T
 | .slice,T=>KQ->Nat->Nat->T
 | .map,T=>Option Nat->T
 | .raw,T=>Value->T
 | .fnv,T=>FuncId->Os->T
 | .adr,T=>Nat->Nat->T
 | .vec _ _,T=>T
def fnLs:List cU->Type->Type
 | [],T=>T
 | l::r,T=>l.fn (fnLs r T)
def Sh.fn:Sh->Type->Type
 | .one l,T=>l.fn T
 | .agg ls,T=>fnLs ls T
abbrev du:=List (Nat×Sh)
def JT(T:Type):du->Type
 | []=>T
 | (_,s)::r=>s.fn (JT T r)
def cU.app:(l:cU)->{T:Type}->l.fn T->Value->Option T
 | .int k,_,f,.int k' n=>if k=k' then some (f n) else none
 | .bool,_,f,.bool b=>some (f b)
 | .str,_,f,.string s=>some (f s)
 | .ptr,_,f,.pointer a=>some (f a)
 | .slice,_,f,.slice a n c=>some (f a n c)
 | .map,_,f,.map r=>some (f r)
 | .raw,_,f,v=>some (f v)
 | .fnv,_,f,.func (.func g) ⟨[]⟩ ⟨cap⟩=>some (f g cap)
 | .adr,_,f,.pointer (some ⟨b,o,none⟩)=>some (f b o)
 | _,_,_,_=>none
def qU:(ls:List cU)->{T:Type}->fnLs ls T->Os->Option T
 | [],_,f,[]=>some f
 | l::r,_,f,v::vs=>match l.app (T:=fnLs r _) f v with|some g=>qU r g vs|none=>none
 | _,_,_,_=>none
def Sh.app:(s:Sh)->{T:Type}->s.fn T->Value->Option T
 | .one l,_,f,v=>l.app f v
 | .agg ls,_,f,.agg cs=>qU ls f cs.toList
 | .agg _,_,_,_=>none
inductive SV where
 | p (v:Value)
 | g (j:Nat) (b:Bool) (v:Value)
 | x
abbrev Fr:=List SV
def aT{α:Type}:List α->Nat->Option α
 | [],_=>none
 | a::_,0=>some a
 | _::r,n+1=>aT r n
def iq{α:Type}:List α->Nat->α->List α
 | [],_,_=>[]
 | _::r,0,x=>x::r
 | a::r,n+1,x=>a::iq r n x
def Fr.put(fr:Fr)(d:Option Tmp)(s:SV):Fr:=match d with|some t=>iq fr t s|none=>fr
def gu(ts:List Nat)(fr:Fr):Fr:=ts.foldl (λf t=>iq f t .x) fr
def pJ(fr:Fr):Fr:=fr.map fun|.g _ _ _=>.x|s=>s
def iK(fr:Fr)(t:Nat):Option Value:=match aT fr t with|some (.p v)=>some v|_=>none
def lu:(L:du)->{T:Type}->JT T L->Fr->Option T
 | [],_,j,_=>some j
 | (t,s)::r,T,j,fr=>match iK fr t with
  | some v=>match s.app (T:=JT T r) j v with
   | some j'=>lu r j' fr
   | none=>none
  | none=>none
def jI(L:du)(J:JT (aC->Prop) L)(fr:Fr)(H:aC):Prop:=match lu L J fr with|some p=>p H|none=>False
def ir:Fr->(Fr->Prop)->Prop
 | [],k=>k []
 | .p v::r,k=>ir r λr'=>k (.p v::r')
 | .g j b v::r,k=>ir r λr'=>k (.g j b v::r')
 | .x::r,k=>ir r λr'=>k (.x::r')
theorem lv:∀(fr:Fr) (k:Fr->Prop),ir fr k=k fr
 | [],_=>rfl
 | .p _::r,k=>by rw[ir,lv r]
 | .g _ _ _::r,k=>by rw[ir,lv r]
 | .x::r,k=>by rw[ir,lv r]
def lw(ds:List Nat):Nat->Fr->Fr
 | _,[]=>[]
 | i,s::r=>(match memD i ds with|true=>.x|false=>s)::lw ds (i+1) r
where memD (n:Nat):List Nat->Bool
 | []=>false
 | m::r=>match Nat.beq n m with|true=>true|false=>memD n r
def allJ:du->Fr->(Fr->Prop)->Prop
 | [],fr,K=>K fr
 | (t,s)::r,fr,K=>s.all λv=>ir (iq fr t (.p v)) λfr'=>allJ r fr' K
def me(P:Program)(s:Sem Value)(v:Value):Prop:=∀w,s.run P w=.ok v w
def iL(P:Program)(op:BinOp)(t:TypeId)(x y:Value)(b:Bool):Prop:=∀ox oy w,(do eqGuard op t ox oy x y;binOp op t x y:Sem Value).run P w=.ok (.bool b) w
def pK(P:Program)(f:FuncId)(args:Array Value)(v:Value):Prop:=∀w,(callFunc f args).run P w=.ok (.value v) w
def dm(P:Program)(s:Sem Value)(H:aC)(v:Value):Prop:=∀w,w.heap=H->s.run P w=.ok v w
@[irreducible] def cB {α:Type} (P:Program) (s:Sem α) (H:aC) (K:α->aC->Prop):Prop:=
 ∀w,w.heap=H->∃a w',s.run P w=.ok a w'/\bW w w'/\K a w'.heap
def Fin(w:World)(K:KE):Ending->World->Prop
 | .returned v,w'=>bW w w'/\K v w'.heap
 | .panicked _,_=>False
 | .outgrown,_=>False
@[irreducible] def iM (P:Program) (f:FuncId) (args:Array Value) (H:aC) (K:KE):Prop:=
 ∀w,w.heap=H->Calls P f args w (Fin w K)
def iN(w:World)(K KP:KE):Ending->World->Prop
 | .returned v,w'=>bW w w'/\K v w'.heap
 | .panicked chain,w'=>∃v,chain=[{ v,recovered:=false }]/\bW w w'/\KP v w'.heap
 | .outgrown,_=>False
@[irreducible] def nj (P:Program) (f:FuncId) (args:Array Value) (H:aC) (K KP:KE):Prop:=
 ∀w,w.heap=H->Calls P f args w (iN w K KP)
def bV(P:Program)(f:FuncId)(args:Array Value)(H:aC)(v:Value):Prop:=iM P f args H λv' H'=>v'=v/\H'=H
@[irreducible] def fI (P:Program) (l:Nat) (vs:Os) (H:aC) (K:KE):Prop:=
 ∀w,w.heap=H->∃fn tmps assign body,(Instr.yield l ⟨vs⟩).run P w=.ok (.round l fn tmps assign body) w/\RoundIn Fence.wide 0 P l fn tmps assign body w (Fin w K)
theorem cB.at{α:Type}{P:Program}{s:Sem α}{H:aC}{K:α->aC->Prop}(h:cB P s H K):∀w,w.heap=H->∃a b,s.run P w=.ok a b/\bW w b/\K a b.heap:=by unfold cB at h;exact h
theorem cB.mk{α:Type}{P:Program}{s:Sem α}{H:aC}{K:α->aC->Prop}(h:∀w,w.heap=H->∃a b,s.run P w=.ok a b/\bW w b/\K a b.heap):cB P s H K:=by unfold cB;exact h
theorem iM.at{P:Program}{f:FuncId}{args:Array Value}{H:aC}{K:KE}(h:iM P f args H K):∀w,w.heap=H->Calls P f args w (Fin w K):=by unfold iM at h;exact h
theorem iM.mk{P:Program}{f:FuncId}{args:Array Value}{H:aC}{K:KE}(h:∀w,w.heap=H->Calls P f args w (Fin w K)):iM P f args H K:=by unfold iM;exact h
theorem nj.at{P:Program}{f:FuncId}{args:Array Value}{H:aC}{K KP:KE}(h:nj P f args H K KP):∀w,w.heap=H->Calls P f args w (iN w K KP):=by unfold nj at h;exact h
theorem nj.mk{P:Program}{f:FuncId}{args:Array Value}{H:aC}{K KP:KE}(h:∀w,w.heap=H->Calls P f args w (iN w K KP)):nj P f args H K KP:=by unfold nj;exact h
theorem fI.at{P:Program}{l:Nat}{vs:Os}{H:aC}{K:KE}(h:fI P l vs H K):∀w,w.heap=H->∃fn tmps assign body,(Instr.yield l ⟨vs⟩).run P w=.ok (.round l fn tmps assign body) w/\RoundIn Fence.wide 0 P l fn tmps assign body w (Fin w K):=by unfold fI at h;exact h
theorem fI.mk{P:Program}{l:Nat}{vs:Os}{H:aC}{K:KE}(h:∀w,w.heap=H->∃fn tmps assign body,(Instr.yield l ⟨vs⟩).run P w=.ok (.round l fn tmps assign body) w/\RoundIn Fence.wide 0 P l fn tmps assign body w (Fin w K)):fI P l vs H K:=by unfold fI;exact h
def gF(P:Program)(f:FuncId):Prop:=∃fn,P.funcs[f]?=some fn/\fn.body.isNone=false/\(fn.name == "runtime.NumGoroutine")=false
inductive DM where
 | mark (r:Nat)
 | fn (g:FuncId) (cap:Os)
structure Ctx where
 P:Program
 quiet:List FuncId
 calls:List FuncId
 nexts:List (Nat×Sh×Sh):=[]
 pan:List FuncId:=[]
 ext:List FuncId:=[]
 kp:KE:=λ_ _=>False
 nop:Bool:=false
def Ctx.nx(X:Ctx)(l:List (Nat×Sh×Sh)):Ctx:={ X with nexts:=l }
def nextOf:List (Nat×Sh×Sh)->Option Tmp->Option (Sh×Sh)
 | _,none=>none
 | [],some _=>none
 | (t,k,x)::r,some d=>match Nat.beq t d with|true=>some (k,x)|false=>nextOf r (some d)
inductive Kind where
 | P|R|W
 deriving DecidableEq
def bI(n:Nat):List Nat->Bool
 | []=>false
 | m::r=>Nat.beq n m||bI n r
def leafOf:TypeDesc->Option cU
 | .bool=>some .bool
 | .int k=>some (.int k)
 | .string=>some .str
 | .pointer _=>some .ptr
 | .slice _=>some .slice
 | .map _ _=>some .map
 | .func _ _ _=>some .fnv
 | .interface _=>some .raw
 | _=>none
def sY(P:Program):Nat->TypeId->Option (List cU)
 | 0,_=>none
 | n+1,t=>match P.underlying t with
  | some (.struct fs)=>fs.toList.foldr (λf acc=>match sY P n f.type,acc with|some a,some b=>some (a++b)|_,_=>none) (some [])
  | some (.array k e)=>match sY P n e with
   | some a=>(match a,Nat.ble 16 k with|[.int ki],true=>some [.vec ki k]|a,_=>some ((List.replicate k a).flatten))
   | none=>none
  | some d=>match leafOf d with|some l=>some [l]|none=>none
  | none=>none
def aggT(P:Program)(t:TypeId):Bool:=match P.underlying t with|some (.struct _)|some (.array _ _)=>true|_=>false
def pL(P:Program)(t:TypeId):Option Sh:=
 match aggT P t,sY P 9 t with
 | true,some ls=>some (.agg ls)
 | false,some [l]=>some (.one l)
 | _,_=>none
def exT(P:Program)(t:TypeId)(K:Value->Prop):Prop:=match pL P t with|some s=>s.ex K|none=>False
def uX(P:Program)(t:TypeId)(K:Os->Prop):Prop:=match sY P 9 t with|some ls=>exLs ls K|none=>False
def bE(H:aC)(b:Nat):Nat->Os->Prop
 | _,[]=>True
 | o,[v]=>aL H b o=some v
 | o,v::r=>aL H b o=some v/\bE H b (o+1) r
abbrev gt:Option Prop->Prop->Prop
 | none,p=>p
 | some c,p=>c->p
def bP{α:Type}(o:Option α)(K:α->Prop):Prop:=match o with|some v=>K v|none=>False
def aY(op:BinOp)(k:IntKind)(x y:Int):Int:=
 match op with
 | .and=>k.wrap (BitVec.ofInt k.bits x &&& BitVec.ofInt k.bits y).toNat
 | .or=>k.wrap (BitVec.ofInt k.bits x ||| BitVec.ofInt k.bits y).toNat
 | .xor=>k.wrap (BitVec.ofInt k.bits x^^^BitVec.ofInt k.bits y).toNat
 | _=>k.wrap (BitVec.ofInt k.bits x &&& ~~~BitVec.ofInt k.bits y).toNat
def xU(op:BinOp)(k:IntKind)(x y:Int)(c:Option Prop)(K:Value->Prop):Prop:=
 match op with
 | .add=>K (.int k (k.wrap (x+y)))
 | .sub=>K (.int k (k.wrap (x-y)))
 | .mul=>K (.int k (k.wrap (x*y)))
 | .quo=>gt c (y≠0)/\K (.int k (k.wrap (x.tdiv y)))
 | .rem=>gt c (y≠0)/\K (.int k (x.tmod y))
 | .and=>K (.int k (aY .and k x y))
 | .or=>K (.int k (aY .or k x y))
 | .xor=>K (.int k (aY .xor k x y))
 | .andNot=>K (.int k (aY .andNot k x y))
 | .eql=>K (.bool (decide (x=y)))
 | .neq=>K (.bool (!decide (x=y)))
 | .lss=>K (.bool (decide (x<y)))
 | .leq=>K (.bool (decide (x<=y)))
 | .gtr=>K (.bool (decide (y<x)))
 | .geq=>K (.bool (decide (y<=x)))
 | .shl=>gt c (0<=y)/\K (.int k (k.wrap (x*2^(min y.toNat k.bits))))
 | .shr=>gt c (0<=y)/\K (.int k (x.fdiv (2^(min y.toNat k.bits))))
def xV(op:BinOp)(x y:Fa)(c:Option Prop)(K:Value->Prop):Prop:=
 match op with
 | .add=>gt c (((x.size+y.size:Nat):Int)<=i64.max)/\K (.string (x++y))
 | .eql=>K (.bool (x.toList == y.toList))
 | .neq=>K (.bool (!(x.toList == y.toList)))
 | .lss=>K (.bool (Op.bytesLess x.toList y.toList))
 | .leq=>K (.bool (Op.bytesLess x.toList y.toList||x.toList == y.toList))
 | .gtr=>K (.bool (!(Op.bytesLess x.toList y.toList||x.toList == y.toList)))
 | .geq=>K (.bool (!Op.bytesLess x.toList y.toList))
 | _=>False
def pM(d:Option TypeDesc)(x y:Value):Option Bool:=
 match d,x,y with
 | some .bool,.bool a,.bool b=>some (a == b)
 | some (.pointer _),.pointer a,.pointer none=>some a.isNone
 | some (.slice _),.slice a _ _,.slice none _ _=>some a.isNone
 | some (.map _ _),.map a,.map none=>some a.isNone
 | some (.func _ _ _),.func _ _ _,.nilFunc=>some false
 | some (.func _ _ _),.nilFunc,.nilFunc=>some true
 | _,_,_=>none
def binP(P:Program)(op:BinOp)(t:TypeId)(x y:Value)(c:Option Prop)(K:Value->Prop):Prop:=
 match x,y with
 | .int k a,.int k' b=>if k=k' then xU op k a b c K else (match op with
  | .shl=>gt c (0<=b)/\K (.int k (k.wrap (a*2^(min b.toNat k.bits))))
  | .shr=>gt c (0<=b)/\K (.int k (a.fdiv (2^(min b.toNat k.bits))))
  | _=>False)
 | .string a,.string b=>xV op a b c K
 | x,y=>match op,pM (P.underlying t) x y with
  | .eql,some b=>K (.bool b)
  | .neq,some b=>K (.bool !b)
  | op,none=>∃b:Bool,gt c (iL P op t x y b)/\K (.bool b)
  | _,_=>False
def ifaceT(P:Program)(t:TypeId):Bool:=match P.underlying t with|some (.interface _)=>true|_=>false
def binQ(P:Program)(op:BinOp)(t:TypeId)(x y:Value)(c:Option Prop)(K:Value->Prop):Prop:=
 match ifaceT P t with
 | true=>∃b:Bool,gt c (iL P op t x y b)/\K (.bool b)
 | false=>binP P op t x y c K
def unP(op:UnOp)(x:Value)(K:Value->Prop):Prop:=
 match op,x with
 | .neg,.int k n=>K (.int k (k.wrap (0-n)))
 | .xor,.int k n=>K (.int k (aY .xor k (if k.signed then -1 else k.max) n))
 | .not,.bool b=>K (.bool !b)
 | _,_=>False
def pN(c:Bool)(a b:Value):Value:=
 match a,b with
 | .bool x,.bool y=>.bool (cond c x y)
 | a,b=>cond c a b
def sZ(b d:Operand)(r:Bool×Value×Value):Value:=
 match b with
 | .const (.bool true)=>(match r.2.2 with|.bool y=>.bool (r.1||y)|_=>pN r.1 r.2.1 r.2.2)
 | _=>(match d with
  | .const (.bool false)=>(match r.2.1 with|.bool x=>.bool (r.1&&x)|_=>pN r.1 r.2.1 r.2.2)
  | _=>pN r.1 r.2.1 r.2.2)
def uY(o:Nat)(n:Int):Nat->Nat
 | 1=>o+n.toNat
 | s=>o+n.toNat*s
theorem BW(o:Nat)(n:Int)(s:Nat):uY o n s=o+n.toNat*s:=by unfold uY;split <;> simp
def nZ(P:Program)(t:TypeId)(q:Prop):Prop:=match P.cellsOf t with|0=>False|_+1=>q
def cq(a:KQ)(l m size:Nat):KQ:=if m=l then a else a.map (·.add (l*size))
def iO(x:Value)(K:Int->Prop):Prop:=match x with|.int _ n=>K n|_=>False
def xW(P:Program)(t:TypeId)(x:Value)(lo hi:Option Value)(c:Option Prop)(K:Value->Prop):Prop:=
 match P.underlying t,x with
 | some .string,.string s=>
  let go (l h:Int):Prop:=gt c (0<=l/\l<=h/\h<=(s.size:Int))/\K (.string (s.extract l.toNat h.toNat))
  match lo,hi with
  | some l,some h=>iO l λl=>iO h λh=>go l h
  | some l,none=>iO l λl=>go l s.size
  | none,some h=>iO h λh=>go 0 h
  | none,none=>go 0 s.size
 | some (.slice e),.slice a len cap=>
  let go (l h:Int):Prop:=gt c (0<=l/\l<=h/\h<=(cap:Int))/\K (.slice (cq a l.toNat cap (P.cellsOf e)) (h.toNat-l.toNat) (cap-l.toNat))
  nZ P e <| match lo,hi with
  | some l,some h=>iO l λl=>iO h λh=>go l h
  | some l,none=>iO l λl=>go l len
  | none,some h=>iO h λh=>go 0 h
  | none,none=>go 0 len
 | some (.array n e),.pointer (some a)=>
  let go (l h:Int):Prop:=gt c (0<=l/\l<=h/\h<=(n:Int))/\K (.slice (cq (some a) l.toNat n (P.cellsOf e)) (h.toNat-l.toNat) (n-l.toNat))
  nZ P e <| match lo,hi with
  | some l,some h=>iO l λl=>iO h λh=>go l h
  | some l,none=>iO l λl=>go l n
  | none,some h=>iO h λh=>go 0 h
  | none,none=>go 0 n
 | _,_=>False
def xX(P:Program)(t:TypeId)(x l h m:Value)(c:Option Prop)(K:Value->Prop):Prop:=
 match P.underlying t,x,l,h,m with
 | some (.slice e),.slice a _ cap,.int _ l,.int _ h,.int _ m=>nZ P e <| gt c (0<=l/\l<=h/\h<=m/\m<=(cap:Int))/\K (.slice (cq a l.toNat m.toNat (P.cellsOf e)) (h.toNat-l.toNat) (m.toNat-l.toNat))
 | _,_,_,_,_=>False
def bAt(s:Fa)(i:Nat):Int:=(((s.data[i]?).getD 0).toNat:Int)
def xY(P:Program)(t:TypeId)(x i:Value)(c:Option Prop)(K:Value->Prop):Prop:=
 match P.underlying t,x,i with
 | some .string,.string s,.int _ n=>gt c (0<=n/\n<(s.size:Int))/\K (.int .u8 (bAt s n.toNat))
 | some (.array _ e),x,i=>match pL P e with
  | some s=>s.ex λv=>gt c (me P (Instr.index t x i) v)/\K v
  | none=>False
 | _,_,_=>False
def xZ(P:Program)(t:TypeId)(x i:Value)(c:Option Prop)(K:Value->Prop):Prop:=
 match P.underlying t,x,i with
 | some (.slice e),.slice a len _,.int _ n=>nZ P e <| gt c (0<=n/\n<(len:Int))/\∃b o:Nat,gt c (a=some ⟨b,o,none⟩)/\K (.pointer (some ⟨b,uY o n (P.cellsOf e),none⟩))
 | some (.array len e),.pointer (some ⟨b,o,none⟩),.int _ n=>nZ P e <| gt c (0<=n/\n<(len:Int))/\K (.pointer (some ⟨b,uY o n (P.cellsOf e),none⟩))
 | _,_,_=>False
def ya(P:Program)(t:TypeId)(x:Value)(f:Nat)(K:Value->Prop):Prop:=
 match P.underlying t,x with
 | some (.struct fs),.pointer (some ⟨b,o,none⟩)=>match aT fs.toList f with
  | some fd=>nZ P fd.type <| K (.pointer (some ⟨b,o+fd.offset,none⟩))
  | none=>False
 | _,_=>False
def fieldP(P:Program)(t:TypeId)(x:Value)(f:Nat)(c:Option Prop)(K:Value->Prop):Prop:=
 match P.underlying t with
 | some (.struct fs)=>match aT fs.toList f with
  | some fd=>match pL P fd.type with
   | some s=>s.ex λu=>gt c (me P (Instr.field t x f) u)/\K u
   | none=>False
  | none=>False
 | _=>False
def aV:KQ->Nat
 | some a=>a.block
 | none=>0
def aS:KQ->Nat
 | some a=>a.off
 | none=>0
def isA:KQ->Prop
 | some ⟨_,_,none⟩=>True
 | _=>False
def NN(a:KQ)(p:Prop):Prop:=match a with
 | some ⟨_,_,none⟩=>p
 | _=>False
theorem isA_iff{a:KQ}:isA a↔a=some ⟨aV a,aS a,none⟩:=by
 rcases a with _|⟨b,o,_|s⟩ <;> simp[isA,aV,aS]
theorem yb{a:KQ}{p:Prop}:NN a p↔a=some ⟨aV a,aS a,none⟩/\p:=by
 rcases a with _|⟨b,o,_|s⟩ <;> simp[NN,aV,aS]
def uZ(x:Value)(c:Option Prop)(K:Value->Prop):Prop:=
 match x with
 | .pointer a=>(match c with
  | none=>NN a (K (.pointer (some ⟨aV a,aS a,none⟩)))
  | some c=>(c->isA a)/\K (.pointer (some ⟨aV a,aS a,none⟩)))
 | .func (.func f) a b=>K (.func (.func f) a b)
 | .func (.yield f) a b=>K (.func (.yield f) a b)
 | _=>False
def td(P:Program)(t:TypeId):Option (Os):=match P.info? t with|some i=>(match i.zero with|some v=>some v.cells.toList|none=>none)|none=>none
def offOf(P:Program):List Field->Nat->Option (Nat×Nat)
 | fs,i=>match aT fs i with|some f=>some (f.offset,P.cellsOf f.type)|none=>none
def ve:Os->Nat->Os->Os
 | cs,_,[]=>cs
 | cs,o,v::r=>ve (iq cs o v) (o+1) r
def pP(place:Nat->Option (Nat×Nat)):Os->List (Nat×Value)->Option (Os)
 | cells,[]=>some cells
 | cells,(i,v)::rest=>
  match place i with
  | none=>none
  | some (off,size)=>if v.cells.toList.length=size/\off+size<=cells.length then pP place (ve cells off v.cells.toList) rest else none
def vf(P:Program):List Field->Bool
 | []=>true
 | f::r=>(P.info? f.type).isSome&&vf P r
def yc(P:Program)(t:TypeId)(parts:List (Nat×Value)):Option (Os):=
 match td P t,P.underlying t with
 | some z,some (.struct fs)=>if vf P fs.toList=true then pP (offOf P fs.toList) z parts else none
 | some z,some (.array _ e)=>match P.info? e with
  | some _=>pP (λi=>some (i*P.cellsOf e,P.cellsOf e)) z parts
  | none=>none
 | _,_=>none
def lx(z:Os):Nat->Os
 | 0=>[]
 | n+1=>z++lx z n
def yd(P:Program)(e:TypeId)(len:Nat)(parts:List (Nat×Value)):Option (Os):=
 match td P e with
 | some z=>if z.length=P.cellsOf e then pP (λi=>some (i*P.cellsOf e,P.cellsOf e)) (lx z len) parts else none
 | none=>none
def gY(ev:Operand->Option Value):List Operand->Option (Os)
 | []=>some []
 | x::r=>match ev x,gY ev r with|some v,some vs=>some (v::vs)|_,_=>none
def oI(ev:Operand->Option Value):List (Nat×Operand)->Option (List (Nat×Value))
 | []=>some []
 | (i,x)::r=>match ev x,oI ev r with|some v,some vs=>some ((i,v)::vs)|_,_=>none
def qV(ev:Operand->Option Value):Option Operand->Option (Option Value)
 | none=>some none
 | some x=>match ev x with|some v=>some (some v)|none=>none
def convP(P:Program)(s d:TypeId)(x:Value)(K:Value->Prop):Prop:=
 match P.underlying s,P.underlying d,x with
 | some _,some (.int k),.int _ n=>K (.int k (k.wrap n))
 | some _,some .string,.string b=>K (.string b)
 | _,_,_=>False
def lenP(P:Program)(t:TypeId)(x:Value)(K:Value->Prop):Prop:=
 match P.underlying t,x with
 | some .string,.string s=>K (.int .i64 s.size)
 | some (.slice _),.slice _ n _=>K (.int .i64 n)
 | some (.array n _),_=>K (.int .i64 n)
 | _,_=>False
def mmP(isMax:Bool):Os->(Value->Prop)->Prop
 | [.int k x,.int _ y],K=>K (.int k (match isMax with|true=>if y>x then y else x|false=>if y<x then y else x))
 | [.int k x,.int _ y,.int _ z],K=>(match isMax with
  | true=>K (.int k (if z>(if y>x then y else x) then z else (if y>x then y else x)))
  | false=>K (.int k (if z<(if y<x then y else x) then z else (if y<x then y else x))))
 | _,_=>False
def vg(X:Ctx)(ev:Operand->Option Value)(pk:Operand->Operand->Operand->Option (Bool×Value×Value))(c:Option Prop)(op:Op)(K:Value->Prop):Prop:=
 match op with
 | .move x|.assign x=>bP (ev x) K
 | .pick a b d=>bP (pk a b d) λr=>K (sZ b d r)
 | .nilCheck x=>bP (ev x) λv=>uZ v c K
 | .binOp op t x y _=>bP (ev x) λa=>bP (ev y) λb=>binQ X.P op t a b c K
 | .unOp op _ x=>bP (ev x) λv=>unP op v K
 | .convert s d x=>bP (ev x) λv=>convP X.P s d v K
 | .fieldAddr t x f=>bP (ev x) λv=>ya X.P t v f K
 | .field t x f=>bP (ev x) λv=>fieldP X.P t v f c K
 | .indexAddr t x i=>bP (ev x) λv=>bP (ev i) λn=>xZ X.P t v n c K
 | .index t x i=>bP (ev x) λv=>bP (ev i) λn=>xY X.P t v n c K
 | .extract t i=>bP (ev t) λv=>(match v with|.tuple vs=>bP (aT vs.toList i) K|_=>False)
 | .slice t x lo hi mx=>(match mx with
  | none=>bP (ev x) λv=>bP (qV ev lo) λl=>bP (qV ev hi) λh=>xW X.P t v l h c K
  | some mx=>(match lo,hi with
   | some lo,some hi=>bP (ev x) λv=>bP (ev lo) λl=>bP (ev hi) λh=>bP (ev mx) λm=>xX X.P t v l h m c K
   | _,_=>False))
 | .build t ps=>bP (oI ev ps.toList) λvs=>bP (yc X.P t vs) λl=>K (.agg ⟨l⟩)
 | .makeInterface t x=>bP (ev x) λv=>(match X.P.underlying t with|some (.interface _)=>False|some _=>K (.iface t v)|none=>False)
 | .typeAssert x t u ok=>(match ok with
  | true=>bP (ev x) λv=>exT X.P u λy=>∃there:Bool,gt c (me X.P (Instr.typeAssert v t u true) (.tuple #[y,.bool there]))/\K (.tuple #[y,.bool there])
  | false=>False)
 | .makeFunc fn a b=>bP (gY ev a.toList) λva=>bP (gY ev b.toList) λvb=>K (.func fn ⟨va⟩ ⟨vb⟩)
 | .call cl=>(match cl.callee,cl.argTypes.toList with
  | .builtin .len,t::_=>bP (gY ev cl.args.toList) λvs=>(match vs with|v::_=>lenP X.P t v K|[]=>False)
  | .builtin .max,_=>bP (gY ev cl.args.toList) λvs=>mmP true vs K
  | .builtin .min,_=>bP (gY ev cl.args.toList) λvs=>mmP false vs K
  | _,_=>False)
 | _=>False
def BX(P:Program):List TypeId->Option (List Sh)
 | []=>some []
 | t::r=>match pL P t,BX P r with|some s,some ss=>some (s::ss)|_,_=>none
def vh(P:Program)(t:TypeId):Option (List Sh):=
 match P.underlying t with
 | some (.tuple ts)=>BX P ts.toList
 | _=>match pL P t with|some s=>some [s]|none=>none
def vi(X:Ctx)(ev:Operand->Option Value)(c:Option Prop)(o:Oper)(H:aC)(K:Value->(aC->Prop)->Prop):Prop:=
 match o.op with
 | .load t x=>bP (ev x) λv=>(match v with
  | .pointer (some ⟨b,off,none⟩)=>(match aggT X.P t with
   | true=>uX X.P t λus=>(if us.length=X.P.cellsOf t then gt c (bE H b off us)/\K (.agg ⟨us⟩) λH'=>gt c (bE H' b off us) else False)
   | false=>exT X.P t λu=>gt c (aL H b off=some u)/\K u λH'=>gt c (aL H' b off=some u))
  | _=>False)
 | .lookup t x i ok=>bP (ev x) λm=>bP (ev i) λk=>(match X.P.underlying t with
  | some (.map _ e)=>exT X.P e λu=>(match ok with
   | true=>∃there:Bool,gt c (dm X.P (Instr.lookup t m k true) H (.tuple #[u,.bool there]))/\K (.tuple #[u,.bool there]) λH'=>gt c (dm X.P (Instr.lookup t m k true) H' (.tuple #[u,.bool there]))
   | false=>gt c (dm X.P (Instr.lookup t m k false) H u)/\K u λH'=>gt c (dm X.P (Instr.lookup t m k false) H' u))
  | _=>False)
 | .convert s d x=>bP (ev x) λv=>(match X.P.underlying d with
  | some .string=>∃b:Fa,gt c (dm X.P (convert s d v) H (.string b))/\K (.string b) λH'=>gt c (dm X.P (convert s d v) H' (.string b))
  | _=>False)
 | .entry it=>bP (ev it) λv=>(match nextOf X.nexts o.dst with
  | some (ks,xs)=>ks.ex λk=>xs.ex λx=>gt c (dm X.P (Instr.entry v) H (.tuple #[k,x]))/\K (.tuple #[k,x]) λH'=>gt c (dm X.P (Instr.entry v) H' (.tuple #[k,x]))
  | none=>False)
 | .call cl=>(match cl.callee with
  | .value (.func f)=>(match bI f X.ext with
   | true=>bP (gY ev cl.args.toList) λvs=>bP (vh X.P o.type) λss=>lr ss λu=>gt c (pK X.P f ⟨vs⟩ u)/\K u λ_=>gt c (pK X.P f ⟨vs⟩ u)
   | false=>if bI f X.calls=false then False else bP (gY ev cl.args.toList) λvs=>bP (vh X.P o.type) λss=>lr ss λu=>gt c (bV X.P f ⟨vs⟩ H u)/\K u λH'=>gt c (bV X.P f ⟨vs⟩ H' u))
  | .builtin .len=>bP (gY ev cl.args.toList) λvs=>∃n:Int,gt c (dm X.P (Builtin.len_ cl.argTypes o.type ⟨vs⟩) H (.int .i64 n))/\K (.int .i64 n) λH'=>gt c (dm X.P (Builtin.len_ cl.argTypes o.type ⟨vs⟩) H' (.int .i64 n))
  | _=>False)
 | _=>False
def eT(H:aC)(b:Nat):Nat->Os->Prop
 | _,[]=>True
 | o,_::r=>((aL H b o).isSome=true/\md H b o=false)/\eT H b (o+1) r
def fJ(H:aC)(b:Nat):Nat->Os->aC
 | _,[]=>H
 | o,v::r=>fJ (iJ H b o v) b (o+1) r
def cT:Os->Bool
 | []=>true
 | .agg _::_=>false
 | .tuple _::_=>false
 | _::r=>cT r
def panP(v:Value)(kp:KE)(H:aC):Prop:=match v with
 | .iface t u=>kp (.iface t u) H
 | _=>False
def vj(X:Ctx)(ev:Operand->Option Value)(o:Oper)(H:aC)(K:KE):Prop:=
 match o.op with
 | .alloc t=>bP (td X.P t) λz=>∀(b:Nat) (H':aC),b=H.size->H'=H.push (.cells ⟨z⟩ t)->K (.pointer (some ⟨b,0,none⟩)) H'
 | .box t x=>bP (ev x) λv=>∀(b:Nat) (H':aC),b=H.size->H'=H.push (.cells v.cells t)->K (.pointer (some ⟨b,0,none⟩)) H'
 | .buildSlice t n ps=>bP (oI ev ps.toList) λvs=>(match X.P.underlying t with
  | some (.slice e)=>bP (yd X.P e n vs) λl=>(if n*X.P.cellsOf e<=16777216 then ∀(b:Nat) (H':aC),b=H.size->H'=H.push (.cells ⟨l⟩ e)->K (.slice (some ⟨b,0,none⟩) n n) H' else False)
  | _=>False)
 | .makeMap _ r=>(match r with
  | none=>∀(b:Nat) (H':aC),b=H.size->H'=H.push (.map #[] 0)->K (.map (some b)) H'
  | some _=>False)
 | .store t x y=>bP (ev x) λa=>bP (ev y) λv=>(match a with
  | .pointer (some ⟨b,off,none⟩)=>
   nZ X.P t <| if v.cells.toList.length=X.P.cellsOf t/\cT v.cells.toList=true then eT H b off v.cells.toList/\∀H':aC,H'=fJ H b off v.cells.toList->K undef H' else False
  | _=>False)
 | .makeSlice t l c=>bP (ev l) λa=>bP (ev c) λb=>cB X.P (Instr.makeSlice t a b) H λv H'=>exT X.P t λu=>v=u/\K u H'
 | .mapUpdate t m k x|.insert t m k x=>bP (ev m) λa=>bP (ev k) λb=>bP (ev x) λv=>cB X.P (Instr.mapUpdate t a b v) H λ_ H'=>K undef H'
 | .mapEntry t m k=>bP (ev m) λa=>bP (ev k) λb=>cB X.P (Instr.mapEntry t a b) H λv H'=>(match X.P.underlying t with
  | some (.map _ e)=>exT X.P e λu=>∃n:Int,v=.tuple #[u,.int .i64 n]/\K (.tuple #[u,.int .i64 n]) H'
  | _=>False)
 | .entryStore t m k x=>bP (ev m) λa=>bP (ev k) λb=>bP (ev x) λv=>cB X.P (Instr.entryStore t a b v) H λ_ H'=>K undef H'
 | .range t x=>bP (ev x) λv=>cB X.P (Instr.range t v) H λu H'=>∃r:Nat,u=.pointer (some ⟨r,0,none⟩)/\K (.pointer (some ⟨r,0,none⟩)) H'
 | .next it s=>bP (ev it) λv=>cB X.P (Instr.next v s o.type) H λu H'=>(u=.tuple #[.bool false]/\K (.tuple #[.bool false]) H')\/∃k x:Value,u=.tuple #[.bool true,k,x]/\K (.tuple #[.bool true,k,x]) H'
 | .convert s d x=>bP (ev x) λv=>cB X.P (convert s d v) H λu H'=>exT X.P d λu'=>u=u'/\K u' H'
 | .call cl=>(match cl.callee with
  | .value (.func f)=>if bI f X.calls=false then False else bP (gY ev cl.args.toList) λvs=>bP (vh X.P o.type) λss=>(match bI f X.pan with
   | true=>nj X.P f ⟨vs⟩ H (λv H'=>lr ss λu=>v=u/\K u H') X.kp
   | false=>iM X.P f ⟨vs⟩ H λv H'=>lr ss λu=>v=u/\K u H')
  | .value x=>bP (ev x) λfv=>bP (gY ev cl.args.toList) λvs=>bP (vh X.P o.type) λss=>(match fv with
   | .func (.func f) first cap=>bI f X.calls=true/\iM X.P f ⟨first.toList++vs++cap.toList⟩ H λv H'=>lr ss λu=>v=u/\K u H'
   | .func (.yield l) ⟨[]⟩ ⟨[]⟩=>fI X.P l vs H λv H'=>lr ss λu=>v=u/\K u H'
   | _=>False)
  | .builtin .append=>bP (gY ev cl.args.toList) λvs=>cB X.P (Builtin.append_ cl.argTypes o.type ⟨vs⟩) H λv H'=>∃(a:KQ) (n c:Nat),v=.slice a n c/\K (.slice a n c) H'
  | .builtin .copy=>bP (gY ev cl.args.toList) λvs=>cB X.P (Builtin.copy_ cl.argTypes o.type ⟨vs⟩) H λv H'=>∃n:Int,v=.int .i64 n/\K (.int .i64 n) H'
  | .builtin .delete=>bP (gY ev cl.args.toList) λvs=>cB X.P (Builtin.delete_ cl.argTypes o.type ⟨vs⟩) H λv H'=>K v H'
  | .builtin .clear=>bP (gY ev cl.args.toList) λvs=>cB X.P (Builtin.clear_ cl.argTypes o.type ⟨vs⟩) H λv H'=>K v H'
  | _=>False)
 | .panic x=>bP (ev x) λv=>panP v X.kp H
 | _=>False
def basicT(P:Program)(t:TypeId):Bool:=match P.underlying t with|some .string|some (.slice _)|some (.array _ _)=>true|_=>false
def intOrStr(P:Program)(t:TypeId):Bool:=match P.underlying t with|some (.int _)|some .string=>true|_=>false
def mf(X:Ctx)(op:Op):Kind:=
 match op with
 | .move _|.assign _|.pick _ _ _|.nilCheck _|.binOp _ _ _ _ _|.unOp _ _ _|.fieldAddr _ _ _|.field _ _ _|.indexAddr _ _ _|.index _ _ _|.extract _ _|.slice _ _ _ _ _|.build _ _|.makeInterface _ _|.typeAssert _ _ _ _|.makeFunc _ _ _=>.P
 | .convert s d _=>match intOrStr X.P s,X.P.underlying d with
  | true,some (.int _)=>.P
  | true,some .string=>(match X.P.underlying s with|some .string=>.P|_=>.W)
  | false,some .string=>.R
  | _,_=>.W
 | .load _ _|.lookup _ _ _ _|.entry _=>.R
 | .call cl=>match cl.callee,cl.argTypes.toList with
  | .builtin .len,t::_=>if basicT X.P t then .P else .R
  | .builtin .max,_|.builtin .min,_=>.P
  | .value (.func f),_=>if bI f X.quiet then .R else .W
  | _,_=>.W
 | _=>.W
abbrev aB:=Value.int .i64
abbrev PA(b o:Nat):Value:=.pointer (some ⟨b,o,none⟩)
abbrev IF(c:Bool)(p q:Prop):Prop:=(c=true->p)/\(c=false->q)
abbrev AL(H:aC)(cs:Os)(t:Nat)(k:Nat->aC->Prop):Prop:=∀(b:Nat) (H':aC),b=H.size->H'=H.push (.cells ⟨cs⟩ t)->k b H'
abbrev ST(H:aC)(b o:Nat)(vs:Os)(k:aC->Prop):Prop:=eT H b o vs/\∀H':aC,H'=fJ H b o vs->k H'
abbrev Z0:Nat->Int:=λ_=>0
theorem bW.refl(w:World):bW w w:=⟨rfl,rfl,rfl⟩
theorem bW.trans{a b c:World}(h:bW a b)(k:bW b c):bW a c:=⟨k.os.trans h.os,k.tape.trans h.tape,k.output.trans h.output⟩
theorem cell?_cellAt(w:World)(b o:Nat):w.cell? ⟨b,o,none⟩=aL w.heap b o:=by
 simp only[World.cell?,aL]
 cases w.heap[b]? with
 | none=>rfl
 | some x=>cases x <;> simp
theorem frozen?_frozenAt(w:World)(b o:Nat):w.frozen? ⟨b,o,none⟩=md w.heap b o:=rfl
theorem ye(w:World)(b o:Nat)(v:Value):(w.setCell ⟨b,o,none⟩ v).heap=iJ w.heap b o v:=by
 simp only[World.setCell,iJ];rfl
theorem fq{P:Program}{t:TypeId}{d:TypeDesc}(h:P.underlying t=some d)(w:World):(underlying t).run P w=.ok d w:=by
 simp[underlying,h]
theorem mg(P:Program)(t:TypeId)(h:P.info? t≠none)(w:World):(sizeOf t).run P w=.ok (P.cellsOf t) w:=by
 cases hi:P.info? t with
 | none=>exact V6 hi h
 | some i=>simp[sizeOf,typeInfo,hi,Program.cellsOf]
theorem MI{P:Program}{t:TypeId}{d:TypeDesc}(h:P.underlying t=some d):P.info? t≠none:=by
 intro h0;simp[Program.underlying,h0]at h
theorem eH{α:Type}(l:List α)(n:Nat):aT l n=l[n]?:=by
 induction l generalizing n with
 | nil=>simp[aT]
 | cons a r ih=>cases n <;> simp[aT,ih]
theorem yf{α:Type}(l:List α)(n:Nat)(x:α):iq l n x=l.set n x:=by
 induction l generalizing n with
 | nil=>simp[iq]
 | cons a r ih=>cases n <;> simp[iq,ih]
theorem yg(a b:Value):pN true a b=a:=by unfold pN;split <;> rfl
theorem yh(a b:Value):pN false a b=b:=by unfold pN;split <;> rfl
section
variable {X:Ctx}{ρ:Operand->Value}{ev:Operand->Option Value}{pk:Operand->Operand->Operand->Option (Bool×Value×Value)}{c:Option Prop}{G:Prop}
theorem bK{α:Type}{o:Option α}{K:α->Prop}(h:bP o K):∃v,o=some v/\K v:=by
 cases o with
 | none=>exact h.elim
 | some v=>exact⟨v,rfl,h⟩
theorem nk(a:∀x v,ev x=some v->G->ρ x=v):∀(l:List Operand) (vs:Os),gY ev l=some vs->G->l.map ρ=vs
 | [],vs,h,_=>by simp[gY]at h;simp[h]
 | x::r,vs,h,g=>by
  simp only[gY]at h
  cases h1:ev x with
  | none=>simp[h1]at h
  | some v=>cases h2:gY ev r with
   | none=>simp[h1,h2]at h
   | some vs'=>
    simp only[h1,h2,Option.some.injEq]at h;subst h;simp[a x v h1 g,nk a r vs' h2 g]
theorem yi(a:∀x v,ev x=some v->G->ρ x=v):∀(l:List (Nat×Operand)) (vs:List (Nat×Value)),oI ev l=some vs->G->l.map (λp=>(p.1,ρ p.2))=vs
 | [],vs,h,_=>by simp[oI]at h;simp[h]
 | (i,x)::r,vs,h,g=>by
  simp only[oI]at h
  cases h1:ev x with
  | none=>simp[h1]at h
  | some v=>cases h2:oI ev r with
   | none=>simp[h1,h2]at h
   | some vs'=>
    simp only[h1,h2,Option.some.injEq]at h;subst h;simp[a x v h1 g,yi a r vs' h2 g]
theorem BZ(a:∀x v,ev x=some v->G->ρ x=v)(o:Option Operand)(v:Option Value)(h:qV ev o=some v)(g:G):o.map ρ=v:=by
 cases o with
 | none=>simp[qV]at h;simp[h]
 | some x=>cases h1:ev x with
  | none=>simp[qV,h1]at h
  | some u=>simp[qV,h1]at h;subst h;simp[a x u h1 g]
theorem MJ{P:Program}(op:BinOp)(t:TypeId)(k:IntKind)(x y:Int){K:Value->Prop}(a:∀p,gt c p->G->p)(h:xU op k x y c K) :
  ∃v,K v/\(G->∀w,(Go.binOp op t (.int k x) (.int k y)).run P w=.ok v w):=by
 cases op <;> simp only[xU]at h
 case quo=>exact⟨_,h.2,λg w=>by simp[Go.binOp,Op.intDiv,a _ h.1 g]⟩
 case rem=>exact⟨_,h.2,λg w=>by simp[Go.binOp,Op.intDiv,a _ h.1 g]⟩
 case shl=>exact⟨_,h.2,λg w=>by have:=a _ h.1 g;simp[Go.binOp,Op.shift];omega⟩
 case shr=>exact⟨_,h.2,λg w=>by have:=a _ h.1 g;simp[Go.binOp,Op.shift];omega⟩
 case eql=>exact⟨_,h,λ_ w=>by simp[Go.binOp,Op.intCmp];by_cases e:x=y <;> simp[e]⟩
 case neq=>exact⟨_,h,λ_ w=>by simp[Go.binOp,Op.intCmp];by_cases e:x=y <;> simp[e]⟩
 all_goals exact⟨_,h,λ_ w=>by simp[Go.binOp,Op.intArith,Op.intBits,Op.intCmp,aY]⟩
theorem ML{P:Program}(op:BinOp)(t:TypeId)(x y:Fa){K:Value->Prop}(a:∀p,gt c p->G->p)(h:xV op x y c K) :
  ∃v,K v/\(G->∀w,(Go.binOp op t (.string x) (.string y)).run P w=.ok v w):=by
 cases op <;> simp only[xV]at h
 case add=>exact⟨_,h.2,λg w=>by
  have:=a _ h.1 g;simp only[Go.binOp,Op.stringOp];rw[nO];rfl⟩
 all_goals exact⟨_,h,λ_ w=>by simp[Go.binOp,Op.stringOp]⟩
theorem yj(op:BinOp)(t:TypeId)(f e:Operand)(a b:Value)(P:Program)(w:World)(d:a≠.nilIface\/b≠.nilIface)(c:∀x y,a≠.agg x\/b≠.agg y):(eqGuard op t f e a b).run P w=.ok () w:=by
 unfold eqGuard
 cases op
 case eql=>
  rw[V4 (by simp)]
  split
  .simp at d
  .rename_i x y;have:=c x y;simp at this
  .rfl
 case neq=>
  rw[V4 (by simp)]
  split
  .simp at d
  .rename_i x y;have:=c x y;simp at this
  .rfl
 all_goals rfl
theorem MM(t:TypeId)(x y:Value):Op.equal t x y=Op.equalIn (9999+1) t x y:=rfl
theorem eqNil_in{P:Program}{t:TypeId}{d:TypeDesc}{x y:Value}{b:Bool}(hd:P.underlying t=some d)(h:pM (some d) x y=some b)(n:Nat)(w:World) :
  (Op.equalIn (n+1) t x y).run P w=.ok b w/\(x≠.nilIface\/y≠.nilIface)/\(∀u v,x≠.agg u\/y≠.agg v):=by
 unfold pM at h
 split at h
 all_goals (try cases h)
 all_goals (rename_i c;cases c)
 case h_2=>rename_i a;cases a <;> simp[Op.equalIn,fq hd]
 case h_3=>rename_i a _ _ _ _;cases a <;> simp[Op.equalIn,fq hd]
 case h_4=>rename_i a;cases a <;> simp[Op.equalIn,fq hd]
 all_goals simp[Op.equalIn,fq hd]
theorem Ca{P:Program}{t:TypeId}{x y:Value}{b:Bool}(h:pM (P.underlying t) x y=some b)(f e:Operand)(op:BinOp)(w:World) :
  (Op.equal t x y).run P w=.ok b w/\(eqGuard op t f e x y).run P w=.ok () w:=by
 cases hd:P.underlying t with
 | none=>rw[hd]at h;simp[pM]at h
 | some d=>
  rw[hd]at h;rw[MM];obtain⟨i,a,c⟩:=eqNil_in hd h 9999 w;exact⟨i,yj _ _ _ _ _ _ _ _ a c⟩
end
section
variable {X:Ctx}{ρ:Operand->Value}{ev:Operand->Option Value}{c:Option Prop}{G:Prop}{P:Program}{K:Value->Prop}
theorem MN(op:BinOp)(t:TypeId)(x y:Value)(i f:Operand)(m:∀p,gt c p->G->p)(h:binP P op t x y c K) :
  ∃v,K v/\(G->∀w,(do eqGuard op t i f x y;Go.binOp op t x y:Sem Value).run P w=.ok v w):=by
 unfold binP at h
 split at h
 .rename_i k a s b;have j:∀w,(eqGuard op t i f (.int k a) (.int s b)).run P w=.ok () w:=λw=>yj _ _ _ _ _ _ _ _ (by simp) (by simp)
  split at h
  .rename_i n;subst n;obtain⟨v,e,d⟩:=MJ (P:=P) op t k a b m h;exact⟨v,e,λg w=>by simp[j,d g w]⟩
  .rename_i n
   split at h
   .exact⟨_,h.2,λg w=>by have:=m _ h.1 g;simp[j,Go.binOp,Op.shift];omega⟩
   .exact⟨_,h.2,λg w=>by have:=m _ h.1 g;simp[j,Go.binOp,Op.shift];omega⟩
   .exact h.elim
 .rename_i a b;have j:∀w,(eqGuard op t i f (.string a) (.string b)).run P w=.ok () w:=λw=>yj _ _ _ _ _ _ _ _ (by simp) (by simp)
  obtain⟨v,e,d⟩:=ML (P:=P) op t a b m h;exact⟨v,e,λg w=>by simp[j,d g w]⟩
 .rename_i hi hs
  split at h
  .rename_i b hb;refine⟨_,h,λ_ w=>?_⟩
   obtain⟨e,d⟩:=Ca hb i f .eql w;have:(Go.binOp .eql t x y).run P w=.ok (.bool b) w:=by
    unfold pM at hb
    split at hb <;> cases hb <;> (show Sem.run P (do pure (Value.bool (<-Op.equal t _ _))) w=_;simp[e])
   simp[d,this]
  .rename_i b hb;refine⟨_,h,λ_ w=>?_⟩
   obtain⟨e,d⟩:=Ca hb i f .neq w;have:(Go.binOp .neq t x y).run P w=.ok (.bool (!b)) w:=by
    unfold pM at hb
    split at hb <;> cases hb <;> (show Sem.run P (do pure (Value.bool (!(<-Op.equal t _ _)))) w=_;simp[e])
   simp[d,this]
  .obtain⟨b,e,d⟩:=h;exact⟨_,d,λg w=>m _ e g i f w⟩
  .exact h.elim
theorem MO(op:UnOp)(x:Value)(h:unP op x K):∃v,K v/\∀w,(Op.unary op x).run P w=.ok v w:=by
 unfold unP at h
 split at h
 .exact⟨_,h,λw=>by simp[Op.unary,Op.intArith]⟩
 .exact⟨_,h,λw=>by simp[Op.unary,Op.intBits,aY]⟩
 .exact⟨_,h,λw=>by simp[Op.unary]⟩
 .exact h.elim
theorem pQ(k:IntKind)(n:Int)(y:Nat)(code:BoundsCode)(w:World)(h:0<=n/\n<=(y:Int)):(Instr.sliceBound (.int k n) y code).run P w=.ok n.toNat w:=by
 simp[Instr.sliceBound,asIntOf,h]
theorem yk(b:Bool)(len cap:Nat)(lo hi:Option Value)(l h:Int)(w:World)
  (c:lo=none/\l=0\/∃k,lo=some (.int k l)) (a:hi=none/\h=(len:Int)\/∃k,hi=some (.int k h))
  (hb:0<=l/\l<=h/\h<=(cap:Int)):(Instr.sliceBounds b len cap lo hi none).run P w=.ok (l.toNat,h.toNat,cap) w:=by
 unfold Instr.sliceBounds
 rcases a with ⟨rfl,rfl⟩|⟨k,rfl⟩ <;> rcases c with ⟨rfl,rfl⟩|⟨d,rfl⟩
 .simp
 .simp [pQ d l len _ w ⟨hb.1,hb.2.1⟩]
 .simp [pQ k h cap _ w ⟨by omega,hb.2.2⟩]
 .have:=pQ (P:=P) d l h.toNat .sliceB w ⟨hb.1,by omega⟩;simp[pQ k h cap _ w ⟨by omega,hb.2.2⟩,this]
theorem vk{x:Value}{Kn:Int->Prop}(h:iO x Kn):∃k n,x=.int k n/\Kn n:=by
 unfold iO at h
 split at h
 .exact⟨_,_,rfl,h⟩
 .exact h.elim
theorem yl{α:Type}{lo hi:Option Value}{len:Int}{go:Int->Int->Prop}
  (c:match lo,hi with
   | some l,some h=>iO l λl=>iO h λh=>go l h
   | some l,none=>iO l λl=>go l len
   | none,some h=>iO h λh=>go 0 h
   | none,none=>go 0 len) (_:α) :
  ∃l h,go l h/\(lo=none/\l=0\/∃k,lo=some (.int k l))/\(hi=none/\h=len\/∃k,hi=some (.int k h)):=by
 cases lo with
 | none=>cases hi with
  | none=>exact⟨0,len,c,.inl ⟨rfl,rfl⟩,.inl ⟨rfl,rfl⟩⟩
  | some b=>
   obtain⟨k,n,hb,c⟩:=vk c;exact⟨0,n,c,.inl ⟨rfl,rfl⟩,.inr ⟨k,by rw[hb]⟩⟩
 | some a=>cases hi with
  | none=>
   obtain⟨k,n,d,c⟩:=vk c;exact⟨n,len,c,.inr ⟨k,by rw[d]⟩,.inl ⟨rfl,rfl⟩⟩
  | some b=>
   obtain⟨k,n,d,c⟩:=vk c;obtain⟨e,f,hb,c⟩:=vk c;exact⟨n,f,c,.inr ⟨k,by rw[d]⟩,.inr ⟨e,by rw[hb]⟩⟩
theorem pR{t:TypeId}{q:Prop}(h:nZ P t q):P.info? t≠none/\P.cellsOf t≠0/\q:=by
 unfold nZ at h
 split at h
 .exact h.elim
 .rename_i n a;refine⟨λh0=>?_,by omega,h⟩
  simp[Program.cellsOf,h0]at a
theorem MQ(t:TypeId)(x:Value)(lo hi:Option Value)(u:∀p,gt c p->G->p)(h:xW P t x lo hi c K) :
  ∃v,K v/\(G->∀w,(Instr.sliceAt t x lo hi none).run P w=.ok v w):=by
 unfold xW at h
 split at h
 .rename_i s k;obtain⟨l,f,⟨j,d⟩,i,m⟩:=yl h ();refine⟨_,d,λg w=>?_⟩
  have hb:=yk (P:=P) false s.size s.size lo hi l f w i m (u _ j g);simp[Instr.sliceAt,Instr.slice,fq k,hb]
 .rename_i e a len cap k;obtain⟨b,y,h⟩:=pR h;obtain⟨l,f,⟨j,d⟩,i,m⟩:=yl h ();refine⟨_,d,λg w=>?_⟩
  have hb:=yk (P:=P) true len cap lo hi l f w i m (u _ j g);simp[Instr.sliceAt,Instr.slice,fq k,hb,mg P e b,cq]
 .rename_i n e a k;obtain⟨b,y,h⟩:=pR h;obtain⟨l,f,⟨j,d⟩,i,m⟩:=yl h ();refine⟨_,d,λg w=>?_⟩
  have hb:=yk (P:=P) false n n lo hi l f w i m (u _ j g);simp[Instr.sliceAt,Instr.sureAddr,fq k,hb,mg P e b,cq]
  split <;> rfl
 .exact h.elim
theorem MT(t:TypeId)(x l h m:Value)(d:∀p,gt c p->G->p)(hs:xX P t x l h m c K) :
  ∃v,K v/\(G->∀w,(Instr.sliceAt t x (some l) (some h) (some m)).run P w=.ok v w):=by
 unfold xX at hs
 split at hs
 .rename_i e a len cap k1 l k2 h k3 m f;obtain⟨b,i,hs⟩:=pR hs;refine⟨_,hs.2,λg w=>?_⟩
  obtain⟨b1,b2,b3,b4⟩:=d _ hs.1 g;have r1:=pQ (P:=P) k3 m cap .slice3Acap w ⟨by omega,b4⟩;have r2:=pQ (P:=P) k2 h m.toNat .slice3B w ⟨by omega,by omega⟩;have r3:=pQ (P:=P) k1 l h.toNat .slice3C w ⟨b1,by omega⟩;simp[Instr.sliceAt,Instr.slice,Instr.sliceBounds,fq f,r1,r2,r3,mg P e b,cq]
 .exact hs.elim
theorem Cb{l:cU}{Q:Value->Prop}(h:l.ex Q):∃v,Q v:=by
 cases l <;> simp only[cU.ex]at h
 case slice=>obtain⟨a,n,c,h⟩:=h;exact⟨_,h⟩
 case fnv=>obtain⟨a,c,h⟩:=h;exact⟨_,h⟩
 case adr=>obtain⟨a,c,h⟩:=h;exact⟨_,h⟩
 all_goals (obtain⟨a,h⟩:=h;exact⟨_,h⟩)
theorem te:∀{ls:List cU} {Q:Os->Prop},exLs ls Q->∃b,Q b
 | [],_,h=>⟨[],h⟩
 | .vec k n::r,_,h=>by
  obtain⟨f,c⟩:=h;obtain⟨b,a⟩:=te (ls:=r) c;exact⟨_,a⟩
 | .int k::r,_,h|.bool::r,_,h|.str::r,_,h|.ptr::r,_,h|.slice::r,_,h|.map::r,_,h|.raw::r,_,h|.fnv::r,_,h|.adr::r,_,h=>by
  obtain⟨v,d⟩:=Cb h;obtain⟨b,a⟩:=te (ls:=r) d;exact⟨_,a⟩
theorem oJ{s:Sh}{Q:Value->Prop}(h:s.ex Q):∃v,Q v:=by
 cases s with
 | one l=>exact Cb h
 | agg ls=>obtain⟨a,h⟩:=te (ls:=ls) h;exact⟨_,h⟩
theorem Cc:∀{ls:List Sh} {Q:Os->Prop},pI ls Q->∃b,Q b
 | [],_,h=>⟨[],h⟩
 | l::r,_,h=>by
  obtain⟨v,c⟩:=oJ (s:=l) h;obtain⟨b,a⟩:=Cc (ls:=r) c;exact⟨_,a⟩
theorem tf{ls:List Sh}{Q:Value->Prop}(h:lr ls Q):∃v,Q v:=by
 match ls,h with
 | [],h=>exact⟨_,h⟩
 | [s],h=>exact oJ (s:=s) h
 | s::t::r,h=>
  have b:pI (s::t::r) λa=>Q (.tuple ⟨a⟩):=h
  obtain⟨a,h⟩:=Cc b;exact⟨_,h⟩
theorem pT{t:TypeId}{Q:Value->Prop}(h:exT P t Q):∃v,Q v:=by
 unfold exT at h
 split at h
 .exact oJ h
 .exact h.elim
theorem bAt_get(s:Fa)(n:Int)(h:0<=n/\n<(s.size:Int)):∃b,(if 0<=n then s[n.toNat]? else none)=some b/\(b.toNat:Int)=bAt s n.toNat:=by
 have a:n.toNat<s.size:=by omega
 refine⟨s[n.toNat],?_,?_⟩
 .rw [V5 h.1];exact getElem?_pos s n.toNat a
 .unfold bAt;have hd:n.toNat<s.data.size:=a;rw[Array.getElem?_eq_getElem hd];rfl
theorem MV(t:TypeId)(x i:Value)(e:∀p,gt c p->G->p)(h:xY P t x i c K) :
  ∃v,K v/\(G->∀w,(Instr.index t x i).run P w=.ok v w):=by
 unfold xY at h
 split at h
 .rename_i s k n f;refine⟨_,h.2,λg w=>?_⟩
  obtain⟨b,d,a⟩:=bAt_get s n (e _ h.1 g);simp only[Instr.index,asIntOf,Sem.run_bind,Sem.run_pure,Result.andThen_ok,fq f,d,a]
 .split at h
  .obtain⟨v,d,a⟩:=oJ h;exact⟨v,a,λg w=>e _ d g w⟩
  .exact h.elim
 .exact h.elim
theorem tg(b o n:Nat):(⟨b,o,none⟩:Addr).add n=⟨b,o+n,none⟩:=by
 unfold Addr.add
 split
 .rename_i h;simp[h]
 .rfl
theorem MW(t:TypeId)(x i:Value)(f:∀p,gt c p->G->p)(h:xZ P t x i c K) :
  ∃v,K v/\(G->∀w,(Instr.indexAt t x i).run P w=.ok v w):=by
 unfold xZ at h
 split at h
 .rename_i e a len _ k n j;obtain⟨d,A,u,b,o,m,s⟩:=pR h;refine⟨_,s,λg w=>?_⟩
  have hb:=f _ u g;have y:=f _ m g;subst y;simp[Instr.indexAt,asIntOf,fq j,hb,mg P e d,tg,BW]
 .rename_i len e b o k n j;obtain⟨d,A,h⟩:=pR h;refine⟨_,h.2,λg w=>?_⟩
  have hb:=f _ h.1 g;simp[Instr.indexAt,Instr.sureAddr,asIntOf,fq j,hb,mg P e d,tg,BW]
 .exact h.elim
theorem MX(t:TypeId)(x:Value)(f:Nat)(h:ya P t x f K) :
  ∃v,K v/\∀w,(Instr.fieldAt t x f).run P w=.ok v w:=by
 unfold ya at h
 split at h
 .rename_i j b o e
  split at h
  .rename_i k d;obtain⟨a,i,h⟩:=pR h;refine⟨_,h,λw=>?_⟩
   rw[eH]at d;have c:j[f]?=some k:=by simpa using d
   simp[Instr.fieldAt,fq e,c,Instr.sureAddr,fieldPlace,mg P _ a,i,tg]
  .exact h.elim
 .exact h.elim
theorem Cd(t:TypeId)(w:World)(h:P.underlying t≠none):(isAgg t).run P w=.ok (aggT P t) w:=by
 cases hd:P.underlying t with
 | none=>exact V6 hd h
 | some d=>cases d <;> simp[isAgg,fq hd,aggT,hd]
theorem MY{t:TypeId}(h:aggT P t=true):P.underlying t≠none:=by
 intro h0;simp[aggT,h0]at h
end
section
variable {X:Ctx}{ρ:Operand->Value}{ev:Operand->Option Value}{c:Option Prop}{G:Prop}{P:Program}{K:Value->Prop}
theorem vl{t:TypeId}{z:Os}(h:td P t=some z):∃v,v.cells.toList=z/\(∀w,(zeroValue t).run P w=.ok v w)/\P.info? t≠none:=by
 unfold td at h
 split at h
 .rename_i i hi
  split at h
  .rename_i v a
   cases h
   exact⟨v,rfl,λw=>by simp[zeroValue,typeInfo,hi,a],by simp[hi]⟩
  .cases h
 .cases h
theorem Ce(off:Nat):∀(l:Os) (k:Nat) (cells:Array Value),
  ((l.zipIdx k).foldl (λcs (x:Value×Nat)=>cs.setIfInBounds (off+x.2) x.1) cells).toList=ve cells.toList (off+k) l
 | [],_,_=>rfl
 | v::r,k,cells=>by
  simp only[List.zipIdx_cons,List.foldl_cons,ve];rw[Ce off r (k+1)];simp[yf,Wy]
theorem vm(a:Nat->Option (Nat×Nat)):∀(parts:List (Nat×Value)) (cells:Array Value) (l:Os),
  pP a cells.toList parts=some l->Instr.fill a cells parts=some ⟨l⟩
 | [],cells,l,h=>by simp[pP]at h;subst h;simp[Instr.fill]
 | (i,v)::rest,cells,l,h=>by
  simp only[pP]at h;simp only[Instr.fill]
  cases hp:a i with
  | none=>simp[hp]at h
  | some p=>
   obtain⟨off,size⟩:=p;simp only[hp]at h ⊢
   split at h
   .rename_i b;have c:v.cells.size=size:=by simpa using b.1
    have d:off+v.cells.size<=cells.size:=by have:=b.2;simp at this;omega
    rw[V4 (by simp;exact⟨c,by omega⟩)];have:=Ce off v.cells.toList 0 cells;refine vm a rest _ l ?_;rw[<-h];congr 1;rw[<-Array.foldl_toList,Array.toList_zipIdx];simpa using this
   .cases h
theorem Cf:∀(fs:List Field) (w:World),vf P fs=true->
  (fs.mapM (m:=Sem) λf=>do pure (f.offset,<-sizeOf f.type)).run P w=.ok (fs.map λf=>(f.offset,P.cellsOf f.type)) w
 | [],w,_=>by simp
 | f::r,w,h=>by
  simp only[vf,VB]at h;have hi:P.info? f.type≠none:=by intro h0;simp[h0]at h
  have a:=Cf r w h.2;simp only[bind_pure_comp]at a;simp[List.mapM_cons,mg P _ hi,a]
theorem MZ(t:TypeId)(parts:List (Nat×Value))(l:Os)(h:yc P t parts=some l)(w:World) :
  (Instr.build t parts.toArray).run P w=.ok (.agg ⟨l⟩) w:=by
 unfold yc at h
 split at h
 .rename_i z b u j;obtain⟨v,d,a,_⟩:=vl u
  split at h
  .rename_i y;have A:=Cf (P:=P) b.toList w y;have s:Instr.fill (λx=>(b.map λf=>(f.offset,P.cellsOf f.type))[x]?) v.cells parts=some ⟨l⟩:=by
    have:=vm (offOf P b.toList) parts v.cells l (by rw[d];exact h);rw[<-this];congr 1;funext i;simp only[offOf,eH]
    cases hfi:b.toList[i]? with
    | none=>simp at hfi ⊢;exact hfi
    | some f=>have c:b[i]?=some f:=by simpa using hfi
              simp[c]
   have k:(b.mapM (m:=Sem) λf=>do pure (f.offset,<-sizeOf f.type)).run P w=.ok (b.map λf=>(f.offset,P.cellsOf f.type)) w:=by
    rw[Array.mapM_eq_mapM_toList];simp only[Sem.run_map,A,Result.andThen_ok];congr 1;apply Array.ext';simp
   simp only[Instr.build,Sem.run_bind,a,Result.andThen_ok,fq j,k];simp only[s,Sem.run_pure]
  .cases h
 .rename_i z n e u j;obtain⟨v,d,a,_⟩:=vl u
  split at h
  .rename_i i hi;have s:=vm _ parts v.cells l (by rw[d];exact h);simp only[Instr.build,Sem.run_bind,a,Result.andThen_ok,fq j,mg P e (by simp[hi])];simp[s]
  .cases h
 .cases h
theorem Na(o:Oper)(x:Operand)(d:o.op=.nilCheck x)(k:∀p,gt c p->G->p)(h:uZ (ρ x) c K) :
  ∃v,K v/\(G->∀w,(execOp ρ o).run P w=.ok (.value v) w):=by
 unfold uZ at h
 split at h
 .rename_i a e;have key:∃p,gt c p/\(p->a=some ⟨aV a,aS a,none⟩)/\K (.pointer (some ⟨aV a,aS a,none⟩)):=by
   cases c with
   | none=>exact⟨_,(yb.1 h).1,id,(yb.1 h).2⟩
   | some c=>exact⟨isA a,h.1,isA_iff.1,h.2⟩
  obtain⟨p,m,j,i⟩:=key;refine⟨_,i,λg w=>?_⟩
  have:=j (k _ m g);generalize aV a=b at *;generalize aS a=o' at *;subst this;simp[execOp,d,e]
 .rename_i f a b e;exact⟨_,h,λ_ w=>by simp[execOp,d,e]⟩
 .rename_i f a b e;exact⟨_,h,λ_ w=>by simp[execOp,d,e]⟩
 .exact h.elim
theorem Nb(s d:TypeId)(x:Value)(h:convP P s d x K):∃v,K v/\∀w,(convert s d x).run P w=.ok v w:=by
 unfold convP at h
 split at h
 .rename_i a k c n hs hd;exact⟨_,h,λw=>by cases a <;> simp[convert,fq hs,fq hd,Conv.intToInt]⟩
 .rename_i a b hs hd;exact⟨_,h,λw=>by cases a <;> simp[convert,fq hs,fq hd]⟩
 .exact h.elim
theorem Nc(t:TypeId)(x:Value)(ts:Array TypeId)(f:TypeId)(args:Array Value)(b:ts[0]?=some t)(c:args[0]?=some x)(h:lenP P t x K) :
  ∃v,K v/\∀w,(Builtin.len_ ts f args).run P w=.ok v w:=by
 unfold lenP at h
 split at h
 .rename_i s d;exact⟨_,h,λw=>by simp[Builtin.len_,b,c,fq d,goInt]⟩
 .rename_i e a n i d;exact⟨_,h,λw=>by simp[Builtin.len_,b,c,fq d,goInt]⟩
 .rename_i x n e d;exact⟨_,h,λw=>by cases x <;> simp[Builtin.len_,b,c,fq d,goInt]⟩
 .exact h.elim
theorem Nd(vs:Os)(ts:Array TypeId)(t:TypeId)(h:mmP true vs K):∃v,K v/\∀w,(Builtin.max_ ts t ⟨vs⟩).run P w=.ok v w:=by
 unfold mmP at h
 split at h
 .exact⟨_,h,λw=>by simp[Builtin.max_,Builtin.max2]⟩
 .exact⟨_,h,λw=>by simp[Builtin.max_,Builtin.max2]⟩
 .exact h.elim
theorem Nf(vs:Os)(ts:Array TypeId)(t:TypeId)(h:mmP false vs K):∃v,K v/\∀w,(Builtin.min_ ts t ⟨vs⟩).run P w=.ok v w:=by
 unfold mmP at h
 split at h
 .exact⟨_,h,λw=>by simp[Builtin.min_,Builtin.min2]⟩
 .exact⟨_,h,λw=>by simp[Builtin.min_,Builtin.min2]⟩
 .exact h.elim
theorem Ng(op:BinOp)(t:TypeId)(x y:Value)(d a:Operand)(e:∀p,gt c p->G->p)(h:binQ P op t x y c K) :
  ∃v,K v/\(G->∀w,(do eqGuard op t d a x y;Go.binOp op t x y:Sem Value).run P w=.ok v w):=by
 unfold binQ at h
 split at h
 .obtain⟨b,i,f⟩:=h;exact⟨_,f,λg w=>e _ i g d a w⟩
 .exact MN op t x y d a e h
theorem Cg(o:Oper){pk:Operand->Operand->Operand->Option (Bool×Value×Value)}(E:∀p,gt c p->G->p)(j:∀x v,ev x=some v->G->ρ x=v)
  (M:∀a b d r,pk a b d=some r->G->ρ a=.bool r.1/\(r.1=true->ρ b=r.2.1)/\(r.1=false->ρ d=r.2.2)) (C:∀o v,o=.const v->ρ o=v) (T:P=X.P)
  (h:vg X ev pk c o.op K):∃v,K v/\(G->∀w,(execOp ρ o).run P w=.ok (.value v) w):=by
 subst T
 cases hop:o.op <;> rw[hop]at h <;> simp only[vg]at h <;> (try exact h.elim)
 case move x=>obtain⟨v,F,h⟩:=bK h;exact⟨v,h,λg w=>by simp[execOp,hop,j x v F g]⟩
 case assign x=>obtain⟨v,F,h⟩:=bK h;exact⟨v,h,λg w=>by simp[execOp,hop,j x v F g]⟩
 case pick a b d=>
  obtain⟨r,U,h⟩:=bK h;refine⟨_,h,λg w=>?_⟩
  obtain⟨n,k,S⟩:=M a b d r U g;obtain⟨q,x,y⟩:=r;have hb:∀u,b=.const (.bool u)->ρ b=.bool u:=λu e=>C b _ e
  have hd:∀u,d=.const (.bool u)->ρ d=.bool u:=λu e=>C d _ e
  cases q
  .have:sZ b d (false,x,y)=ρ d:=by
    unfold sZ;rw[S rfl]
    split
    .split
     .rename_i e;dsimp only at e ⊢;rw[e];rfl
     .exact yh _ _
    .split
     .split
      .have:=hd false rfl;rw[S rfl]at this;dsimp only at this ⊢;rw[this];rfl
      .exact yh _ _
     .exact yh _ _
   simp[execOp,hop,n,asBool,this]
  .have:sZ b d (true,x,y)=ρ b:=by
    unfold sZ;rw[k rfl]
    split
    .split
     .have:=hb true rfl;rw[k rfl]at this;dsimp only at this ⊢;rw[this];rfl
     .exact yg _ _
    .split
     .split
      .rename_i e;dsimp only at e ⊢;rw[e];rfl
      .exact yg _ _
     .exact yg _ _
   simp[execOp,hop,n,asBool,this]
 case nilCheck x=>
  obtain⟨v,F,h⟩:=bK h
  by_cases g:G
  .have Y:=j x v F g;obtain⟨u,n,k⟩:=Na (ρ:=ρ) (K:=K) (c:=c) (P:=X.P) o x hop E (by rw[Y];exact h);exact⟨u,n,k⟩
  .unfold uZ at h
   split at h
   .cases c with
    | none=>exact⟨_,(yb.1 h).2,λH=>V6 H g⟩
    | some c=>exact⟨_,h.2,λH=>V6 H g⟩
   .exact⟨_,h,λH=>V6 H g⟩
   .exact⟨_,h,λH=>V6 H g⟩
   .exact h.elim
 case binOp op t x y yt=>
  obtain⟨a,A,h⟩:=bK h;obtain⟨b,hb,h⟩:=bK h;obtain⟨v,n,k⟩:=Ng op t a b x y E h;refine⟨v,n,λg w=>?_⟩
  have:=k g w;simp only[Sem.run_bind]at this;simp only[execOp,hop,j x a A g,j y b hb g,Sem.run_bind,Sem.run_pure];generalize (eqGuard op t x y a b).run X.P w=r at this ⊢
  cases r with
  | halt hh w'=>simp at this
  | ok u w'=>
   simp only[Result.andThen_ok]at this ⊢;rw[this];rfl
 case unOp op t x=>
  obtain⟨a,A,h⟩:=bK h;obtain⟨v,n,k⟩:=MO (P:=X.P) op a h;exact⟨v,n,λg w=>by simp[execOp,hop,j x a A g,k w]⟩
 case convert s d x=>
  obtain⟨a,A,h⟩:=bK h;obtain⟨v,n,k⟩:=Nb s d a h;exact⟨v,n,λg w=>by simp[execOp,hop,j x a A g,k w]⟩
 case fieldAddr t x f=>
  obtain⟨a,A,h⟩:=bK h;obtain⟨v,n,k⟩:=MX t a f h;exact⟨v,n,λg w=>by simp[execOp,hop,j x a A g,k w]⟩
 case field t x f=>
  obtain⟨a,A,h⟩:=bK h;unfold fieldP at h
  split at h
  .split at h
   .split at h
    .obtain⟨v,n,k⟩:=oJ h;exact⟨v,k,λg w=>by simp[execOp,hop,j x a A g,E _ n g w]⟩
    .exact h.elim
   .exact h.elim
  .exact h.elim
 case indexAddr t x i=>
  obtain⟨a,A,h⟩:=bK h;obtain⟨b,hb,h⟩:=bK h;obtain⟨v,n,k⟩:=MW t a b E h;exact⟨v,n,λg w=>by simp[execOp,hop,j x a A g,j i b hb g,k g w]⟩
 case index t x i=>
  obtain⟨a,A,h⟩:=bK h;obtain⟨b,hb,h⟩:=bK h;obtain⟨v,n,k⟩:=MV t a b E h;exact⟨v,n,λg w=>by simp[execOp,hop,j x a A g,j i b hb g,k g w]⟩
 case extract t i=>
  obtain⟨a,A,h⟩:=bK h
  cases a <;> simp only at h
  case tuple vs=>
   obtain⟨v,F,h⟩:=bK h;rw[eH]at F;have L:vs[i]?=some v:=by simpa using F
   exact⟨v,h,λg w=>by simp[execOp,hop,j t _ A g,Instr.extract,L]⟩
 case slice t x lo hi mx=>
  cases mx with
  | some m=>
   cases lo with
   | none=>exact h.elim
   | some lo=>cases hi with
    | none=>exact h.elim
    | some hi=>
     obtain⟨a,A,h⟩:=bK h;obtain⟨l,I,h⟩:=bK h;obtain⟨u,Q,h⟩:=bK h;obtain⟨q,V,h⟩:=bK h;obtain⟨v,n,k⟩:=MT t a l u q E h;exact⟨v,n,λg w=>by simp[execOp,hop,j x a A g,j lo l I g,j hi u Q g,j m q V g,k g w]⟩
  | none=>
   obtain⟨a,A,h⟩:=bK h;obtain⟨l,I,h⟩:=bK h;obtain⟨u,Q,h⟩:=bK h;obtain⟨v,n,k⟩:=MQ t a l u E h;exact⟨v,n,λg w=>by simp[execOp,hop,j x a A g,BZ j lo l I g,BZ j hi u Q g,k g w]⟩
 case build t ps=>
  obtain⟨vs,B,h⟩:=bK h;obtain⟨l,I,h⟩:=bK h;refine⟨_,h,λg w=>?_⟩
  have hm:=yi j ps.toList vs B g;have hb:=MZ (P:=X.P) t vs l I w;have N:(ps.map λ(i,x)=>(i,ρ x))=vs.toArray:=by
   apply Array.ext';simp[<-hm]
  simp only[execOp,hop,N,Sem.run_bind,hb,Result.andThen_ok,Sem.run_pure]
 case makeInterface t x=>
  obtain⟨a,A,h⟩:=bK h
  split at h
  .exact h.elim
  .rename_i d hd Z;refine⟨_,h,λg w=>?_⟩
   have:∀m,d≠.interface m:=λm N=>hd m N
   cases d <;> first|(exact V6 rfl (this _))|simp[execOp,hop,j x a A g,Instr.makeInterface,fq Z]
  .exact h.elim
 case typeAssert x t u ok=>
  cases ok with
  | false=>exact h.elim
  | true=>
   obtain⟨a,A,h⟩:=bK h;obtain⟨y,R,n,k⟩:=pT h;exact⟨_,k,λg w=>by simp[execOp,hop,j x a A g,E _ n g w]⟩
 case makeFunc fn a b=>
  obtain⟨va,A,h⟩:=bK h;obtain⟨W,hb,h⟩:=bK h;refine⟨_,h,λg w=>?_⟩
  have e1:a.map ρ=⟨va⟩:=by apply Array.ext';simp[nk j _ _ A g]
  have e2:b.map ρ=⟨W⟩:=by apply Array.ext';simp[nk j _ _ hb g]
  simp[execOp,hop,e1,e2,Instr.makeFunc]
 case call cl=>
  split at h
  .rename_i t ts D O;obtain⟨vs,B,h⟩:=bK h
   split at h
   .rename_i v r;have J:cl.argTypes[0]?=some t:=by rw[<-Array.getElem?_toList,O];rfl
    obtain⟨u,n,k⟩:=Nc t v cl.argTypes o.type ⟨v::r⟩ J (by simp) h;refine⟨u,n,λg w=>?_⟩
    have e1:cl.args.map ρ=⟨v::r⟩:=by apply Array.ext';simp[nk j _ _ B g]
    simp[execOp,hop,resolve,D,e1,invoke,builtin,k w]
   .exact h.elim
  .rename_i D;obtain⟨vs,B,h⟩:=bK h;obtain⟨u,n,k⟩:=Nd (P:=X.P) vs cl.argTypes o.type h;refine⟨u,n,λg w=>?_⟩
   have e1:cl.args.map ρ=⟨vs⟩:=by apply Array.ext';simp[nk j _ _ B g]
   simp[execOp,hop,resolve,D,e1,invoke,builtin,k w]
  .rename_i D;obtain⟨vs,B,h⟩:=bK h;obtain⟨u,n,k⟩:=Nf (P:=X.P) vs cl.argTypes o.type h;refine⟨u,n,λg w=>?_⟩
   have e1:cl.args.map ρ=⟨vs⟩:=by apply Array.ext';simp[nk j _ _ B g]
   simp[execOp,hop,resolve,D,e1,invoke,builtin,k w]
  .exact h.elim
end
def gw(P:Program)(w:World)(KP:KE)(K:KE):Result Next->Prop
 | .ok (.value v) w'=>bW w w'/\K v w'.heap
 | .ok .skip w'=>bW w w'/\K undef w'.heap
 | .ok (.enter f args) w'=>w'=w/\Calls P f args w (iN w K KP)
 | .ok (.round l f tmps assign body) w'=>w'=w/\RoundIn Fence.wide 0 P l f tmps assign body w (iN w K KP)
 | .halt (.panic v) w'=>bW w w'/\KP v w'.heap
 | _=>False
theorem iN.mono{w:World}{K b KP a:KE}(j:∀v H,K v H->b v H)(d:∀v H,KP v H->a v H){e:Ending}{c:World}(h:iN w K KP e c):iN w b a e c:=by
 cases e <;> simp only[iN]at h ⊢
 case returned v=>exact⟨h.1,j _ _ h.2⟩
 case panicked chain=>obtain⟨v,k,f,i⟩:=h;exact⟨v,k,f,d _ _ i⟩
theorem Fin.toP{w:World}{K KP:KE}{e:Ending}{a:World}(h:Fin w K e a):iN w K KP e a:=by
 cases e <;> simp only[Fin]at h
 exact h
theorem iN.fin{w:World}{K:KE}{e:Ending}{a:World}(h:iN w K (λ_ _=>False) e a):Fin w K e a:=by
 cases e <;> simp only[iN]at h
 case returned v=>exact h
 case panicked chain=>obtain⟨v,_,_,h⟩:=h;exact h.elim
theorem gw.mono2{P:Program}{w:World}{K j KP a:KE}{r:Result Next}(h:gw P w KP K r)(b:∀v H,K v H->j v H)(c:∀v H,KP v H->a v H):gw P w a j r:=by
 cases r with
 | halt h' w'=>
  cases h' <;> simp only[gw]at h ⊢
  exact⟨h.1,c _ _ h.2⟩
 | ok n w'=>
  cases n <;> simp only[gw]at h ⊢
  case value v=>exact⟨h.1,b _ _ h.2⟩
  case skip=>exact⟨h.1,b _ _ h.2⟩
  case enter f args=>exact⟨h.1,h.2.mono λe i d=>d.mono b c⟩
  case round l f tmps assign body=>exact⟨h.1,h.2.mono λe i d=>d.mono b c⟩
theorem gw.mono{P:Program}{w:World}{KP K a:KE}{r:Result Next}(h:gw P w KP K r)(b:∀v H,K v H->a v H):gw P w KP a r:=h.mono2 b λ_ _ h=>h
section
variable {X:Ctx}{ρ:Operand->Value}{ev:Operand->Option Value}{c:Option Prop}{G:Prop}
theorem tj{P:Program}{f:FuncId}(hb:gF P f)(args:Array Value)(w:World):(callFunc f args).run P w=.ok (.enter f args) w:=by
 obtain⟨fn,c,a,b⟩:=hb;simp only[callFunc,Sem.run_bind,run_program,Result.andThen_ok,c,b,a,Ye,if_false,Sem.run_pure]
theorem Ch{P:Program}{w:World}{b o:Nat}{v:Value}(h:aL w.heap b o=some v):(load ⟨b,o,none⟩).run P w=.ok v w:=by
 simp[run_load,cell?_cellAt,h]
theorem Nh{H:aC}{b o:Nat}{v:Value}{r:Os}(h:bE H b o (v::r)):aL H b o=some v/\bE H b (o+1) r:=by
 cases r with
 | nil=>exact⟨h,trivial⟩
 | cons u r=>exact h
theorem Ci{P:Program}{w:World}{b:Nat}:∀(l:Os) (o i:Nat) (acc:Array Value),bE w.heap b (o+i) l->
  (loadCellsFrom ⟨b,o,none⟩ i l.length acc).run P w=.ok (acc++l.toArray) w
 | [],o,i,acc,_=>by simp[loadCellsFrom]
 | v::r,o,i,acc,h=>by
  obtain⟨d,a⟩:=Nh h;have c:=Ci (P:=P) r o (i+1) (acc.push v) (by rw[<-Wy];exact a);simp only[VE,loadCellsFrom,Sem.run_bind,tg,Ch d,Result.andThen_ok,c];simp
theorem Cj{P:Program}{t:TypeId}{Q:Value->Prop}(h:exT P t Q):P.underlying t≠none:=by
 intro h0;unfold exT pL at h;simp[sY,h0]at h
theorem Cm{P:Program}{w:World}{t:TypeId}{b off:Nat}{us:Os}(c:aggT P t=true)(i:us.length=P.cellsOf t)(h:bE w.heap b off us) :
  (Instr.loadAt t (.pointer (some ⟨b,off,none⟩))).run P w=.ok (.agg ⟨us⟩) w:=by
 have e:=MY c;have a:P.info? t≠none:=by
  cases hd:P.underlying t with
  | none=>exact V6 hd e
  | some d=>exact MI hd
 have f:=Ci (P:=P) (w:=w) (b:=b) us off 0 #[] (by simpa using h);simp only[Instr.loadAt,Instr.sureAddr,Sem.run_bind,Sem.run_pure,Result.andThen_ok,loadVar,Cd _ w e,c,if_true,mg P t a,loadCells,<-i,f];simp
theorem Cn{P:Program}{w:World}{t:TypeId}{b off:Nat}{u:Value}(c:P.underlying t≠none)(a:aggT P t=false)(h:aL w.heap b off=some u) :
  (Instr.loadAt t (.pointer (some ⟨b,off,none⟩))).run P w=.ok u w:=by
 simp only[Instr.loadAt,Instr.sureAddr,Sem.run_bind,Sem.run_pure,Result.andThen_ok,loadVar,Cd _ w c,a,Ye,if_false,Ch h]
theorem nl{P:Program}{w:World}{KP:KE}{v:Value}{r:Result Next}(h:r=.ok (.value v) w):gw P w KP (λa b=>a=v/\b=w.heap) r:=by
 subst h;exact⟨bW.refl w,rfl,rfl⟩
theorem Co{n:Nat}{l:List Nat}{q:Prop}(h:if bI n l=false then False else q):bI n l=true/\q:=by
 split at h
 .exact h.elim
 .rename_i a;exact⟨by simpa using a,h⟩
theorem Cp(o:Oper){H:aC}{K:Value->(aC->Prop)->Prop}(M:∀p,gt c p->G->p)(A:∀x v,ev x=some v->G->ρ x=v)(Z:∀f,bI f X.calls=true->gF X.P f)(hρ:∀f,ρ (.func f)=.func (.func f) #[] #[])
  (h:vi X ev c o H K):∃v E,K v E/\(∀q,c=some q->¬q->∀J,E J)/\(G->E H)/\(G->∀w,E w.heap->gw X.P w (λ_ _=>False) (λv' J=>v'=v/\J=w.heap) ((execOp ρ o).run X.P w)):=by
 unfold vi at h
 split at h
 .rename_i t x y;obtain⟨a,Y,h⟩:=bK h
  split at h
  .rename_i b off
   split at h
   .rename_i O;unfold uX at h
    split at h
    .rename_i V _;obtain⟨us,h⟩:=te (ls:=V) h
     split at h
     .rename_i R;refine⟨_,_,h.2,λq B C J=>by subst B;exact λj=>V6 j C,λg=>h.1,λg w D=>nl ?_⟩
      simp[execOp,y,A x _ Y g,Cm O R (M _ D g)]
     .exact h.elim
    .exact h.elim
   .rename_i O;have hu:=Cj h;obtain⟨u,F,I⟩:=pT h;refine⟨_,_,I,λq B C J=>by subst B;exact λj=>V6 j C,λg=>F,λg w D=>nl ?_⟩
    simp[execOp,y,A x _ Y g,Cn hu O (M _ D g)]
  .exact h.elim
 .rename_i t x i ok y;obtain⟨m,hm,h⟩:=bK h;obtain⟨k,W,h⟩:=bK h
  split at h
  .rename_i kt e ht;obtain⟨u,h⟩:=pT h
   split at h
   .obtain⟨U,F,I⟩:=h;refine⟨_,_,I,λq B C J=>by subst B;exact λj=>V6 j C,λg=>F,λg w D=>nl ?_⟩
    simp[execOp,y,A x _ hm g,A i _ W g,M _ D g w rfl]
   .refine⟨_,_,h.2,λq B C J=>by subst B;exact λj=>V6 j C,λg=>h.1,λg w D=>nl ?_⟩
    simp[execOp,y,A x _ hm g,A i _ W g,M _ D g w rfl]
  .exact h.elim
 .rename_i s d x y;obtain⟨v,T,h⟩:=bK h
  split at h
  .obtain⟨b,F,I⟩:=h;refine⟨_,_,I,λq B C J=>by subst B;exact λj=>V6 j C,λg=>F,λg w D=>nl ?_⟩
   simp[execOp,y,A x _ T g,M _ D g w rfl]
  .exact h.elim
 .rename_i it y;obtain⟨v,T,h⟩:=bK h
  split at h
  .obtain⟨k,h⟩:=oJ h;obtain⟨x,F,I⟩:=oJ h;refine⟨_,_,I,λq B C J=>by subst B;exact λj=>V6 j C,λg=>F,λg w D=>nl ?_⟩
   simp[execOp,y,A it _ T g,M _ D g w rfl]
  .exact h.elim
 .rename_i cl y
  split at h
  .rename_i f N
   split at h
   .obtain⟨Q,L,h⟩:=bK h;obtain⟨ss,S,h⟩:=bK h;obtain⟨u,F,I⟩:=tf h;refine⟨_,_,I,λq B C J=>by subst B;exact λj=>V6 j C,λg=>F,λg w D=>nl ?_⟩
    have e1:cl.args.map ρ=⟨Q⟩:=by apply Array.ext';simp[nk A _ _ L g]
    have h3:=M _ F g w;simp only[execOp,y,resolve,N,hρ,Deferred.ofValue,invoke,e1,Sem.run_bind,Sem.run_pure,Result.andThen_ok];simpa using h3
   obtain⟨hf,h⟩:=Co h;obtain⟨Q,L,h⟩:=bK h;obtain⟨ss,S,h⟩:=bK h;obtain⟨u,F,I⟩:=tf h;refine⟨_,_,I,λq B C J=>by subst B;exact λj=>V6 j C,λg=>F,λg w D=>?_⟩
   have e1:cl.args.map ρ=⟨Q⟩:=by apply Array.ext';simp[nk A _ _ L g]
   have e2:(execOp ρ o).run X.P w=.ok (.enter f ⟨Q⟩) w:=by
    simp only[execOp,y,resolve,N,hρ,Deferred.ofValue,invoke,e1,Sem.run_bind,Sem.run_pure,Result.andThen_ok];rw[tj (Z f hf)];simp
   rw[e2];exact⟨rfl,((M _ D g).at w rfl).mono λe w2 he=>he.toP⟩
  .rename_i N;obtain⟨Q,L,h⟩:=bK h;obtain⟨n,F,I⟩:=h;refine⟨_,_,I,λq B C J=>by subst B;exact λj=>V6 j C,λg=>F,λg w D=>nl ?_⟩
   have e1:cl.args.map ρ=⟨Q⟩:=by apply Array.ext';simp[nk A _ _ L g]
   simp[execOp,y,resolve,N,e1,invoke,builtin,M _ D g w rfl]
  .exact h.elim
 .exact h.elim
theorem Ni{P:Program}{w:World}{b o:Nat}{v:Value}(hs:(aL w.heap b o).isSome=true)(c:md w.heap b o=false)(d:cT [v]=true) :
  (store ⟨b,o,none⟩ v).run P w=.ok () (w.setCell ⟨b,o,none⟩ v):=by
 have a:v.oneCell'=true:=by cases v <;> simp[cT,Value.oneCell']at d ⊢
 rw[run_store P w _ v _ a,cell?_cellAt]
 cases hc:aL w.heap b o with
 | none=>simp[hc]at hs
 | some u=>simp[frozen?_frozenAt,c]
theorem ym{v:Value}{r:Os}(h:cT (v::r)=true):cT [v]=true/\cT r=true:=by
 cases v <;> simp[cT]at h ⊢ <;> exact h
theorem qW{P:Program}{b:Nat}:∀(l:Os) (o i:Nat) (w:World),eT w.heap b (o+i) l->(∀j,j<l.length->(aL w.heap b (o+i+j)).isSome=true/\md w.heap b (o+i+j)=false)->cT l=true->
  ∃d,(storeCells ⟨b,o,none⟩ l i).run P w=.ok () d/\bW w d/\d.heap=fJ w.heap b (o+i) l
 | [],o,i,w,_,_,_=>⟨w,rfl,bW.refl w,rfl⟩
 | v::r,o,i,w,h,ha,hp=>by
  obtain⟨k,m⟩:=ym hp;have h0:=ha 0 (by simp);have f:=Ni (P:=P) (w:=w) (b:=b) (o:=o+i) (v:=v) (by simpa using h0.1) (by simpa using h0.2) k;have a:∀x,(aL (iJ w.heap b (o+i) v) b x).isSome=(aL w.heap b x).isSome/\md (iJ w.heap b (o+i) v) b x=md w.heap b x:=by
   intro x;simp only[aL,md,iJ,Array.getElem?_modify]
   cases hb:w.heap[b]? with
   | none=>simp
   | some ob=>
    cases ob <;> simp[Array.getElem?_setIfInBounds]
    rename_i c e B
    split <;> (try split) <;> simp_all
  obtain⟨d,A,t,y⟩:=qW (P:=P) (b:=b) r o (i+1) (w.setCell ⟨b,o+i,none⟩ v) (by
    rw[ye]
    clear f
    have:∀(l:Os) (x:Nat),(∀j,j<l.length->(aL (iJ w.heap b (o+i) v) b (x+j)).isSome=true/\md (iJ w.heap b (o+i) v) b (x+j)=false)->eT (iJ w.heap b (o+i) v) b x l:=by
     intro l
     induction l with
     | nil=>intro x _;trivial
     | cons u l ih=>intro x s;exact⟨by simpa using s 0 (by simp),ih (x+1) (λj n=>by have:=s (j+1) (by simp;omega);rwa[show x+(j+1)=x+1+j by omega]at this)⟩
    refine this r _ λj n=>?_
    have:=ha (j+1) (by simp;omega);rw[(a _).1,(a _).2]
    rwa[show o+i+(j+1)=o+(i+1)+j by omega]at this) (λj n=>by
    rw[ye,(a _).1,(a _).2];have:=ha (j+1) (by simp;omega)
    rwa[show o+i+(j+1)=o+(i+1)+j by omega]at this) m
  refine⟨d,?_,?_,?_⟩
  .simp only[storeCells,Sem.run_bind,tg,f,Result.andThen_ok,A]
  .exact bW.trans (b:=w.setCell ⟨b,o+i,none⟩ v) ⟨rfl,rfl,rfl⟩ t
  .rw [y,ye];rfl
theorem qX{H:aC}{b:Nat}:∀(l:Os) (x:Nat),eT H b x l->∀j,j<l.length->(aL H b (x+j)).isSome=true/\md H b (x+j)=false
 | [],_,_,j,hj=>by simp at hj
 | _::r,x,h,0,_=>h.1
 | _::r,x,h,j+1,hj=>by
  have:=qX r (x+1) h.2 j (by simpa using hj)
  rwa[show x+1+j=x+(j+1) by omega]at this
theorem Nj{P:Program}{t:TypeId}{b off:Nat}{v:Value}{w:World}(f:v.cells.toList.length=P.cellsOf t)(hi:P.info? t≠none)(c:cT v.cells.toList=true)(h:eT w.heap b off v.cells.toList) :
  ∃a,(Instr.storeAt t (.pointer (some ⟨b,off,none⟩)) v).run P w=.ok () a/\bW w a/\a.heap=fJ w.heap b off v.cells.toList:=by
 obtain⟨a,i,d,e⟩:=qW (P:=P) (b:=b) v.cells.toList off 0 w (by simpa using h) (by simpa using qX _ _ h) c;refine⟨a,?_,d,by simpa using e⟩;simp only[Instr.storeAt,Instr.sureAddr,Sem.run_bind,Sem.run_pure,Result.andThen_ok,storeVar,mg P t hi];rw[V4 (by simpa using f)];simp only[i]
theorem od{P:Program}{s:Sem Value}{H:aC}{KP K:KE}{w:World}(d:w.heap=H)(h:cB P s H K):gw P w KP K ((do pure (Next.value (<-s)):Sem Next).run P w):=by
 obtain⟨a,f,e,b,c⟩:=h.at w d;simp only[Sem.run_bind,e,Result.andThen_ok,Sem.run_pure];exact⟨b,c⟩
theorem yn{P:Program}{s:Sem Unit}{H:aC}{KP:KE}{K:aC->Prop}{w:World}(e:w.heap=H)(h:cB P s H λ_ b=>K b):gw P w KP (λv b=>v=undef/\K b) ((do s;pure Next.skip:Sem Next).run P w):=by
 obtain⟨a,i,f,c,d⟩:=h.at w e;simp only[Sem.run_bind,f,Result.andThen_ok,Sem.run_pure];exact⟨c,rfl,d⟩
theorem Cq(z:Os)(a:z≠[]):∀(n i:Nat),i<n*z.length->(lx z n)[i]?=z[i%z.length]?
 | 0,i,h=>by simp at h
 | n+1,i,h=>by
  simp only[lx]
  by_cases hi:i<z.length
  .rw [List.getElem?_append_left hi,WJ hi]
  .rw [List.getElem?_append_right (by omega),Cq z a n (i-z.length) (by rw[Nat.succ_mul]at h;omega)];rw[<-Nat.mod_eq_sub_mod (by omega)]
theorem vo(z:Os):∀n,(lx z n).length=n*z.length
 | 0=>by simp[lx]
 | n+1=>by simp[lx,vo z n,Nat.succ_mul,Yj]
theorem Nk(z:Array Value)(n:Nat):(Array.range (n*z.size)).map (λi=>z[i%z.size]!)=⟨lx z.toList n⟩:=by
 apply Array.ext';apply WU;intro i
 by_cases hz:z.toList=[]
 .have:z.size=0:=by rw[<-WA,hz];rfl
  have d:(lx z.toList n).length=0:=by simp[vo,this]
  simp[this];omega
 by_cases hi:i<n*z.size
 .have c:=Cq z.toList hz n i (by simpa using hi);simp only[WA]at c;rw[c];have a:0<z.size:=by
   rw[<-WA];exact Yy.2 hz
  have b:=WB i a;simp[hi,b]
 .rw [List.getElem?_eq_none (by simp;omega),List.getElem?_eq_none (by rw[vo];simp;omega)]
theorem Nl{P:Program}(t e:TypeId)(n:Nat)(parts:List (Nat×Value))(l:Os)(x:P.underlying t=some (.slice e))(A:n*P.cellsOf e<=16777216)(h:yd P e n parts=some l)(w:World) :
  (Instr.buildSlice t n parts.toArray).run P w=.ok (.slice (some ⟨w.heap.size,0,none⟩) n n) (w.alloc (.cells ⟨l⟩ e)):=by
 unfold yd at h
 split at h
 .rename_i z y;obtain⟨v,m,c,d⟩:=vl y
  split at h
  .rename_i a;have b:v.cells.size=P.cellsOf e:=by rw[<-WA,m,a]
   have k:=vm _ parts ⟨lx z n⟩ l h;simp only[Instr.buildSlice,Sem.run_bind,fq x,Result.andThen_ok,mg P e d];rw[nO]
   by_cases h0:n*P.cellsOf e=0
   .have f:(lx z n).length=0:=by rw[vo,a,h0]
    have u:lx z n=[]:=WK.1 f;rw[u]at k;rw[V5 h0];have j:Instr.fill (λi=>some (i*P.cellsOf e,P.cellsOf e)) #[] parts=some ⟨l⟩:=k
    have s:Array.map (λ_:Nat=>(default:Value)) (Array.range 0)=#[]:=by simp
    simp[h0];rw[s,j];simp[newRow]
   .rw [V4 h0];have f:=Nk v.cells n;rw[b,m]at f;simp only[Sem.run_bind,c,Result.andThen_ok,Sem.run_pure,b,f,k];simp[newRow]
  .cases h
 .cases h
theorem Cr(o:Oper){H:aC}{K:KE}(A:∀x v,ev x=some v->ρ x=v)(hX:∀f,bI f X.calls=true->gF X.P f)(hρ:∀f,ρ (.func f)=.func (.func f) #[] #[])
  (h:vj X ev o H K):∀w,w.heap=H->gw X.P w X.kp K ((execOp ρ o).run X.P w):=by
 intro w I;have N:∀(l:Array Operand) L,gY ev l.toList=some L->l.map ρ=⟨L⟩:=λl L B=>by
  apply Array.ext';simp[nk (G:=True) (λx v h _=>A x v h) _ _ B trivial]
 have h4:∀(l:Array (Nat×Operand)) L,oI ev l.toList=some L->(l.map λ(i,x)=>(i,ρ x))=L.toArray:=λl L B=>by
  apply Array.ext';simp[<-yi (G:=True) (λx v h _=>A x v h) _ _ B trivial]
 unfold vj at h
 split at h
 .rename_i t j;obtain⟨z,hz,h⟩:=bK h;obtain⟨v,C,Q,_⟩:=vl hz;subst I;have:v.cells=⟨z⟩:=by apply Array.ext';simp[C]
  simp[execOp,j,Instr.alloc,Q,newVar,newRow,this];exact⟨⟨rfl,rfl,rfl⟩,h _ _ rfl rfl⟩
 .rename_i t x j;obtain⟨v,C,h⟩:=bK h;subst I;simp[execOp,j,Instr.box,A x v C,newVar,newRow];exact⟨⟨rfl,rfl,rfl⟩,h _ _ rfl rfl⟩
 .rename_i t n ps j;obtain⟨L,B,h⟩:=bK h
  split at h
  .rename_i e ht;obtain⟨l,h0,h⟩:=bK h
   split at h
   .rename_i hn;subst I;simp only[execOp,j,h4 ps L B,Sem.run_bind,Nl t e n L l ht hn h0 w,Result.andThen_ok,Sem.run_pure];exact⟨⟨rfl,rfl,rfl⟩,h _ _ rfl rfl⟩
   .exact h.elim
  .exact h.elim
 .rename_i t r j
  split at h
  .subst I;simp[execOp,j,Instr.makeMap];exact⟨⟨rfl,rfl,rfl⟩,h _ _ rfl rfl⟩
  .exact h.elim
 .rename_i t x y j;obtain⟨a,M,h⟩:=bK h;obtain⟨v,C,h⟩:=bK h
  split at h
  .rename_i b off;obtain⟨hi,_,h⟩:=pR h
   split at h
   .rename_i hc;subst I;obtain⟨w',F,D,h3⟩:=Nj hc.1 hi hc.2 h.1;simp only[execOp,j,A x _ M,A y v C,Sem.run_bind,F,Result.andThen_ok,Sem.run_pure];exact⟨D,h.2 _ h3⟩
   .exact h.elim
  .exact h.elim
 .rename_i t l c j;obtain⟨a,M,h⟩:=bK h;obtain⟨b,hb,h⟩:=bK h;have:=od (KP:=X.kp) I h;simp only[execOp,j,A l a M,A c b hb];exact this.mono λv J C=>by obtain⟨u,F,D⟩:=pT C;subst F;exact D
 .rename_i t m k x j;obtain⟨a,M,h⟩:=bK h;obtain⟨b,hb,h⟩:=bK h;obtain⟨v,C,h⟩:=bK h;simp only[execOp,j,A m a M,A k b hb,A x v C];exact (yn I h).mono λu J V=>by obtain⟨rfl,D⟩:=V;exact D
 .rename_i t m k x j;obtain⟨a,M,h⟩:=bK h;obtain⟨b,hb,h⟩:=bK h;obtain⟨v,C,h⟩:=bK h;simp only[execOp,j,A m a M,A k b hb,A x v C];exact (yn I h).mono λu J V=>by obtain⟨rfl,D⟩:=V;exact D
 .rename_i t m k j;obtain⟨a,M,h⟩:=bK h;obtain⟨b,hb,h⟩:=bK h;simp only[execOp,j,A m a M,A k b hb];refine (od I h).mono λv J C=>?_
  split at C
  .obtain⟨u,n,F,D⟩:=pT C;subst F;exact D
  .exact C.elim
 .rename_i t m k x j;obtain⟨a,M,h⟩:=bK h;obtain⟨b,hb,h⟩:=bK h;obtain⟨v,C,h⟩:=bK h;simp only[execOp,j,A m a M,A k b hb,A x v C];exact (yn I h).mono λu J V=>by obtain⟨rfl,D⟩:=V;exact D
 .rename_i t x j;obtain⟨a,M,h⟩:=bK h;simp only[execOp,j,A x a M];exact (od I h).mono λv J C=>by obtain⟨r,F,D⟩:=C;subst F;exact D
 .rename_i it s j;obtain⟨a,M,h⟩:=bK h;simp only[execOp,j,A it a M];refine (od I h).mono λv J C=>?_
  rcases C with ⟨F,D⟩|⟨k,x,F,D⟩
  .subst F;exact D
  .subst F;exact D
 .rename_i s d x j;obtain⟨a,M,h⟩:=bK h;simp only[execOp,j,A x a M];exact (od I h).mono λv J C=>by obtain⟨u,F,D⟩:=pT C;subst F;exact D
 .rename_i cl j
  split at h
  .rename_i f E;obtain⟨Z,h⟩:=Co h;obtain⟨L,B,h⟩:=bK h;obtain⟨O,Y,h⟩:=bK h;have e2:(execOp ρ o).run X.P w=.ok (.enter f ⟨L⟩) w:=by
    simp only[execOp,j,resolve,E,hρ,Deferred.ofValue,invoke,N _ _ B,Sem.run_bind,Sem.run_pure,Result.andThen_ok];rw[tj (hX f Z)];simp
   rw[e2];refine gw.mono (K:=λv J=>lr O λu=>v=u/\K u J) ?_ λv J C=>?_
   .split at h
    .exact⟨rfl,h.at w I⟩
    .exact⟨rfl,(h.at w I).mono λe S T=>T.toP⟩
   obtain⟨u,F,D⟩:=tf C;subst F;exact D
  .rename_i x hx E;obtain⟨W,R,hA⟩:=bK h
   clear h
   obtain⟨L,B,hB⟩:=bK hA
   clear hA
   obtain⟨O,Y,U⟩:=bK hB
   clear hB
   obtain⟨f,first,cap,rfl,h⟩|⟨l,rfl,h⟩:(∃f first cap,W=.func (.func f) first cap/\(bI f X.calls=true/\iM X.P f ⟨first.toList++L++cap.toList⟩ H λv J=>lr O λu=>v=u/\K u J))\/
     (∃l,W=.func (.yield l) #[] #[]/\fI X.P l L H λv J=>lr O λu=>v=u/\K u J):=by
    clear A hρ
    cases W <;> (try exact U.elim)
    rename_i fn first cap
    cases fn <;> (try exact U.elim)
    .exact .inl ⟨_,_,_,rfl,U⟩
    .rcases first with ⟨_|_⟩ <;> rcases cap with ⟨_|_⟩ <;> (try exact U.elim);exact .inr ⟨_,rfl,U⟩
   .obtain⟨Z,h⟩:=h;have e2:(execOp ρ o).run X.P w=.ok (.enter f ⟨first.toList++L++cap.toList⟩) w:=by
     simp only[execOp,j,resolve,E,A x _ R,Deferred.ofValue,invoke,N _ _ B,Sem.run_bind,Sem.run_pure,Result.andThen_ok];rw[tj (hX f Z)];simp
    rw[e2];refine gw.mono (K:=λv J=>lr O λu=>v=u/\K u J) ⟨rfl,(h.at w I).mono λe S T=>T.toP⟩ λv J C=>?_
    obtain⟨u,F,D⟩:=tf C;subst F;exact D
   .obtain⟨fn,tmps,assign,body,F,D⟩:=h.at w I;have e2:(execOp ρ o).run X.P w=.ok (.round l fn tmps assign body) w:=by
     simp only[execOp,j,resolve,E,A x _ R,Deferred.ofValue,invoke,N _ _ B,Sem.run_bind,Sem.run_pure,Result.andThen_ok];simpa using F
    rw[e2];refine gw.mono (K:=λv J=>lr O λu=>v=u/\K u J) ⟨rfl,D.mono λe S T=>T.toP⟩ λv J C=>?_
    obtain⟨u,F,D⟩:=tf C;subst F;exact D
  .rename_i E;obtain⟨L,B,h⟩:=bK h;have:=od (KP:=X.kp) I h;simp only[execOp,j,resolve,E,pure_bind,invoke,builtin,N _ _ B];exact this.mono λv J C=>by obtain⟨a,n,c,F,D⟩:=C;subst F;exact D
  .rename_i E;obtain⟨L,B,h⟩:=bK h;have:=od (KP:=X.kp) I h;simp only[execOp,j,resolve,E,pure_bind,invoke,builtin,N _ _ B];exact this.mono λv J C=>by obtain⟨n,F,D⟩:=C;subst F;exact D
  .rename_i E;obtain⟨L,B,h⟩:=bK h;have:=od (KP:=X.kp) I h;simp only[execOp,j,resolve,E,pure_bind,invoke,builtin,N _ _ B];exact this
  .rename_i E;obtain⟨L,B,h⟩:=bK h;have:=od (KP:=X.kp) I h;simp only[execOp,j,resolve,E,pure_bind,invoke,builtin,N _ _ B];exact this
  .exact h.elim
 .rename_i x j;obtain⟨v,C,h⟩:=bK h;unfold panP at h
  split at h
  .subst I;simp only[execOp,j,A x _ C,Sem.run_bind,run_panic_iface,Result.andThen];exact⟨bW.refl w,h⟩
  .exact h.elim
 .exact h.elim
end
abbrev kv:=List (Nat×Option (aC->Prop))
def pU(f:Option (aC->Prop))(H:aC):Prop:=match f with|none=>True|some p=>p H
section
variable {P:Program}{ops:Array Oper}
def qY(P:Program)(w0:World)(KP:KE)(ops:Array Oper)(i:Nat)(K:Act->aC->Prop)(a:Act)(H:aC):Prop:=
 ∀w,w.heap=H->bW w0 w->match ops[i]? with
  | none=>K a H
  | some o=>if Region.wanted o (yielded ops a.tmps) then gw P w KP (λv H'=>K (a.put o.dst v) H') ((execOp a.eval o).run P w) else K (a.put o.dst undef) H
theorem Cs{w0:World}{KP:KE}{i:Nat}{K d:Act->aC->Prop}{a:Act}{H:aC}(c:∀a H,K a H->d a H)(h:qY P w0 KP ops i K a H):qY P w0 KP ops i d a H:=by
 intro w f e;have:=h w f e
 cases ho:ops[i]? with
 | none=>simp only[ho]at this ⊢;exact c _ _ this
 | some o=>
  simp only[ho]at this ⊢
  split at this
  .rename_i b;rw[V5 b];exact this.mono λv j=>c _ _
  .rename_i b;rw[V4 b];exact c _ _ this
def nq(isW:Nat->Bool)(bf:Nat->Nat->Bool)(i:Nat)(pd:kv):kv:=if isW i then pd.filter (λx=>!bf i x.1) else pd
def pV(P:Program)(w0:World)(KP:KE)(ops:Array Oper)(isW:Nat->Bool)(bf:Nat->Nat->Bool)(Q:Act->aC->Prop):Nat->kv->Array Bool->Act->aC->Prop
 | 0,pd,listed,a,H=>(∀x∈pd,pU x.2 H)/\Region.ready .any ops listed=[]/\Q a H
 | n+1,pd,listed,a,H=>(∀x∈pd,pU x.2 H)/\(Region.ready .any ops listed=[]->Q a H)/\
  ∀i∈Region.ready .any ops listed,qY P w0 KP ops i (λa' H'=>pV P w0 KP ops isW bf Q n (nq isW bf i pd) (listed.setIfInBounds i true) a' H') a H
def FR(ro:Option Nat):Fence:={ Fence.wide with round:=ro }
theorem yo{o:Oper}{a:Act}{w w0:World}{ro:Option Nat}(hd:∀c,o.op≠.defer c)(j:bW w0 w){KP K:KE}{next:Act->World->Prop}{Q':Exit->Act->World->Prop}
  (m:∀v d,bW w0 d->K v d.heap->next (a.put o.dst v) d) (t:∀v d,bW w0 d->KP v d.heap->Q' (.panic [{ v,recovered:=false }]) a d)
  (h:gw P w KP K ((execOp a.eval o).run P w)):o.wpIn (FR ro) 0 P a w next Q':=by
 refine⟨λf _=>trivial,?_⟩
 have hs:o.semAt (FR ro).round a.eval=execOp a.eval o:=Oper.semAt_eq ro _ o hd;rw[hs];generalize (execOp a.eval o).run P w=r at h
 cases r with
 | halt h' d=>
  cases h' <;> simp only[gw]at h
  exact t _ _ (j.trans h.1) h.2
 | ok n d=>
  cases n <;> simp only[gw]at h
  case value v=>exact m _ _ (j.trans h.1) h.2
  case skip=>exact m _ _ (j.trans h.1) h.2
  case enter f args=>
   obtain⟨rfl,h⟩:=h;rw[Oper.uponIn_enter];refine⟨λhd=>(by cases hd),?_⟩
   have k:CallsIn Fence.wide (0-1) P f args d λ
     | .returned v,b=>next (a.put o.dst v) b
     | .panicked chain,b=>Q' (.panic chain) a b
     | .outgrown,_=>LetsOut Q':=callsIn_wide.2 (h.mono λe b i=>by
    cases e <;> simp only[iN]at i ⊢
    case returned v=>exact m _ _ (j.trans i.1) i.2
    case panicked chain=>obtain⟨v,rfl,s,k⟩:=i;exact t _ _ (j.trans s) k)
   exact k
  case round l f tmps assign body=>
   obtain⟨rfl,h⟩:=h;rw[Oper.uponIn_round];refine⟨λhd=>(by cases hd),?_⟩
   have k:RoundIn Fence.wide (0-1) P l f tmps assign body d λ
     | .returned v,b=>next (a.put o.dst v) b
     | .panicked chain,b=>Q' (.panic chain) a b
     | .outgrown,_=>LetsOut Q':=h.mono λe b i=>by
    cases e <;> simp only[iN]at i ⊢
    case returned v=>exact m _ _ (j.trans i.1) i.2
    case panicked chain=>obtain⟨v,rfl,s,k⟩:=i;exact t _ _ (j.trans s) k
   exact k
theorem vp{w0:World}{KP:KE}{ro:Option Nat}{isW:Nat->Bool}{bf:Nat->Nat->Bool}{Q:Act->aC->Prop}{Q':Exit->Act->World->Prop}(k:∀a w,bW w0 w->Q a w.heap->Q' .normal a w)
  (hd:∀o∈ops.toList,∀c,o.op≠.defer c) {Inv:Act->Prop} (d:∀a o v,o∈ops.toList->Inv a->Inv (a.put o.dst v)) (s:∀v a w,bW w0 w->Inv a->KP v w.heap->Q' (.panic [{ v,recovered:=false }]) a w) :
  ∀(n:Nat) (A:kv) (b:Array Bool) (a:Act) (w:World),bW w0 w->Inv a->pV P w0 KP ops isW bf Q n A b a w.heap->wpAnyIn (FR ro) 0 P .any ops Q' n b a w
 | 0,_,_,_,_,hr,_,h=>⟨h.2.1,k _ _ hr h.2.2⟩
 | n+1,A,b,a,w,hr,ha,h=>⟨λh0=>k _ _ hr (h.2.1 h0),λi hi=>by
  have m:=h.2.2 i hi w rfl hr;unfold wpOpIn
  split at m
  .rename_i t;simp only[t];exact vp k hd d s n _ _ a w hr ha m
  .rename_i o t;simp only[t];have e:o∈ops.toList:=by
    have:ops.toList[i]?=some o:=by simpa using t
    exact Wk this
   split at m
   .rename_i x;rw[V5 x];exact yo (hd o e) hr (λv u j y=>vp k hd d s n _ _ _ u j (d _ _ _ e ha) y) (λv u j y=>s v a u j ha y) m
   .rename_i x;rw[V4 x];exact⟨λf _=>trivial,vp k hd d s n _ _ _ w hr (d _ _ _ e ha) m⟩⟩
def ly(P:Program)(ops:Array Oper)(o:Oper)(v:Value)(f:Option (aC->Prop))(a:Act):Prop:=
 (Region.wanted o (yielded ops a.tmps)=true->∀w,pU f w.heap->gw P w (λ_ _=>False) (λv' H'=>v'=v/\H'=w.heap) ((execOp a.eval o).run P w))/\
 (Region.wanted o (yielded ops a.tmps)=false->v=undef)
theorem ly.of_same{o:Oper}{v:Value}{f:Option (aC->Prop)}{a b:Act}(d:ly P ops o v f a)(e:execOp b.eval o=execOp a.eval o)
  (c:Region.wanted o (yielded ops b.tmps)=Region.wanted o (yielded ops a.tmps)):ly P ops o v f b:=by
 unfold ly at *;rw[e,c];exact d
theorem ly.step{w0:World}{KP:KE}{i:Nat}{o:Oper}{v:Value}{f:Option (aC->Prop)}{a:Act}{H:aC}(hi:ops[i]?=some o)(c:ly P ops o v f a)(k:pU f H){K:Act->aC->Prop}(h:K (a.put o.dst v) H) :
  qY P w0 KP ops i K a H:=by
 intro w e m;simp only[hi]
 split
 .rename_i b;subst e;exact (c.1 b w k).mono2 (λn s ⟨j,d⟩=>by subst j;subst d;exact h) λ_ _ h=>h.elim
 .rename_i b;rw[<-c.2 (by simpa using b)];exact h
theorem Nn{w0:World}{KP:KE}{j:Nat}{c d:Oper}{v:Value}{f:Option (aC->Prop)}(F:ops[j]?=some d)(s:c.apart ops d=true)
  (m:∀cs b,c.op≠.select cs b) (n:∀cs b,d.op≠.select cs b) {K:Act->aC->Prop} {a:Act} {H:aC}
  (k:ly P ops c v f a) (h:qY P w0 KP ops j K (a.put c.dst v) H) :
  qY P w0 KP ops j (λB y=>ly P ops c v f B/\K (B.put c.dst v) y) a H:=by
 obtain⟨A,t,x⟩:=Oper.apart_spec s;have keep:∀(a:Act),ly P ops c v f a->∀u,ly P ops c v f (a.put d.dst u):=λa k u=>
  k.of_same (execOp_put c m a d.dst u x) (wanted_put c a d.dst u x)
 intro w D C;have i:=h w D C;simp only[F]at i ⊢;rw[wanted_put d a c.dst v A]at i
 split
 .rename_i e;rw[V5 e,execOp_put d n a c.dst v A]at i;exact i.mono λu y E=>⟨keep a k u,by rw[<-Act.put_comm a v u t];exact E⟩
 .rename_i e;rw[V4 e]at i;exact⟨keep a k _,by rw[<-Act.put_comm a v undef t];exact i⟩
def pW(ops:Array Oper)(listed:Array Bool):Prop:=
 ∀j oj,ops[j]?=some oj->listed.getD j false=true->∀e∈oj.after,Region.binds .any e=true->listed.getD e.on false=true
theorem pW.set{a:Array Bool}(h:pW ops a){i:Nat}(hi:i∈Region.ready .any ops a):pW ops (a.setIfInBounds i true):=by
 obtain⟨_,n,c,b⟩:=mem_ready.1 hi;intro j d m k e f hb
 by_cases hij:i=j
 .subst hij;have:d=n:=Option.some.inj (m.symm.trans c);subst this;exact getD_set_true (b e f hb)
 .rw [getD_set_ne false hij]at k;exact getD_set_true (h j d m k e f hb)
def BfOk(ops:Array Oper)(bf:Nat->Nat->Bool):Prop:=
 ∀j oj,ops[j]?=some oj->∀i,bf j i=true->∃e∈oj.after,Region.binds .any e=true/\(e.on=i\/(e.on<j/\bf e.on i=true/\(ops[e.on]?).isSome=true))
theorem No{bf:Nat->Nat->Bool}(hb:BfOk ops bf){a:Array Bool}(t:pW ops a) :
  ∀(j:Nat) (b:Oper),ops[j]?=some b->a.getD j false=true->∀i,bf j i=true->a.getD i false=true:=by
 intro j
 induction j using Nat.strongRecOn with
 | _ j ih=>
  intro b f v i hi;obtain⟨e,s,c,h⟩:=hb j b f i hi;have k:=t j b f v e s c
  rcases h with h|⟨d,m,n⟩
  .rw [<-h];exact k
  .obtain⟨ok,u⟩:=YL.1 n;exact ih e.on d ok u k i m
theorem bf_ready{bf:Nat->Nat->Bool}(hb:BfOk ops bf){a:Array Bool}(u:pW ops a){j:Nat}(v:j∈Region.ready .any ops a)(i:Nat)(hi:bf j i=true):a.getD i false=true:=by
 obtain⟨_,k,c,b⟩:=mem_ready.1 v;obtain⟨e,s,d,h⟩:=hb j k c i hi;have f:=b e s d
 rcases h with h|⟨w,m,n⟩
 .rw [<-h];exact f
 .obtain⟨ok,t⟩:=YL.1 n;exact No hb u e.on ok t f i m
theorem getD_ft{a:Array Bool}{i:Nat}(h:a.getD i true=false):a.getD i false=false:=by
 rcases Wa i a.size with b|b
 .simp [b]at h ⊢;exact h
 .simp [Array.getElem?_eq_none b]at h
theorem Np{isW:Nat->Bool}{bf:Nat->Nat->Bool}{i j:Nat}{f:Option (aC->Prop)}{a:kv}(h:bf j i=false):nq isW bf j ((i,f)::a)=(i,f)::nq isW bf j a:=by
 unfold nq
 split <;> simp[h]
theorem first_R{w0:World}{KP:KE}{isW:Nat->Bool}{bf:Nat->Nat->Bool}{Q:Act->aC->Prop}(hb:BfOk ops bf)(hs:Region.noSelect ops=true){i:Nat}{E:Oper}{v:Value}{f:Option (aC->Prop)}(hi:ops[i]?=some E)(I:isW i=false) :
  ∀(n:Nat) (s:kv) (c:Array Bool) (a:Act) (H:aC),pW ops c->
   (∀j B,ops[j]?=some B->j≠i->c.getD j true=false->(∀e∈B.after,Region.binds .any e=true->e.on≠i)->E.apart ops B=true)->
   i∈Region.ready .any ops c->ly P ops E v f a->
   pV P w0 KP ops isW bf Q n ((i,f)::s) (c.setIfInBounds i true) (a.put E.dst v) H->pV P w0 KP ops isW bf Q (n+1) s c a H:=by
 intro n
 induction n with
 | zero=>
  intro s c a H O _ D M h;refine⟨λx d=>h.1 x (VQ _ d),λh0=>(by rw[h0]at D;cases D),λj F=>?_⟩
  by_cases hji:j=i
  .subst hji;refine M.step hi (h.1 _ VO) ?_;refine⟨λx d=>?_,h.2⟩
   have:x∈s:=by unfold nq at d;rw[V4 (by simp[I])]at d;exact d
   exact h.1 x (VQ _ this)
  .have:=ready_mono F hji;rw[h.2.1]at this
   cases this
 | succ n ih=>
  intro s c a H O t D M h;refine⟨λx d=>h.1 x (VQ _ d),λh0=>(by rw[h0]at D;cases D),λj F=>?_⟩
  by_cases hji:j=i
  .subst hji;refine M.step hi (h.1 _ VO) ?_;have e1:nq isW bf j s=s:=by unfold nq;rw[V4 (by simp[I])]
   rw[e1];have m:∀(n:Nat) (s u:kv) (c:Array Bool) (a:Act) (H:aC),(∀x∈u,x∈s)->pV P w0 KP ops isW bf Q n s c a H->pV P w0 KP ops isW bf Q n u c a H:=by
    intro n
    induction n with
    | zero=>intro s u c a H hs h;exact⟨λx d=>h.1 x (hs x d),h.2⟩
    | succ n ih2=>
     intro s u c a H hs h;refine⟨λx d=>h.1 x (hs x d),h.2.1,λk W=>Cs (λS Z=>ih2 _ _ _ S Z ?_) (h.2.2 k W)⟩
     intro x d;unfold nq at d ⊢
     split
     .rename_i V;rw[V5 V]at d;rw[W7]at d ⊢;exact⟨hs x d.1,d.2⟩
     .rename_i V;rw[V4 V]at d;exact hs x d
   exact m _ _ _ _ _ _ (λx d=>VQ _ d) h
  .have N:=h.2.2 j (ready_mono F hji);obtain⟨A,B,C,L⟩:=mem_ready.1 F;have y:=getD_ft (mem_ready.1 D).1;have K:∀e∈B.after,Region.binds .any e=true->e.on≠i:=λe he R Y=>by
    have N:=L e he R;rw[Y,y]at N;cases N
   have J:bf j i=false:=by
    cases hbf:bf j i with
    | false=>rfl
    | true=>have:=bf_ready hb O F i hbf;rw[y]at this;cases this
   have h2:=Nn C (t j B C hji A K) (λcs b=>Region.noSelect_spec hs i E cs b hi) (λcs b=>Region.noSelect_spec hs j B cs b C) M N
   have w:∀k ok,ops[k]?=some ok->k≠i->(c.setIfInBounds j true).getD k true=false->
     (∀e∈ok.after,Region.binds .any e=true->e.on≠i)->E.apart ops ok=true:=λk ok W T G U=>by
    refine t k ok W T ?_ U
    by_cases hjk:j=k
    .subst hjk;exact A
    .rw [getD_set_ne true hjk]at G;exact G
   refine Cs (λS Z h3=>ih _ (c.setIfInBounds j true) S Z (O.set F) w (ready_mono D (Ne.symm hji)) h3.1 ?_) h2
   have h4:=h3.2;rw[Np J,Array.setIfInBounds_comm _ _ (Ne.symm hji)]at h4;exact h4
end
abbrev Kn:=List (Nat×Bool×Bool)
inductive GC where
 | yes|no|bad
 | iff (c:Prop)
def mh:Kn->Nat->Bool->Option Bool
 | [],_,_=>none
 | (j',w',b)::r,j,w=>if Nat.beq j' j then (if w' == w then some b else (if b then some false else mh r j w)) else mh r j w
def jJ(ops:Array Oper)(j:Nat):Option Tmp:=match aT ops.toList j with|some o=>o.dst|none=>none
def nr(ops:Array Oper)(fr:Fr)(kn:Kn):Nat->Option (Nat×Bool)->GC
 | _,none=>.yes
 | 0,some _=>.bad
 | n+1,some (j,w)=>match mh kn j w with
  | some true=>.yes
  | some false=>.no
  | none=>match jJ ops j with
   | none=>.no
   | some d=>match aT fr d with
    | some (.p (.bool c))=>.iff (c=w)
    | some (.p (.tuple _))=>.no
    | some (.p _)=>.bad
    | some (.g h w' (.bool c))=>match nr ops fr kn n (some (h,w')) with
     | .yes=>.iff (c=w)
     | .iff p=>.iff (p/\c=w)
     | .no=>.no
     | .bad=>.bad
    | _=>.bad
def impl(ops:Array Oper)(fr:Fr):Nat->Option (Nat×Bool)->Nat->Bool->Bool
 | 0,_,_,_=>false
 | _,none,_,_=>false
 | n+1,some (j',w'),j,w=>(Nat.beq j' j&&w' == w)||(match jJ ops j' with
  | some d=>match aT fr d with
   | some (.g h w'' _)=>impl ops fr n (some (h,w'')) j w
   | _=>false
  | none=>false)
def heldB(ops:Array Oper)(fr:Fr)(kn:Kn)(gd:Option (Nat×Bool))(j:Nat)(w:Bool):Bool:=
 match mh kn j w with
 | some b=>b
 | none=>impl ops fr 9 gd j w
def evG(ops:Array Oper)(fr:Fr)(kn:Kn)(gd:Option (Nat×Bool)):Operand->Option Value
 | .tmp t=>match aT fr t with
  | some (.p v)=>some v
  | some (.g j w v)=>if heldB ops fr kn gd j w then some v else none
  | _=>none
 | .const v=>some v
 | .global g=>some (.pointer (some ⟨g,0,none⟩))
 | .func f=>some (.func (.func f) #[] #[])
def ns(ops:Array Oper)(fr:Fr)(kn:Kn)(gd:Option (Nat×Bool))(side:Bool)(a x:Operand):Option Value:=
 match evG ops fr kn gd x with
 | some v=>some v
 | none=>match a,x with
  | .tmp s,.tmp t=>match aT fr t with
   | some (.g j w v)=>match jJ ops j with
    | some d=>if Nat.beq d s&&w == side then some v else none
    | none=>none
   | _=>none
  | _,_=>none
def pX(ops:Array Oper):Kn->Nat->Option Bool
 | [],_=>none
 | (j,w,b)::r,t=>match jJ ops j with
  | some d=>if Nat.beq d t then some (w == b) else pX ops r t
  | none=>pX ops r t
def pkG(ops:Array Oper)(fr:Fr)(kn:Kn)(gd:Option (Nat×Bool))(a b d:Operand):Option (Bool×Value×Value):=
 match evG ops fr kn gd a with
 | some (.bool c)=>match (match a with|.tmp t=>pX ops kn t|_=>none) with
  | some true=>match ns ops fr kn gd true a b with|some v=>some (true,v,v)|none=>none
  | some false=>match ns ops fr kn gd false a d with|some v=>some (false,v,v)|none=>none
  | none=>match ns ops fr kn gd true a b,ns ops fr kn gd false a d with|some x,some y=>some (c,x,y)|_,_=>none
 | _=>none
def lz(ops:Array Oper):List Nat->Option Tmp->Bool
 | _,none=>true
 | [],some _=>true
 | j::r,some t=>(match jJ ops j with|some u=>!(Nat.beq u t)|none=>true)&&lz ops r (some t)
def qZ(g:Option (Nat×Bool))(gs:List Nat):List Nat:=match g with|some (j,_)=>j::gs|none=>gs
section defs
variable (X:Ctx)(ops:Array Oper)
def vcPR(o:Oper)(kn:Kn)(gs:List Nat)(fr:Fr)(H:aC)(k:Fr->List Nat->Option (aC->Prop)->Prop):Prop:=
 if lz ops (qZ o.guard gs) o.dst=false then False else
 match nr ops fr kn 9 o.guard with
 | .bad=>False
 | .no=>k (fr.put o.dst (.p undef)) gs none
 | .yes=>(match mf X o.op with
  | .P=>vg X (evG ops fr kn o.guard) (pkG ops fr kn o.guard) none o.op λv=>k (fr.put o.dst (.p v)) gs none
  | .R=>vi X (evG ops fr kn o.guard) none o H λv f=>k (fr.put o.dst (.p v)) gs (some f)
  | .W=>False)
 | .iff c=>(match o.guard with
  | none=>False
  | some (j,w)=>(match mf X o.op with
   | .P=>vg X (evG ops fr kn o.guard) (pkG ops fr kn o.guard) (some c) o.op λv=>k (fr.put o.dst (.g j w v)) (j::gs) none
   | .R=>vi X (evG ops fr kn o.guard) (some c) o H λv f=>k (fr.put o.dst (.g j w v)) (j::gs) (some f)
   | .W=>False))
def vcW(o:Oper)(kn:Kn)(gs:List Nat)(fr:Fr)(H:aC)(k:Fr->Kn->List Nat->aC->Prop):Prop:=
 if lz ops (qZ o.guard gs) o.dst=false then False else
 match nr ops fr kn 9 o.guard with
 | .bad=>False
 | .no=>k (fr.put o.dst (.p undef)) kn gs H
 | .yes=>vj X (evG ops fr kn o.guard) o H λv H'=>k (fr.put o.dst (.p v)) kn gs H'
 | .iff c=>(match o.guard with
  | none=>False
  | some (j,w)=>(c->vj X (evG ops fr kn o.guard) o H λv H'=>k (fr.put o.dst (.p v)) ((j,w,true)::kn) (j::gs) H')/\
   (¬c->k (fr.put o.dst (.p undef)) ((j,w,false)::kn) (j::gs) H))
def Ct(o:Oper)(c:Call)(r:List Oper)(fr:Fr)(k:List DM->Prop):Prop:=
 match o.guard,o.dst,r,c.callee,c.args.toList with
 | none,none,[],.value x,[]=>(match evG ops fr [] none x with
  | some (.func (.func g) ⟨[]⟩ ⟨cap⟩)=>k [.fn g cap]
  | _=>False)
 | _,_,_,_,_=>False
def l7(rd:Bool)(K:Fr->List DM->aC->Prop):List Oper->Kn->List Nat->Fr->aC->Prop
 | [],_,_,fr,H=>ir (pJ fr) λfr'=>K fr' [] H
 | o::r,kn,gs,fr,H=>match o.op with
  | .defer c=>(match rd with
   | true=>Ct ops o c r fr λM=>ir (pJ fr) λfr'=>K fr' M H
   | false=>False)
  | op=>match mf X op with
   | .W=>vcW X ops o kn gs fr H λfr' kn' gs' H'=>ir fr' λfr'=>l7 rd K r kn' gs' fr' H'
   | _=>vcPR X ops o kn gs fr H λfr' gs' _=>ir fr' λfr'=>l7 rd K r kn gs' fr' H
def pY(acc:List Nat):List Edge->Nat->Nat
 | [],s=>s
 | e::r,s=>pY acc r (if Region.binds .any e then s ||| 2^e.on ||| (match aT acc e.on with|some m=>m|none=>0) else s)
def jK:List Oper->List Nat->List Nat
 | [],acc=>acc
 | o::r,acc=>jK r (acc++[pY acc o.after.toList 0])
def bfB(B:List Nat)(j i:Nat):Bool:=match aT B j with|some m=>m.testBit i|none=>false
def l8:List Nat->Option Nat
 | []=>none
 | i::r=>match aT ops.toList i with
  | some o=>(match mf X o.op with|.W=>l8 r|_=>some i)
  | none=>l8 r
def allL:List Nat->(Nat->Prop)->Prop
 | [],_=>False
 | [i],f=>f i
 | i::r,f=>f i/\allL r f
def vq:kv->aC->Prop->Prop
 | [],_,q=>q
 | (_,none)::r,H,q=>vq r H q
 | (_,some f)::r,H,q=>f H/\vq r H q
def pZ(B:List Nat)(i:Nat):kv->kv
 | []=>[]
 | (j,f)::r=>match bfB B i j with|true=>pZ B i r|false=>(j,f)::pZ B i r
def vr:List Oper->Bool
 | []=>true
 | o::r=>(match o.op with|.defer _=>false|_=>true)&&vr r
theorem Cu:∀{l:List Oper},vr l=true->∀o∈l,∀c,o.op≠.defer c
 | [],_,o,a,_,_=>by cases a
 | x::r,h,o,a,c,hc=>by
  simp only[vr,VB]at h
  rcases VN.1 a with rfl|a
  .rw [hc]at h;exact V6 h.1 (by simp)
  .exact Cu h.2 o a c hc
def qb(ops:Array Oper)(listed:Array Bool):List Nat:=
 (List.range ops.size).filter λi=>!listed.getD i true&&((ops[i]?).map (·.after.toList.all λe=>!Region.binds .any e||listed.getD e.on false)).getD false
theorem yp(ops:Array Oper)(a:Array Bool):qb ops a=Region.ready .any ops a:=by
 unfold qb Region.ready;simp only[Array.all_toList]
def qd:List Bool->(List Bool->Prop)->Prop
 | [],k=>k []
 | true::r,k=>qd r λr'=>k (true::r')
 | false::r,k=>qd r λr'=>k (false::r')
theorem yq:∀(l:List Bool) (k:List Bool->Prop),qd l k=k l
 | [],_=>rfl
 | true::r,k=>by rw[qd,yq r]
 | false::r,k=>by rw[qd,yq r]
def oK(X:Ctx)(ops:Array Oper):Nat->Array Bool->Bool
 | 0,_=>true
 | n+1,listed=>match l8 X ops (qb ops listed) with
  | some i=>Region.free .any ops listed i&&oK X ops n (listed.setIfInBounds i true)
  | none=>(qb ops listed).all λi=>oK X ops n (listed.setIfInBounds i true)
def oL(X:Ctx)(ops:Array Oper)(d:Bool):Bool:=match d with
 | false=>true
 | true=>Region.noSelect ops&&(vr ops.toList&&oK X ops ops.size (Array.replicate ops.size false))
def okC(X:Ctx):Code->Bool
 | .region _ ops d=>oL X ops d
 | .seq a b=>okC X a&&okC X b
 | .cond _ a b=>okC X a&&okC X b
 | .block _ a=>okC X a
 | .loop a=>okC X a
 | .rangeFunc _ _ a b=>okC X a&&okC X b
 | _=>true
def re(B:List Nat)(K:Fr->aC->Prop):Nat->Array Bool->kv->Kn->List Nat->Fr->aC->Prop
 | 0,listed,_,_,_,fr,H=>(match qb ops listed with|[]=>ir (pJ fr) λfr'=>K fr' H|_=>False)
 | n+1,listed,pd,kn,gs,fr,H=>match l8 X ops (qb ops listed) with
  | some i=>(match aT ops.toList i with
   | none=>False
   | some o=>vcPR X ops o kn gs fr H λfr' gs' f=>ir fr' λfr'=>qd (listed.setIfInBounds i true).toList λl=>re B K n ⟨l⟩ ((i,f)::pd) kn gs' fr' H)
  | none=>allL (qb ops listed) λi=>(match aT ops.toList i with
   | none=>False
   | some o=>vcW X ops o kn gs fr H λfr' kn' gs' H'=>vq (pZ B i pd) H' (ir fr' λfr'=>qd (listed.setIfInBounds i true).toList λl=>re B K n ⟨l⟩ (pZ B i pd) kn' gs' fr' H'))
end defs
structure fT(ops:Array Oper)(fr:Fr)(kn:Kn)(gs:List Nat)(a:Act):Prop where
 size:a.tmps.size=fr.length
 pv:∀t v,aT fr t=some (.p v)->a.tmps[t]?=some v
 gv:∀t j w v,aT fr t=some (.g j w v)->j∈gs/\(yielded ops a.tmps j=some w->a.tmps[t]?=some v)/\(yielded ops a.tmps j≠some w->a.tmps[t]?=some undef)
 kn:∀x∈kn,x.1∈gs/\(yielded ops a.tmps x.1=some x.2.1↔x.2.2=true)
def fK(ops:Array Oper)(g:Option (Nat×Bool))(a:Act):Prop:=match g with|none=>True|some (j,w)=>yielded ops a.tmps j=some w
section
variable {X:Ctx}{ops:Array Oper}{fr:Fr}{kn:Kn}{gs:List Nat}{a:Act}
theorem Cv(o:Oper):Region.wanted o (yielded ops a.tmps)=true↔fK ops o.guard a:=by
 unfold Region.wanted fK
 cases o.guard with
 | none=>simp
 | some g=>simp
theorem Cw(j:Nat):jJ ops j=(ops[j]?).bind (·.dst):=by
 unfold jJ;rw[eH];simp only[Array.getElem?_toList]
 cases ops[j]? <;> rfl
theorem nt{j d:Nat}(h:jJ ops j=some d):yielded ops a.tmps j=(match a.tmps[d]? with|some (.bool b)=>some b|_=>none):=by
 rw[Cw]at h;unfold yielded;rw[h];rfl
theorem yr{j:Nat}(h:jJ ops j=none):yielded ops a.tmps j=none:=by
 rw[Cw]at h;unfold yielded;rw[h];rfl
theorem Cx(R:fT ops fr kn gs a){j:Nat}{w b:Bool}:∀(l:Kn),(∀x∈l,x∈kn)->mh l j w=some b->(yielded ops a.tmps j=some w↔b=true)/\j∈gs
 | [],_,h=>by simp[mh]at h
 | (j',w',b')::r,hs,h=>by
  simp only[mh]at h;obtain⟨hm,c⟩:=R.kn _ (hs _ VO);simp only at hm c;have k:=Cx R r (λx c=>hs x (VQ _ c)) (j:=j) (w:=w) (b:=b)
  split at h
  .rename_i m;have i:j'=j:=WL m;subst i
   split at h
   .rename_i e;have f:w'=w:=by simpa using e
    subst f
    cases h
    exact⟨c,hm⟩
   .rename_i e
    split at h
    .rename_i hb
     cases h
     have:=c.2 hb;refine⟨⟨λd=>?_,λd=>by cases d⟩,hm⟩
     rw[this]at d;exfalso;apply e;simpa using d
    .exact k h
  .exact k h
theorem Cy(R:fT ops fr kn gs a){j:Nat}{w b:Bool}(h:mh kn j w=some b):(yielded ops a.tmps j=some w↔b=true)/\j∈gs:=
 Cx R kn (λ_ c=>c) h
theorem yu(R:fT ops fr kn gs a):∀(n:Nat) (g:Option (Nat×Bool)),match nr ops fr kn n g with
  | .yes=>fK ops g a
  | .no=>¬fK ops g a
  | .bad=>True
  | .iff c=>fK ops g a↔c
 | n,none=>by cases n <;> simp[nr,fK]
 | 0,some _=>by simp[nr]
 | n+1,some (j,w)=>by
  simp only[nr]
  cases hk:mh kn j w with
  | some b=>
   have:=(Cy R hk).1
   cases b
   .simp only[fK];simp[this]
   .simp only[fK];simp[this]
  | none=>
   cases hd:jJ ops j with
   | none=>simp only[fK];rw[yr hd];simp
   | some d=>
    cases hl:aT fr d with
    | none=>simp only[hl]
    | some s=>
     cases s with
     | x=>simp only[hl]
     | p v=>
      cases v with
      | bool c=>
       simp only[hl,fK];rw[nt hd,R.pv _ _ hl];simp
      | tuple c=>
       simp only[hl,fK];rw[nt hd,R.pv _ _ hl];simp
      | _=>simp only[hl]
     | g h w' v=>
      cases v <;> simp only[hl]
      rename_i c;obtain⟨_,i,f⟩:=R.gv _ _ _ _ hl;have e:=yu R n (some (h,w'))
      cases hg:nr ops fr kn n (some (h,w')) with
      | yes=>
       simp only[hg,fK]at e ⊢;rw[nt hd,i e];simp
      | no=>
       simp only[hg,fK]at e ⊢;rw[nt hd,f e];simp[undef]
      | bad=>simp only
      | iff p=>
       simp only[hg,fK]at e ⊢;rw[nt hd]
       by_cases hy:yielded ops a.tmps h=some w'
       .rw [i hy];simp[e.1 hy]
       .rw [f hy];simp[undef];intro k;exact V6 (e.2 k) hy
theorem Cz(R:fT ops fr kn gs a){j:Nat}{w:Bool}:∀(n:Nat) (g:Option (Nat×Bool)),impl ops fr n g j w=true->fK ops g a->yielded ops a.tmps j=some w
 | 0,_,h,_=>by simp[impl]at h
 | n+1,none,h,_=>by simp[impl]at h
 | n+1,some (j',w'),h,hg=>by
  simp only[impl,VR,VB]at h
  rcases h with ⟨c,b⟩|h
  .have e1:j'=j:=WL c;have e2:w'=w:=by simpa using b
   subst e1;subst e2;exact hg
  .cases hd:jJ ops j' with
   | none=>simp[hd]at h
   | some d=>
    simp only[hd]at h
    cases hl:aT fr d with
    | none=>simp[hl]at h
    | some s=>
     cases s with
     | p v=>simp[hl]at h
     | x=>simp[hl]at h
     | g hh w'' v=>
      simp only[hl]at h;obtain⟨_,c,b⟩:=R.gv _ _ _ _ hl;refine Cz R n _ h ?_;simp only[fK]at hg ⊢
      by_cases hy:yielded ops a.tmps hh=some w''
      .exact hy
      .rw [nt hd,b hy]at hg;simp[undef]at hg
theorem Nq(R:fT ops fr kn gs a){gd:Option (Nat×Bool)}{j:Nat}{w:Bool}(h:heldB ops fr kn gd j w=true)(c:fK ops gd a):yielded ops a.tmps j=some w:=by
 unfold heldB at h
 cases hk:mh kn j w with
 | some b=>rw[hk]at h;exact (Cy R hk).1.2 h
 | none=>rw[hk]at h;exact Cz R 9 gd h c
theorem vt{t:Nat}{v:Value}(h:a.tmps[t]?=some v):a.eval (.tmp t)=v:=by
 simp[Act.eval,Y8,h]
theorem oM(R:fT ops fr kn gs a){gd:Option (Nat×Bool)}(x:Operand)(v:Value)(h:evG ops fr kn gd x=some v)(b:fK ops gd a):a.eval x=v:=by
 cases x with
 | const u=>simp[evG]at h;subst h;rfl
 | global g=>simp[evG]at h;subst h;rfl
 | func f=>simp[evG]at h;subst h;rfl
 | tmp t=>
  simp only[evG]at h
  cases hl:aT fr t with
  | none=>simp[hl]at h
  | some s=>
   cases s with
   | p u=>simp[hl]at h;subst h;exact vt (R.pv _ _ hl)
   | x=>simp[hl]at h
   | g j w u=>
    simp only[hl]at h
    split at h
    .rename_i c
     cases h
     exact vt ((R.gv _ _ _ _ hl).2.1 (Nq R c b))
    .cases h
theorem vu(R:fT ops fr kn gs a){gd:Option (Nat×Bool)}{b:Bool}{x y:Operand}{v:Value}(h:ns ops fr kn gd b x y=some v)(f:fK ops gd a)(c:a.eval x=.bool b):a.eval y=v:=by
 unfold ns at h
 cases he:evG ops fr kn gd y with
 | some u=>rw[he]at h;cases h;exact oM R y _ he f
 | none=>
  rw[he]at h
  cases x <;> cases y <;> simp only at h <;> try cases h
  rename_i s t
  cases hl:aT fr t with
  | none=>simp[hl]at h
  | some sv=>
   cases sv with
   | p u=>simp[hl]at h
   | x=>simp[hl]at h
   | g j w u=>
    simp only[hl]at h
    cases hd:jJ ops j with
    | none=>simp[hd]at h
    | some d=>
     simp only[hd]at h
     split at h
     .rename_i e
      cases h
      simp only[VB]at e;have e1:d=s:=WL e.1;have e2:w=b:=by simpa using e.2
      subst e1;subst e2;refine vt ((R.gv _ _ _ _ hl).2.1 ?_);rw[nt hd];simp only[Act.eval,Y8]at c
      cases ht:a.tmps[d]? with
      | none=>rw[ht]at c;simp[undef]at c
      | some u'=>rw[ht]at c;simp at c;subst c;rfl
     .cases h
theorem C0(R:fT ops fr kn gs a){t:Nat}{b c:Bool}(e:a.tmps[t]?=some (.bool c)):∀(l:Kn),(∀x∈l,x∈kn)->pX ops l t=some b->c=b
 | [],_,h=>by simp[pX]at h
 | (j,w,b')::r,hs,h=>by
  simp only[pX]at h;have f:=C0 R e r (λx i=>hs x (VQ _ i)) (b:=b)
  cases hd:jJ ops j with
  | none=>simp only[hd]at h;exact f h
  | some d=>
   simp only[hd]at h
   split at h
   .rename_i hb;have e1:d=t:=WL hb;subst e1;have:=(R.kn _ (hs _ VO)).2;simp only at this;rw[nt hd,e]at this
    cases w <;> cases b' <;> cases c <;> simp at this h ⊢ <;> simp[<-h]
   .exact f h
theorem C7(R:fT ops fr kn gs a){t:Nat}{b c:Bool}(h:pX ops kn t=some b)(d:a.tmps[t]?=some (.bool c)):c=b:=
 C0 R d kn (λ_ e=>e) h
theorem C8(R:fT ops fr kn gs a){gd:Option (Nat×Bool)}(x y z:Operand)(r:Bool×Value×Value)(h:pkG ops fr kn gd x y z=some r)(f:fK ops gd a) :
  a.eval x=.bool r.1/\(r.1=true->a.eval y=r.2.1)/\(r.1=false->a.eval z=r.2.2):=by
 unfold pkG at h
 cases he:evG ops fr kn gd x with
 | none=>simp[he]at h
 | some u=>
  have b:=oM R x u he f
  cases u <;> simp only[he]at h <;> try cases h
  rename_i c
  split at h
  .rename_i e;have d:c=true:=by
    cases x <;> simp only at e <;> try cases e
    rename_i t;refine C7 R e ?_;simp only[Act.eval,Y8]at b
    cases ht:a.tmps[t]? with
    | none=>rw[ht]at b;simp[undef]at b
    | some u'=>rw[ht]at b;simp at b;subst b;rfl
   subst d
   cases hs:ns ops fr kn gd true x y with
   | none=>simp[hs]at h
   | some v=>simp[hs]at h;subst h;exact⟨b,λ_=>vu R hs f b,λh=>by cases h⟩
  .rename_i e;have d:c=false:=by
    cases x <;> simp only at e <;> try cases e
    rename_i t;refine C7 R e ?_;simp only[Act.eval,Y8]at b
    cases ht:a.tmps[t]? with
    | none=>rw[ht]at b;simp[undef]at b
    | some u'=>rw[ht]at b;simp at b;subst b;rfl
   subst d
   cases hs:ns ops fr kn gd false x z with
   | none=>simp[hs]at h
   | some v=>simp[hs]at h;subst h;exact⟨b,λh=>(by cases h),λ_=>vu R hs f b⟩
  .cases hs:ns ops fr kn gd true x y with
   | none=>simp[hs]at h
   | some v=>cases hs':ns ops fr kn gd false x z with
    | none=>simp[hs,hs']at h
    | some v'=>
     simp[hs,hs']at h;subst h;exact⟨b,λd=>vu R hs f (by rw[b];simp at d;rw[d]),λd=>vu R hs' f (by rw[b];simp at d;rw[d])⟩
end
structure Rel(fr:Fr)(a:Act):Prop where
 size:a.tmps.size=fr.length
 pv:∀t v,aT fr t=some (.p v)->a.tmps[t]?=some v
 ng:∀t j w v,aT fr t≠some (.g j w v)
section
variable {X:Ctx}{ops:Array Oper}{fr:Fr}{kn:Kn}{gs:List Nat}{a:Act}
theorem C9:∀{gs:List Nat} {t:Tmp},lz ops gs (some t)=true->∀j∈gs,jJ ops j≠some t
 | [],_,_,_,hj=>by cases hj
 | j::r,t,h,k,a=>by
  simp only[lz,VB]at h
  rcases VN.1 a with rfl|a
  .intro hd;rw[hd]at h;simp at h
  .exact C9 h.2 k a
theorem rh(a:Act)(t:Tmp)(u:Value):(a.put (some t) u).tmps=a.tmps.setIfInBounds t u:=rfl
theorem rj{d:Option Tmp}(u:Value)(h:lz ops gs d=true){j:Nat}(c:j∈gs):yielded ops (a.put d u).tmps j=yielded ops a.tmps j:=by
 cases d with
 | none=>rfl
 | some t=>
  have b:=C9 h j c
  cases hd:jJ ops j with
  | none=>rw[yr hd,yr hd]
  | some s=>
   have:s≠t:=λe=>b (by rw[hd,e])
   rw[nt hd,nt hd,rh];rw[Array.getElem?_setIfInBounds,V4 (λe=>this e.symm)]
theorem CE{d:Option Tmp}{g:Option (Nat×Bool)}(h:lz ops (qZ g gs) d=true):lz ops gs d=true:=by
 cases g with
 | none=>exact h
 | some x=>
  obtain⟨j,w⟩:=x
  cases d with
  | none=>cases gs <;> rfl
  | some t=>simp only[qZ,lz,VB]at h;exact h.2
theorem l9{α:Type}(l:List α)(n m:Nat)(x:α):aT (iq l n x) m=if n=m/\n<l.length then some x else aT l m:=by
 rw[eH,yf,eH,List.getElem?_set]
 by_cases h:n=m
 .subst h
  by_cases h2:n<l.length
  .simp [h2]
  .simp [h2]
 .simp [h]
theorem qe{α:Type}(l:List α)(n:Nat)(x:α):(iq l n x).length=l.length:=by rw[yf];simp
theorem mi{d:Option Tmp}{u:Value}{s:SV}{f:List Nat}(R:fT ops fr kn gs a)(i:lz ops f d=true)(b:∀j∈gs,j∈f)
  (hs:s=.p u\/∃j w v,s=.g j w v/\j∈f/\(yielded ops a.tmps j=some w->u=v)/\(yielded ops a.tmps j≠some w->u=undef)):fT ops (fr.put d s) kn f (a.put d u):=by
 cases d with
 | none=>
  exact⟨R.size,R.pv,λt j w v h=>by obtain⟨e,c⟩:=R.gv t j w v h;exact⟨b _ e,c⟩,λx B=>by obtain⟨e,c⟩:=R.kn x B;exact⟨b _ e,c⟩⟩
 | some t=>
  have C:(a.put (some t) u).tmps.size=(fr.put (some t) s).length:=by
   rw[rh];simp only[Fr.put];rw[qe,Array.size_setIfInBounds];exact R.size
  have k:∀m,(a.put (some t) u).tmps[m]?=if t=m/\t<fr.length then some u else a.tmps[m]?:=by
   intro m;rw[rh,Array.getElem?_setIfInBounds,<-R.size]
   by_cases h:t=m
   .subst h
    by_cases c:t<a.tmps.size
    .simp [c]
    .simp [c]
   .simp [h]
  refine⟨C,λm v h=>?_,λm j w v h=>?_,λx B=>?_⟩
  .simp only[Fr.put]at h;rw[l9]at h;rw[k]
   split at h
   .rename_i n;rw[V5 n]
    cases h
    rcases hs with hs|⟨j,w,D,hs,_⟩
    .cases hs;rfl
    .cases hs
   .rename_i n;rw[V4 n];exact R.pv _ _ h
  .simp only[Fr.put]at h;rw[l9]at h;rw[k]
   split at h
   .rename_i n;rw[V5 n]
    cases h
    rcases hs with hs|⟨F,E,D,hs,A,e,c⟩
    .cases hs
    .cases hs
     refine⟨A,λy=>?_,λy=>?_⟩
     .rw [rj u i A]at y;rw[e y]
     .rw [rj u i A]at y;rw[c y]
   .rename_i n;rw[V4 n];obtain⟨e,c⟩:=R.gv _ _ _ _ h;rw[rj u i (b _ e)];exact⟨b _ e,c⟩
  .obtain⟨e,c⟩:=R.kn x B;rw[rj u i (b _ e)];exact⟨b _ e,c⟩
theorem CG{j:Nat}{w b:Bool}(R:fT ops fr kn gs a)(d:j∈gs)(h:yielded ops a.tmps j=some w↔b=true):fT ops fr ((j,w,b)::kn) gs a:=
 ⟨R.size,R.pv,R.gv,λx c=>by
  rcases VN.1 c with rfl|c
  .exact⟨d,h⟩
  .exact R.kn x c⟩
theorem vw(a:Act)(f:FuncId):a.eval (.func f)=.func (.func f) #[] #[]:=rfl
theorem rk{c:Prop}[Decidable c]{q:Prop}(h:if c then False else q):¬c/\q:=by
 split at h
 .exact h.elim
 .rename_i a;exact⟨a,h⟩
theorem CI{o:Oper}{H:aC}{k:Fr->List Nat->Option (aC->Prop)->Prop}(T:∀f,bI f X.calls=true->gF X.P f)(R:fT ops fr kn gs a)
  (h:vcPR X ops o kn gs fr H k):∃v f K I,k K I f/\ly X.P ops o v f a/\pU f H/\fT ops K kn I (a.put o.dst v):=by
 unfold vcPR at h;obtain⟨M,h⟩:=rk h;have n:lz ops (qZ o.guard gs) o.dst=true:=by simpa using M
 have u:=CE n;have B:=Cv (ops:=ops) (a:=a) o;have m:=yu R 9 o.guard
 cases hg:nr ops fr kn 9 o.guard with
 | bad=>simp[hg]at h
 | no=>
  simp only[hg]at h m;refine⟨undef,none,_,_,h,⟨λi=>V6 (B.1 i) m,λ_=>rfl⟩,trivial,mi R u (λ_ t=>t) (.inl rfl)⟩
 | yes=>
  simp only[hg]at h m;have i:Region.wanted o (yielded ops a.tmps)=true:=B.2 m;have A:∀x v,evG ops fr kn o.guard x=some v->True->a.eval x=v:=λx v S _=>oM R x v S m
  cases hk:mf X o.op with
  | P=>
   simp only[hk]at h;obtain⟨v,C,D⟩:=Cg (P:=X.P) (G:=True) (c:=none) o (λp J _=>J) A (λb c d r O _=>C8 R b c d r O m) (λo v e=>by rw[e];rfl) rfl h
   exact⟨v,none,_,_,C,⟨λ_ w _=>nl (D trivial w),λs=>by rw[i]at s;cases s⟩,trivial,mi R u (λ_ t=>t) (.inl rfl)⟩
  | R=>
   simp only[hk]at h;obtain⟨v,f,C,h0,D,Q⟩:=Cp (G:=True) (c:=none) o (λp J _=>J) A T (vw a) h
   exact⟨v,some f,_,_,C,⟨λ_ w N=>Q trivial w N,λs=>by rw[i]at s;cases s⟩,D trivial,mi R u (λ_ t=>t) (.inl rfl)⟩
  | W=>simp[hk]at h
 | iff c=>
  simp only[hg]at h m
  cases hgd:o.guard with
  | none=>simp[hgd]at h
  | some x=>
   obtain⟨j,w⟩:=x;rw[hgd]at h m B n;simp only at h;have A:∀x v,evG ops fr kn (some (j,w)) x=some v->fK ops (some (j,w)) a->a.eval x=v:=λx v S y=>oM R x v S y
   have F:∀p,gt (some c) p->fK ops (some (j,w)) a->p:=λp J y=>J (m.1 y)
   cases hk:mf X o.op with
   | P=>
    simp only[hk]at h;obtain⟨v,C,D⟩:=Cg (P:=X.P) (G:=fK ops (some (j,w)) a) (c:=some c) o F A (λb c d r O y=>C8 R b c d r O y) (λo v e=>by rw[e];rfl) rfl h
    by_cases i:Region.wanted o (yielded ops a.tmps)=true
    .refine⟨v,none,_,_,C,⟨λ_ L _=>nl (D (B.1 i) L),λs=>by rw[i]at s;cases s⟩,trivial,mi R n (λ_ t=>VQ _ t) (.inr ⟨j,w,v,rfl,VO,λ_=>rfl,λE=>V6 (B.1 i) E⟩)⟩
    .refine⟨undef,none,_,_,C,⟨λs=>V6 s i,λ_=>rfl⟩,trivial,mi R n (λ_ t=>VQ _ t) (.inr ⟨j,w,v,rfl,VO,λE=>V6 (B.2 E) i,λ_=>rfl⟩)⟩
   | R=>
    simp only[hk]at h;obtain⟨v,f,C,h0,D,Q⟩:=Cp (G:=fK ops (some (j,w)) a) (c:=some c) o F A T (vw a) h
    by_cases i:Region.wanted o (yielded ops a.tmps)=true
    .refine⟨v,some f,_,_,C,⟨λ_ L N=>Q (B.1 i) L N,λs=>by rw[i]at s;cases s⟩,D (B.1 i),mi R n (λ_ t=>VQ _ t) (.inr ⟨j,w,v,rfl,VO,λ_=>rfl,λE=>V6 (B.1 i) E⟩)⟩
    .refine⟨undef,some f,_,_,C,⟨λs=>V6 s i,λ_=>rfl⟩,h0 c rfl (λU=>i (B.2 (m.2 U))) H,mi R n (λ_ t=>VQ _ t) (.inr ⟨j,w,v,rfl,VO,λE=>V6 (B.2 E) i,λ_=>rfl⟩)⟩
   | W=>simp[hk]at h
theorem CJ{o:Oper}{H:aC}{k:Fr->Kn->List Nat->aC->Prop}(F:∀f,bI f X.calls=true->gF X.P f)(R:fT ops fr kn gs a)
  (h:vcW X ops o kn gs fr H k):∀w,w.heap=H->if Region.wanted o (yielded ops a.tmps) then gw X.P w X.kp (λv D=>∃m n i,k m n i D/\fT ops m n i (a.put o.dst v)) ((execOp a.eval o).run X.P w)
   else ∃m n i,k m n i H/\fT ops m n i (a.put o.dst undef):=by
 intro w y;unfold vcW at h;obtain⟨B,h⟩:=rk h;have b:lz ops (qZ o.guard gs) o.dst=true:=by simpa using B
 have s:=CE b;have u:=Cv (ops:=ops) (a:=a) o;have d:=yu R 9 o.guard
 cases hg:nr ops fr kn 9 o.guard with
 | bad=>simp[hg]at h
 | no=>
  simp only[hg]at h d;rw[V4 (λe=>d (u.1 e))]
  exact⟨_,_,_,h,mi R s (λ_ t=>t) (.inl rfl)⟩
 | yes=>
  simp only[hg]at h d;rw[V5 (u.2 d)];refine (Cr (X:=X) o (λx v E=>oM R x v E d) F (vw a) h w y).mono λv D C=>?_
  exact⟨_,_,_,C,mi R s (λ_ t=>t) (.inl rfl)⟩
 | iff c=>
  simp only[hg]at h d
  cases hgd:o.guard with
  | none=>simp[hgd]at h
  | some x=>
   obtain⟨j,J⟩:=x;rw[hgd]at h d u b;simp only at h
   by_cases e:Region.wanted o (yielded ops a.tmps)=true
   .rw [V5 e];have A:=u.1 e;refine (Cr (X:=X) o (λx v E=>oM R x v E A) F (vw a) (h.1 (d.1 A)) w y).mono λv D C=>?_
    refine⟨_,_,_,C,CG (mi R b (λ_ t=>VQ _ t) (.inl rfl)) VO ?_⟩
    rw[rj v b VO];exact⟨λ_=>rfl,λ_=>A⟩
   .rw [V4 e];have I:¬c:=λG=>e (u.2 (d.2 G))
    refine⟨_,_,_,h.2 I,CG (mi R b (λ_ t=>VQ _ t) (.inl rfl)) VO ?_⟩
    rw[rj undef b VO];exact⟨λA=>V6 (u.2 A) e,λhb=>by cases hb⟩
theorem yv{α β:Type}(f:α->β)(l:List α)(n:Nat):aT (l.map f) n=(aT l n).map f:=by
 rw[eH,eH];simp
theorem vx(R:fT ops fr kn gs a):Rel (pJ fr) a:=by
 refine⟨by rw[R.size];simp[pJ],λt v h=>?_,λt j w v h=>?_⟩
 .unfold pJ at h;rw[yv]at h
  cases hl:aT fr t with
  | none=>simp[hl]at h
  | some s=>
   cases s <;> simp[hl]at h
   subst h;exact R.pv _ _ hl
 .unfold pJ at h;rw[yv]at h
  cases hl:aT fr t with
  | none=>simp[hl]at h
  | some s=>cases s <;> simp[hl]at h
theorem rp(R:Rel fr a):fT ops fr [] [] a:=
 ⟨R.size,R.pv,λt j w v h=>V6 h (R.ng t j w v),λx b=>by cases b⟩
theorem Nr{P:Program}{o:Oper}{c:Call}{x:Operand}{ρ:Operand->Value}{g:FuncId}{cap:Os}{w:World}(d:o.op=.defer c)(e:c.callee=.value x)(b:c.args.toList=[])
  (f:ρ x=.func (.func g) ⟨[]⟩ ⟨cap⟩):(execOp ρ o).run P w=.ok (.defer { target:=.fn (.func g) ⟨cap⟩,args:=#[] }) w:=by
 have a:c.args=#[]:=by apply Array.ext';simpa using b
 simp[execOp,d,resolve,e,a,f,Deferred.ofValue]
theorem rq{K:Fr->List DM->aC->Prop}{Q:Exit->Act->World->Prop}{w0:World}{ro:Option Nat}(I:∀f,bI f X.calls=true->gF X.P f){Inv:Act->Prop}(i:∀a o v,o∈ops.toList->Inv a->Inv (a.put o.dst v))
  (M:∀fr a w,bW w0 w->Rel fr a->K fr [] w.heap->Inv a->Q .normal a w) (m:∀fr a w g cap,ro=none->bW w0 w->Rel fr a->K fr [.fn g cap] w.heap->Inv a->Q .normal { a with defers:={ target:=.fn (.func g) ⟨cap⟩,args:=#[] }::a.defers } w)
  (N:∀v a w,bW w0 w->Inv a->X.kp v w.heap->Q (.panic [{ v,recovered:=false }]) a w):∀(l:List Oper) (kn:Kn) (gs:List Nat) (fr:Fr) (a:Act) (w:World),(∀o∈l,o∈ops.toList)->Inv a->
  fT ops fr kn gs a->bW w0 w->l7 X ops ro.isNone K l kn gs fr w.heap->wpListIn (FR ro) 0 X.P ops Q l a w
 | [],kn,gs,fr,a,w,hl,ha,R,hr,h=>M _ _ _ hr (vx R) (by simpa only[l7,lv] using h) ha
 | o::r,kn,gs,fr,a,w,hl,ha,R,hr,h=>by
  have A:∀o∈r,o∈ops.toList:=λo ho=>hl o (VQ _ ho)
  have B:∀v,Inv (a.put o.dst v):=λv=>i a o v (hl o VO) ha
  by_cases hdef:∃c,o.op=.defer c
  .obtain⟨c,J⟩:=hdef;simp only[l7,J]at h
   cases ro with
   | some l0=>exact h.elim
   | none=>
    simp only[Option.isNone_none]at h;simp only[Ct,lv]at h
    split at h
    case h_2=>exact h.elim
    rename_i x hg V O D
    split at h
    case h_2=>exact h.elim
    rename_i g cap b;have R0:=rp (ops:=ops) (vx R);have hx:a.eval x=.func (.func g) ⟨[]⟩ ⟨cap⟩:=by
     cases x with
     | const u=>simp[evG]at b;subst b;rfl
     | global g=>simp[evG]at b
     | func f=>simp[evG]at b;obtain⟨rfl,rfl⟩:=b;rfl
     | tmp t=>
      simp only[evG]at b
      cases hl2:aT fr t with
      | none=>simp[hl2]at b
      | some s=>
       cases s with
       | p u=>simp[hl2]at b;subst b;exact vt (R.pv _ _ hl2)
       | x=>simp[hl2]at b
       | g j G u=>
        simp only[hl2]at b
        split at b
        .rename_i Y
         cases b
         exact V6 Y (by simp[heldB,mh,impl])
        .cases b
    unfold wpListIn;rw[V5 (by simp[Region.wanted,hg])];refine⟨λf _=>trivial,?_⟩
    have e1:(o.semAt (FR none).round a.eval)=execOp a.eval o:=rfl;rw[e1,Nr J O D hx,Oper.uponIn_defer,V];exact m _ _ _ g cap rfl hr (vx R) h ha
  have F:∀c,o.op≠.defer c:=λc J=>hdef ⟨c,J⟩
  have L:l7 X ops ro.isNone K (o::r) kn gs fr w.heap=(match mf X o.op with
   | .W=>vcW X ops o kn gs fr w.heap λe y d T=>l7 X ops ro.isNone K r y d e T
   | _=>vcPR X ops o kn gs fr w.heap λe d _=>l7 X ops ro.isNone K r kn d e w.heap):=by
   rw[l7]
   split
   .rename_i c J;exact V6 J (F c)
   .simp only[lv] <;> rfl
  rw[L]at h;have Z:∀C:vcPR X ops o kn gs fr w.heap λe d _=>l7 X ops ro.isNone K r kn d e w.heap,wpListIn (FR ro) 0 X.P ops Q (o::r) a w:=by
   intro C;obtain⟨v,f,e,d,E,H,S,h4⟩:=CI I R C;unfold wpListIn
   split
   .rename_i k;refine yo F hr (K:=λv' T=>v'=v/\T=w.heap) (λu G n U=>?_) (λ_ _ _ hf=>hf.elim) (H.1 k w S)
    obtain⟨rfl,Y⟩:=U;exact rq I i M m N r kn d e _ G A (B _) h4 n (by rw[Y];exact E)
   .rename_i k;rw[<-H.2 (by simpa using k)];exact⟨λf _=>trivial,rq I i M m N r kn d e _ w A (B _) h4 hr E⟩
  cases C:mf X o.op with
  | P=>simp only[C]at h;exact Z h
  | R=>simp only[C]at h;exact Z h
  | W=>
   simp only[C]at h;have E:=CJ I R h w rfl;unfold wpListIn
   split
   .rename_i k;rw[V5 k]at E;refine yo F hr (λu G n U=>?_) (λv G n C=>N v a G n ha C) E
    obtain⟨e,y,d,H,S⟩:=U;exact rq I i M m N r y d e _ G A (B _) S n H
   .rename_i k;rw[V4 k]at E;obtain⟨e,y,d,H,S⟩:=E;exact⟨λf _=>trivial,rq I i M m N r y d e _ w A (B _) S hr H⟩
theorem CK(acc:List Nat):∀(c:List Edge) (s i:Nat),(pY acc c s).testBit i=true->s.testBit i=true\/∃e∈c,Region.binds .any e=true/\(e.on=i\/∃m,aT acc e.on=some m/\m.testBit i=true)
 | [],s,i,h=>.inl h
 | e::r,s,i,h=>by
  simp only[pY]at h
  rcases CK acc r _ i h with a|⟨d,b,f⟩
  .split at a
   .rename_i hb;rw[Nat.testBit_or,Nat.testBit_or,VR,VR]at a
    rcases a with (a|a)|a
    .exact .inl a
    .refine .inr ⟨e,VO,hb,.inl ?_⟩;rw[Nat.testBit_two_pow]at a;simpa using a
    .cases hl:aT acc e.on with
     | none=>simp[hl]at a
     | some m=>simp only[hl]at a;exact .inr ⟨e,VO,hb,.inr ⟨m,hl,a⟩⟩
   .exact .inl a
  .exact .inr ⟨d,VQ _ b,f⟩
theorem CN:∀(r:List Oper) (acc:List Nat) (j:Nat),acc.length<=j->∀o,r[j-acc.length]?=some o->
  ∃a,a.length=j/\aT (jK r acc) j=some (pY a o.after.toList 0)/\∀k,k<j->aT a k=aT (jK r acc) k
 | [],acc,j,_,o,h=>by simp at h
 | o'::r,acc,j,hj,o,h=>by
  have pre:∀(r:List Oper) (acc:List Nat) (k:Nat),k<acc.length->aT (jK r acc) k=aT acc k:=by
   intro r
   induction r with
   | nil=>intro acc k _;rfl
   | cons x r ih=>
    intro acc k b;simp only[jK];rw[ih _ k (by simp;omega),eH,eH,List.getElem?_append_left b]
  by_cases h0:j=acc.length
  .subst h0;simp at h;subst h;refine⟨acc,rfl,?_,λk b=>?_⟩
   .simp only[jK];rw[pre r _ acc.length (by simp),eH,List.getElem?_append_right (VF _)];simp
   .simp only[jK];rw[pre r _ k (by simp;omega),eH,eH,List.getElem?_append_left b]
  .simp only[jK];refine CN r (acc++[pY acc o'.after.toList 0]) j (by simp;omega) o ?_;rw[<-h];have:j-acc.length=(j-(acc++[pY acc o'.after.toList 0]).length)+1:=by simp;omega
   rw[this,List.getElem?_cons_succ]
theorem bf_ok(ops:Array Oper):BfOk ops (bfB (jK ops.toList [])):=by
 intro j f h i hi;have d:ops.toList[j]?=some f:=by simpa using h
 obtain⟨a,u,s,k⟩:=CN ops.toList [] j (by simp) f (by simpa using d);unfold bfB at hi;rw[s]at hi
 rcases CK a _ 0 i hi with c|⟨e,t,hb,c⟩
 .simp at c
 .refine⟨e,by simpa using t,hb,c.imp id ?_⟩;rintro⟨m,hm,hbit⟩;have b:e.on<j:=by
   rw[eH]at hm;have:=(List.getElem?_eq_some_iff.1 hm).1;omega
  refine⟨b,?_,?_⟩
  .unfold bfB;rw[<-k _ b,hm];exact hbit
  .have n:=(Array.getElem?_eq_some_iff.1 h).1;simp[show e.on<ops.size by omega]
theorem CR(B:List Nat)(i:Nat):∀a:kv,pZ B i a=a.filter (λx=>!bfB B i x.1)
 | []=>rfl
 | (j,f)::r=>by
  simp only[pZ,Wm]
  cases h:bfB B i j <;> simp[CR B i r]
theorem vy:∀(d:kv) (H:aC) (q:Prop),vq d H q->(∀x∈d,pU x.2 H)/\q
 | [],_,_,h=>⟨λx a=>(by cases a),h⟩
 | (i,none)::r,H,q,h=>by
  obtain⟨c,b⟩:=vy r H q h;exact⟨λx a=>by rcases VN.1 a with rfl|a;exact trivial;exact c x a,b⟩
 | (i,some f)::r,H,q,h=>by
  obtain⟨c,b⟩:=vy r H q h.2;exact⟨λx a=>by rcases VN.1 a with rfl|a;exact h.1;exact c x a,b⟩
theorem CZ{f:Nat->Prop}:∀{l:List Nat},allL l f->l≠[]/\∀i∈l,f i
 | [],h=>h.elim
 | [i],h=>⟨by simp,λj c=>by simp at c;subst c;exact h⟩
 | i::j::r,h=>by
  have b:f i/\allL (j::r) f:=h;obtain⟨_,d⟩:=CZ b.2;exact⟨by simp,λk a=>by rcases VN.1 a with rfl|a;exact b.1;exact d k a⟩
def isWB(X:Ctx)(ops:Array Oper)(i:Nat):Bool:=match aT ops.toList i with|some o=>(match mf X o.op with|.W=>true|_=>false)|none=>false
theorem yw:∀{l:List Nat} {i:Nat},l8 X ops l=some i->i∈l/\isWB X ops i=false
 | [],_,h=>by cases h
 | j::r,i,h=>by
  simp only[l8]at h
  cases hl:aT ops.toList j with
  | none=>simp only[hl]at h;obtain⟨b,a⟩:=yw h;exact⟨VQ _ b,a⟩
  | some o=>
   simp only[hl]at h
   cases hk:mf X o.op with
   | W=>simp only[hk]at h;obtain⟨b,a⟩:=yw h;exact⟨VQ _ b,a⟩
   | P=>simp only[hk]at h;cases h;exact⟨VO,by simp[isWB,hl,hk]⟩
   | R=>simp only[hk]at h;cases h;exact⟨VO,by simp[isWB,hl,hk]⟩
theorem yx:∀{l:List Nat},l8 X ops l=none->∀i∈l,∀o,aT ops.toList i=some o->isWB X ops i=true
 | [],_,i,hi,_,_=>by cases hi
 | j::r,h,i,hi,o,ho=>by
  simp only[l8]at h
  cases hl:aT ops.toList j with
  | none=>
   simp only[hl]at h
   rcases VN.1 hi with rfl|hi
   .rw [ho]at hl;cases hl
   .exact yx h i hi o ho
  | some o'=>
   simp only[hl]at h
   cases hk:mf X o'.op with
   | W=>
    simp only[hk]at h
    rcases VN.1 hi with rfl|hi
    .simp [isWB,hl,hk]
    .exact yx h i hi o ho
   | P=>simp[hk]at h
   | R=>simp[hk]at h
theorem vz{K:Fr->aC->Prop}{w0:World}(D:∀f,bI f X.calls=true->gF X.P f)(hs:Region.noSelect ops=true){Inv:Act->Prop}(c:∀a o v,o∈ops.toList->Inv a->Inv (a.put o.dst v)) :
  ∀(n:Nat) (b:Array Bool) (s:kv) (kn:Kn) (gs:List Nat) (fr:Fr) (H:aC) (a:Act),pW ops b->(∀x∈s,pU x.2 H)->fT ops fr kn gs a->Inv a->oK X ops n b=true->
  re X ops (jK ops.toList []) K n b s kn gs fr H->
  pV X.P w0 X.kp ops (isWB X ops) (bfB (jK ops.toList [])) (λQ L=>(∃d,Rel d Q/\K d L)/\Inv Q) n s b a H
 | 0,b,s,kn,gs,fr,H,a,hc,hp,R,ha,j,h=>by
  simp only[re,yp,lv]at h
  split at h
  .rename_i S;exact⟨hp,S,⟨_,vx R,h⟩,ha⟩
  .exact h.elim
 | n+1,b,s,kn,gs,fr,H,a,hc,hp,R,ha,j,h=>by
  simp only[re,lv,yq,yp]at h;simp only[oK,yp]at j
  cases hf:l8 X ops (Region.ready .any ops b) with
  | some i=>
   simp only[hf]at h;simp only[hf,VB]at j;obtain⟨hi,t⟩:=yw hf
   cases hl:aT ops.toList i with
   | none=>simp[hl]at h
   | some o=>
    simp only[hl]at h;obtain⟨v,f,d,e,B,C,G,F⟩:=CI D R h;have k:ops[i]?=some o:=by rw[eH]at hl;simpa using hl
    have m:∀v,Inv (a.put o.dst v):=λv=>c a o v (by rw[eH]at hl;exact Wk hl) ha
    refine first_R (bf_ok ops) hs k t n s b a H hc (Region.free_spec k j.1) hi C ?_;exact vz D hs c n _ _ kn e d H _ (hc.set hi) (λx M=>by rcases VN.1 M with rfl|M;exact G;exact hp x M) F (m _) j.2 B
  | none=>
   simp only[hf]at h;simp only[hf,Wt]at j;obtain⟨O,I⟩:=CZ h;refine⟨hp,λh0=>V6 h0 O,λi hi w N T=>?_⟩
   have y:=I i hi
   cases hl:aT ops.toList i with
   | none=>simp[hl]at y
   | some o=>
    simp only[hl]at y;have k:ops[i]?=some o:=by rw[eH]at hl;simpa using hl
    have m:∀v,Inv (a.put o.dst v):=λv=>c a o v (by rw[eH]at hl;exact Wk hl) ha
    have t:=yx hf i hi o hl;have E:nq (isWB X ops) (bfB (jK ops.toList [])) i s=pZ (jK ops.toList []) i s:=by unfold nq;rw[V5 t,CR]
    have B:=CJ D R y w N;simp only[k]
    split
    .rename_i u;rw[V5 u]at B;refine B.mono λv L j=>?_
     obtain⟨d,A,e,C,G⟩:=j;obtain⟨F,J⟩:=vy _ _ _ C;rw[E];exact vz D hs c n _ _ A e d L _ (hc.set hi) F G (m _) (j i hi) J
    .rename_i u;rw[V4 u]at B;obtain⟨d,A,e,C,G⟩:=B;obtain⟨F,J⟩:=vy _ _ _ C;rw[E];exact vz D hs c n _ _ A e d H _ (hc.set hi) F G (m _) (j i hi) J
end
end Go.Proofs.YtaaieblnikcndaaGreatDoor
