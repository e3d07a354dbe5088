/-
  Lemmas for TaleBack: part 1 of what it rests on. Conditions: none.
-/
import Derived.Test.YtnjaappmhadfdaaGreatDoorTF0
set_option linter.unusedVariables false
set_option linter.unusedSimpArgs false
set_option maxRecDepth 100000
set_option maxHeartbeats 16000000
open Go.IntKind (i64 u64 i8 u8 i32 u32 i16 u16)
namespace Go.Proofs.YtnjaappmhadfdaaGreatDoor
open Go
def cP.fits:cP->Value->Bool
 | .int k,.int k' _=>k=k'
 | .bool,.bool _=>true
 | .str,.string _=>true
 | .ptr,.pointer _=>true
 | .slice,.slice _ _ _=>true
 | .map,.map _=>true
 | .raw,_=>true
 | .fnv,.func (.func _) ⟨[]⟩ _=>true
 | .adr,.pointer (some ⟨_,_,none⟩)=>true
 | _,_=>false
def nK:List cP->Xb->Bool
 | [],[]=>true
 | l::r,v::vs=>l.fits v&&nK r vs
 | _,_=>false
def Sh.fits:Sh->Value->Bool
 | .one l,v=>l.fits v
 | .agg ls,.agg cs=>nK ls cs.toList
 | .agg _,_=>false
def cP.lam:(l:cP)->{T:Type}->(Value->T)->l.fn T
 | .int k,_,f=>λn=>f (.int k n)
 | .bool,_,f=>λb=>f (.bool b)
 | .str,_,f=>λs=>f (.string s)
 | .ptr,_,f=>λa=>f (.pointer a)
 | .slice,_,f=>λa n c=>f (.slice a n c)
 | .map,_,f=>λr=>f (.map r)
 | .raw,_,f=>λv=>f v
 | .fnv,_,f=>λg cap=>f (.func (.func g) ⟨[]⟩ ⟨cap⟩)
 | .adr,_,f=>λb o=>f (.pointer (some ⟨b,o,none⟩))
 | .vec _ _,_,f=>f (.bool false)
def lamLs:(ls:List cP)->{T:Type}->(Xb->T)->fnLs ls T
 | [],_,f=>f []
 | l::r,T,f=>l.lam (T:=fnLs r T) λv=>lamLs r λvs=>f (v::vs)
def Sh.lam:(s:Sh)->{T:Type}->(Value->T)->s.fn T
 | .one l,_,f=>l.lam f
 | .agg ls,_,f=>lamLs ls λvs=>f (.agg ⟨vs⟩)
def lamJ:(L:dj)->{T:Type}->(Xb->T)->JT T L
 | [],_,f=>f []
 | (_,s)::r,T,f=>s.lam (T:=JT T r) λv=>lamJ r λvs=>f (v::vs)
theorem Cs{v:Value}(h:cP.fits .fnv v=true):∃g cap,v=.func (.func g) ⟨[]⟩ cap:=by
 cases v <;> (try cases h)
 rename_i fn first cap
 cases fn <;> (try cases h)
 rcases first with ⟨_|_⟩ <;> (try cases h)
 grind
theorem Ct{v:Value}(h:cP.fits .adr v=true):∃b o,v=.pointer (some ⟨b,o,none⟩):=by
 cases v <;> (try cases h)
 rename_i a
 rcases a with _|⟨b,o,_|s⟩ <;> (try cases h)
 grind
theorem Cu(l:cP){T:Type}(f:Value->T)(v:Value)(h:l.fits v=true):l.app (l.lam f) v=some (f v):=by
 cases l
 case fnv=>obtain⟨g,⟨cap⟩,rfl⟩:=Cs h;rfl
 case adr=>obtain⟨b,o,rfl⟩:=Ct h;rfl
 all_goals (cases v <;> simp_all[cP.fits,cP.app,cP.lam])
theorem Cv(l:cP){T:Type}(f:l.fn T)(v:Value)(g:T)(h:l.app f v=some g):l.fits v=true:=by
 cases l
 case fnv=>
  cases v <;> (try cases h)
  rename_i fn first cap
  cases fn <;> (try cases h)
  rcases first with ⟨_|_⟩ <;> (try cases h);rfl
 case adr=>
  cases v <;> (try cases h)
  rename_i a
  rcases a with _|⟨b,o,_|s⟩ <;> (try cases h);rfl
 all_goals (cases v <;> simp_all[cP.fits,cP.app])
theorem Cw{l:cP}{K:Value->Prop}:l.all K↔∀v,l.fits v=true->K v:=by
 cases l
 case int k=>exact⟨λh v d=>by cases v <;> simp[cP.fits]at d;subst d;exact h _,λh n=>h _ (by simp[cP.fits])⟩
 case bool=>exact⟨λh v d=>by cases v <;> simp[cP.fits]at d;exact h _,λh n=>h _ rfl⟩
 case str=>exact⟨λh v d=>by cases v <;> simp[cP.fits]at d;exact h _,λh n=>h _ rfl⟩
 case ptr=>exact⟨λh v d=>by cases v <;> simp[cP.fits]at d;exact h _,λh n=>h _ rfl⟩
 case slice=>exact⟨λh v d=>by cases v <;> simp[cP.fits]at d;exact h _ _ _,λh a n c=>h _ rfl⟩
 case adr=>exact⟨λh v d=>by obtain⟨b,o,rfl⟩:=Ct d;exact h _ _,λh b o=>h _ rfl⟩
 case fnv=>exact⟨λh v d=>by obtain⟨g,⟨cap⟩,rfl⟩:=Cs d;exact h _ _,λh f cap=>h _ rfl⟩
 case map=>exact⟨λh v d=>by cases v <;> simp[cP.fits]at d;exact h _,λh n=>h _ rfl⟩
 case raw=>exact⟨λh v _=>h v,λh v=>h v rfl⟩
 case vec=>exact⟨λh v d=>(by cases v <;> cases d),λh=>trivial⟩
theorem Cx:∀(ls:List cP) {T:Type} (f:Xb->T) (vs:Xb),nK ls vs=true->qL ls (lamLs ls f) vs=some (f vs)
 | [],_,f,[],_=>rfl
 | [],_,f,_::_,h=>by cases h
 | l::r,_,f,[],h=>by cases h
 | l::r,T,f,v::vs,h=>by
  simp only[nK,V4]at h;simp only[qL,lamLs];rw[Cu l _ v h.1];exact Cx r _ vs h.2
theorem Cy:∀(ls:List cP) {T:Type} (f:fnLs ls T) (vs:Xb) (g:T),qL ls f vs=some g->nK ls vs=true
 | [],_,f,[],_,_=>rfl
 | [],_,f,_::_,_,h=>by cases h
 | l::r,_,f,[],_,h=>by cases h
 | l::r,T,f,v::vs,g,h=>by
  simp only[qL]at h
  split at h
  .rename_i f' a;simp only[nK,V4];exact⟨Cv l _ v _ a,Cy r _ vs g h⟩
  .cases h
theorem ls_all:∀{ls:List cP} {K:Xb->Prop},allLs ls K↔∀vs,nK ls vs=true->K vs
 | [],K=>⟨λh vs a=>(by cases vs with|nil=>exact h|cons=>cases a),λh=>h [] rfl⟩
 | l::r,K=>by
  simp only[allLs,Cw,ls_all];refine⟨λh vs a=>?_,λh v a vs b=>h _ (by grind [nK])⟩
  cases vs with
  | nil=>cases a
  | cons v vs=>
   simp only[nK,V4]at a;exact h v a.1 vs a.2
theorem Nt(s:Sh){T:Type}(f:Value->T)(v:Value)(h:s.fits v=true):s.app (s.lam f) v=some (f v):=by
 cases s with
 | one l=>exact Cu l f v h
 | agg ls=>
  cases v <;> try cases h
  rename_i cs;simp only[Sh.app,Sh.lam];rw[Cx ls _ cs.toList h]
theorem Nu(s:Sh){T:Type}(f:s.fn T)(v:Value)(g:T)(h:s.app f v=some g):s.fits v=true:=by
 cases s with
 | one l=>exact Cv l f v g h
 | agg ls=>
  cases v <;> try cases h
  rename_i cs;exact Cy ls f cs.toList g h
theorem sh_all{s:Sh}{K:Value->Prop}:s.all K↔∀v,s.fits v=true->K v:=by
 cases s with
 | one l=>exact Cw
 | agg ls=>
  simp only[Sh.all,ls_all];refine⟨λh v b=>?_,λh vs a=>h _ a⟩
  cases v <;> try cases b
  exact h _ b
def kQ:dj->Xb->Bool
 | [],[]=>true
 | (_,s)::r,v::vs=>s.fits v&&kQ r vs
 | _,_=>false
def gi:dj->Fr->Xb->Fr
 | (t,_)::r,fr,v::vs=>gi r (dP fr t (.p v)) vs
 | _,fr,_=>fr
def fI(fr:Fr):dj->Option (Xb)
 | []=>some []
 | (t,_)::r=>match ge fr t,fI fr r with|some v,some vs=>some (v::vs)|_,_=>none
def appV:(L:dj)->{T:Type}->JT T L->Xb->Option T
 | [],_,j,[]=>some j
 | (_,s)::r,T,j,v::vs=>match s.app (T:=JT T r) j v with|some j'=>appV r j' vs|none=>none
 | _,_,_,_=>none
theorem yg:∀{L:dj} {fr:Fr} {K:Fr->Prop},allJ L fr K↔∀vs,kQ L vs=true->K (gi L fr vs)
 | [],fr,K=>⟨λh vs a=>(by cases vs with|nil=>exact h|cons=>cases a),λh=>h [] rfl⟩
 | (t,s)::r,fr,K=>by
  simp only[allJ,kJ,sh_all,yg];refine⟨λh vs a=>?_,λh v a vs b=>h (v::vs) (by grind [kQ])⟩
  cases vs with
  | nil=>cases a
  | cons v vs=>
   simp only[kQ,V4]at a;exact h v a.1 vs a.2
theorem yh:∀(L:dj) {T:Type} (j:JT T L) (fr:Fr) (g:T),l9 L j fr=some g->∃vs,fI fr L=some vs/\appV L j vs=some g/\kQ L vs=true
 | [],_,j,fr,g,h=>⟨[],rfl,h,rfl⟩
 | (t,s)::r,T,j,fr,g,h=>by
  simp only[l9]at h
  cases hg:ge fr t with
  | none=>simp[hg]at h
  | some v=>
   simp only[hg]at h
   cases ha:s.app (T:=JT T r) j v with
   | none=>simp[ha]at h
   | some j'=>
    simp only[ha]at h;obtain⟨vs,c,b,a⟩:=yh r j' fr g h;refine⟨v::vs,?_,?_,?_⟩
    .simp only[fI,hg,c]
    .simp only[appV,ha,b]
    .simp only[kQ,Nu s _ v _ ha,a,Bool.and_self]
theorem sO:∀(L:dj) {T:Type} (j:JT T L) (fr:Fr) (vs:Xb),fI fr L=some vs->l9 L j fr=appV L j vs
 | [],_,j,fr,vs,h=>by simp[fI]at h;subst h;rfl
 | (t,s)::r,T,j,fr,vs,h=>by
  simp only[fI]at h
  cases hg:ge fr t with
  | none=>simp[hg]at h
  | some v=>cases hr:fI fr r with
   | none=>simp[hg,hr]at h
   | some vs'=>
    simp only[hg,hr,Option.some.injEq]at h;subst h;simp only[l9,hg,appV]
    cases s.app (T:=JT T r) j v with
    | none=>rfl
    | some j'=>exact sO r j' fr vs' hr
theorem yi:∀(L:dj) {T:Type} (f:Xb->T) (vs:Xb),kQ L vs=true->appV L (lamJ L f) vs=some (f vs)
 | [],_,f,[],_=>rfl
 | [],_,f,_::_,h=>by cases h
 | _::_,_,f,[],h=>by cases h
 | (t,s)::r,T,f,v::vs,h=>by
  simp only[kQ,V4]at h;simp only[appV,lamJ];rw[Nt s _ v h.1];exact yi r _ vs h.2
def mR:dj->Nat->Bool
 | [],_=>true
 | (t,_)::r,n=>Nat.blt t n&&r.all (λx=>!(Nat.beq x.1 t))&&mR r n
theorem Cz:∀(L:dj) (fr:Fr) (vs:Xb),(gi L fr vs).length=fr.length
 | [],fr,vs=>by cases vs <;> rfl
 | (t,s)::r,fr,[]=>rfl
 | (t,s)::r,fr,v::vs=>by simp only[gi];rw[Cz,nJ]
theorem C0:∀(L:dj) (fr:Fr) (vs:Xb) (t:Nat),(∀x∈L,x.1≠t)->aI (gi L fr vs) t=aI fr t
 | [],fr,vs,t,_=>by cases vs <;> rfl
 | (u,s)::r,fr,[],t,_=>rfl
 | (u,s)::r,fr,v::vs,t,h=>by
  simp only[gi];rw[C0 r _ vs t (λx a=>h x (VF _ a)),eV,Vz (λb=>h _ VI b.1)]
theorem Nv{t:Nat}{s:Sh}{r:dj}{n:Nat}(h:mR ((t,s)::r) n=true):t<n/\(∀x∈r,x.1≠t)/\mR r n=true:=by
 simp only[mR,V4,VK]at h;refine⟨by simp_all,λx a b=>?_,h.2⟩
 have:=h.1.2 x a
 simp_all
theorem yj:∀(L:dj) (fr:Fr) (vs:Xb),mR L fr.length=true->kQ L vs=true->fI (gi L fr vs) L=some vs
 | [],fr,[],_,_=>rfl
 | [],fr,_::_,_,h=>by cases h
 | _::_,fr,[],_,h=>by cases h
 | (t,s)::r,fr,v::vs,hok,h=>by
  obtain⟨c,b,a⟩:=Nv hok;simp only[kQ,V4]at h;have d:=yj r (dP fr t (.p v)) vs (by rw[nJ];exact a) h.2;simp only[gi,fI,d];have:ge (gi r (dP fr t (.p v)) vs) t=some v:=by
   unfold ge;rw[C0 r _ vs t b,eV,V1 ⟨rfl,c⟩]
  rw[this]
theorem C7:∀{L:dj} {fr:Fr} {vs:Xb},fI fr L=some vs->∀a,(∀t v,aI fr t=some (.p v)->t<a.length)->∀t v,aI (gi L a vs) t=some (.p v)->aI fr t=some (.p v)\/(aI a t=some (.p v)/\∀x∈L,x.1≠t)
 | [],fr,vs,h,a,_,t,v,hl=>by simp[fI]at h;subst h;exact .inr ⟨hl,λx c=>by cases c⟩
 | (u,s)::r,fr,vs,h,a,hlen,t,v,hl=>by
  simp only[fI]at h
  cases hg:ge fr u with
  | none=>grind
  | some v'=>cases hr:fI fr r with
   | none=>grind
   | some vs'=>
    simp only[hg,hr,Option.some.injEq]at h;subst h;have d:aI fr u=some (.p v'):=by
     grind [ge]
    simp only[gi]at hl
    rcases C7 hr (dP a u (.p v')) (λt v h=>by grind [nJ]) t v hl with b|⟨b,e⟩
    .grind
    .rw [eV]at b
     grind
def gj:List Oper->List Nat
 | []=>[]
 | o::r=>match o.dst with|some d=>d::gj r|none=>gj r
def eW:Code->List Nat
 | .region _ ops _=>gj ops.toList
 | .seq a b=>eW a++eW b
 | .cond _ a b=>eW a++eW b
 | .block _ a=>eW a
 | .loop a=>eW a
 | _=>[]
inductive Ann where
 | no
 | reg
 | regJ (live:dj)
 | seq (a b:Ann)
 | cond (a b:Ann)
 | condJ (live:dj) (a b:Ann)
 | blk (a:Ann)
 | blkJ (live:dj) (a:Ann)
 | loop (live:dj) (a:Ann)
 | rng (shs:List Sh) (jumps:List (Option Code)) (x y:Ann)
def natJ(L:dj)(μ:JT (aC->Nat) L)(fr:Fr)(H:aC):Nat:=match l9 L μ fr with|some m=>m H|none=>0
def pJ(L:dj)(ds:List Nat)(fr:Fr)(rest:Fr->aC->Prop)(body:(Fr->aC->Prop)->Prop):Prop:=
 if mR L fr.length=false then False else
 ∀J:JT (aC->Prop) L,(gu (lA ds 0 fr) λfr0=>allJ L fr0 λfr'=>∀H',rest fr' H'->iO L J fr' H')->body (iO L J)
def qY(X:bX)(rd:Bool)(ops:Array Oper)(draw:Bool)(K:Fr->List DM->aC->Prop)(fr:Fr)(H:aC):Prop:=
 match draw with
 | false=>kO X ops rd K ops.toList [] [] fr H
 | true=>(match Nat.ble 45 ops.size with
  | true=>vcDrawI X ops (λfr' H'=>K fr' [] H') fr H
  | false=>qT X ops (jD ops.toList []) (λfr' H'=>K fr' [] H') ops.size (Array.replicate ops.size false) [] [] [] fr H)
def pan1(v:Value):Exit:=.panic [{ v,recovered:=false }]
abbrev QT:=Exit->Fr->List DM->aC->Prop
def iQ(H:aC)(l:Nat)(R:Loop):aC:=H.setIfInBounds l (.loop R)
def uW:Fr->List Tmp->Xb->Fr
 | fr,t::ts,v::vs=>uW (dP fr t (.p v)) ts vs
 | fr,_,_=>fr
def roundEnd(l:Nat)(R:Loop)(K:KQ):Exit->aC->Prop
 | .normal,H=>K (.bool true) (iQ H l R)
 | .ret,H=>K (.bool false) (iQ H l { R with state:=.done,pending:=some .ret })
 | .exit i,H=>K (.bool false) (iQ H l { R with state:=.done,pending:=some (.exit i) })
 | _,_=>False
def jumpQ(Q:Exit->Prop):Option Code->Prop
 | none=>Q .normal
 | some .ret=>Q .ret
 | some (.exit i)=>Q (.exit i)
 | some _=>False
def jumpK(Q:Exit->Prop):List (Option Code)->Option Code->Prop
 | [],_=>False
 | [c],pd=>pd=c/\jumpQ Q c
 | c::d::r,pd=>(pd=c/\jumpQ Q c)\/jumpK Q (d::r) pd
def jE:List DM->Prop->Prop
 | [],q=>q
 | _::_,_=>False
def bX.kq(X:bX)(ds:List Nat)(fr:Fr)(Q:QT):bX:={ X with kp:=λv H=>Q (pan1 v) (fG ds fr) [] H }
def bX.np(X:bX):bX:={ X with kp:=λ_ _=>False }
def seqQ(C:QT->Fr->aC->Prop)(Q:QT):QT:=λe fr M H=>match e with|.normal=>C (λe' fr' M' H'=>Q e' fr' (M'++M) H') fr H|e=>Q e fr M H
def seqN(C:QT->Fr->aC->Prop)(Q:QT):QT:=λe fr M H=>match e with|.normal=>(match M with|[]=>C Q fr H|M=>C (λe' fr' M' H'=>Q e' fr' (M'++M) H') fr H)|e=>Q e fr M H
theorem seqN_eq(C:QT->Fr->aC->Prop)(Q:QT):seqN C Q=seqQ C Q:=by
 funext e fr M H;unfold seqN seqQ
 cases e <;> try rfl
 cases M
 .simp_all
 .rfl
def joinQ(J:Fr->aC->Prop)(Q:QT):QT:=λe fr M H=>match e with|.normal=>jE M (J fr H)|e=>Q e fr M H
def blkQ(id:Nat)(Q:QT):QT:=λe fr M H=>match e with|.exit i=>if i=id then Q .normal fr M H else Q (.exit i) fr M H|e=>Q e fr M H
def blkJQ(id:Nat)(J:Fr->aC->Prop)(Q:QT):QT:=λe fr M H=>match e with|.exit i=>if i=id then jE M (J fr H) else Q (.exit i) fr M H|.normal=>jE M (J fr H)|e=>Q e fr M H
def endJ(L:dj)(I:JT (aC->Prop) L)(μ:JT (aC->Nat) L)(fr0:Fr)(H0:aC)(fr:Fr)(H:aC):Prop:=match l9 L I fr,l9 L μ fr,l9 L μ fr0 with
 | some p,some m,some m0=>p H/\m H<m0 H0
 | _,_,_=>False
theorem Nw{L:dj}{I:JT (aC->Prop) L}{μ:JT (aC->Nat) L}{a:Fr}{H0:aC}{fr:Fr}{H:aC}(h:endJ L I μ a H0 fr H):iO L I fr H/\natJ L μ fr H<natJ L μ a H0:=by
 grind [endJ,iO,natJ]
def loopQ(L:dj)(I:JT (aC->Prop) L)(μ:JT (aC->Nat) L)(fr0:Fr)(H0:aC)(Q:QT):QT:=λe fr M H=>match e with|.normal=>jE M (endJ L I μ fr0 H0 fr H)|e=>Q e fr M H
def regQ(X:bX)(ds:List Nat)(fr:Fr)(Q:QT)(C:bX->Prop):Prop:=match X.nop with|true=>C X.np|false=>C (X.kq ds fr Q)
def norQ(Q:QT):Fr->List DM->aC->Prop:=λfr M H=>Q .normal fr M H
def eA(X:bX):Option Nat->Code->Ann->QT->Fr->aC->Prop
 | _,.skip,_,Q,fr,H=>Q .normal fr [] H
 | ro,.region _ ops d,.reg,Q,fr,H=>regQ X (gj ops.toList) fr Q λY=>qY Y ro.isNone ops d (norQ Q) fr H
 | ro,.region _ ops d,.regJ L,Q,fr,H=>pJ L (gj ops.toList) fr (λfr' H'=>Q .normal fr' [] H') λJ=>regQ X (gj ops.toList) fr Q λY=>qY Y ro.isNone ops d (λfr' M H'=>jE M (J fr' H')) fr H
 | ro,.seq a b,.seq x y,Q,fr,H=>eA X ro a x (seqN (λQ' fr' H'=>eA X ro b y Q' fr' H') Q) fr H
 | ro,.cond c a b,.cond x y,Q,fr,H=>(match evG #[] fr [] none c with
  | some (.bool t)=>(t=true->eA X ro a x Q fr H)/\(t=false->eA X ro b y Q fr H)
  | _=>False)
 | ro,.cond c a b,.condJ L x y,Q,fr,H=>(match evG #[] fr [] none c with
  | some (.bool t)=>pJ L (eW a++eW b) fr (λfr' H'=>Q .normal fr' [] H') λJ=>
    (t=true->eA X ro a x (joinQ J Q) fr H)/\(t=false->eA X ro b y (joinQ J Q) fr H)
  | _=>False)
 | ro,.block id a,.blk x,Q,fr,H=>eA X ro a x (blkQ id Q) fr H
 | ro,.block id a,.blkJ L x,Q,fr,H=>pJ L (eW a) fr (λfr' H'=>Q .normal fr' [] H') λJ=>eA X ro a x (blkJQ id J Q) fr H
 | ro,.loop a,.loop L x,Q,fr,H=>if mR L fr.length=false then False else ∃I:JT (aC->Prop) L,∃μ:JT (aC->Nat) L,iO L I fr H/\
   gu (lA (eW a) 0 fr) λfr0=>allJ L fr0 λfr'=>∀H',iO L I fr' H'->eA X ro a x (loopQ L I μ fr' H' Q) fr' H'
 | none,.rangeFunc g ps a b,.rng shs js x y,Q,fr,H=>(match evG #[] fr [] none g with
  | some (.func (.func gf) ⟨[]⟩ ⟨cap⟩)=>if Nat.beq shs.length ps.toList.length=false then False else
    bK gf X.calls=true/\∀R:Loop,R.state=.ready->R.pending=none->
     (∀(vs:Xb) (H1:aC) (K1:KQ),
      (pm shs λus=>vs=us/\H1[H.size+1]?=some (.loop R)/\eA X (some (H.size+1)) a x (λe f1 M H2=>match e with
       | .normal=>jE M (H2[H.size+1]?=some (.loop R)/\∀H2':aC,H2'=iQ H2 (H.size+1) { R with state:=.busy }->eA X (some (H.size+1)) b y (λe' _ M2 H3=>jE M2 (H3[H.size+1]?=some (.loop { R with state:=.busy })/\roundEnd (H.size+1) R K1 e' H3)) f1 H2')
       | _=>False) (uW fr ps.toList us) H1)->eK X.P (H.size+1) vs H1 K1)->
     gU X.P gf ⟨.func (.yield (H.size+1)) #[] #[]::cap⟩ ((H.push (.deferred (some []))).push (.loop R)) λ_ H2=>∃(st:LoopState) (pd:Option Code),st≠.busy/\H2[H.size+1]?=some (.loop { R with state:=st,pending:=pd })/\
      ∀H2':aC,H2'=iQ H2 (H.size+1) { R with state:=.exhausted,pending:=pd }->jumpK (λe=>Q e fr [.mark H.size] H2') js pd
  | _=>False)
 | _,.exit id,_,Q,fr,H=>Q (.exit id) fr [] H
 | _,.ret,_,Q,fr,H=>Q .ret fr [] H
 | _,_,_,_,_,_=>False
theorem lG{M:List DM}{q:Prop}:jE M q↔M=[]/\q:=by cases M <;> simp[jE]
theorem C8:∀(l:List Oper) (o:Oper) (d:Tmp),o∈l->o.dst=some d->d∈gj l
 | [],_,_,h,_=>by cases h
 | x::r,o,d,h,hd=>by
  simp only[gj]
  rcases V9.1 h with rfl|h
  .grind
  .have:=C8 r o d h hd
   split
   .exact VF _ this
   .exact this
structure dQ(ds:List Nat)(a a':Act):Prop where
 defers:a'.defers=a.defers
 size:a'.tmps.size=a.tmps.size
 same:∀t,t∉ds->a'.tmps[t]?=a.tmps[t]?
theorem dQ.refl(ds:List Nat)(a:Act):dQ ds a a:=⟨rfl,rfl,λ_ _=>rfl⟩
theorem dQ.trans{ds:List Nat}{a b c:Act}(h:dQ ds a b)(k:dQ ds b c):dQ ds a c:=
 ⟨k.defers.trans h.defers,k.size.trans h.size,λt d=>(k.same t d).trans (h.same t d)⟩
theorem dQ.put{ds:List Nat}{a b:Act}(h:dQ ds a b){d:Option Tmp}(hd:∀t,d=some t->t∈ds)(v:Value):dQ ds a (b.put d v):=by
 cases d with
 | none=>exact h
 | some t=>
  refine⟨h.defers,?_,λu c=>?_⟩
  .rw [qU,Array.size_setIfInBounds];exact h.size
  .rw [qU,Array.getElem?_setIfInBounds,Vz (λe=>c (by grind))];exact h.same u c
theorem sR(ds:List Nat)(fr:Fr):(fG ds fr).length=fr.length:=by
 unfold fG
 induction ds generalizing fr with
 | nil=>rfl
 | cons d r ih=>grind [nJ]
theorem uX{ds:List Nat}:∀{fr:Fr} {t:Nat} {s:SV},aI (fG ds fr) t=some s->s=.x\/(aI fr t=some s/\t∉ds):=by
 unfold fG
 induction ds with
 | nil=>grind
 | cons d r ih=>
  intro fr t s h;simp only[List.foldl_cons]at h
  rcases ih h with a|⟨a,b⟩
  .grind
  .rw [eV]at a
   split at a
   .grind
   grind [dq]
theorem C9(n:Nat):∀ds,lA.memD n ds=true↔n∈ds
 | []=>by simp[lA.memD]
 | m::r=>by
  unfold lA.memD;rw[V9,<-C9 n r]
  cases h:Nat.beq n m with
  | true=>simp[Wz h]
  | false=>
   have:n≠m:=λe=>by subst e;rw[Nat.beq_refl]at h;cases h
   simp[this]
theorem CE(ds:List Nat):∀(fr:Fr) (i t:Nat),aI (lA ds i fr) t=(aI fr t).map λs=>if i+t∈ds then .x else s
 | [],_,_=>rfl
 | s::r,i,0=>by
  simp only[lA,aI,VT,Wk];have:=C9 i ds
  grind
 | s::r,i,t+1=>by
  simp only[lA,aI];rw[CE ds r (i+1) t,Nat.add_assoc,Nat.add_comm 1 t]
theorem CG:∀(ds:List Nat) (fr:Fr) (t:Nat),aI (fG ds fr) t=(aI fr t).map λs=>if t∈ds then .x else s
 | [],fr,t=>by simp[fG]
 | d::r,fr,t=>by
  have:fG (d::r) fr=fG r (dP fr d .x):=rfl;rw[this,CG r,eV]
  by_cases h:d=t
  .subst h
   by_cases hl:d<fr.length
   .rw [V1 ⟨rfl,hl⟩,dq,List.getElem?_eq_getElem hl];simp
   .rw [Vz (λx=>hl x.2),dq,List.getElem?_eq_none (by omega)];rfl
  grind
theorem CI(ds:List Nat)(fr:Fr):lA ds 0 fr=fG ds fr:=by
 apply Wp;intro t;rw[<-dq,<-dq,CE,CG,VB]
theorem qZ{fr c:Fr}{a d:Act}{ds:List Nat}{L:dj}{vs:Xb}(R:Rel fr a)(K:dQ ds a d)(i:Rel c d)(n:fI c L=some vs):Rel (gi L (fG ds fr) vs) d:=by
 have k:c.length=fr.length:=by rw[<-i.size,K.size,R.size]
 refine⟨by rw[Cz,sR,K.size];exact R.size,λt v h=>?_,λt j w v h=>?_⟩
 .rcases C7 n (fG ds fr) (λt v h=>by
    grind [sR,dq]) t v h with h1|⟨h1,_⟩
  .exact i.pv _ _ h1
  .rcases uX h1 with b|⟨b,m⟩
   .cases b
   .rw [K.same t m];exact R.pv _ _ b
 .have key:∀(L:dj) (f:Fr) (vs:Xb),(∀t j w v,aI f t≠some (.g j w v))->∀t j w v,aI (gi L f vs) t≠some (.g j w v):=by
   intro L
   induction L with
   | nil=>intro f vs e t j w v;cases vs <;> exact e t j w v
   | cons x r ih=>
    intro f vs e t j w v;obtain⟨u,s⟩:=x
    cases vs with
    | nil=>exact e t j w v
    | cons v' vs=>
     grind [gi,eV]
  refine key L _ vs (λt j w v h=>?_) t j w v h
  rcases uX h with b|⟨b,_⟩
  .cases b
  .exact R.ng _ _ _ _ b
def DM.dfr:DM->Deferred
 | .mark r=>{ target:=.collected r,args:=#[] }
 | .fn g cap=>{ target:=.fn (.func g) ⟨cap⟩,args:=#[] }
def mS(M:List DM):List Deferred:=M.map DM.dfr
structure gY(ds:List Nat)(M:List DM)(a a':Act):Prop where
 defers:a'.defers=mS M++a.defers
 size:a'.tmps.size=a.tmps.size
 same:∀t,t∉ds->a'.tmps[t]?=a.tmps[t]?
theorem gY.of{ds:List Nat}{a b:Act}(h:dQ ds a b):gY ds [] a b:=⟨h.defers,h.size,h.same⟩
theorem gY.keep{ds:List Nat}{a b:Act}(h:gY ds [] a b):dQ ds a b:=⟨h.defers,h.size,h.same⟩
theorem gY.trans{ds:List Nat}{M N:List DM}{a b c:Act}(h:gY ds M a b)(k:gY ds N b c):gY ds (N++M) a c:=
 ⟨by rw[k.defers,h.defers];simp[mS],k.size.trans h.size,λt d=>(k.same t d).trans (h.same t d)⟩
theorem gY.mono{ds c:List Nat}{M:List DM}{a b:Act}(h:gY ds M a b)(hs:∀t∈ds,t∈c):gY c M a b:=
 ⟨h.defers,h.size,λt d=>h.same t (λhm=>d (hs t hm))⟩
def Out(w0:World)(a0:Act)(ds:List Nat)(Q:QT):Exit->Act->World->Prop
 | e,a,w=>bR w0 w/\∃M,gY ds M a0 a/\match e with
  | .normal=>∃fr,Rel fr a/\Q .normal fr M w.heap
  | .exit i=>∃fr,Rel fr a/\Q (.exit i) fr M w.heap
  | .ret=>∃fr,Rel fr a/\Q .ret fr M w.heap
  | .panic ch=>∃fr,Rel fr a/\Q (.panic ch) fr M w.heap
  | _=>False
theorem rel_kill{fr:Fr}{a c:Act}{ds:List Nat}(R:Rel fr a)(K:dQ ds a c):Rel (fG ds fr) c:=by
 refine⟨by rw[sR,K.size];exact R.size,λt v h=>?_,λt j w v h=>?_⟩
 .rcases uX h with b|⟨b,d⟩
  .cases b
  .rw [K.same t d];exact R.pv _ _ b
 .rcases uX h with b|⟨b,_⟩
  .cases b
  .exact R.ng _ _ _ _ b
theorem CJ{X:bX}(hm:X.P.follows .mixedOrders=true)(F:∀f,bK f X.calls=true->fq X.P f){id:Nat}{ops:Array Oper}{d:Bool}{K:Fr->List DM->aC->Prop}{fr:Fr}{w0 w:World}{a:Act}{ro:Option Nat}
  (R:Rel fr a) (G:bR w0 w) (B:oD X ops d=true) (h:qY X ro.isNone ops d K fr w.heap):(Code.region id ops d).wpIn (FR ro) 0 X.P (λe m s=>bR w0 s/\match e with
   | .normal=>∃M,gY (gj ops.toList) M a m/\∃c,Rel c m/\K c M s.heap
   | .panic ch=>∃v,ch=[{ v,recovered:=false }]/\dQ (gj ops.toList) a m/\X.kp v s.heap
   | _=>False) a w:=by
 have i:∀(b:Act) (o:Oper) (v:Value),o∈ops.toList->dQ (gj ops.toList) a b->dQ (gj ops.toList) a (b.put o.dst v):=
  λb o v S J=>J.put (λt H=>C8 _ o t S H) v
 cases d with
 | false=>
  refine wpIn_region_list ?_;refine qX (Inv:=dQ (gj ops.toList) a) F i (λc m s n k u C=>⟨n,[],.of C,c,k,u⟩) (λc m s g cap _ n k u C=>⟨n,_,⟨?_,C.size,C.same⟩,c,⟨k.size,k.pv,k.ng⟩,u⟩)
   (λv m s n k u=>⟨n,v,rfl,k,u⟩) ops.toList [] [] fr a w (λ_ h=>h) (dQ.refl _ _) (pI R) G h
  simp[mS,DM.dfr,C.defers]
 | true=>
  simp only[qY]at h;simp only[oD,V4]at B;obtain⟨hs,E,y⟩:=B;refine wpIn_region_any hm ?_;have D:bR w0 { heap:=w.heap,tape:=w.tape,drawn:=w.drawn+1,os:=w.os,output:=w.output }:=G.trans ⟨rfl,rfl,rfl⟩;refine uO (w0:=w0) (KP:=X.kp) (isW:=isWB X ops) (bf:=bfB (jD ops.toList [])) (Q:=λm H'=>(∃c,Rel c m/\K c [] H')/\dQ (gj ops.toList) a m) (λm s n k=>?_)
   (BW E) (Inv:=dQ (gj ops.toList) a) i (λv m s n k u=>⟨n,v,rfl,k,u⟩) _ [] _ _ _ D (dQ.refl _ _) ?_
  .exact⟨n,[],.of k.2,k.1⟩
  .cases hbl:Nat.ble 45 ops.size with
   | true=>
    simp only[hbl]at h;obtain⟨I,L,O⟩:=h;have A:Array.replicate ops.size false=(⟨List.replicate ops.size false⟩:Array Bool):=by simp
    rw[A];exact Cr F i O _ _ fr _ a (pI R) (dQ.refl _ _) (by simp) L
   | false=>
   simp only[hbl,WE]at h y;refine uV F hs i _ _ [] [] [] fr _ a ?_ (λx T=>by cases T) (pI R) (dQ.refl _ _) y h
   intro j V W U;exfalso
   rcases W0 j ops.size with N|N
   .simp_all
   grind
theorem yk{L:dj}{ds:List Nat}{fr:Fr}{rest:Fr->aC->Prop}{body:(Fr->aC->Prop)->Prop}(h:pJ L ds fr rest body) :
  ∃J:Fr->aC->Prop,body J/\∀a H,J a H->∃vs,fI a L=some vs/\rest (gi L (fG ds fr) vs) H:=by
 unfold pJ at h;obtain⟨e,h⟩:=qV h;have d:mR L (fG ds fr).length=true:=by grind [sR]
 refine⟨_,h (lamJ L λvs=>rest (gi L (fG ds fr) vs)) ?_,λa H f=>?_⟩
 .rw [kJ,CI,yg];intro vs c H' b;unfold iO;rw[sO L _ _ vs (yj L _ vs d c),yi L _ vs c];exact b
 grind [iO,yh,yi]
def frOf(a:Act):Fr:=a.tmps.toList.map .p
theorem CK:∀{L:dj} {fr:Fr} {a:Act} {vs:Xb},Rel fr a->fI fr L=some vs->fI (frOf a) L=some vs
 | [],_,_,_,_,h=>h
 | (t,s)::r,fr,a,vs,R,h=>by
  simp only[fI]at h ⊢
  cases hg:ge fr t with
  | none=>grind
  | some v=>cases hr:fI fr r with
   | none=>grind
   | some vs'=>
    simp only[hg,hr,Option.some.injEq]at h;subst h;have b:aI fr t=some (.p v):=by
     grind [ge]
    have c:=R.pv _ _ b;have:ge (frOf a) t=some v:=by
     unfold ge frOf;rw[uT,dq,Array.getElem?_toList,c];rfl
    rw[this,CK R hr]
theorem CN:∀{ss:List Sh} {Q:Xb->Prop},pm ss Q->∃vs,vs.length=ss.length/\Q vs
 | [],_,h=>⟨[],rfl,h⟩
 | s::r,Q,h=>by
  simp only[pm]at h;obtain⟨v,a⟩:=oB h;obtain⟨vs,c,b⟩:=CN (ss:=r) a;exact⟨v::vs,by simp[c],b⟩
theorem CR:∀(ps:List Tmp) (vs:Xb) (fr:Fr) (a:Act),Rel fr a->Rel (uW fr ps vs) { tmps:=(ps.zip vs).foldl (λt p=>t.setIfInBounds p.1 p.2) a.tmps,defers:=[] }
 | [],vs,fr,a,R=>⟨R.size,R.pv,R.ng⟩
 | t::ps,[],fr,a,R=>⟨R.size,R.pv,R.ng⟩
 | t::ps,v::vs,fr,a,R=>by
  simp only[uW,List.zip_cons_cons,List.foldl_cons];refine CR ps vs (dP fr t (.p v)) { tmps:=a.tmps.setIfInBounds t v,defers:=[] } ⟨by simp[nJ,R.size],λu x h=>?_,λu j w x h=>?_⟩
  .rw [eV]at h
   split at h
   .rename_i b;obtain⟨rfl,c⟩:=b
    cases h
    rw[Array.getElem?_setIfInBounds,V1 rfl,V1 (by rw[R.size];exact c)]
   .rename_i b;have d:=R.pv u x h
    by_cases e:t=u
    .subst e;exfalso;exact b ⟨rfl,by grind [dq]⟩
    grind
  .rw [eV]at h
   split at h
   .cases h
   .exact R.ng _ _ _ _ h
theorem CZ{X:bX}{ops:Array Oper}{ds:List Nat}{fr:Fr}{Q:QT}:∀l,kP (X.kq ds fr Q) ops l=kP X ops l
 | []=>rfl
 | i::r=>by
  unfold kP;rw[CZ r];rfl
theorem Da{X:bX}{ops:Array Oper}{ds:List Nat}{fr:Fr}{Q:QT}:∀n l,oC (X.kq ds fr Q) ops n l=oC X ops n l
 | 0,_=>rfl
 | n+1,l=>by
  unfold oC;simp only[CZ,Da n]
theorem Db{X:bX}{ops:Array Oper}{d:Bool}{ds:List Nat}{fr:Fr}{Q:QT}(h:oD X ops d=true):oD (X.kq ds fr Q) ops d=true:=by
 unfold oD at h ⊢
 grind [Da]
theorem Dc{X:bX}{ops:Array Oper}{d:Bool}{ds:List Nat}{fr:Fr}{Q:QT}{C:bX->Prop}(h:regQ X ds fr Q C)(a:oD X ops d=true) :
  ∃Y:bX,Y.P=X.P/\Y.calls=X.calls/\oD Y ops d=true/\(∀v H,Y.kp v H->(X.kq ds fr Q).kp v H)/\C Y:=by
 unfold regQ at h
 split at h
 .exact⟨X.np,rfl,rfl,Db (X:=X) (ds:=[]) (fr:=[]) (Q:=λ_ _ _ _=>False) a,λ_ _ h=>h.elim,h⟩
 .exact⟨X.kq ds fr Q,rfl,rfl,Db a,λ_ _ h=>h,h⟩
theorem and_l{a b:Bool}(h:(a&&b)=true):a=true:=by grind
theorem and_r{a b:Bool}(h:(a&&b)=true):b=true:=by grind
theorem Dd{X:bX}(hm:X.P.follows .mixedOrders=true)(hX:∀f,bK f X.calls=true->fq X.P f):∀(c:Code) (w0:World) (ro:Option Nat) (an:Ann) (Q:QT) (fr:Fr) (a:Act) (w:World),okC X c=true->
  Rel fr a->bR w0 w->eA X ro c an Q fr w.heap->c.wpIn (FR ro) 0 X.P (Out w0 a (eW c) Q) a w:=by
 intro c
 induction c with
 | skip=>intro w0 ro an Q fr a w k R F h;cases an <;> exact wpIn_skip ⟨F,[],.of (dQ.refl _ _),fr,R,h⟩
 | exit id=>intro w0 ro an Q fr a w k R F h;cases an <;> cases ro <;> exact wpIn_exit ⟨F,[],.of (dQ.refl _ _),fr,R,h⟩
 | ret=>intro w0 ro an Q fr a w k R F h;cases an <;> cases ro <;> exact wpIn_ret ⟨F,[],.of (dQ.refl _ _),fr,R,h⟩
 | region id ops d=>
  intro w0 ro an Q fr a w k R F h;have l3:∀(ch:List PanicEntry) (C:Act) (E:World),bR w0 E->(∃v,ch=[{ v,recovered:=false }]/\dQ (gj ops.toList) a C/\(X.kq (gj ops.toList) fr Q).kp v E.heap)->Out w0 a (eW (.region id ops d)) Q (.panic ch) C E:=by
   rintro ch C E B ⟨v,rfl,A,m⟩;exact⟨B,[],.of A,_,rel_kill R A,m⟩
  cases an with
  | reg=>
   have h:regQ X (gj ops.toList) fr Q λY=>qY Y ro.isNone ops d (norQ Q) fr w.heap:=by cases ro <;> exact h
   obtain⟨Y,eP,eC,l2,l4,h⟩:=Dc h k;rw[<-eP]at hm hX ⊢;rw[<-eC]at hX;refine wpIn_mono (CJ (X:=Y) (ro:=ro) hm hX R F l2 (K:=norQ Q) h) (λe C E N=>?_)
   obtain⟨B,A⟩:=N
   cases e with
   | normal=>obtain⟨M,A,m⟩:=A;exact⟨B,M,A,m⟩
   | panic ch=>obtain⟨v,q1,q2,q3⟩:=A;exact l3 ch C E B ⟨v,q1,q2,l4 _ _ q3⟩
   | _=>exact A.elim
  | regJ L=>
   have h:pJ L (gj ops.toList) fr (λj H'=>Q .normal j [] H') λJ=>regQ X (gj ops.toList) fr Q λY=>qY Y ro.isNone ops d (λj M H'=>jE M (J j H')) fr w.heap:=by cases ro <;> exact h
   obtain⟨J,B,A⟩:=yk h;obtain⟨Y,eP,eC,l2,l4,B⟩:=Dc B k;rw[<-eP]at hm hX ⊢;rw[<-eC]at hX;refine wpIn_mono (CJ (X:=Y) (ro:=ro) hm hX R F l2 B) (λe C E N=>?_)
   obtain⟨m,n⟩:=N
   cases e with
   | normal=>
    obtain⟨M,n,j,u,S⟩:=n;obtain⟨rfl,S⟩:=lG.1 S;obtain⟨vs,T,W⟩:=A _ _ S;exact⟨m,[],n,_,qZ R n.keep u T,W⟩
   | panic ch=>obtain⟨v,q1,q2,q3⟩:=n;exact l3 ch C E m ⟨v,q1,q2,l4 _ _ q3⟩
   | _=>exact n.elim
  | _=>cases ro <;> exact h.elim
 | seq x y ihx ihy=>
  intro w0 ro an Q fr a w k R F h
  cases an with
  | seq G V=>
   have h:eA X ro x G (seqN (λQ' j H'=>eA X ro y V Q' j H') Q) fr w.heap:=by cases ro <;> exact h
   rw[seqN_eq]at h;refine wpIn_seq (wpIn_mono (ihx w0 ro G _ fr a w (and_l k) R F h) (λe C E N=>?_))
   obtain⟨B,M,A,m⟩:=N;have k1:gY (eW (.seq x y)) M a C:=A.mono (λt ht=>List.mem_append_left _ ht)
   cases e with
   | normal=>
    obtain⟨j,n,u⟩:=m;refine wpIn_mono (ihy w0 ro V _ j C E (and_r k) n B u) (λe' a'' w'' hq'=>?_)
    obtain⟨S,M',T,W⟩:=hq';exact⟨S,M'++M,k1.trans (T.mono (λt ht=>List.mem_append_right _ ht)),W⟩
   | exit i=>exact⟨B,M,k1,m⟩
   | ret=>exact⟨B,M,k1,m⟩
   | panic ch=>exact⟨B,M,k1,m⟩
   | _=>exact m.elim
  | _=>cases ro <;> exact h.elim
 | cond c x y ihx ihy=>
  intro w0 ro an Q fr a w k R F h;have split:∀(U:QT) (G V:Ann) (t:Bool),evG #[] fr [] none c=some (.bool t)->(t=true->eA X ro x G U fr w.heap)->(t=false->eA X ro y V U fr w.heap)->
    (Code.cond c x y).wpIn (FR ro) 0 X.P (Out w0 a (eW (.cond c x y)) U) a w:=by
   intro U G V t ht B A;have hc:a.eval c=.bool t:=oE (pI (ops:=#[]) R) c _ ht trivial;refine wpIn_cond_split hc (λhb=>?_) (λhb=>?_)
   .refine wpIn_mono (ihx w0 ro G U fr a w (and_l k) R F (B hb)) (λe C E N=>?_)
    obtain⟨q1,M,q2,q3⟩:=N;exact⟨q1,M,q2.mono (λt ht=>List.mem_append_left _ ht),q3⟩
   .refine wpIn_mono (ihy w0 ro V U fr a w (and_r k) R F (A hb)) (λe C E N=>?_)
    obtain⟨q1,M,q2,q3⟩:=N;exact⟨q1,M,q2.mono (λt ht=>List.mem_append_right _ ht),q3⟩
  cases an with
  | cond G V=>
   simp only[eA]at h
   cases he:evG #[] fr [] none c with
   | none=>simp[he]at h
   | some v=>
    cases v <;> simp only[he]at h <;> try exact h.elim
    exact split Q G V _ he h.1 h.2
  | condJ L G V=>
   simp only[eA]at h
   cases he:evG #[] fr [] none c with
   | none=>simp[he]at h
   | some v=>
    cases v <;> simp only[he]at h <;> try exact h.elim
    obtain⟨J,B,A⟩:=yk h;refine wpIn_mono (split _ G V _ he B.1 B.2) (λe C E N=>?_)
    obtain⟨m,M,n,u⟩:=N
    cases e <;> simp only[joinQ]at u
    case normal=>
     obtain⟨j,S,T⟩:=u;obtain⟨rfl,T⟩:=lG.1 T;obtain⟨vs,W,h9⟩:=A _ _ T;exact⟨m,[],n,_,qZ R n.keep S W,h9⟩
    case exit i=>exact⟨m,M,n,u⟩
    case ret=>exact⟨m,M,n,u⟩
    case panic ch=>exact⟨m,M,n,u⟩
  | _=>cases ro <;> exact h.elim
 | block id x ih=>
  intro w0 ro an Q fr a w k R F h
  cases an with
  | blk G=>
   have h:eA X ro x G (blkQ id Q) fr w.heap:=by cases ro <;> exact h
   refine wpIn_block (wpIn_mono (ih w0 ro G _ fr a w k R F h) (λe C E N=>?_))
   obtain⟨B,M,A,m⟩:=N
   cases e with
   | normal=>exact⟨B,M,A,m⟩
   | exit i=>
    obtain⟨j,n,u⟩:=m;simp only[Exit.inBlock,blkQ,blkJQ]at u ⊢
    by_cases hi:i=id
    .simp only[hi,if_true]at u ⊢;exact⟨B,M,A,j,n,u⟩
    .simp only[hi,if_false]at u ⊢;exact⟨B,M,A,j,n,u⟩
   | ret=>exact⟨B,M,A,m⟩
   | panic ch=>exact⟨B,M,A,m⟩
   | _=>exact m.elim
  | blkJ L G=>
   have h:pJ L (eW x) fr (λj H'=>Q .normal j [] H') λJ=>eA X ro x G (blkJQ id J Q) fr w.heap:=by cases ro <;> exact h
   obtain⟨J,hb,hj⟩:=yk h;refine wpIn_block (wpIn_mono (ih w0 ro G _ fr a w k R F hb) (λe C E N=>?_))
   obtain⟨B,M,A,m⟩:=N
   cases e with
   | normal=>
    obtain⟨j,n,u⟩:=m;obtain⟨rfl,u⟩:=lG.1 u;obtain⟨vs,S,T⟩:=hj _ _ u;exact⟨B,[],A,_,qZ R A.keep n S,T⟩
   | exit i=>
    obtain⟨j,n,u⟩:=m;simp only[Exit.inBlock,blkQ,blkJQ]at u ⊢
    by_cases hi:i=id
    .simp only[hi,if_true]at u ⊢;obtain⟨rfl,u⟩:=lG.1 u;obtain⟨vs,S,T⟩:=hj _ _ u;exact⟨B,[],A,_,qZ R A.keep n S,T⟩
    .simp only[hi,if_false]at u ⊢;exact⟨B,M,A,j,n,u⟩
   | ret=>exact⟨B,M,A,m⟩
   | panic ch=>exact⟨B,M,A,m⟩
   | _=>exact m.elim
  | _=>cases ro <;> exact h.elim
 | loop x ih=>
  intro w0 ro an Q fr a w k R F h
  cases an with
  | loop L G=>
   have h:(if mR L fr.length=false then False else ∃I:JT (aC->Prop) L,∃μ:JT (aC->Nat) L,iO L I fr w.heap/\
    gu (lA (eW x) 0 fr) λfr0=>allJ L fr0 λj=>∀H',iO L I j H'->eA X ro x G (loopQ L I μ j H' Q) j H'):=by cases ro <;> exact h
   obtain⟨l2,I,μ,h0,D⟩:=qV h;have hok':mR L (fG (eW x) fr).length=true:=by grind [sR]
   rw[kJ,CI,yg]at D;have hfr:∀(j:Fr) (H:aC),iO L I j H->∃vs,fI j L=some vs/\kQ L vs=true/\iO L I (gi L (fG (eW x) fr) vs) H/\∀y2,natJ L μ (gi L (fG (eW x) fr) vs) y2=natJ L μ j y2:=by
    grind [iO,yh,sO,yj,natJ]
   have hmu:∀(j:Fr) (C:Act) (vs:Xb) (H:aC),Rel j C->fI j L=some vs->natJ L μ (frOf C) H=natJ L μ j H:=by
    intro j C vs H R' hg;unfold natJ;rw[sO L _ _ vs (CK R' hg),sO L _ _ vs hg]
   refine wpIn_loop (λC E=>bR w0 E/\dQ (eW x) a C/\∃vs,kQ L vs=true/\Rel (gi L (fG (eW x) fr) vs) C/\iO L I (gi L (fG (eW x) fr) vs) E.heap)
    (λC E=>natJ L μ (frOf C) E.heap) ?_ ?_
   .grind [dQ.refl,qZ]
   .rintro C E ⟨B,A,vs,m,n,u⟩;refine wpIn_mono (ih w0 ro G _ _ C E k n B (D vs m E.heap u)) (λe a'' w'' N=>?_)
    obtain⟨S,M,T,W⟩:=N
    cases e with
    | normal=>
     obtain⟨fr'',h9,j1⟩:=W;obtain⟨rfl,j1⟩:=lG.1 j1;obtain⟨j1,h11⟩:=Nw j1;have k2:=A.trans T.keep;obtain⟨vs',h12,h13,h14,h15⟩:=hfr _ _ j1;have h16:=qZ R k2 h9 h12;refine⟨⟨S,k2,vs',h13,h16,h14⟩,?_⟩
     grind
    | exit i=>exact⟨S,M,by have:=(gY.of A).trans T;rwa[VQ]at this,W⟩
    | ret=>exact⟨S,M,by have:=(gY.of A).trans T;rwa[VQ]at this,W⟩
    | panic ch=>exact⟨S,M,by have:=(gY.of A).trans T;rwa[VQ]at this,W⟩
    | _=>exact W.elim
  | _=>cases ro <;> exact h.elim
 | rangeFunc g ps x y ihx ihy=>
  intro w0 ro an Q fr a w k R F h
  cases ro with
  | some l0=>cases an <;> exact h.elim
  | none=>
   cases an with
   | rng shs js G V=>
    simp only[eA]at h
    split at h
    case h_2=>exact h.elim
    rename_i gf cap hg;obtain⟨u8,hmem,h⟩:=qV h;have u8:shs.length=ps.size:=by
     simp_all
    have hge:a.eval g=.func (.func gf) #[] ⟨cap⟩:=oE (pI (ops:=#[]) R) g _ hg trivial;show (Code.rangeFunc g ps x y).wpIn Fence.wide 0 X.P _ a w;refine wpIn_rangeFunc ?_;intro fn _;have r6:=h { state:=.ready,pending:=none,fn:=fn,tmps:=a.tmps,params:=ps,assign:=x,body:=y,defers:=w.heap.size } rfl rfl ?_
    .refine⟨w.heap.size+1,mS [.mark w.heap.size],(w.alloc (.deferred (some []))).alloc (.loop { state:=.ready,pending:=none,fn:=fn,tmps:=a.tmps,params:=ps,assign:=x,body:=y,defers:=w.heap.size }),
      { target:=.fn (.func gf) ⟨cap⟩,args:=#[.func (.yield (w.heap.size+1)) #[] #[]] },((w.alloc (.deferred (some []))).alloc (.loop { state:=.ready,pending:=none,fn:=fn,tmps:=a.tmps,params:=ps,assign:=x,body:=y,defers:=w.heap.size })),gf,#[.func (.yield (w.heap.size+1)) #[] #[]]++⟨cap⟩,((w.alloc (.deferred (some []))).alloc (.loop { state:=.ready,pending:=none,fn:=fn,tmps:=a.tmps,params:=ps,assign:=x,body:=y,defers:=w.heap.size })),run_enterLoop_outer _ _ _ _ _,?_,λ_ _=>trivial,?_,λhd=>(by cases hd),?_⟩
     .simp only[resolve,hge];simp[go_sem]
     .grind [invoke,sK]
     .refine callsIn_wide.2 ?_;have e1:(#[.func (.yield (w.heap.size+1)) #[] #[]]++⟨cap⟩:Array Value)=⟨.func (.yield (w.heap.size+1)) #[] #[]::cap⟩:=by grind
      rw[e1];refine (r6.at ((w.alloc (.deferred (some []))).alloc (.loop { state:=.ready,pending:=none,fn:=fn,tmps:=a.tmps,params:=ps,assign:=x,body:=y,defers:=w.heap.size })) rfl).mono λe w3 he=>?_
      cases e <;> simp only[Fin]at he
      obtain⟨Z,st,pd,hst,O,hj⟩:=he;refine⟨pd,_,run_endLoop O hst,?_⟩;have l5:bR w0 (w3.putObj (w.heap.size+1) (.loop { state:=.exhausted,pending:=pd,fn:=fn,tmps:=a.tmps,params:=ps,assign:=x,body:=y,defers:=w.heap.size })):=
       (F.trans (bR.trans (b:=(w.alloc (.deferred (some []))).alloc (.loop { state:=.ready,pending:=none,fn:=fn,tmps:=a.tmps,params:=ps,assign:=x,body:=y,defers:=w.heap.size })) ⟨rfl,rfl,rfl⟩ Z)).trans ⟨rfl,rfl,rfl⟩
      have hk:gY (eW (.rangeFunc g ps x y)) [.mark w.heap.size] a { a with defers:=mS [.mark w.heap.size]++a.defers }:=⟨rfl,rfl,λ_ _=>rfl⟩
      have hR:Rel fr { a with defers:=mS [.mark w.heap.size]++a.defers }:=⟨R.size,R.pv,R.ng⟩;have hjq:∀(js:List (Option Code)) (pd:Option Code) (U:Exit->Prop),jumpK U js pd->jumpQ U pd:=by
       intro js
       induction js with
       | nil=>intro pd U h;exact h.elim
       | cons c r ih=>
        intro pd U h
        cases r with
        | nil=>obtain⟨rfl,h⟩:=h;exact h
        | cons d r=>
         rcases h with ⟨rfl,h⟩|h
         .exact h
         .exact ih pd U h
      have j2:=hjq _ _ _ (hj _ rfl)
      cases pd with
      | none=>exact⟨l5,[.mark w.heap.size],hk,fr,hR,j2⟩
      | some c=>
       cases c <;> simp only[jumpQ]at j2
       .rename_i i;exact wpIn_exit ⟨l5,[.mark w.heap.size],hk,fr,hR,j2⟩
       .exact wpIn_ret ⟨l5,[.mark w.heap.size],hk,fr,hR,j2⟩
    .intro vs H1 K1 D;refine .mk λw1 hw1=>?_
     subst hw1;obtain⟨us,hul,rfl,hl1,hx⟩:=CN D;refine⟨fn,_,x,y,run_yield hl1 (by grind),roundIn_of_wpIn trivial ?_⟩;have hz:(ps.zip ⟨vs⟩).foldl (λtmps (t,a)=>tmps.setIfInBounds t a) a.tmps=(ps.toList.zip vs).foldl (λt p=>t.setIfInBounds p.1 p.2) a.tmps:=by
      grind [Array.toList_zip]
     refine wpIn_mono (ihx w1 (some (w.heap.size+1)) G _ _ _ w1 (and_l k) (by have:=CR ps.toList vs fr a R;rw[<-hz]at this;exact this) (bR.refl w1) hx) (λe a1 w2 N=>?_)
     obtain⟨y3,M,hk2,m⟩:=N
     cases e with
     | normal=>
      obtain⟨j3,l1,m⟩:=m;obtain⟨rfl,hl2,hy⟩:=lG.1 m;refine⟨_,run_beginRound hl2 rfl,?_⟩;have hd1:a1.defers=[]:=hk2.defers;refine wpIn_mono (ihy w1 (some (w.heap.size+1)) V _ j3 a1 _ (and_r k) l1 (y3.trans ⟨rfl,rfl,rfl⟩) (hy _ rfl)) (λe' a2 w3 N=>?_)
      obtain⟨Z,M2,hk3,n⟩:=N
      cases e' with
      | normal=>
       obtain⟨r0,l6,n⟩:=n;obtain⟨rfl,O,u⟩:=lG.1 n;exact⟨_,_,run_endRound none O,Z.trans ⟨rfl,rfl,rfl⟩,u⟩
      | exit i=>
       obtain⟨r0,l6,n⟩:=n;obtain⟨rfl,O,u⟩:=lG.1 n;exact⟨_,_,run_endRound (some (.exit i)) O,Z.trans ⟨rfl,rfl,rfl⟩,u⟩
      | ret=>
       obtain⟨r0,l6,n⟩:=n;obtain⟨rfl,O,u⟩:=lG.1 n;exact⟨_,_,run_endRound (some .ret) O,Z.trans ⟨rfl,rfl,rfl⟩,u⟩
      | panic ch=>
       obtain⟨r0,l6,n⟩:=n;obtain⟨rfl,O,u⟩:=lG.1 n;exact u.elim
      | _=>exact n.elim
     | exit i=>obtain⟨j3,l1,m⟩:=m;exact m.elim
     | ret=>obtain⟨j3,l1,m⟩:=m;exact m.elim
     | panic ch=>obtain⟨j3,l1,m⟩:=m;exact m.elim
     | _=>exact m.elim
   | _=>exact h.elim
 | scope x=>intro w0 ro an Q fr a w k R F h;cases ro <;> exact h.elim
 | label l=>intro w0 ro an Q fr a w k R F h;cases ro <;> exact h.elim
 | goto l=>intro w0 ro an Q fr a w k R F h;cases ro <;> exact h.elim
 | refuse s=>intro w0 ro an Q fr a w k R F h;cases ro <;> exact h.elim
def oF(args:Xb)(n:Nat):Fr:=args.map .p++List.replicate (n-args.length) .x
def jZ(X:bX)(fr:Fr)(H:aC):List ResultVar->(Xb->Prop)->Prop
 | [],k=>k []
 | .tmp t::r,k=>(match ge fr t with|some v=>jZ X fr H r λvs=>k (v::vs)|none=>False)
 | .cell a t::r,k=>(match ge fr a with
  | some (.pointer (some ⟨b,off,none⟩))=>(match aggT X.P t with
   | true=>uF X.P t λus=>(if us.length=X.P.cellsOf t then bV H b off us/\jZ X fr H r λvs=>k (.agg ⟨us⟩::vs) else False)
   | false=>exT X.P t λu=>aM H b off=some u/\jZ X fr H r λvs=>k (u::vs))
  | _=>False)
def pK:Xb->Value
 | [v]=>v
 | vs=>.tuple ⟨vs⟩
def gZ(P:Program)(g:FuncId)(cap:Xb)(u:FrameMode)(H:aC)(K:FrameMode->aC->Prop):Prop:=
 ∀w,w.heap=H->CallsDIn Fence.wide 0 P g ⟨cap⟩ u w λe u' w'=>match e with
  | .returned _=>bR w w'/\K u' w'.heap
  | _=>False
def dK(v:Value)(r:Bool):FrameMode:=.panicking [{ v,recovered:=r }]
def pL(X:bX):List DM->aC->(aC->Prop)->Prop
 | [],H,k=>k H
 | .mark D::r,H,k=>H[D]?=some (.deferred (some []))/\pL X r (H.setIfInBounds D (.deferred none)) k
 | .fn g cap::r,H,k=>bK g X.calls=true/\gZ X.P g cap .returning H λu H'=>u=.returning/\pL X r H' k
def panQ(X:bX)(v:Value):List DM->aC->(aC->Prop)->(aC->Prop)->Prop
 | [],H,_,kp=>kp H
 | .mark D::r,H,k,kp=>H[D]?=some (.deferred (some []))/\panQ X v r (H.setIfInBounds D (.deferred none)) k kp
 | .fn g cap::r,H,k,_=>bK g X.calls=true/\gZ X.P g cap (dK v false) H λu H'=>u=dK v true/\pL X r H' k
def finQ(X:bX)(rs:List ResultVar)(K KP:KQ):QT
 | .normal,fr,M,H=>pL X M H λH'=>jZ X fr H' rs λvs=>K (pK vs) H'
 | .ret,fr,M,H=>pL X M H λH'=>jZ X fr H' rs λvs=>K (pK vs) H'
 | .panic [⟨v,false,false⟩],fr,M,H=>panQ X v M H (λH'=>jZ X fr H' rs λvs=>K (pK vs) H') (KP v)
 | _,_,_,_=>False
def sV(X:bX)(fn:Func)(an:Ann)(args:Xb)(H:aC)(K KP:KQ):Prop:=
 match fn.body with
 | some c=>gu (oF args fn.ntmps) λfr=>eA X none c an (finQ X fn.results.toList K KP) fr H
 | none=>False
def vcFun(X:bX)(fn:Func)(an:Ann)(args:Xb)(H:aC)(K:KQ):Prop:=sV X fn an args H K λ_ _=>False
section
variable {X:bX}
def rvOf(a:Act):ResultVar->Sem Value
 | .tmp t=>pure (a.tmps.getD t undef)
 | .cell c t=>do loadVar t (<-asAddr (a.tmps.getD c undef))
theorem De{fr:Fr}{t:Nat}{v:Value}(a:ge fr t=some v):aI fr t=some (.p v):=by
 grind [ge]
theorem yl{a:Act}{x:ResultVar}{r:List ResultVar}{v:Value}{vs:Xb}{w:World}(c:(rvOf a x).run X.P w=.ok v w)(b:(r.mapM (rvOf a)).run X.P w=.ok vs w) :
  ((x::r).mapM (rvOf a)).run X.P w=.ok (v::vs) w:=by
 simp_all
theorem uY{fr:Fr}{a:Act}{w:World}(R:Rel fr a):∀(rs:List ResultVar) (k:Xb->Prop),jZ X fr w.heap rs k->
  ∃vs,k vs/\(rs.mapM (rvOf a)).run X.P w=.ok vs w
 | [],k,h=>⟨[],h,by simp⟩
 | .tmp t::r,k,h=>by
  simp only[jZ]at h
  cases hg:ge fr t with
  | none=>simp[hg]at h
  | some v=>
   simp only[hg]at h;obtain⟨vs,j,i⟩:=uY R r _ h;have f:=R.pv _ _ (De hg);exact⟨_,j,yl (by simp[rvOf,f]) i⟩
 | .cell c t::r,k,h=>by
  simp only[jZ]at h
  cases hg:ge fr c with
  | none=>grind
  | some v=>
   have f:=R.pv _ _ (De hg);simp only[hg]at h
   split at h
   .rename_i b off y
    cases y
    have A:(asAddr (a.tmps.getD c undef)).run X.P w=.ok ⟨b,off,none⟩ w:=by
     rw[W6,f];rfl
    split at h
    .rename_i d;unfold uF at h
     split at h
     .rename_i ls _;obtain⟨us,h⟩:=sG (ls:=ls) h
      split at h
      .rename_i e;obtain⟨vs,j,i⟩:=uY R r _ h.2;have x:=BO (P:=X.P) d e h.1
       grind [Instr.loadAt,Instr.sureAddr,Sem.run_bind,Result.andThen_ok,yl,rvOf]
      grind
     grind
    .rename_i d;have n:=BN h;obtain⟨u,m,s⟩:=pA h;obtain⟨vs,j,i⟩:=uY R r _ s;have x:=BP (P:=X.P) n d m
     grind [Instr.loadAt,Instr.sureAddr,Sem.run_bind,Result.andThen_ok,yl,rvOf]
   grind
theorem Df{fr:Fr}{a:Act}{w:World}(R:Rel fr a)(fn:Func)(k:Value->Prop)(h:jZ X fr w.heap fn.results.toList λvs=>k (pK vs)) :
  ∃v,k v/\(results fn a.tmps).run X.P w=.ok v w:=by
 obtain⟨vs,c,b⟩:=uY R _ _ h;refine⟨_,c,?_⟩;have e:results fn a.tmps=(do let l <-fn.results.mapM (rvOf a);pure (if h:l.size=1 then l[0] else .tuple l)):=by
  rfl
 rw[e,Array.mapM_eq_mapM_toList];simp only[Sem.run_bind,Sem.run_map,b,Result.andThen_ok,Sem.run_pure];congr 1
 match vs with
 | []=>rfl
 | [v]=>rfl
 | v::u::r=>rfl
theorem Dg(args:Xb)(n:Nat):Rel (oF args n) { tmps:=(⟨args⟩:Array Value)++Array.replicate (n-(⟨args⟩:Array Value).size) undef,defers:=[] }:=by
 refine⟨by simp[oF],λt v h=>?_,λt j w v h=>?_⟩
 .grind [oF,dq]
 grind [oF,dq]
theorem Dh{X:bX}(a:∀f,bK f X.calls=true->fq X.P f){g:FuncId}(b:bK g X.calls=true)(cap:Xb)(w:World) :
  (invoke (.fn (.func g) ⟨cap⟩) #[]).run X.P w=.ok (.enter g ⟨cap⟩) w:=by
 grind [invoke,sK]
theorem uZ{fn:Func}{tmps:Array Value}{R:Ending->World->Prop}{w0:World}{k:aC->Prop}(c:∀f,bK f X.calls=true->fq X.P f):∀(M:List DM) (w:World),bR w0 w->pL X M w.heap k->
  (∀a,bR w0 a->k a.heap->∃v,(results fn tmps).run X.P a=.ok v a/\R (.returned v) a)->LeavesInM Fence.wide 0 X.P fn tmps R (mS M) .returning w
 | [],w,hr,h,hk=>hk w hr h
 | .mark D::r,w,hr,h,hk=>by
  obtain⟨m,j⟩:=h;refine⟨by simp,.inl ⟨D,_,rfl,run_takeDeferred m,?_⟩⟩;exact uZ c r (w.putObj D (.deferred none)) (hr.trans ⟨rfl,rfl,rfl⟩) j hk
 | .fn g cap::r,w,hr,h,hk=>by
  obtain⟨i,h⟩:=h;refine⟨by simp,.inr ⟨λhd=>(by cases hd),.func g,⟨cap⟩,g,⟨cap⟩,rfl,Dh c i cap w,λ_ _=>trivial,?_⟩⟩
  refine (h w rfl).mono λe n a d=>?_
  cases e <;> simp only at d ⊢
  obtain⟨b,rfl,h⟩:=d;exact uZ c r a (hr.trans b) h hk
theorem Di{fn:Func}{tmps:Array Value}{R:Ending->World->Prop}{w0:World}{v:Value}{k kp:aC->Prop}(c:∀f,bK f X.calls=true->fq X.P f):∀(M:List DM) (w:World),bR w0 w->panQ X v M w.heap k kp->
  (∀a,bR w0 a->k a.heap->∃v,(results fn tmps).run X.P a=.ok v a/\R (.returned v) a)->(∀a,bR w0 a->kp a.heap->R (.panicked [{ v,recovered:=false }]) a)->
  LeavesInM Fence.wide 0 X.P fn tmps R (mS M) (.panicking [{ v,recovered:=false }]) w
 | [],w,hr,h,_,hp=>hp w hr h
 | .mark D::r,w,hr,h,hk,hp=>by
  obtain⟨m,j⟩:=h;refine⟨by simp,.inl ⟨D,_,rfl,run_takeDeferred m,?_⟩⟩;exact Di c r (w.putObj D (.deferred none)) (hr.trans ⟨rfl,rfl,rfl⟩) j hk hp
 | .fn g cap::r,w,hr,h,hk,hp=>by
  obtain⟨i,h⟩:=h;refine⟨by simp,.inr ⟨λhd=>(by cases hd),.func g,⟨cap⟩,g,⟨cap⟩,rfl,Dh c i cap w,λ_ _=>trivial,?_⟩⟩
  refine (h w rfl).mono λe n a d=>?_
  cases e <;> simp only at d ⊢
  obtain⟨b,rfl,h⟩:=d;exact uZ c r a (hr.trans b) h hk
theorem finQ_pan{rs:List ResultVar}{K KP:KQ}{ch:List PanicEntry}{fr:Fr}{M:List DM}{H:aC}(h:finQ X rs K KP (.panic ch) fr M H) :
  ∃v,ch=[{ v,recovered:=false }]/\panQ X v M H (λH'=>jZ X fr H' rs λvs=>K (pK vs) H') (KP v):=by
 rcases ch with _|⟨⟨v,r,g⟩,_|⟨_,_⟩⟩
 .exact h.elim
 .cases r <;> cases g <;> first|exact h.elim|exact⟨v,rfl,h⟩
 .cases r <;> cases g <;> exact h.elim
def okF(X:bX)(fn:Func):Bool:=match fn.body with|some c=>okC X c|none=>true
theorem Dj(hm:X.P.follows .mixedOrders=true)(u:∀f,bK f X.calls=true->fq X.P f){f:FuncId}{fn:Func}(C:X.P.funcs[f]?=some fn)(an:Ann){args:Xb}{H:aC}{K KP:KQ}(A:okF X fn=true)
  (h:sV X fn an args H K KP):mM X.P f ⟨args⟩ H K KP:=by
 refine .mk λw I=>?_
 unfold sV at h
 cases hb:fn.body with
 | none=>simp[hb]at h
 | some c=>
  simp only[hb,kJ]at h;simp only[okF,hb]at A;subst I;refine callsIn_wide.1 (callsIn_of_wp_marks (F:=Fence.wide) (n:=0) C hb trivial (wpIn_mono (Dd hm u c w none an _ _ _ w A (Dg args fn.ntmps) (bR.refl w) h) (λe j t E=>?_)))
  obtain⟨y,M,B,m⟩:=E;have hd:j.defers=mS M:=by rw[B.defers];simp
  have s:∀a,Rel a j->∀w2,bR w w2->(jZ X a w2.heap fn.results.toList λvs=>K (pK vs) w2.heap)->∃v,(results fn j.tmps).run X.P w2=.ok v w2/\gV w K KP (.returned v) w2:=by
   intro a d w2 k x;obtain⟨v,D,G⟩:=Df (w:=w2) d fn (λv=>K v w2.heap) x
   exact⟨v,G,k,D⟩
  have fin:∀a,Rel a j->(pL X M t.heap λH'=>jZ X a H' fn.results.toList λvs=>K (pK vs) H')->LeavesInM Fence.wide 0 X.P fn j.tmps (gV w K KP) j.defers .returning t:=by
   intro a d b;rw[hd];exact uZ u M t y b (s a d)
  cases e with
  | normal=>obtain⟨a,d,b⟩:=m;exact fin a d b
  | ret=>obtain⟨a,d,b⟩:=m;exact fin a d b
  | exit i=>obtain⟨a,d,b⟩:=m;exact b.elim
  | panic ch=>
   obtain⟨a,d,b⟩:=m;obtain⟨v,rfl,b⟩:=finQ_pan b
   .show LeavesInM Fence.wide 0 X.P fn j.tmps (gV w K KP) j.defers (.panicking [{ v,recovered:=false }]) t;rw[hd];exact Di u M t y b (s a d) (λw2 k x=>⟨v,rfl,k,x⟩)
  | _=>exact m.elim
theorem Nx(hm:X.P.follows .mixedOrders=true)(d:∀f,bK f X.calls=true->fq X.P f){f:FuncId}{fn:Func}(a:X.P.funcs[f]?=some fn)(an:Ann){args:Xb}{H:aC}{K:KQ}(b:okF X fn=true)
  (h:vcFun X fn an args H K):gU X.P f ⟨args⟩ H K:=
 .mk λw c=>((Dj hm d a an b h).at w c).mono λ_ _ e=>e.fin
theorem Dk{P:Program}(b:X.P=P)(hm:X.P.follows .mixedOrders=true)(d:∀f,bK f X.calls=true->fq X.P f){f:FuncId}{fn:Func}(a:P.funcs[f]?=some fn){an:Ann}{args:Xb}{H:aC}{K:KQ}{C:Prop}(c:okF X fn=true)
  (e:vcFun X fn an args H K=C) (h:C):gU P f args.toArray H K:=by
 subst b;exact Nx hm d a an c (e▸h)
theorem Ny{P:Program}(b:X.P=P)(hm:X.P.follows .mixedOrders=true)(d:∀f,bK f X.calls=true->fq X.P f){f:FuncId}{fn:Func}(a:P.funcs[f]?=some fn){an:Ann}{args:Xb}{H:aC}{K KP:KQ}{C:Prop}(c:okF X fn=true)
  (e:sV X fn an args H K KP=C) (h:C):mM P f args.toArray H K KP:=by
 subst b;exact Dj hm d a an c (e▸h)
def ve(P:Program)(f:FuncId):Bool:=match P.funcs[f]? with|some fn=>!fn.body.isNone && !(fn.name == "runtime.NumGoroutine")|none=>false
theorem Nz{P:Program}{f:FuncId}(h:ve P f=true):fq P f:=by
 unfold ve at h
 split at h
 .rename_i fn a;simp only[V4,Wa]at h;exact⟨fn,a,h.1,h.2⟩
 .cases h
theorem memN_all{l:List Nat}{p:Nat->Bool}(h:l.all p=true):∀f,bK f l=true->p f=true:=by
 induction l with
 | nil=>intro f a;cases a
 | cons m r ih=>
  intro f a;simp only[List.all_cons,V4]at h;simp only[bK,VY]at a
  grind [Nat.eq_of_beq_eq_true]
theorem N0{P:Program}{l:List Nat}(h:l.all (ve P)=true):∀f,bK f l=true->fq P f:=λf a=>Nz (memN_all h f a)
theorem gU.mono{P:Program}{f:FuncId}{args:Array Value}{H:aC}{K a:KQ}(h:gU P f args H K)(d:∀v H',K v H'->a v H'):gU P f args H a:=
 .mk λw b=>(h.at w b).mono λe i c=>by
  cases e <;> simp only[Fin]at c ⊢
  grind
end
def vf(op:Op):Bool:=match op with|.call cl=>(match cl.callee with|.builtin .recover=>true|_=>false)|_=>false
def defK(K:aC->Prop):QT
 | .normal,_,M,H=>jE M (K H)
 | .ret,_,M,H=>jE M (K H)
 | _,_,_,_=>False
def vcDef(X:bX)(fn:Func)(an:Ann)(args:Xb)(rv:Value)(H:aC)(K:aC->Prop):Prop:=
 match fn.body with
 | some (.seq (.region _ ops false) b)=>(match ops.toList,an,fn.results.toList with
  | o::r,.seq .reg y,[]=>(match o.guard,o.dst with
   | none,some t=>if vf o.op=false then False else
     kO (X.kq [] [] λ_ _ _ _=>False) ops true (λfr' M H'=>jE M (eA X none b y (defK K) fr' H')) r [] [] (dP (oF args fn.ntmps) t (.p rv)) H
   | _,_=>False)
  | _,_,_=>False)
 | _=>False
section
variable {X:bX}
theorem N1{P:Program}{o:Oper}{ρ:Operand->Value}{w:World}(h:vf o.op=true):(execOp ρ o).run P w=.ok .recover w:=by
 unfold vf at h
 split at h
 .rename_i cl b
  split at h
  .rename_i a;simp[execOp,b,resolve,a,invoke,builtin]
  .cases h
 .cases h
theorem N2(hm:X.P.follows .mixedOrders=true)(hX:∀f,bK f X.calls=true->fq X.P f){f:FuncId}{fn:Func}(hf:X.P.funcs[f]?=some fn)(an:Ann){args:Xb}{A:Value}{u F:FrameMode}{H:aC}{K:aC->Prop}
  (hu:(u=.returning/\A=.nilIface/\F=.returning)\/(u=dK A false/\F=dK A true))
  (B:okF X fn=true) (h:vcDef X fn an args A H K):gZ X.P f args u H λJ H'=>J=F/\K H':=by
 intro w hw;subst hw;unfold vcDef at h
 split at h
 case h_2=>exact h.elim
 rename_i id ops b hb;have h9:okC X b=true:=by simp only[okF,hb,okC]at B;grind
 split at h
 case h_2=>exact h.elim
 rename_i o r y h5 Z
 split at h
 case h_2=>exact h.elim
 rename_i t hg hd;obtain⟨N,h⟩:=qV h;have N:vf o.op=true:=by grind
 refine callsDIn_of_wpSIn hf hb trivial λC cs l2=>wpSIn_seq ?_
 intro bf k j2 Q hF x;have h0:ops[0]?=some o:=by
  have:ops.toList[0]?=some o:=by grind
  grind
 have l4:ops.size=r.length+1:=by grind [Array.length_toList]
 have I:List.range ops.size=0::List.range' 1 r.length:=by grind [List.range_eq_range',List.range'_succ]
 have l0:∀a:Act,Region.wanted o (yielded ops a.tmps)=true:=λa=>by grind [Region.wanted]
 generalize ha:({ tmps:=(⟨args⟩:Array Value)++Array.replicate (fn.ntmps-(⟨args⟩:Array Value).size) undef,defers:=[] }:Act)=a at *;have R0:Rel (oF args fn.ntmps) a:=by rw[<-ha];exact Dg args fn.ntmps
 have l1:a.defers=[]:=by rw[<-ha]
 have O:(a.put o.dst A).tmps=a.tmps.setIfInBounds t A:=by grind [qU]
 have R1:Rel (dP (oF args fn.ntmps) t (.p A)) (a.put o.dst A):=by
  refine⟨by rw[O,nJ,Array.size_setIfInBounds];exact R0.size,λm v G=>?_,λm j D v G=>?_⟩
  .rw [eV]at G;rw[O,Array.getElem?_setIfInBounds,R0.size]
   split at G
   .grind
   .rename_i hc
    by_cases e:t=m
    .subst e;exfalso;exact hc ⟨rfl,by grind [dq]⟩
    .rw [Vz e];exact R0.pv _ _ G
  .rw [eV]at G
   split at G
   .cases G
   .exact R0.ng _ _ _ _ G
 have T:wpListIn (FR none) 0 X.P ops (λe n D=>e=.normal/\bR w D/\n.defers=[]/\∃c,Rel c n/\eA X none b y (defK K) c D.heap) r (a.put o.dst A) w:=by
  refine qX (X:=X.kq [] [] λ_ _ _ _=>False) (ro:=none) (w0:=w) (Inv:=λn=>n.defers=[]) hX (λn o' v _ j3=>?_) (λc n D h1 h2 h3 h4=>?_) (λc n D g cap _ h1 h2 h3 h4=>h3.elim) (λv n D _ _ B=>B.elim)
   r [] [] _ _ w (λo' l6=>by grind) ?_ (pI R1) (bR.refl w) h
  .cases o'.dst <;> exact j3
  .exact⟨rfl,h1,h4,c,h2,h3⟩
  .rw [hd];exact l1
 have L:wpOpsIn Fence.wide 0 X.P ops (λe n D=>e=.normal/\bR w D/\n.defers=[]/\∃c,Rel c n/\eA X none b y (defK K) c D.heap) (List.range' 1 r.length) (a.put o.dst A) w:=by
  rw[wpOpsIn_eq_wpListIn r 1 (λj=>by rw[<-Array.getElem?_toList,h5,Nat.add_comm];rfl)]
  exact T
 obtain⟨R,Y,U⟩:∃R,R={ C with mode:=F }::cs/\step X.P (lone (bf.atR a (.inRegion ops (0::List.range' 1 r.length)::k)) (C::cs) w)=.next (lone (bf.atR (a.put o.dst A) (.inRegion ops (List.range' 1 r.length)::k)) R w):=by
  refine⟨_,rfl,step_lone_go ?_⟩;have h6:=stepGR_op (P:=X.P) (b:=bf) (k:=k) (cs:=C::cs) (w:=w) (rest:=List.range' 1 r.length) h0 (l0 a);rw[Q,Oper.semAt_none]at h6;have W:(bf.atR a (.inRegion ops (0::List.range' 1 r.length)::k)).finish A=bf.atR (a.put o.dst A) (.inRegion ops (List.range' 1 r.length)::k):=by
   grind [Frame.finish_atR]
  have hr:=N1 (P:=X.P) (ρ:=a.eval) (w:=w) N;have E:=tryRecover_deferred (fr:=bf.atR a (.inRegion ops (0::List.range' 1 r.length)::k)) j2 (C::cs);rw[h6,<-W];simp only[Frame.atR,Q]at E ⊢
  rcases hu with ⟨rfl,rfl,rfl⟩|⟨rfl,rfl⟩
  .have V:recoverD (C::cs)=none:=by grind [recoverD]
   rw[V]at E;have l3:({ C with mode:=FrameMode.returning }:Frame)=C:=by rw[<-l2]
   simp[stepG.apply,hr,E,l3]
  .have V:recoverD (C::cs)=some (A,{ C with mode:=dK A true }::cs):=by grind [recoverD,dK]
   rw[V]at E;simp[stepG.apply,hr,E]
 subst Y;obtain⟨e,n,D,⟨rfl,h8,l5,c,j1,S⟩,h7⟩:=wp_opsIn _ _ _ L bf k ({ C with mode:=F }::cs) Q hF x;refine⟨.normal,n,{ C with mode:=F }::cs,D,rfl,?_,?_⟩
 .show b.wpSIn Fence.wide 0 X.P _ n ({ C with mode:=F }::cs) D;refine wpSIn_of_wpIn rfl (wpIn_mono (Dd hm hX b w none y _ c n D h9 j1 h8 S) λe a2 w2 hq=>?_)
  obtain⟨q1,M,q2,q3⟩:=hq;have fin:∀d,Rel d a2->jE M (K w2.heap)->a2.defers=[]/\∃J,({ C with mode:=F }::cs:List Frame)={ C with mode:=J }::cs/\∃v,(results fn a2.tmps).run X.P w2=.ok v w2/\(bR w w2/\J=F/\K w2.heap):=by
   intro d s B;obtain⟨rfl,B⟩:=lG.1 B;refine⟨by rw[q2.defers];grind [mS],F,rfl,?_⟩;obtain⟨v,_,G⟩:=Df (X:=X) (w:=w2) s fn (λ_=>True) (by rw[Z];trivial)
   grind
  cases e with
  | normal=>obtain⟨d,s,B⟩:=q3;exact fin d s B
  | ret=>obtain⟨d,s,B⟩:=q3;exact fin d s B
  | exit i=>obtain⟨d,s,B⟩:=q3;exact B.elim
  | panic ch=>obtain⟨d,s,B⟩:=q3;exact B.elim
  | _=>exact q3.elim
 .refine .of_steps (.one (fenced_calm hF x rfl) stepR_region) ?_;rw[I];refine .of_steps (.one ?_ U) h7;exact fenced_oper hF x h0 (λ_ _=>trivial)
theorem N3{P:Program}(m:X.P=P)(hm:X.P.follows .mixedOrders=true)(j:∀f,bK f X.calls=true->fq X.P f){f:FuncId}{fn:Func}(e:P.funcs[f]?=some fn){an:Ann}{args:Xb}{a:Value}{u b:FrameMode}{H:aC}{K:aC->Prop}{C:Prop}
  (d:(u=.returning/\a=.nilIface/\b=.returning)\/(u=dK a false/\b=dK a true))
  (k:vcDef X fn an args a H K=C) (h:C) (i:okF X fn=true:=by kernel_rfl):gZ P f args u H λc H'=>c=b/\K H':=by
 subst m;exact N2 hm j e an d i (k▸h)
end
structure LOut where
 n:Nat
 ret:Nat
 ex:List (Nat×Nat)
def mT:Code->List Oper
 | .region _ ops _=>ops.toList
 | .seq a b=>mT a++mT b
 | .cond _ a b=>mT a++mT b
 | .block _ a=>mT a
 | .loop a=>mT a
 | .rangeFunc _ _ a b=>mT a++mT b
 | _=>[]
def extSh(P:Program)(d i:Nat):List Oper->Sh
 | []=>.one .raw
 | o::r=>match o.op with
  | .extract (.tmp t) j=>(match Nat.beq t d&&Nat.beq i j with|true=>(match pp P o.type with|some s=>s|none=>.one .raw)|false=>extSh P d i r)
  | _=>extSh P d i r
def ym(P:Program)(all:List Oper):List Oper->List (Nat×Sh×Sh)
 | []=>[]
 | o::r=>match o.op,o.dst with
  | .entry _,some d=>(d,extSh P d 0 all,extSh P d 1 all)::ym P all r
  | _,_=>ym P all r
def nxF(X:bX)(fn:Func):bX:=X.nx (match fn.body with|some c=>ym X.P (mT c) (mT c)|none=>[])
def okAt(X:bX)(f:FuncId):Bool:=match X.P.funcs[f]? with|some fn=>okF (nxF X fn) fn|none=>true
theorem Dl{X:bX}{f:FuncId}(h:okAt X f=true){fn:Func}(a:X.P.funcs[f]?=some fn):okF (nxF X fn) fn=true:=by
 grind [okAt]
abbrev PH:=Nat->Option Obj
def aD:=PH->Prop
def dL(a b:PH):PH:=λi=>match a i with|some o=>some o|none=>b i
def phDisj(a b:PH):Prop:=∀i,a i=none\/b i=none
def aD.sep(A B:aD):aD:=λh=>∃a b,phDisj a b/\h=dL a b/\A a/\B b
instance:Mul aD:=⟨aD.sep⟩
def oG:PH:=λ_=>none
def emp:aD:=λh=>h=oG
def pt(b:Nat)(o:Obj):aD:=λh=>h=λi=>if i=b then some o else none
def pur(p:Prop):aD:=λh=>p/\h=oG
def exS{α:Type}(A:α->aD):aD:=λh=>∃x,A x h
def old(H0:aC):aD:=λh=>h=λi=>H0[i]?
def aO(H:aC)(A:aD):Prop:=∃h:PH,(∀i o,h i=some o->H[i]?=some o)/\A h
theorem Dm{a b:PH}(h:phDisj a b):dL a b=dL b a:=by
 funext i;simp only[dL]
 rcases h i with h|h <;> simp only[h] <;> split <;> simp_all
theorem vg(A B:aD):A*B=B*A:=by
 funext h;apply propext
 constructor
 .rintro⟨a,b,hd,rfl,ha,hb⟩;exact⟨b,a,λi=>(hd i).symm,Dm hd,hb,ha⟩
 .rintro⟨a,b,hd,rfl,ha,hb⟩;exact⟨b,a,λi=>(hd i).symm,Dm hd,hb,ha⟩
theorem Dn(a b c:PH):dL (dL a b) c=dL a (dL b c):=by
 grind [dL]
theorem lH(A B C:aD):A*B*C=A*(B*C):=by
 funext h;apply propext
 constructor
 .rintro⟨ab,c,hd,rfl,⟨a,b,hd',rfl,ha,hb⟩,hc⟩;refine⟨a,dL b c,λi=>?_,Dn a b c,ha,b,c,λi=>?_,rfl,hb,hc⟩
  .simp only[dL]
   rcases hd' i with h|h
   .grind
   .rcases hd i with d|d
    .simp only[dL]at d
     grind
    grind
  .rcases hd i with d|d
   .grind [dL]
   grind
 .rintro⟨a,bc,hd,rfl,ha,b,c,hd',rfl,hb,hc⟩;refine⟨dL a b,c,λi=>?_,(Dn a b c).symm,⟨a,b,λi=>?_,rfl,ha,hb⟩,hc⟩
  .rcases hd i with d|d
   .simp only[dL,d];exact hd' i
   grind [dL]
  .rcases hd i with d|d
   .grind
   .simp only[dL]at d
    grind
instance:Std.Commutative (α:=aD) (·*·):=⟨vg⟩
instance:Std.Associative (α:=aD) (·*·):=⟨lH⟩
theorem sW(A B C:aD):A*(B*C)=B*(A*C):=by grind
theorem sX(h:PH):dL oG h=h:=by funext i;rfl
theorem nL(A:aD):emp*A=A:=by
 funext h;apply propext
 constructor
 .rintro⟨a,b,hd,rfl,ha,hb⟩;have:a=oG:=ha;subst this;rw[sX];exact hb
 .intro c;exact⟨oG,h,λi=>.inl rfl,(sX h).symm,rfl,c⟩
theorem vh(A:aD):A*emp=A:=by rw[vg,nL]
theorem yn(p:Prop)(A:aD)(h:PH):(pur p*A) h↔p/\A h:=by
 constructor
 .rintro⟨a,b,hd,rfl,⟨hp,rfl⟩,hb⟩
  grind [sX]
 .rintro⟨hp,hA⟩;exact⟨oG,h,λi=>.inl rfl,(sX h).symm,⟨hp,rfl⟩,hA⟩
theorem exS_sep{α:Type}(A:α->aD)(B:aD):exS A*B=exS λx=>A x*B:=by
 funext h;apply propext
 constructor
 .rintro⟨a,b,hd,rfl,⟨x,ha⟩,hb⟩;exact⟨x,a,b,hd,rfl,ha,hb⟩
 .rintro⟨x,a,b,hd,rfl,ha,hb⟩;exact⟨a,b,hd,rfl,⟨x,ha⟩,hb⟩
section
variable {H:aC}{A B F:aD}
theorem aO.eq(h:aO H A)(a:A=B):aO H B:=a▸h
theorem aO.drop(h:aO H (A*B)):aO H A:=by
 obtain⟨g,d,a,b,hd,rfl,c,hb⟩:=h;exact⟨a,λi o e=>d i o (by grind [dL]),c⟩
theorem aO.drop'(h:aO H (A*B)):aO H B:=by rw[vg]at h;exact h.drop
theorem aO.frame(h:aO H (A*F))(d:∀h,A h->B h):aO H (B*F):=by
 obtain⟨g,e,a,b,hd,f,c,hb⟩:=h;exact⟨g,e,a,b,hd,f,d _ c,hb⟩
theorem sat_ex{α:Type}{A:α->aD}:aO H (exS A)↔∃x,aO H (A x):=
 ⟨λ⟨g,b,x,a⟩=>⟨x,g,b,a⟩,λ⟨x,g,b,a⟩=>⟨g,b,x,a⟩⟩
theorem sat_exs{α:Type}{A:α->aD}:aO H (exS A*F)↔∃x,aO H (A x*F):=by rw[exS_sep,sat_ex]
theorem nM{p:Prop}:aO H (pur p*A)↔p/\aO H A:=
 ⟨λ⟨g,b,a⟩=>⟨((yn p A g).1 a).1,g,b,((yn p A g).1 a).2⟩,λ⟨c,g,b,a⟩=>⟨g,b,(yn p A g).2 ⟨c,a⟩⟩⟩
theorem aO.get{b:Nat}{o:Obj}(h:aO H (pt b o*F)):H[b]?=some o:=by
 obtain⟨g,e,a,c,hd,rfl,d,f⟩:=h;refine e b o ?_;have:a=_:=d
 grind [dL]
theorem aO.upd{b:Nat}{o e:Obj}{H':aC}(h:aO H (pt b o*F))(hb:H'[b]?=some e)(m:∀i,i≠b->H'[i]?=H[i]?):aO H' (pt b e*F):=by
 obtain⟨g,k,a,c,hd,rfl,f,j⟩:=h;have:a=_:=f;subst this;have n:c b=none:=by
  rcases hd b with h|h
  .simp at h
  .exact h
 refine⟨dL (λi=>if i=b then some e else none) c,λi o1 d=>?_,_,c,λi=>?_,rfl,rfl,j⟩
 .simp only[dL]at d
  by_cases hi:i=b
  .grind
  .rw [m i hi];refine k i o1 ?_;simp only[dL,Vz hi]at d ⊢;exact d
 grind
theorem aO.push(h:aO H F)(o:Obj):aO (H.push o) (pt H.size o*F):=by
 obtain⟨g,d,c⟩:=h;have e:∀i a,g i=some a->i<H.size:=λi a hi=>(Array.getElem?_eq_some_iff.1 (d i a hi)).1
 refine⟨dL (λi=>if i=H.size then some o else none) g,λi o1 b=>?_,_,g,λi=>?_,rfl,rfl,c⟩
 .simp only[dL]at b
  grind
 .by_cases hi:i=H.size
  .subst hi;right
   cases hg:g H.size with
   | none=>rfl
   | some a=>grind
  grind
theorem aO.lt{b:Nat}{o:Obj}(h:aO H (pt b o*F)):b<H.size:=(Array.getElem?_eq_some_iff.1 h.get).1
theorem N4(H:aC):aO H (old H):=⟨λi=>H[i]?,λ_ _ h=>h,rfl⟩
theorem aO.was{H0:aC}(h:aO H (old H0*F)){i:Nat}(hi:i<H0.size):H[i]?=H0[i]?:=by
 obtain⟨g,e,a,c,hd,rfl,b,d⟩:=h;have:a=_:=b
 grind [dL]
end
def cellsA(b:Nat)(cs:Xb)(e:TypeId):aD:=pt b (.cells cs.toArray e (0,0))
theorem aO.cell{H:aC}{F:aD}{b:Nat}{cs:Xb}{e:TypeId}(h:aO H (cellsA b cs e*F))(o:Nat):aM H b o=cs[o]?:=by
 have:=h.get
 grind [aM]
theorem aO.cell_old{H H0:aC}{F:aD}(h:aO H (old H0*F)){b o:Nat}{v:Value}(a:aM H0 b o=some v):aM H b o=some v:=by
 have hb:b<H0.size:=by
  grind [aM]
 simp only[aM,h.was hb];exact a
theorem Do{H:aC}{b o:Nat}{v:Value}{cs:Xb}{e:TypeId}(h:H[b]?=some (.cells cs.toArray e (0,0))) :
  (gT H b o v)[b]?=some (.cells (cs.set o v).toArray e (0,0))/\∀i,i≠b->(gT H b o v)[i]?=H[i]?:=by
 refine⟨?_,λi hi=>?_⟩
 .simp only[gT,Array.getElem?_modify,if_true,h,VT];simp
 .simp only[gT,Array.getElem?_modify]
  grind
def cq(cs:Xb):Nat->Xb->Xb
 | _,[]=>cs
 | o,v::r=>cq (cs.set o v) (o+1) r
theorem aO.set1{H:aC}{F:aD}{b:Nat}{cs:Xb}{e:TypeId}(h:aO H (cellsA b cs e*F))(o:Nat)(v:Value):aO (gT H b o v) (cellsA b (cs.set o v) e*F):=
 h.upd (Do h.get).1 (Do h.get).2
theorem aO.sets{H:aC}{F:aD}{b:Nat}{e:TypeId}:∀(vs:Xb) {cs:Xb} (o:Nat),aO H (cellsA b cs e*F)->aO (ee H b o vs) (cellsA b (cq cs o vs) e*F)
 | [],cs,o,h=>h
 | v::r,cs,o,h=>by
  have:=aO.set1 h o v;simp only[ee,cq];exact aO.sets r (o+1) this
theorem aO.can{H:aC}{F:aD}{b:Nat}{cs:Xb}{e:TypeId}(h:aO H (cellsA b cs e*F)):∀(vs:Xb) (o:Nat),o+vs.length<=cs.length->dJ H b o vs
 | [],_,_=>trivial
 | v::r,o,hl=>by
  simp only[VA]at hl;refine⟨⟨?_,?_⟩,aO.can h r (o+1) (by omega)⟩
  .rw [h.cell];simp;omega
  .have:=h.get
   grind [l8]
def star:List aD->aD
 | []=>emp
 | A::r=>A*star r
def aA(H:aC)(L:List aD):Prop:=aO H (star L)
def aS:Nat->List aD->aD
 | _,[]=>emp
 | 0,a::_=>a
 | n+1,_::r=>aS n r
def del:Nat->List aD->List aD
 | _,[]=>[]
 | 0,_::r=>r
 | n+1,a::r=>a::del n r
def put:Nat->aD->List aD->List aD
 | _,A,[]=>[A]
 | 0,A,_::r=>A::r
 | n+1,A,a::r=>a::put n A r
def sY:Nat->List aD->List aD
 | 0,L=>L
 | _,[]=>[]
 | n+1,_::r=>sY n r
def ordL(is:List Nat)(L:List aD):List aD:=match is with
 | []=>[]
 | i::r=>aS i L::ordL r L
def ordT(is:List Nat)(n:Nat)(L:List aD):List aD:=match is with
 | []=>sY n L
 | i::r=>aS i L::ordT r n L
theorem vi:∀(i:Nat) (L:List aD),star L=aS i L*star (del i L)
 | _,[]=>by grind [aS,del,nL]
 | 0,a::r=>rfl
 | n+1,a::r=>by
  have:=vi n r;simp only[aS,del,star];rw[this,sW]
theorem yo:∀(i:Nat) (A:aD) (L:List aD),star (put i A L)=A*star (del i L)
 | _,A,[]=>by simp[put,del,star]
 | 0,A,a::r=>rfl
 | n+1,A,a::r=>by
  have:=yo n A r;simp only[put,del,star];rw[this,sW]
theorem Dp:∀{i j:Nat} (L:List aD),j≠i->aS j (put i emp L)=aS j L
 | i,j,[],h=>by
  cases j with
  | zero=>simp[put,aS]
  | succ n=>simp[put,aS]
 | 0,0,a::r,h=>V0 rfl h
 | 0,j+1,a::r,h=>rfl
 | i+1,0,a::r,h=>rfl
 | i+1,j+1,a::r,h=>by
  simp only[put,aS];exact Dp r (by omega)
theorem yp{L L':List aD}:∀{is:List Nat},(∀j∈is,aS j L=aS j L')->ordL is L=ordL is L'
 | [],_=>rfl
 | i::r,h=>by
  simp only[ordL];rw[h i (by simp),yp (is:=r) λj a=>h j (by simp[a])]
theorem yq{H:aC}:∀(is:List Nat) (L:List aD) (F:aD),is.Nodup->aO H (star L*F)->aO H (star (ordL is L)*F)
 | [],L,F,_,h=>by
  simp only[ordL,star,nL];exact h.drop'
 | i::is,L,F,hn,h=>by
  rw[W1]at hn;have e:star L*F=star (put i emp L)*(aS i L*F):=by
   grind [yo,nL,vi]
  rw[e]at h;have a:=yq is _ _ hn.2 h;rw[yp (L:=put i emp L) (L':=L) (λj b=>Dp L (λ(e:j=i)=>hn.1 (by grind)))]at a
  simp only[ordL,star];rw[lH,sW];exact a
theorem sZ:∀(a b:List aD),star (a++b)=star a*star b
 | [],b=>by simp[star,nL]
 | x::r,b=>by simp only[WF,star];rw[sZ r b,lH]
def td:Nat->List aD->List aD
 | 0,_=>[]
 | _,[]=>[]
 | n+1,a::r=>a::td n r
theorem Dq:∀(n:Nat) (L:List aD),L=td n L++sY n L
 | 0,L=>rfl
 | n+1,[]=>rfl
 | n+1,a::r=>by simp only[td,sY,WF];rw[<-Dq n r]
theorem Dr:∀{n j:Nat} (L:List aD),j<n->aS j (td n L)=aS j L
 | 0,_,_,h=>V0 h (by omega)
 | n+1,j,[],h=>rfl
 | n+1,0,a::r,h=>rfl
 | n+1,j+1,a::r,h=>by simp only[td,aS];exact Dr r (by omega)
theorem Ds(n:Nat)(L:List aD):∀(is:List Nat),ordT is n L=ordL is L++sY n L
 | []=>rfl
 | i::r=>by simp only[ordT,ordL,WF];rw[Ds n L r]
section
variable {H:aC}{L:List aD}
theorem aA.foc(h:aA H L)(i:Nat):aO H (aS i L*star (del i L)):=by unfold aA at h;rw[vi i L]at h;exact h
theorem aA.back{i:Nat}{A:aD}(h:aO H (A*star (del i L))):aA H (put i A L):=by unfold aA;rw[yo];exact h
theorem aA.ord(h:aA H L)(is:List Nat)(b:is.Nodup):aA H (ordL is L):=by
 have a:=yq is L emp b (by rw[vh];exact h);rw[vh]at a;exact a
theorem aA.ordt(h:aA H L)(is:List Nat)(n:Nat)(b:is.Nodup)(d:∀i∈is,i<n):aA H (ordT is n L):=by
 unfold aA at *;rw[Dq n L,sZ]at h;have a:=yq is _ _ b h;rw[Ds,sZ];rw[yp (L':=L) λj c=>Dr L (d j c)]at a
 exact a
theorem aA.o{H:aC}{L:List aD}(h:aA H L)(is:List Nat)(n:Nat)(a:is.Nodup:=by decide)(h2:∀i∈is,i<n:=by decide):aA H (ordT is n L):=h.ordt is n a h2
theorem aA.tl{A:aD}(h:aA H (A::L)):aA H L:=aO.drop' h
theorem aA.consP{p:Prop}(h:aA H (pur p::L)):p/\aA H L:=nM.1 h
theorem aA.pur{p:Prop}(h:aA H L)(a:p):aA H (pur p::L):=nM.2 ⟨a,h⟩
theorem aA.mono{A B:aD}(h:aA H (A::L))(a:∀h,A h->B h):aA H (B::L):=aO.frame h a
theorem aA.push(h:aA H L)(o:Obj):aA (H.push o) (pt H.size o::L):=aO.push h o
def cV(H H':aC):Prop:=∀b,b<H.size->H'[b]?=H[b]?
theorem cV.size{H H':aC}(h:cV H H'):H.size<=H'.size:=by
 rcases W0 H'.size H.size with a|b
 .have:=h H'.size a
  grind
 grind
theorem cV.trans{H H' a:aC}(h:cV H H')(c:cV H' a):cV H a:=λb hb=>(c b (Nat.lt_of_lt_of_le hb h.size)).trans (h b hb)
theorem cV.push(H:aC)(o:Obj):cV H (H.push o):=λb hb=>by grind
theorem aO.grow{H H':aC}{F:aD}(h:aO H F)(g:cV H H'):aO H' F:=by
 obtain⟨p,a,b⟩:=h;exact⟨p,λi o hi=>(g i (Array.getElem?_eq_some_iff.1 (a i o hi)).1).trans (a i o hi),b⟩
theorem aO.add{H:aC}{F:aD}{o:Obj}{b n:Nat}(hb:H[b]?=some o)(h:∃H0:aC,H0.size=n/\aO H0 F/\cV H0 H/\n<=b):aO H (pt b o*F):=by
 obtain⟨H0,rfl,⟨p,e,f⟩,g,j⟩:=h;have d:∀i c,p i=some c->i<H0.size:=λi c hi=>(Array.getElem?_eq_some_iff.1 (e i c hi)).1
 refine⟨dL (λi=>if i=b then some o else none) p,λi o1 a=>?_,_,p,λi=>?_,rfl,rfl,f⟩
 .simp only[dL]at a
  by_cases hi:i=b
  .grind
  .simp only[Vz hi]at a;exact (g i (d i o1 a)).trans (e i o1 a)
 .by_cases hi:i=b
  .subst hi;right
   cases hp:p i with
   | none=>rfl
   | some c=>grind
  grind
theorem aA.grow{H H':aC}(h:aA H L)(g:cV H H'):aA H' L:=aO.grow h g
theorem aA.new{H H':aC}{b:Nat}{o:Obj}(h:aA H L)(g:cV H H')(hb:H.size<=b)(a:H'[b]?=some o):aA H' (pt b o::L):=
 aO.add a ⟨H,rfl,h,g,hb⟩
theorem fJ{α:Type}(l:List α)(n:Nat):aI l n=l[n]?:=by
 induction l generalizing n with
 | nil=>simp[aI]
 | cons a r ih=>cases n <;> simp[aI,ih]
theorem aO.rdc{H:aC}{A F:aD}(h:aO H (A*F)){b e:Nat}{cs:Xb}(a:A=cellsA b cs e)(o:Nat):aM H b o=aI cs o:=by
 subst a;rw[h.cell,fJ]
theorem aA.rd(h:aA H L)(i:Nat){b e:Nat}{cs:Xb}(a:aS i L=cellsA b cs e)(o:Nat):aM H b o=aI cs o:=(h.foc i).rdc a o
theorem aA.r{H:aC}{L:List aD}(h:aA H L)(i:Nat){b e o:Nat}{cs:Xb}(a:aS i L=cellsA b cs e:=by rfl):aM H b o=aI cs o:=h.rd i a o
theorem aA.can(h:aA H L)(i:Nat){b e:Nat}{cs:Xb}(a:aS i L=cellsA b cs e)(o:Nat)(vs:Xb)(c:o+vs.length<=cs.length):dJ H b o vs:=by
 have:=h.foc i;rw[a]at this;exact this.can vs o c
theorem aA.set(h:aA H L)(i:Nat){b e:Nat}{cs:Xb}(a:aS i L=cellsA b cs e)(o:Nat)(vs:Xb):aA (ee H b o vs) (put i (cellsA b (cq cs o vs) e) L):=by
 have:=h.foc i;rw[a]at this;exact aA.back (aO.sets vs o this)
theorem aA.was(h:aA H L)(i:Nat){H0:aC}(a:aS i L=old H0){b:Nat}(hb:b<H0.size):H[b]?=H0[b]?:=by
 have:=h.foc i;rw[a]at this;exact this.was hb
theorem aA.cell0(h:aA H L)(i:Nat){H0:aC}(c:aS i L=old H0){b o:Nat}{v:Value}(a:aM H0 b o=some v):aM H b o=some v:=by
 have:=h.foc i;rw[c]at this;exact this.cell_old a
end
structure SlT(P:Program)(t e sz bytes:Nat):Prop where
 und:P.underlying t=some (.slice e)
 pos:0<sz
 info:∃i z,P.info? e=some i/\i.zero=some z/\i.size=sz/\i.bytes=bytes/\z.cells.size=sz
def slTB(P:Program)(t e sz bytes:Nat):Bool:=
 match P.underlying t,P.info? e with
 | some (.slice e'),some i=>(match i.zero with
  | some z=>Nat.beq e' e&&Nat.blt 0 sz&&Nat.beq i.size sz&&Nat.beq i.bytes bytes&&Nat.beq z.cells.size sz
  | none=>false)
 | _,_=>false
theorem eG{P:Program}{t e sz bytes:Nat}(h:slTB P t e sz bytes=true):SlT P t e sz bytes:=by
 unfold slTB at h
 split at h
 .rename_i m i c hi
  split at h
  .rename_i z k;simp only[V4]at h;obtain⟨⟨⟨⟨a,j⟩,b⟩,d⟩,f⟩:=h;have a:=Wz a;subst a;exact⟨c,Nat.le_of_ble_eq_true j,i,z,hi,k,Wz b,Wz d,Wz f⟩
  .cases h
 .cases h
def aN(H:aC)(a:Xa)(cs:Xb):Prop:=∀j v,aI cs j=some v->a=some ⟨aW a,aT a,none⟩/\aM H (aW a) (aT a+j)=some v
theorem lI{α:Type}{l:List α}{j:Nat}{v:α}(h:aI l j=some v):j<l.length:=by
 grind [fJ]
theorem vj{α:Type}{l:List α}{j:Nat}(h:j<l.length):aI l j=some l[j]:=by grind [fJ]
theorem fK(H:aC)(a:Xa):aN H a []:=λj v h=>by grind [aI]
theorem aN.take{H:aC}{a:Xa}{cs:Xb}(h:aN H a cs)(n:Nat):aN H a (cs.take n):=λj v b=>h j v (by
 grind [fJ])
theorem aO.cellG{H:aC}{F:aD}{b e:Nat}{cs:Xb}{fr:Nat×Nat}(h:aO H (pt b (.cells cs.toArray e fr)*F))(o:Nat):aM H b o=cs[o]?:=by
 have:=h.get
 grind [aM]
theorem Dt{H:aC}{b o e:Nat}{v:Value}{cs:Xb}{fr:Nat×Nat}(h:H[b]?=some (.cells cs.toArray e fr)) :
  (gT H b o v)[b]?=some (.cells (cs.set o v).toArray e fr)/\∀i,i≠b->(gT H b o v)[i]?=H[i]?:=by
 refine⟨?_,λi hi=>?_⟩
 .simp only[gT,Array.getElem?_modify,if_true,h,VT];simp
 .simp only[gT,Array.getElem?_modify]
  grind
theorem aO.setsG{H:aC}{F:aD}{b e:Nat}{fr:Nat×Nat}:∀(vs:Xb) {cs:Xb} (o:Nat),aO H (pt b (.cells cs.toArray e fr)*F)->aO (ee H b o vs) (pt b (.cells (cq cs o vs).toArray e fr)*F)
 | [],cs,o,h=>h
 | v::r,cs,o,h=>by
  have:=h.upd (Dt (o:=o) (v:=v) h.get).1 (Dt h.get).2;simp only[ee,cq];exact aO.setsG r (o+1) this
theorem aO.canG{H:aC}{F:aD}{b e:Nat}{cs:Xb}{fr:Nat×Nat}(h:aO H (pt b (.cells cs.toArray e fr)*F)):∀(vs:Xb) (o:Nat),o+vs.length<=cs.length->(∀i,o<=i->i<o+vs.length->¬(fr.1<=i/\i<fr.2))->dJ H b o vs
 | [],_,_,_=>trivial
 | v::r,o,hl,hf=>by
  simp only[VA]at hl hf;refine⟨⟨?_,?_⟩,aO.canG h r (o+1) (by omega) λi d c=>hf i (by omega) (by omega)⟩
  .rw [h.cellG];simp;omega
  .have:=h.get;have a:=hf o (VD _) (by omega)
   grind [l8]
def slA(e sz:Nat)(a:Xa)(n c:Nat)(cs:Xb):aD:=λh=>
 cs.length=n*sz/\((a=none/\n=0/\c=0/\h=oG)\/
  ∃b pre post e' fr,a=some ⟨b,pre.length,none⟩/\n<=c/\(c-n)*sz<=post.length/\(e=e->∀i,pre.length<=i->i<pre.length+c*sz->¬(fr.1<=i/\i<fr.2))/\pt b (.cells (pre++cs++post).toArray e' fr) h)
section
variable {H:aC}{F:aD}{e sz n c:Nat}{a:Xa}{cs:Xb}
theorem rh(h:aO H F):aO H (slA e sz none 0 0 []*F):=by
 have:aO H (emp*F):=by rw[nL];exact h
 exact this.frame λp a=>⟨by simp,.inl ⟨rfl,rfl,rfl,a⟩⟩
theorem slA_pt{b:Nat}(h:aO H (cellsA b cs e*F))(c:cs.length=n*sz):aO H (slA e sz (some ⟨b,0,none⟩) n n cs*F):=
 h.frame λp a=>⟨c,.inr ⟨b,[],[],e,(0,0),rfl,VD _,by simp,λ_ i _ _ d=>by simp at d,by simpa[cellsA] using a⟩⟩
theorem jF(h:aO H (slA e sz a n c cs*F)):cs.length=n*sz/\((a=none/\n=0/\c=0/\aO H F)\/
  ∃b d post s fr,a=some ⟨b,d.length,none⟩/\n<=c/\(c-n)*sz<=post.length/\(∀i,d.length<=i->i<d.length+c*sz->¬(fr.1<=i/\i<fr.2))/\aO H (pt b (.cells (d++cs++post).toArray s fr)*F)):=by
 obtain⟨g,t,x,y,hd,rfl,v,u⟩:=h;refine⟨v.1,?_⟩
 rcases v.2 with ⟨m,f,j,k⟩|⟨b,d,post,s,fr,m,f,j,w,k⟩
 .left;refine⟨m,f,j,_,t,?_⟩;rw[k,sX];exact u
 .right;exact⟨b,d,post,s,fr,m,f,j,w rfl,_,t,x,y,hd,rfl,k,u⟩
theorem slA_len(h:aO H (slA e sz a n c cs*F)):cs.length=n*sz:=(jF h).1
theorem slA_nc(h:aO H (slA e sz a n c cs*F)):n<=c:=by
 rcases (jF h).2 with ⟨j,d,f,i⟩|⟨b,k,post,s,fr,j,d,f,m,i⟩ <;> omega
theorem yr(h:aO H (slA e sz a n c cs*F)):aN H a cs:=by
 obtain⟨w,d⟩:=jF h;intro j v m;have t:=lI m
 rcases d with ⟨d,k,s,i⟩|⟨b,f,post,u,fr,d,k,s,x,i⟩
 .grind
 .subst d;refine⟨rfl,?_⟩;show aM H b (f.length+j)=some v;rw[i.cellG]
  grind [fJ]
theorem oH:∀(vs cs:Xb) (o:Nat),(cq cs o vs).length=cs.length
 | [],_,_=>rfl
 | v::r,cs,o=>by simp only[cq];rw[oH r];simp
theorem Du:∀(vs a cs post:Xb) (o:Nat),o+vs.length<=cs.length->cq (a++cs++post) (a.length+o) vs=a++cq cs o vs++post
 | [],_,_,_,_,_=>rfl
 | v::r,a,cs,post,o,h=>by
  simp only[VA]at h;simp only[cq];have:=Du r a (cs.set o v) post (o+1) (by simp;omega);rw[<-Nat.add_assoc]at this;rw[<-this];congr 1;rw[VX,VX,List.set_append_right _ _ (by omega),WU,List.set_append_left _ _ (by omega)]
theorem rj:∀(vs a post:Xb),vs.length<=post.length->cq (a++post) a.length vs=a++vs++post.drop vs.length
 | [],_,_,_=>by simp[cq]
 | v::r,a,[],h=>by simp at h
 | v::r,a,p::post,h=>by
  simp only[cq];have:=rj r (a++[v]) post (by grind)
  grind
theorem slA_set(h:aO H (slA e sz a n c cs*F))(o:Nat)(vs:Xb)(u:o+vs.length<=cs.length)(A:vs≠[]) :
  a=some ⟨aW a,aT a,none⟩/\dJ H (aW a) (aT a+o) vs/\aO (ee H (aW a) (aT a+o) vs) (slA e sz a n c (cq cs o vs)*F):=by
 obtain⟨t,f⟩:=jF h
 rcases f with ⟨f,j,m,k⟩|⟨b,d,post,x,fr,f,j,m,s,k⟩
 .simp_all
 .subst f;have v:n*sz<=c*sz:=Wf _ j;refine⟨rfl,k.canG vs _ (by grind [aT]) (λi B y=>s i (by grind [aT]) (by grind [aT])),?_⟩
  have:=aO.setsG vs (d.length+o) k;rw[Du _ _ _ _ _ u]at this;exact this.frame λp w=>⟨by grind [oH],.inr ⟨b,d,post,x,fr,rfl,j,m,λ_=>s,w⟩⟩
theorem fu(b o n:Nat):(⟨b,o,none⟩:Addr).add n=⟨b,o+n,none⟩:=by
 grind [Addr.add]
theorem te{P:Program}{w:World}{m:Nat}{a2:Xa}{c2:Nat}{ws:Xb}(b:aN w.heap a2 ws)(c:ws.length=m*sz) :
  (Builtin.firstCells sz m (.slice a2 m c2)).run P w=.ok ws.toArray w:=by
 cases a2 with
 | none=>
  have:ws=[]:=by
   cases ws with
   | nil=>rfl
   | cons v r=>have:=(b 0 v rfl).1;grind
  grind [run_firstCells_none]
 | some a=>
  refine run_firstCells_some w sz m a m c2 ws c λj v d=>?_
  have h:=b j v (by grind [fJ])
  grind [fu,World.cell?,aM]
theorem N5{P:Program}{t bytes m c2 ty:Nat}(T:SlT P t e sz bytes){a2:Xa}{ws:Xb}{K:KQ}(h:aO H (slA e sz a n c cs*F))(Z:aN H a2 ws)(B:ws.length=m*sz)(A:cK ws=true)
  (hb:(n+m)*bytes<=140737488355328) (hn:n+m<=140737488355328)
  (k:∀R W H',aO H' (slA e sz R (n+m) W (cs++ws)*F)->K (.slice R (n+m) W) H') :
  bS P (Builtin.append_ #[t,t] ty #[.slice a n c,.slice a2 m c2]) H K:=by
 obtain⟨D,h0,i,z,hi,hz,rfl,rfl,I⟩:=T;refine .mk λw N=>?_
 subst N;obtain⟨s,v⟩:=jF h;have Q:¬(9223372036854775807<(n:Int)+(m:Int)):=by omega
 have x:=te (P:=P) (w:=w) (c2:=c2) Z B;have J:=te (P:=P) (w:=w.drew) (c2:=c2) Z B;have E:=te (P:=P) (w:=w.drew) (a2:=a) (m:=n) (c2:=c) (yr h) s
 by_cases hroom:n+m<=c
 .rcases v with ⟨v,S,L,u⟩|⟨b,d,post,e',fr,v,S,L,V,u⟩
  .subst v;subst S;subst L;obtain rfl:m=0:=by omega
   obtain rfl:ws=[]:=Wi (by grind);obtain rfl:cs=[]:=Wi (by grind);refine⟨.slice none (0+0) 0,w,?_,bR.refl w,k _ _ _ (rh u)⟩;simp[Builtin.append_,run_underlying D,sizeOf,typeInfo,hi,Builtin.lenOf,x]
  .subst v;have y:ws.length<=post.length:=by
    refine W2 ?_ L;rw[B];exact Wf _ (by omega)
   have M:(n+m)*i.size<=c*i.size:=Wf _ hroom;rw[Wt]at M;have f:dJ w.heap b (d.length+n*i.size) ws:=u.canG ws _ (by grind) λj C Y=>V j (by omega) (by omega)
   obtain⟨w',C,Y,h8⟩:=qO (P:=P) (b:=b) ws (d.length+n*i.size) 0 w (by simpa using f) (by simpa using qP _ _ f) A;refine⟨.slice (some ⟨b,d.length,none⟩) (n+m) c,w',?_,Y,k _ _ _ ?_⟩
   .simp [Builtin.append_,run_underlying D,sizeOf,typeInfo,hi,Builtin.lenOf,hroom,x,fu,C]
   .rw [h8];have U:=aO.setsG ws (d.length+n*i.size) u;have e1:d.length+n*i.size=(d++cs).length:=by simp[s]
    rw[e1,rj _ _ _ y]at U;rw[Wk,e1];refine U.frame λp A=>⟨by grind,.inr ⟨b,d,post.drop ws.length,e',fr,rfl,hroom,?_,λ_=>V,by simpa using A⟩⟩
    rw[Wb,B];have:(c-(n+m))*i.size+m*i.size=(c-n)*i.size:=by rw[<-Wt];grind
    omega
 .have G:¬(281474976710656<Builtin.nextslicecap (n+m) c*i.bytes):=by
   have:=growslice_fits (need:=n+m) (old:=c) (bytes:=i.bytes) (by omega) hb;omega
  refine⟨.slice (some ⟨w.heap.size,0,none⟩) (n+m) (grownCap w (n+m) c e),w.drew.alloc (.cells (cs.toArray++ws.toArray++Builtin.zeroCells z.cells (grownCap w (n+m) c e-(n+m))) e),?_,⟨rfl,rfl,rfl⟩,k _ _ _ ?_⟩
  .simp [Builtin.append_,run_underlying D,sizeOf,typeInfo,zeroValue,hi,hz,Builtin.lenOf,hroom,Q,G,Question.forced,E,J,newRow,grownCap]
   grind
  .have u:aO w.heap F:=h.drop';have C:=u.push (.cells (cs.toArray++ws.toArray++Builtin.zeroCells z.cells (grownCap w (n+m) c e-(n+m))) e);have O:=grownCap_ge w (n+m) c e;refine C.frame λp A=>⟨by grind,.inr ⟨w.heap.size,[],(Builtin.zeroCells z.cells (grownCap w (n+m) c e-(n+m))).toList,e,(0,0),rfl,O,?_,λ_ i _ _ hh=>by simp at hh,?_⟩⟩
   .rw [WM,size_zeroCells,I]
    grind
   .have e2:(([]:Xb)++(cs++ws)++(Builtin.zeroCells z.cells (grownCap w (n+m) c e-(n+m))).toList).toArray=cs.toArray++ws.toArray++Builtin.zeroCells z.cells (grownCap w (n+m) c e-(n+m)):=by
     grind
    rw[e2];exact A
end
section
variable {H:aC}{L:List aD}{e sz n c:Nat}{a:Xa}{cs:Xb}
theorem aA.sl_rd(h:aA H L)(i:Nat)(b:aS i L=slA e sz a n c cs):aN H a cs:=yr (F:=star (del i L)) (by have:=h.foc i;rw[b]at this;exact this)
theorem aA.sl_len(h:aA H L)(i:Nat)(b:aS i L=slA e sz a n c cs):cs.length=n*sz:=slA_len (F:=star (del i L)) (by have:=h.foc i;rw[b]at this;exact this)
theorem aA.sl_nc(h:aA H L)(i:Nat)(b:aS i L=slA e sz a n c cs):n<=c:=slA_nc (F:=star (del i L)) (by have:=h.foc i;rw[b]at this;exact this)
theorem aA.sl_nil(h:aA H L)(e sz:Nat):aA H (slA e sz none 0 0 []::L):=rh h
theorem aA.sl_pt{b:Nat}(h:aA H (pt b (.cells cs.toArray e (0,0))::L))(sz n:Nat)(a:cs.length=n*sz):aA H (slA e sz (some ⟨b,0,none⟩) n n cs::L):=slA_pt h a
theorem aA.sl_set(h:aA H L)(i:Nat)(f:aS i L=slA e sz a n c cs)(o:Nat)(vs:Xb)(b:o+vs.length<=cs.length)(d:vs≠[]) :
  a=some ⟨aW a,aT a,none⟩/\dJ H (aW a) (aT a+o) vs/\aA (ee H (aW a) (aT a+o) vs) (put i (slA e sz a n c (cq cs o vs)) L):=by
 have:=h.foc i
 grind [slA_set,aA.back]
theorem aA.append{P:Program}{t bytes m c2 ty:Nat}(T:SlT P t e sz bytes){a2:Xa}{ws:Xb}{K:KQ}(h:aA H L)(i:Nat)(v:aS i L=slA e sz a n c cs)(w:aN H a2 ws)(u:ws.length=m*sz)(x:cK ws=true)
  (hb:(n+m)*bytes<=140737488355328) (s:n+m<=140737488355328)
  (k:∀b d H',aA H' (put i (slA e sz b (n+m) d (cs++ws)) L)->K (.slice b (n+m) d) H') :
  bS P (Builtin.append_ #[t,t] ty #[.slice a n c,.slice a2 m c2]) H K:=by
 have f:=h.foc i;rw[v]at f;exact N5 T f w u x hb s λb d H' j=>k b d H' (aA.back j)
theorem aA.append1{P:Program}{t bytes ty e2:Nat}(T:SlT P t e sz bytes){ws:Xb}{K:KQ}(h:aA H L)(i:Nat)(m:aS i L=slA e sz a n c cs)(w:ws.length=sz)(s:cK ws=true)
  (hb:(n+1)*bytes<=140737488355328) (f:n+1<=140737488355328)
  (k:∀b d H',aA H' (put i (slA e sz b (n+1) d (cs++ws)) L)->K (.slice b (n+1) d) H') :
  bS P (Builtin.append_ #[t,t] ty #[.slice a n c,.slice (some ⟨H.size,0,none⟩) 1 1]) (H.push (.cells ws.toArray e2 (0,0))) K:=by
 have g:=cV.push H (.cells ws.toArray e2 (0,0));refine aA.append T (h.grow g) i m (ws:=ws) (λj v u=>⟨rfl,?_⟩) (by grind) s hb f k
 simp only[aW,aT,VB]
 grind [fJ,aM]
end
theorem Dv{α β:Type}(f:α->β):∀(l:List α) (i:Nat),(l.eraseIdx i).map f=(l.map f).eraseIdx i
 | [],_=>rfl
 | a::r,0=>rfl
 | a::r,i+1=>by simp only[List.eraseIdx_cons_succ,VR];rw[Dv f r i]
section
variable {κ α:Type}[DecidableEq κ]
def aK(x:κ):List (κ×α)->Option α
 | []=>none
 | (y,v)::r=>if x=y then some v else aK x r
def bD(x:κ)(m:List (κ×α)):List (κ×α):=m.filter λp=>decide (p.1≠x)
def mset(x:κ)(v:α)(m:List (κ×α)):List (κ×α):=(x,v)::bD x m
abbrev aL(m:List (κ×α)):List κ:=m.map Prod.fst
theorem fL{x:κ}{v:α}:∀{m:List (κ×α)},aK x m=some v->(x,v)∈m
 | [],h=>by grind [aK]
 | (y,u)::r,h=>by
  simp only[aK]at h
  split at h
  .rename_i e;subst e;cases h;simp
  .exact VF _ (fL h)
theorem nN{x:κ}{v:α}:∀{m:List (κ×α)},(aL m).Nodup->(x,v)∈m->aK x m=some v
 | [],_,h=>by simp at h
 | (y,u)::r,hn,h=>by
  simp only[aL,VR,W1]at hn;simp only[aK]
  rcases V9.1 h with a|a
  .grind
  .rw [Vz]
   .exact nN hn.2 a
   grind
theorem eB{x:κ}:∀{m:List (κ×α)},aK x m=none↔x∉aL m
 | []=>by simp[aK]
 | (y,u)::r=>by
  simp only[aK,aL,VR,V9,not_or]
  split
  .rename_i e;simp[e]
  .rename_i e;rw[eB (m:=r)];simp[e]
theorem tf{x:κ}{m m':List (κ×α)}(b:(aL m).Nodup)(a:m.Perm m'):aK x m=aK x m':=by
 have d:(aL m').Nodup:=(a.map Prod.fst).nodup_iff.1 b
 cases h:aK x m with
 | none=>
  rw[eB]at h;exact (eB.2 λc=>h ((a.map Prod.fst).mem_iff.2 c)).symm
 | some v=>grind [nN,fL]
theorem Dw{x:κ}{m m':List (κ×α)}(a:m.Perm m'):(bD x m).Perm (bD x m'):=a.filter _
theorem mU{x:κ}{p:κ×α}{m:List (κ×α)}:p∈bD x m↔p∈m/\p.1≠x:=by simp[bD]
theorem tg{x:κ}{m:List (κ×α)}(a:(aL m).Nodup):(aL (bD x m)).Nodup:=a.sublist (List.Sublist.map _ List.filter_sublist)
theorem rk{x:κ}{v:α}{m:List (κ×α)}(a:(aL m).Nodup):(aL (mset x v m)).Nodup:=by
 simp only[aL,mset,VR,W1]
 grind [tg,mU]
theorem lJ{x:κ}{m:List (κ×α)}(h:aK x m=none):bD x m=m:=by
 rw[eB]at h;unfold bD;rw[List.filter_eq_self]
 grind
theorem yu{x y:κ}(h:y≠x):∀{m:List (κ×α)},aK y (bD x m)=aK y m
 | []=>rfl
 | (z,u)::r=>by
  have b:=yu h (m:=r);simp only[bD,Wq]at b ⊢
  split
  .grind [aK]
  .rename_i a;simp only[V5,ne_eq,Decidable.not_not]at a;simp only[aK]
   grind
theorem N6{x:κ}{m:List (κ×α)}:aK x (bD x m)=none:=by
 grind [eB,mU]
theorem oI{x y:κ}{v:α}{m:List (κ×α)}:aK y (mset x v m)=if y=x then some v else aK y m:=by
 grind [mset,aK,yu]
theorem yv{x y:κ}{m:List (κ×α)}:aK y (bD x m)=if y=x then none else aK y m:=by
 grind [N6,yu]
theorem N7{x:κ}{v:α}{m m':List (κ×α)}(a:m.Perm m'):(mset x v m).Perm (mset x v m'):=(Dw a).cons _
theorem Dx{x:κ}{v:α}{m:List (κ×α)}(h:aK x m=none):(mset x v m).length=m.length+1:=by grind [mset,lJ]
theorem Dy{x:κ}{v:α}:∀{m:List (κ×α)},(aL m).Nodup->aK x m=some v->(bD x m).length+1=m.length
 | [],_,h=>by grind [aK]
 | (y,u)::r,hn,h=>by
  simp only[aL,VR,W1]at hn;simp only[aK]at h
  by_cases e:x=y
  .subst e;have:aK x r=none:=eB.2 hn.1;have b:=lJ this
   grind [bD]
  .rw [Vz e]at h;have a:=Dy hn.2 h;simp only[bD,Wq]at a ⊢
   grind
theorem Dz{x:κ}{v u:α}{m:List (κ×α)}(a:(aL m).Nodup)(h:aK x m=some u):(mset x v m).length=m.length:=by
 grind [Dy,mset]
theorem getElem?_of_mlook{x:κ}{v:α}{m:List (κ×α)}(h:aK x m=some v):∃i:Nat,m[i]?=some (x,v)/\∀j,j<i->(aL m)[j]?≠some x:=by
 induction m with
 | nil=>grind [aK]
 | cons p r ih=>
  obtain⟨y,u⟩:=p;simp only[aK]at h
  split at h
  .rename_i e;subst e;cases h;exact⟨0,rfl,λj a=>V0 a (by omega)⟩
  .rename_i e;obtain⟨i,c,b⟩:=ih h;refine⟨i+1,by grind,λj a=>?_⟩
   grind
theorem D1{x:κ}{v:α}{m:List (κ×α)}(a:(aL m).Nodup){i:Nat}(hi:m[i]?=some (x,v)):m.eraseIdx i=bD x m:=by
 induction m generalizing i with
 | nil=>simp at hi
 | cons p r b=>
  simp only[aL,VR,W1]at a
  cases i with
  | zero=>
   simp at hi;subst hi;have:aK x r=none:=eB.2 a.1;have c:=lJ this
   grind [bD]
  | succ i=>
   simp only[List.getElem?_cons_succ]at hi;have b:=b a.2 hi;simp only[List.eraseIdx_cons_succ,b];simp only[bD,Wq]
   grind
theorem D2{x:κ}{v u:α}{m:List (κ×α)}(b:(aL m).Nodup){i:Nat}(hi:m[i]?=some (x,v)):(m.set i (x,u)).Perm (mset x u m):=by
 have h:=D1 b hi;have a:i<m.length:=(List.getElem?_eq_some_iff.1 hi).1;unfold mset;rw[<-h];rw[List.set_eq_take_append_cons_drop,V1 a,List.eraseIdx_eq_take_drop_succ]
 simp_all
end
structure jG{κ:Type}(P:Program)(k:TypeId)(kenc:κ->Value):Prop where
 inj:∀x y,kenc x=kenc y->x=y
 chk:∀(em:Bool) (x:κ) (w:World),(Instr.checkKey em 10000 k (kenc x)).run P w=.ok () w
 non:∀(x:κ) (ks:List κ) (es:List MapEntry) (w:World),es.map (·.key)=ks.map kenc->x∉ks->(Instr.findKey k (kenc x) es).run P w=.ok none w
 fnd:∀(x:κ) (ks:List κ) (es:List MapEntry) (w:World) (i:Nat) (e:MapEntry),es.map (·.key)=ks.map kenc->ks[i]?=some x->(∀j,j<i->ks[j]?≠some x)->es[i]?=some e->(Instr.findKey k (kenc x) es).run P w=.ok (some (i,e.val)) w
 stay:∀(x:κ) (w:World),(Instr.keyThatStays (kenc x) (kenc x)).run P w=.ok (kenc x) w
theorem yw{kk kd:IntKind}(x:Int):∀(es:List MapEntry) (a:List Int) (i:Nat),es.map (·.key)=a.map (Value.int kk)->
  (x∉a->Instr.findNow (.int kd) (.int kk x) es i=some none)/\∀j e,a[j]?=some x->(∀l,l<j->a[l]?≠some x)->es[j]?=some e->Instr.findNow (.int kd) (.int kk x) es i=some (some (i+j,e.val))
 | [],[],i,_=>⟨λ_=>rfl,λj e h=>by simp at h⟩
 | [],_::_,i,h=>by simp at h
 | _::_,[],i,h=>by simp at h
 | e0::es,y::a,i,h=>by
  simp only[VR,List.cons.injEq]at h;obtain⟨k,b⟩:=yw (kd:=kd) x es a (i+1) h.2
  by_cases e:x=y
  .subst e;refine⟨λc=>V0 (by simp) c,λj e1 f d n=>?_⟩
   have:j=0:=by
    cases j with
    | zero=>rfl
    | succ j=>exact V0 rfl (d 0 (by omega))
   grind [Instr.findNow,Instr.sameNow]
  .refine⟨λc=>?_,λj e1 f d n=>?_⟩
   .simp only[V9,not_or]at c
    grind [Instr.findNow,Instr.sameNow]
   .cases j with
    | zero=>grind
    | succ j=>
     have:=b j e1 (by grind) (λl m=>by grind) (by grind)
     have s:(x == y)=false:=by grind
     simp only[Instr.findNow,Instr.sameNow,h.1,s,this,if_true]
     grind
theorem ti{P:Program}{k:TypeId}{kd:IntKind}(h:P.underlying k=some (.int kd)):jG P k (Value.int kd) where
 inj x y h:=by grind
 chk em x w:=by
  show (Instr.checkKey em (9999+1) k (Value.int kd x)).run P w=.ok () w;generalize 9999=n;simp[Instr.checkKey,run_underlying h]
 non x ks es w hk hx:=by simp[Instr.findKey,run_underlying h,(yw (kd:=kd) x es ks 0 hk).1 hx]
 fnd x ks es w i e hk h1 h2 h3:=by simp[Instr.findKey,run_underlying h,(yw (kd:=kd) x es ks 0 hk).2 i e h1 h2 h3]
 stay x w:=by
  have:Instr.sameBits 10000 (Value.int kd x) (Value.int kd x)=true:=by
   grind [Instr.sameBits]
  simp[Instr.keyThatStays,this]
structure hD{α:Type}(P:Program)(t k e:Nat)(venc:α->Value)(z:α):Prop where
 und:P.underlying t=some (.map k e)
 info:∃i,P.info? e=some i/\i.zero=some (venc z)
def mapA{κ α:Type}(kenc:κ->Value)(venc:α->Value)(r:Nat)(m:List (κ×α)):aD:=λh=>
 (aL m).Nodup/\∃es clock,(∃ml:List (κ×α),ml.Perm m/\es.toList.map (λe:MapEntry=>(e.key,e.val))=ml.map λp=>(kenc p.1,venc p.2))/\
  (es.toList.map (·.born)).Nodup/\(∀e∈es.toList,e.born<clock)/\pt r (.map es clock) h
section
variable {κ α:Type}{kenc:κ->Value}{venc:α->Value}{r:Nat}{m m':List (κ×α)}{H:aC}{F:aD}{P:Program}
theorem tk(e:m.Perm m'):mapA kenc venc r m=mapA kenc venc r m':=by
 funext h;apply propext;have key:∀{a b:List (κ×α)},a.Perm b->mapA kenc venc r a h->mapA kenc venc r b h:=by
  rintro a b d ⟨i,es,c,⟨t,s,n⟩,f,j,k⟩;exact⟨(d.map Prod.fst).nodup_iff.1 i,es,c,⟨t,s.trans d,n⟩,f,j,k⟩
 exact⟨key e,key e.symm⟩
theorem mV(h:aO H (mapA kenc venc r m*F)):(aL m).Nodup/\∃es a,(∃b:List (κ×α),b.Perm m/\es.toList.map (λe:MapEntry=>(e.key,e.val))=b.map λp=>(kenc p.1,venc p.2))/\
  (es.toList.map (·.born)).Nodup/\(∀e∈es.toList,e.born<a)/\aO H (pt r (.map es a)*F):=by
 obtain⟨g,k,x,y,hd,rfl,⟨d,es,a,j,c,f,i⟩,n⟩:=h;exact⟨d,es,a,j,c,f,_,k,x,y,hd,rfl,i,n⟩
theorem mapA_new(h:aO H (pt r (.map #[] 0)*F)):aO H (mapA kenc venc r []*F):=
 h.frame λp a=>⟨by simp,#[],0,⟨[],.refl _,rfl⟩,by simp,by simp,a⟩
theorem D3(h:aO H (mapA kenc venc r m*F)):(aL m).Nodup:=(mV h).1
theorem rp{es:Array MapEntry}{a:List (κ×α)}(h:es.toList.map (λe:MapEntry=>(e.key,e.val))=a.map λp=>(kenc p.1,venc p.2)) :
  es.toList.map (·.key)=(aL a).map kenc/\∀(i:Nat) x v,a[i]?=some (x,v)->∃e:MapEntry,es.toList[i]?=some e/\e.key=kenc x/\e.val=venc v:=by
 constructor
 .have:=congrArg (List.map Prod.fst) h;simpa[aL,Function.comp_def] using this
 .intro i x v hi;have b:=congrArg (λl=>l[i]?) h
  grind
section
variable [DecidableEq κ]{t k e:Nat}{z:α}(T:hD P t k e venc z)(KO:jG P k kenc)
include T KO
theorem map_look{x:κ}(h:aO H (mapA kenc venc r m*F)) :
  (∀v,aK x m=some v->cZ P (Instr.lookup t (.map (some r)) (kenc x) true) H (.tuple #[venc v,.bool true])/\cZ P (Instr.lookup t (.map (some r)) (kenc x) false) H (venc v))/\
  (aK x m=none->cZ P (Instr.lookup t (.map (some r)) (kenc x) true) H (.tuple #[venc z,.bool false])/\cZ P (Instr.lookup t (.map (some r)) (kenc x) false) H (venc z)):=by
 obtain⟨y,es,s,⟨d,k,e⟩,_,_,B⟩:=mV h;have hb:=B.get;obtain⟨u,C⟩:=rp e;have b:(aL d).Nodup:=(k.map Prod.fst).nodup_iff.2 y;obtain⟨i,hi,D⟩:=T.info
 constructor
 .intro v a;rw[<-tf b k]at a;obtain⟨j,A,n⟩:=getElem?_of_mlook a;obtain⟨G,E,_,c⟩:=C j x v A
  constructor <;> intro w f <;> subst f <;>
   simp[Instr.lookup,run_underlying T.und,Go.MapKept.run_getObj_map hb,KO.chk,KO.fnd x (aL d) es.toList w j G u (by grind) n E,c]
 .intro a;rw[<-tf b k,eB]at a
  constructor <;> intro w f <;> subst f <;>
   simp[Instr.lookup,run_underlying T.und,Go.MapKept.run_getObj_map hb,KO.chk,KO.non x (aL d) es.toList w u a,zeroValue,typeInfo,hi,D]
omit T KO [DecidableEq κ] in
theorem nP(w:World)(r:Nat)(o:Obj):bR w { w with heap:=w.heap.setIfInBounds r o }:=⟨rfl,rfl,rfl⟩
omit T KO [DecidableEq κ] in
theorem lK{H:aC}{o a:Obj}(h:aO H (pt r o*F)):aO (H.setIfInBounds r a) (pt r a*F):=by
 refine h.upd ?_ λi hi=>?_
 .rw [Array.getElem?_setIfInBounds,V1 rfl,V1 h.lt]
 grind
def mapC(kenc:κ->Value)(venc:α->Value)(m:List (κ×α))(es:Array MapEntry)(clock:Nat):Prop:=
 (aL m).Nodup/\(∃ml:List (κ×α),ml.Perm m/\es.toList.map (λe:MapEntry=>(e.key,e.val))=ml.map λp=>(kenc p.1,venc p.2))/\
  (es.toList.map (·.born)).Nodup/\∀e∈es.toList,e.born<clock
omit T KO [DecidableEq κ] in
theorem vk{es:Array MapEntry}{a:Nat}(b:mapC kenc venc m es a)(h:aO H (pt r (.map es a)*F)):aO H (mapA kenc venc r m*F):=
 h.frame λ_ c=>⟨b.1,es,a,b.2.1,b.2.2.1,b.2.2.2,c⟩
omit T KO in
theorem D4{x:κ}{v:α}{b:List (κ×α)}{es:Array MapEntry}{a j:Nat}{u:α}{t:MapEntry}(k:(aL m).Nodup)(n:b.Perm m)(f:es.toList.map (λe:MapEntry=>(e.key,e.val))=b.map λp=>(kenc p.1,venc p.2))
  (h:(es.toList.map (·.born)).Nodup) (c:∀e∈es.toList,e.born<a) (s:b[j]?=some (x,u)) (y:es.toList[j]?=some t) :
  mapC kenc venc (mset x v m) (es.modify j λe=>{ e with key:=kenc x,val:=venc v }) a:=by
 have d:(aL b).Nodup:=(n.map Prod.fst).nodup_iff.2 k;refine⟨rk k,⟨b.set j (x,v),(D2 d s).trans (N7 n),?_⟩,?_,?_⟩
 .apply Wp;intro i;have w:=congrArg (λl=>l[i]?) f
  grind
 .have:((es.modify j λe=>{ e with key:=kenc x,val:=venc v }).toList.map (·.born))=es.toList.map (·.born):=by
   apply Wp
   grind
  grind
 grind [List.getElem?_of_mem]
omit T KO in
theorem D5{x:κ}{v:α}{b:List (κ×α)}{es:Array MapEntry}{a:Nat}(i:(aL m).Nodup)(j:b.Perm m)(d:es.toList.map (λe:MapEntry=>(e.key,e.val))=b.map λp=>(kenc p.1,venc p.2))
  (h:(es.toList.map (·.born)).Nodup) (c:∀e∈es.toList,e.born<a) (f:aK x b=none) :
  mapC kenc venc (mset x v m) (es.push { key:=kenc x,val:=venc v,born:=a }) (a+1):=by
 have k:(aL b).Nodup:=(j.map Prod.fst).nodup_iff.2 i;refine⟨rk i,⟨b++[(x,v)],?_,?_⟩,?_,?_⟩
 .unfold mset;rw[lJ (by grind [tf])];exact (List.perm_append_singleton _ _).trans (j.cons _)
 .simp [d]
 .grind
 grind
theorem N8{x:κ}{v:α}{K:Unit->aC->Prop}(h:aO H (mapA kenc venc r m*F))(kk:∀H',aO H' (mapA kenc venc r (mset x v m)*F)->K () H') :
  bS P (Instr.mapUpdate t (.map (some r)) (kenc x) (venc v)) H K:=by
 obtain⟨A,es,a,⟨f,E,d⟩,c,b,k⟩:=mV h;have hb:=k.get;obtain⟨D,L⟩:=rp d;refine .mk λw J=>?_
 subst J
 cases hlook:aK x f with
 | some u=>
  obtain⟨j,B,n⟩:=getElem?_of_mlook hlook;obtain⟨G,C,s,I⟩:=L j x u B;refine⟨(),_,?_,nP w r (.map (es.modify j λe=>{ e with key:=kenc x,val:=venc v }) a),kk _ (vk (D4 A E d c b B C) (lK k))⟩
  have y:es[j]?=some G:=by grind
  simp[Instr.mapUpdate,run_underlying T.und,Go.MapKept.run_getObj_map hb,KO.chk,KO.fnd x (aL f) es.toList w j G D (by grind) n C,y,s,KO.stay,Go.MapKept.run_setObj_map _ hb]
 | none=>
  have i:x∉aL f:=eB.1 hlook;refine⟨(),_,?_,nP w r (.map (es.push { key:=kenc x,val:=venc v,born:=a }) (a+1)),kk _ (vk (D5 A E d c b hlook) (lK k))⟩;simp[Instr.mapUpdate,run_underlying T.und,Go.MapKept.run_getObj_map hb,KO.chk,KO.non x (aL f) es.toList w D i,Go.MapKept.run_setObj_map _ hb]
theorem N9{x:κ}{ty:Nat}{K:KQ}(h:aO H (mapA kenc venc r m*F))(kk:∀H',aO H' (mapA kenc venc r (bD x m)*F)->K (.tuple #[]) H') :
  bS P (Builtin.delete_ #[t,k] ty #[.map (some r),kenc x]) H K:=by
 obtain⟨i,es,a,⟨d,L,f⟩,e,b,v⟩:=mV h;have hb:=v.get;obtain⟨D,J⟩:=rp f;have s:(aL d).Nodup:=(L.map Prod.fst).nodup_iff.2 i;refine .mk λw I=>?_
 subst I
 cases hlook:aK x d with
 | some u=>
  obtain⟨j,B,y⟩:=getElem?_of_mlook hlook;obtain⟨N,G,M,E⟩:=J j x u B;have C:j<es.size:=by grind
  have A:(es.eraseIdxIfInBounds j).toList=es.toList.eraseIdx j:=by
   simp_all
  refine⟨.tuple #[],_,?_,nP w r (.map (es.eraseIdxIfInBounds j) a),kk _ ((lK v).frame λp c=>?_)⟩
  .simp [Builtin.delete_,run_underlying T.und,Go.MapKept.run_getObj_map hb,KO.chk,KO.fnd x (aL d) es.toList w j N D (by grind) y G,Go.MapKept.run_setObj_map _ hb]
  .refine⟨tg i,_,_,⟨d.eraseIdx j,?_,?_⟩,?_,?_,c⟩
   .rw [D1 s B];grind [Dw]
   .grind [Dv]
   .grind
   grind
 | none=>
  have n:x∉aL d:=eB.1 hlook;refine⟨.tuple #[],_,?_,nP w r (.map es a),kk _ ((lK v).frame λp c=>?_)⟩
  .simp [Builtin.delete_,run_underlying T.und,Go.MapKept.run_getObj_map hb,KO.chk,KO.non x (aL d) es.toList w D n,Go.MapKept.run_setObj_map _ hb]
  .refine⟨tg i,es,a,⟨d,?_,f⟩,e,b,c⟩
   grind [lJ,tf]
omit KO [DecidableEq κ] in
theorem NG{ty:Nat}{K:KQ}(h:aO H (mapA kenc venc r m*F))(kk:∀H',aO H' (mapA kenc venc r []*F)->K (.tuple #[]) H') :
  bS P (Builtin.clear_ #[t] ty #[.map (some r)]) H K:=by
 obtain⟨j,es,a,⟨k,n,f⟩,d,b,e⟩:=mV h;have hb:=e.get;refine .mk λw i=>?_
 subst i;refine⟨.tuple #[],_,?_,nP w r (.map #[] a),kk _ ((lK e).frame λp c=>?_)⟩
 .simp [Builtin.clear_,run_underlying T.und,Go.MapKept.run_getObj_map hb,Go.MapKept.run_setObj_map _ hb]
 .exact⟨by simp,#[],a,⟨[],.refl _,rfl⟩,by simp,by simp,c⟩
omit KO [DecidableEq κ] in
theorem map_len{ty:Nat}(h:aO H (mapA kenc venc r m*F)):cZ P (Builtin.len_ #[t] ty #[.map (some r)]) H (.int .i64 m.length):=by
 obtain⟨k,es,d,⟨n,j,c⟩,e,b,f⟩:=mV h;have hb:=f.get;intro w i;subst i;have a:es.size=m.length:=by
  have:=congrArg List.length c;simp at this;rw[this,j.length_eq]
 simp[Builtin.len_,run_underlying T.und,Go.MapKept.run_getObj_map hb,a,goInt]
end
end
section
variable {κ α:Type}{kenc:κ->Value}{venc:α->Value}{r:Nat}{m m':List (κ×α)}{H:aC}{L:List aD}{P:Program}
theorem aA.mp_new(h:aA H (pt r (.map #[] 0)::L))(kenc:κ->Value)(venc:α->Value):aA H (mapA kenc venc r []::L):=mapA_new h
theorem aA.mp_nodup(h:aA H L)(i:Nat)(a:aS i L=mapA kenc venc r m):(aL m).Nodup:=D3 (F:=star (del i L)) (by have:=h.foc i;rw[a]at this;exact this)
variable [DecidableEq κ]{t k e:Nat}{z:α}(T:hD P t k e venc z)(KO:jG P k kenc)
include T KO
theorem aA.mp_look{x:κ}(h:aA H L)(i:Nat)(b:aS i L=mapA kenc venc r m) :
  (∀v,aK x m=some v->cZ P (Instr.lookup t (.map (some r)) (kenc x) true) H (.tuple #[venc v,.bool true])/\cZ P (Instr.lookup t (.map (some r)) (kenc x) false) H (venc v))/\
  (aK x m=none->cZ P (Instr.lookup t (.map (some r)) (kenc x) true) H (.tuple #[venc z,.bool false])/\cZ P (Instr.lookup t (.map (some r)) (kenc x) false) H (venc z)):=by
 have a:=h.foc i
 grind [map_look]
theorem aA.mp_update{x:κ}{v:α}{K:Unit->aC->Prop}(h:aA H L)(i:Nat)(c:aS i L=mapA kenc venc r m)(kk:∀H',aA H' (put i (mapA kenc venc r (mset x v m)) L)->K () H') :
  bS P (Instr.mapUpdate t (.map (some r)) (kenc x) (venc v)) H K:=by
 have a:=h.foc i;rw[c]at a;exact N8 T KO a λH' b=>kk H' (aA.back b)
theorem aA.mp_delete{x:κ}{ty:Nat}{K:KQ}(h:aA H L)(i:Nat)(c:aS i L=mapA kenc venc r m)(kk:∀H',aA H' (put i (mapA kenc venc r (bD x m)) L)->K (.tuple #[]) H') :
  bS P (Builtin.delete_ #[t,k] ty #[.map (some r),kenc x]) H K:=by
 have a:=h.foc i;rw[c]at a;exact N9 T KO a λH' b=>kk H' (aA.back b)
omit KO [DecidableEq κ] in
theorem aA.mp_clear{ty:Nat}{K:KQ}(h:aA H L)(i:Nat)(c:aS i L=mapA kenc venc r m)(kk:∀H',aA H' (put i (mapA kenc venc r []) L)->K (.tuple #[]) H') :
  bS P (Builtin.clear_ #[t] ty #[.map (some r)]) H K:=by
 have a:=h.foc i;rw[c]at a;exact NG T a λH' b=>kk H' (aA.back b)
omit KO [DecidableEq κ] in
theorem aA.mp_len{ty:Nat}(h:aA H L)(i:Nat)(b:aS i L=mapA kenc venc r m):cZ P (Builtin.len_ #[t] ty #[.map (some r)]) H (.int .i64 m.length):=by
 have a:=h.foc i;rw[b]at a;exact map_len T a
end
open Go Go.Maps Go.RowKit
def sortI(l:List Int):List Int:=l.mergeSort λx y=>decide (x<=y)
theorem D6{l a:List Int}(h:l.Perm a):sortI l=sortI a:=mergeSort_of_perm_i h
theorem pM(l:List Int):(sortI l).Perm l:=List.mergeSort_perm l _
theorem D7(l:List Int):(sortI l).Pairwise (·<=·):=by
 have:=List.pairwise_mergeSort (le:=λx y:Int=>decide (x<=y)) (λa b c e d=>by grind) (λa b=>by grind) l
 exact this.imp (by simp)
theorem yx{l:List Int}(h:l.Pairwise (·<=·)):sortI l=l:=by
 grind [List.Perm.eq_of_pairwise,D7,pM]
theorem vl(l:List Int):(sortI l).length=l.length:=(pM l).length_eq
def aG(x:Int):Prop:=-9223372036854775808<=x/\x<=9223372036854775807
theorem wf64_lit{x:Int}(h:aG x):(Lit.int .i64 x).wf=true:=by
 grind [aG,Lit.wf,IntKind.min,IntKind.max,IntKind.signed,IntKind.bits]
theorem rq{w a:World}(h:Below w.heap.size w a):cV w.heap a.heap:=λb hb=>h.block b hb
theorem ru{n:Nat}{w a:World}(h:Below n w a):bR w a:=⟨h.os,h.tape,h.output⟩
abbrev oJ(H:Type):Value->Option (DataW H×List MemPlace):=λ_=>some (.lit (.bool true),[])
theorem NH{α:Type}{venc:α->Value}{P:Program}{k:TypeId}{w:World}{r:Nat}{m:List (Int×α)}{F:aD}(G:P.underlying k=some (.int .i64))
  (h:aO w.heap (mapA (Value.int .i64) venc r m*F)) (J:∀x∈aL m,aG x) (C:m.length<=maxLen) :
  ∃t:DataW Unit,w.ownsMap P k (oJ Unit) r m.length t/\(intKeys t).Perm (aL m)/\Maps.size t=m.length:=by
 obtain⟨M,es,i,⟨E,u,c⟩,j,b,B⟩:=mV h;have A:es.size=m.length:=by
  have:=congrArg List.length c;simp at this;rw[this,u.length_eq]
 have K:∀x∈es.toList,∃a:Int,x.key=Value.int .i64 a/\Go.WideElems.rd P k (oJ Unit) x=some (.int .i64 a,.lit (.bool true)):=by
  intro x y;have:(x.key,x.val)∈es.toList.map (λe:MapEntry=>(e.key,e.val)):=V8.2 ⟨x,y,rfl⟩
  rw[c]at this;obtain⟨p,s,f⟩:=V8.1 this;have n:p.1∈aL m:=V8.2 ⟨p,u.mem_iff.1 s,rfl⟩;have I:=wf64_lit (J _ n);simp only[Prod.mk.injEq]at f;refine⟨p.1,f.1.symm,?_⟩;unfold Go.WideElems.rd;rw[<-f.1];simp[keyOf,G,mapKey,I,oJ]
 have d:=Go.WideShapes.sorted_perm (es.toList.map (Go.WideElems.rg P k (oJ Unit)));have H:es.toList.map (λx=>Go.intOf (Go.WideElems.rg P k (oJ Unit) x).1)=aL E:=by
  have D:=(rp c).1;have L:es.toList.map (λx=>Go.intOf (Go.WideElems.rg P k (oJ Unit) x).1)=(es.toList.map (·.key)).map λv=>match v with|.int _ a=>a|_=>0:=by
   grind [List.map_congr_left,Go.WideElems.rg,Go.intOf]
  simp_all
 refine⟨_,⟨es,i,B.get,⟨by omega,⟨b,j,?_⟩,λx y=>?_⟩,by omega,rfl⟩,?_,?_⟩
 .have D:=(rp c).1
  grind
 .grind
 .show ((es.toList.map (Go.WideElems.rg P k (oJ Unit))).foldr DataW.insert [] |>.map λp=>Go.intOf p.1).Perm _
  grind
 .show ((es.toList.map (Go.WideElems.rg P k (oJ Unit))).foldr DataW.insert []).length=_;rw[d.length_eq];grind
theorem aA.of_row{w d:World}{L:List aD}(h:aA w.heap L)(hb:Below w.heap.size w d){e:TypeId}{v:Value}{n:Nat}{xs:Xb}(u:d.ownsRow w.heap.size e 1 v n xs) :
  ∃a c,v=.slice a n c/\aA d.heap (slA e 1 a n c xs::L):=by
 obtain⟨s,t⟩:=u;have g:=rq hb
 rcases t with ⟨rfl,rfl⟩|⟨g1,cap,b,rfl,m,A,k,hm,hs,j⟩
 .have:xs=[]:=Wi (by grind);subst this;exact⟨none,0,rfl,(h.grow g).sl_nil e 1⟩
 .refine⟨_,_,rfl,?_⟩;have f:aA d.heap (cellsA g1 b.toList e::L):=h.new g m (by omega);refine f.mono λp y=>⟨s,.inr ⟨g1,[],b.toList.drop n,e,(0,0),rfl,k,?_,λ_ i _ _ x=>by simp at x,?_⟩⟩
  .grind
  .have:([]++xs++b.toList.drop n)=b.toList:=by
    rw[<-j];simp
   rw[this];exact y
section
variable {α:Type}
abbrev cx(α:Type):=List (Int×α)
def gw(l:cx α):Prop:=l.Pairwise λa b=>a.1<b.1
def ins(n:Int)(v:α):cx α->cx α
 | []=>[(n,v)]
 | (a,b)::r=>if n<a then (n,v)::(a,b)::r else (a,b)::ins n v r
def dS(next most n:Int)(v:α)(s:cx α×Int):cx α×Int:=
 if n<next\/(aK n s.1).isSome=true then s
 else if next+most<=n then (s.1,s.2+1)
 else (ins n v s.1,s.2)
def eD(next most:Int):Int->List α->cx α×Int->cx α×Int
 | _,[],s=>s
 | n,v::vs,s=>eD next most (n+1) vs (dS next most n v s)
def pop:Int->cx α->List α×Int×cx α
 | next,[]=>([],next,[])
 | next,(n,v)::r=>if n=next then (v::(pop (next+1) r).1,(pop (next+1) r).2) else ([],next,(n,v)::r)
structure HS(α:Type) where
 next:Int
 most:Int
 rows:cx α
def HS.offer(s:HS α)(first:Int)(items:List α):HS α×List α×Int:=
 if first<0\/2199023255552<first then (s,[],(items.length:Int))
 else ({ s with next:=(pop s.next (eD s.next s.most first items (s.rows,0)).1).2.1,rows:=(pop s.next (eD s.next s.most first items (s.rows,0)).1).2.2 },
  (pop s.next (eD s.next s.most first items (s.rows,0)).1).1,(eD s.next s.most first items (s.rows,0)).2)
def HS.drain(s:HS α):HS α:={ s with rows:=[] }
structure jH(lo next most:Int)(l:cx α):Prop where
 rising:gw l
 inb:∀p∈l,lo<=p.1/\p.1<next+most
structure HS.Ok(s:HS α):Prop where
 next0:0<=s.next
 most1:1<=s.most
 most2:s.most<=256
 rows:jH (s.next+1) s.next s.most s.rows
theorem NI{l:cx α}(h:gw l):(aL l).Nodup:=List.pairwise_map.2 (h.imp λa e=>by omega)
theorem tn{n:Int}{v:α}{p:Int×α}:∀{l:cx α},p∈ins n v l↔p=(n,v)\/p∈l
 | []=>by simp[ins]
 | (a,b)::r=>by
  simp only[ins]
  split
  .simp
  .simp only[V9,tn (l:=r)]
   constructor
   .rintro (h|h|h) <;> simp[h]
   .rintro (h|h|h) <;> simp[h]
theorem yy(n:Int)(v:α):∀(l:cx α),(ins n v l).Perm ((n,v)::l)
 | []=>.refl _
 | (a,b)::r=>by
  simp only[ins]
  split
  .exact .refl _
  .exact ((yy n v r).cons _).trans (.swap _ _ _)
theorem D8{n:Int}{v:α}:∀{l:cx α},gw l->aK n l=none->gw (ins n v l)
 | [],_,_=>by simp[ins,gw]
 | (a,b)::r,h,hn=>by
  obtain⟨i,f⟩:=Wl.1 h;simp only[aK]at hn
  by_cases e:n=a
  .rw [V1 e]at hn;cases hn
  .rw [Vz e]at hn;simp only[ins]
   split
   .rename_i d;refine Wl.2 ⟨λq c=>?_,h⟩
    grind
   .rename_i d;refine Wl.2 ⟨λq c=>?_,D8 f hn⟩
    rcases tn.1 c with rfl|c
    .grind
    grind
theorem NJ(n:Int)(v:α)(l:cx α):(ins n v l).length=l.length+1:=by simp[(yy n v l).length_eq]
theorem D9:∀{l:cx α} {lo hi:Int},gw l->(∀p∈l,lo<=p.1/\p.1<hi)->(l.length:Int)<=max 0 (hi-lo)
 | [],lo,hi,_,_=>by simp;omega
 | (a,b)::r,lo,hi,h,hb=>by
  obtain⟨i,d⟩:=Wl.1 h;have e:=hb (a,b) (by simp);have f:=D9 (lo:=a+1) (hi:=hi) d λp c=>⟨by grind,(hb p (by simp[c])).2⟩
  grind
theorem jH.length{lo next most:Int}{l:cx α}(h:jH lo next most l):(l.length:Int)<=max 0 (next+most-lo):=D9 h.rising h.inb
theorem DI{next most n:Int}{v:α}{s:cx α×Int}(h:jH next next most s.1):jH next next most (dS next most n v s).1:=by
 unfold dS
 split
 .exact h
 .rename_i b;simp only[not_or,Int.not_lt]at b
  split
  .exact h
  .refine⟨D8 h.rising ?_,λp a=>?_⟩
   .simp_all
   .rcases tn.1 a with rfl|a
    .grind
    .exact h.inb p a
theorem NK{next most n:Int}{v:α}{s:cx α×Int}(h:0<=s.2):s.2<=(dS next most n v s).2/\(dS next most n v s).2<=s.2+1:=by
 grind [dS]
theorem DJ{next most:Int}:∀{vs:List α} {n:Int} {s:cx α×Int},jH next next most s.1->jH next next most (eD next most n vs s).1
 | [],_,_,h=>h
 | v::vs,n,s,h=>DJ (vs:=vs) (DI h)
theorem jH.weaken{lo lo' next a most:Int}{l:cx α}(h:jH lo next most l)(d:lo'<=lo)(c:next<=a):jH lo' a most l:=
 ⟨h.rising,λp b=>by have:=h.inb p b;omega⟩
theorem NL{next:Int}:∀{l:cx α},gw l->(∀p∈l,next<=p.1)->aK next l=match l with|[]=>none|(n,v)::_=>if n=next then some v else none
 | [],_,_=>rfl
 | (n,v)::r,h,hb=>by
  simp only[aK]
  by_cases e:n=next
  .simp [e]
  .rw [Vz (λe2=>e e2.symm),Vz e]
   obtain⟨b,c⟩:=Wl.1 h;rw[eB];intro hm;obtain⟨p,a,e3⟩:=V8.1 hm;have:=b p a;have:=hb (n,v) (by simp)
   grind
theorem yz:∀{l:cx α} {next:Int},gw l->(∀p∈l,next<=p.1)->
  next<=(pop next l).2.1/\(pop next l).2.1=next+(pop next l).1.length/\(∃k,(pop next l).2.2=l.drop k/\(pop next l).1.length=k/\k<=l.length)/\(∀p∈(pop next l).2.2,(pop next l).2.1+1<=p.1)
 | [],next,_,_=>by simp[pop]
 | (n,v)::r,next,h,hb=>by
  obtain⟨d,b⟩:=Wl.1 h;simp only[pop]
  by_cases e:n=next
  .rw [V1 e];subst e;obtain⟨a1,a2,⟨k,a3,a4,a5⟩,a6⟩:=yz (l:=r) (next:=n+1) b λp a=>by grind
   grind
  .rw [Vz e];refine⟨by simp,by simp,⟨0,by simp⟩,λp a=>?_⟩
   have c:=hb (n,v) (by simp)
   grind
theorem NO{n:Int}{v:α}{r:cx α}(h:gw ((n,v)::r)):bD n ((n,v)::r)=r:=by
 have c:aK n r=none:=eB.2 λhm=>by
  obtain⟨p,a,e3⟩:=V8.1 hm;have:=(Wl.1 h).1 p a
  grind
 have b:bD n ((n,v)::r)=bD n r:=by grind [bD]
 grind [lJ]
theorem HS.offer_ok{s:HS α}(h:s.Ok)(first:Int)(items:List α):(s.offer first items).1.Ok/\s.next<=(s.offer first items).1.next/\(s.offer first items).1.next<=s.next+s.most/\(s.offer first items).1.most=s.most:=by
 unfold HS.offer
 split
 .exact⟨h,by simp,by have:=h.most1;grind,rfl⟩
 .have b:=DJ (vs:=items) (n:=first) (s:=(s.rows,0)) (h.rows.weaken (lo':=s.next) (by omega) (Wc _));obtain⟨a1,a2,⟨k,a3,a4,a5⟩,a6⟩:=yz b.rising λp a=>(b.inb p a).1
  have c:=b.length;have:=h.most1;have d:((pop s.next (eD s.next s.most first items (s.rows,0)).1).1.length:Int)<=s.most:=by omega
  refine⟨⟨?_,h.most1,h.most2,⟨?_,λp a=>?_⟩⟩,a1,by grind,rfl⟩
  .have:=h.next0;grind
  .simp only[a3];exact b.rising.sublist (List.drop_sublist _ _)
  .refine⟨a6 p a,?_⟩;simp only[a3]at a;have:=(b.inb p (W3 a)).2
   grind
theorem NP{l:cx α}(h:gw l):sortI (aL l)=aL l:=yx (List.pairwise_map.2 (h.imp λa=>by omega))
end
section
variable {α:Type}{enc:α->Xb}{sz:Nat}{xs ys:List α}{H:aC}{a:Xa}
def aF(enc:α->Xb)(xs:List α):Xb:=xs.flatMap enc
@[simp] theorem flat_nil:aF enc ([]:List α)=[]:=rfl
theorem kR(x:α):aF enc (x::xs)=enc x++aF enc xs:=rfl
theorem gx:aF enc (xs++ys)=aF enc xs++aF enc ys:=by simp[aF]
theorem lL(x:α):aF enc [x]=enc x:=by simp[aF]
theorem dT(a:∀x,(enc x).length=sz):∀xs:List α,(aF enc xs).length=xs.length*sz
 | []=>by simp
 | x::r=>by rw[kR,V6,a,dT a r,VA,Wt];omega
theorem ry(a:∀x,(enc x).length=sz):∀(k:Nat) (xs:List α),(aF enc xs).drop (k*sz)=aF enc (xs.drop k)
 | 0,xs=>by simp
 | k+1,[]=>by simp
 | k+1,x::r=>by
  rw[kR,List.drop_succ_cons,<-ry a k r,Wt,Nat.one_mul,Nat.add_comm];rw[<-a x,List.drop_append];simp
theorem y4(a:∀x,(enc x).length=sz):∀(k:Nat) (xs:List α),(aF enc xs).take (k*sz)=aF enc (xs.take k)
 | 0,xs=>by simp
 | k+1,[]=>by simp
 | k+1,x::r=>by
  rw[kR,WS,kR,<-y4 a k r,Wt,Nat.one_mul,Nat.add_comm]
  grind
theorem DK{β:Type}:∀{l r:List β} {j:Nat},j<l.length->aI (l++r) j=aI l j:=by
 grind [fJ]
theorem y5{β:Type}{l r:List β}(j:Nat):aI (l++r) (l.length+j)=aI r j:=by
 grind [fJ]
theorem vm(b:∀x,(enc x).length=sz):∀{xs:List α} {k:Nat} (a:k<xs.length) (f:Nat),f<sz->aI (aF enc xs) (k*sz+f)=aI (enc xs[k]) f
 | x::r,0,_,f,hf=>by rw[WG,VB,kR,DK (by grind)];rfl
 | x::r,k+1,a,f,hf=>by
  rw[kR,show (k+1)*sz+f=(enc x).length+(k*sz+f) by rw[b,Wt];omega,y5,vm b (by simpa using a) f hf];rfl
theorem aN.el(h:aN H a (aF enc xs))(c:∀x,(enc x).length=sz){k:Nat}(d:k<xs.length)(f:Nat){v:Value}(b:aI (enc xs[k]) f=some v) :
  aM H (aW a) (aT a+k*sz+f)=some v:=by
 have e:f<sz:=by rw[<-c xs[k]];exact lI b
 have:=(h (k*sz+f) v (by grind [vm])).2
 grind
theorem aN.el0(h:aN H a (aF enc xs))(d:∀x,(enc x).length=sz){k:Nat}(c:k<xs.length){v:Value}(b:aI (enc xs[k]) 0=some v) :
  aM H (aW a) (aT a+k*sz)=some v:=h.el d c 0 b
theorem aN.some(h:aN H a (aF enc xs))(b:∀x,(enc x).length=sz)(hs:0<sz){k:Nat}(d:k<xs.length):a=some ⟨aW a,aT a,none⟩:=by
 have c:0<(aF enc xs).length:=by rw[dT b];exact Nat.mul_pos (by omega) hs
 exact (h 0 _ (vj c)).1
theorem tp:∀{vs:Xb} {b o:Nat},(∀f v,aI vs f=some v->aM H b (o+f)=some v)->bV H b o vs
 | [],_,_,_=>trivial
 | [v],b,o,h=>h 0 v rfl
 | v::u::r,b,o,h=>⟨h 0 v rfl,tp λf w a=>by have:=h (f+1) w a;grind⟩
theorem aN.els(h:aN H a (aF enc xs))(d:∀x,(enc x).length=sz){k:Nat}(b:k<xs.length):bV H (aW a) (aT a+k*sz) (enc xs[k]):=
 tp λf v c=>h.el d b f c
theorem DL:∀(vs l r:Xb) (o:Nat),o+vs.length<=l.length->cq (l++r) o vs=cq l o vs++r
 | [],_,_,_,_=>rfl
 | v::vs,l,r,o,h=>by
  simp only[VA]at h;simp only[cq];rw[List.set_append_left _ _ (by omega),DL vs _ r (o+1) (by simp;omega)]
theorem tq:∀(vs l r:Xb) (o:Nat),cq (l++r) (l.length+o) vs=l++cq r o vs
 | [],_,_,_=>rfl
 | v::vs,l,r,o=>by
  simp only[cq];rw[List.set_append_right _ _ (by omega),WU,Nat.add_assoc,tq vs l _ (o+1)]
theorem y6:∀(vs l:Xb),vs.length=l.length->cq l 0 vs=vs:=by
 intro vs l h;have:=rj vs [] l (by omega)
 grind
theorem y7(b:∀x,(enc x).length=sz)(y:α)(vs:Xb)(f:Nat):∀{xs:List α} {k:Nat} (a:k<xs.length),f+vs.length<=sz->cq (enc xs[k]) f vs=enc y->cq (aF enc xs) (k*sz+f) vs=aF enc (xs.set k y)
 | x::r,0,_,hl,h=>by
  rw[WG,VB,kR,WV,kR,DL _ _ _ _ (by grind)]
  grind
 | x::r,k+1,a,hl,h=>by
  rw[List.set_cons_succ,kR,kR,<-y7 b y vs f (xs:=r) (k:=k) (by simpa using a) hl h,show (k+1)*sz+f=(enc x).length+(k*sz+f) by rw[b,Wt];omega,tq]
theorem vo:∀{l r:Xb},cK l=true->cK r=true->cK (l++r)=true
 | [],r,_,h=>h
 | v::l,r,h,h2=>by
  have:=xU h;have a:=vo this.2 h2
  cases v <;> simp[cK]at h ⊢ <;> exact a
theorem kS(a:∀x,cK (enc x)=true):∀xs:List α,cK (aF enc xs)=true
 | []=>rfl
 | x::r=>vo (a x) (kS a r)
end
section
variable {H:aC}{L:List aD}{e sz n c:Nat}{a:Xa}{cs:Xb}
theorem aA.sl_drop(h:aA H L)(i:Nat)(B:aS i L=slA e sz a n c cs)(k:Nat)(y:k<=n):aA H (put i (slA e sz (bM a k c sz) (n-k) (c-k) (cs.drop (k*sz))) L):=by
 have m:=h.foc i;rw[B]at m;refine aA.back (i:=i) (L:=L) (m.frame λp f=>?_)
 obtain⟨E,f⟩:=f;refine⟨by grind [Nat.sub_mul],?_⟩
 rcases f with ⟨j,t,u,s⟩|⟨b,d,post,C,fr,j,t,u,v,s⟩
 .grind [bM]
 .right;subst j;unfold bM
  by_cases e:c=k
  .rw [V1 e];have:n=k:=by omega
   subst this
   grind
  .rw [Vz e];refine⟨b,d++cs.take (k*sz),post,C,fr,?_,by omega,?_,λ_ i w A=>?_,?_⟩
   .grind [Nat.mul_le_mul_right,fu]
   .grind
   .have D:k*sz<=n*sz:=Wf _ y;have x:(c-k)*sz+k*sz=c*sz:=by rw[<-Wt];grind
    rw[V6,W7,Nat.min_eq_left (by omega)]at w A;exact v rfl i (by omega) (by omega)
   .have:d++cs.take (k*sz)++cs.drop (k*sz)++post=d++cs++post:=by
     simp_all
    rw[this];exact s
theorem aA.sl_take(h:aA H L)(i:Nat)(w:aS i L=slA e sz a n c cs)(k:Nat)(u:k<=n):aA H (put i (slA e sz a k c (cs.take (k*sz))) L):=by
 have f:=h.foc i;rw[w]at f;refine aA.back (i:=i) (L:=L) (f.frame λp d=>?_)
 obtain⟨y,d⟩:=d;have v:k*sz<=n*sz:=Wf _ u;refine⟨by grind,?_⟩
 rcases d with ⟨j,m,s,x⟩|⟨b,t,post,B,fr,j,m,s,A,x⟩
 .grind
 grind [Nat.sub_mul,List.take_append_drop]
end
def vp:Value->Value->Option Bool
 | .int k a,.int k' b=>if k=k' then some (a == b) else none
 | .bool a,.bool b=>some (a == b)
 | .string a,.string b=>some (a == b)
 | _,_=>none
def iR:Option TypeDesc->Value->Bool
 | some (.int _),.int _ _=>true
 | some .bool,.bool _=>true
 | some .string,.string _=>true
 | _,_=>false
def tt(P:Program)(xs ys:Xb):List Field->Option Bool
 | []=>some true
 | f::fs=>if f.name= "_" then none else match aI xs f.offset,aI ys f.offset with
  | some a,some b=>if iR (P.underlying f.type) a&&iR (P.underlying f.type) b then
    match vp a b,tt P xs ys fs with
    | some r,some s=>some (r&&s)
    | _,_=>none
   else none
  | _,_=>none
def nQ(P:Program)(t:TypeId)(xs ys:Xb):Option Bool:=
 match P.underlying t with
 | some (.struct fs)=>if P.stoodInHeld t=false/\P.eqGuardType P.depth t=false then tt P xs ys fs.toList else none
 | _=>none
theorem DN{P:Program}{w:World}{t:TypeId}{a b:Value}{r:Bool}(c:iR (P.underlying t) a=true)(hb:iR (P.underlying t) b=true)(h:vp a b=some r)(d:Nat) :
  (Op.equalIn (d+1) t a b).run P w=.ok r w:=by
 cases hu:P.underlying t with
 | none=>grind [iR]
 | some k=>
  rw[hu]at c hb
  cases k <;> cases a <;> simp[iR]at c <;> cases b <;> simp[iR]at hb <;> simp[vp]at h
  .subst h;simp[Op.equalIn,run_underlying hu]
  .obtain⟨rfl,rfl⟩:=h;simp[Op.equalIn,run_underlying hu]
  .subst h;simp[Op.equalIn,run_underlying hu]
theorem tu{P:Program}{w:World}{t:TypeId}{xs:Xb}{o:Nat}{a:Value}(c:iR (P.underlying t) a=true)(d:aI xs o=some a):(part t ⟨xs⟩ o).run P w=.ok a w:=by
 rw[fJ]at d
 cases hu:P.underlying t with
 | none=>grind [iR]
 | some k=>
  rw[hu]at c;have b:(⟨xs⟩:Array Value)[o]?=some a:=by grind
  cases k <;> cases a <;> simp[iR]at c <;> simp[part,isAgg,run_underlying hu,b]
theorem y8{P:Program}{w:World}{xs ys:Xb}(d:Nat):∀{fs:List Field} {r:Bool},tt P xs ys fs=some r->(Op.eqFields (d+1) ⟨xs⟩ ⟨ys⟩ fs).run P w=.ok r w
 | [],r,h=>by simp[tt]at h;subst h;simp[Op.eqFields]
 | f::fs,r,h=>by
  simp only[tt]at h
  split at h
  .cases h
  .rename_i i
   split at h
   .rename_i a b j e
    split at h
    .rename_i c;simp only[V4]at c
     split at h
     .rename_i r1 s k hs
      cases h
      simp only[Op.eqFields,ne_eq,i,not_false_eq_true,if_true,Sem.run_bind,tu c.1 j,tu c.2 e,Result.andThen_ok,DN c.1 c.2 k]
      cases r1
      .simp
      .simp [y8 d hs]
     .cases h
    .cases h
   .cases h
theorem rz{P:Program}{t:TypeId}{xs ys:Xb}{r:Bool}(h:nQ P t xs ys=some r):fH P .eql t (.agg ⟨xs⟩) (.agg ⟨ys⟩) r/\fH P .neq t (.agg ⟨xs⟩) (.agg ⟨ys⟩) (!r):=by
 unfold nQ at h
 split at h
 .rename_i fs f
  split at h
  .rename_i c;have i:P.fieldsOf t=fs:=by grind [Program.fieldsOf]
   have e:P.underlying t=some (.struct (P.fieldsOf t)):=by grind
   have d:∀w,(Op.equalIn 10000 t (.agg ⟨xs⟩) (.agg ⟨ys⟩)).run P w=.ok r w:=by
    grind [run_equalIn_struct,y8]
   constructor
   .intro b a w;simp only[Sem.run_bind,run_eqGuard_agg w .eql t b a ⟨xs⟩ ⟨ys⟩ c.2,Result.andThen_ok,run_eql_struct,d]
   .intro b a w;simp only[Sem.run_bind,run_eqGuard_agg w .neq t b a ⟨xs⟩ ⟨ys⟩ c.2,Result.andThen_ok,run_neq_struct,d]
  .cases h
 .cases h
theorem aJ{x:Int}(a:-9223372036854775808<=x:=by omega)(h2:x<=9223372036854775807:=by omega):i64.wrap x=x:=IntWalk.i64_in x (by omega)
def vq(P:Program)(e:TypeId):Option Value:=match P.info? e with|some i=>i.zero|none=>none
theorem lP{α:Type}{P:Program}{t k e:Nat}{venc:α->Value}{z:α}(a:P.underlying t=some (.map k e))(b:vq P e=some (venc z)):hD P t k e venc z:=by
 refine⟨a,?_⟩
 grind [vq]
theorem aN.at{α:Type}{H:aC}{a:Xa}{enc:α->Value}{xs:List α}(h:aN H a (xs.map enc)){j:Nat}(b:j<xs.length) :
  a=Option.some ⟨aW a,aT a,none⟩/\aM H (aW a) (aT a+j)=Option.some (enc xs[j]):=h j _ (by grind [vj])
theorem DO(k:IntKind):∀(l:List Int),cK (l.map (Value.int k))=true
 | []=>rfl
 | a::r=>DO k r
section
variable {H:aC}{L:List aD}
theorem aA.al{Q:Nat->aC->Prop}{cs:Xb}{e:TypeId}(h:aA H L)(k:∀b H',aA H' (cellsA b cs e::L)->Q b H'):∀(b:Nat) (H':aC),b=H.size->H'=H.push (.cells cs.toArray e)->Q b H':=by
 rintro b H' rfl rfl;exact k _ _ (h.push _)
theorem aA.alm{κ α:Type}{Q:Nat->aC->Prop}(h:aA H L)(kenc:κ->Value)(venc:α->Value)(k:∀b H',aA H' (mapA kenc venc b []::L)->Q b H'):∀(b:Nat) (H':aC),b=H.size->H'=H.push (.map #[] 0)->Q b H':=by
 rintro b H' rfl rfl;exact k _ _ ((h.push _).mp_new kenc venc)
theorem aA.st{Q:aC->Prop}{b o e:Nat}{vs cs:Xb}(h:aA H L)(i:Nat)(a:aS i L=cellsA b cs e)(c:Nat.ble (o+vs.length) cs.length=true)(k:∀H',aA H' (put i (cellsA b (cq cs o vs) e) L)->Q H') :
  dJ H b o vs/\∀H',H'=ee H b o vs->Q H':=by
 refine⟨h.can i a o vs (Nat.le_of_ble_eq_true c),?_⟩;rintro H' rfl;exact k _ (h.set i a o vs)
theorem NQ{α:Type}:∀(l:List α) (o n f:Nat),f<n->aI ((l.drop o).take n) f=aI l (o+f):=by
 grind [fJ]
theorem aA.rds{b o e:Nat}{vs cs:Xb}(h:aA H L)(i:Nat)(c:aS i L=cellsA b cs e)(d:(cs.drop o).take vs.length=vs):bV H b o vs:=
 tp λf v a=>by
  rw[h.rd i c,<-NQ cs o vs.length f (lI a),d];exact a
theorem Ra1{b o:Nat}{v:Value}(a:aM H b o=some v:=by first|exact h.rd 0 rfl _):aM H b o=some v:=a
theorem Rs1{b o:Nat}{vs:Xb}(a:bV H b o vs:=by first|exact h.rds 0 rfl rfl):bV H b o vs:=a
theorem St1{Q:aC->Prop}{b o e i:Nat}{vs cs:Xb}(h:aA H L)(k:∀H',aA H' (put i (cellsA b (cq cs o vs) e) L)->Q H')(a:aS i L=cellsA b cs e:=by first|exact (rfl:aS 0 _=_))(hl:Nat.ble (o+vs.length) cs.length=true:=by rfl):dJ H b o vs/\∀H',H'=ee H b o vs->Q H':=h.st i a hl k
theorem Ra2{b o:Nat}{v:Value}(a:aM H b o=some v:=by first|exact h.rd 0 rfl _|exact h.rd 1 rfl _):aM H b o=some v:=a
theorem Rs2{b o:Nat}{vs:Xb}(a:bV H b o vs:=by first|exact h.rds 0 rfl rfl|exact h.rds 1 rfl rfl):bV H b o vs:=a
theorem St2{Q:aC->Prop}{b o e i:Nat}{vs cs:Xb}(h:aA H L)(k:∀H',aA H' (put i (cellsA b (cq cs o vs) e) L)->Q H')(a:aS i L=cellsA b cs e:=by first|exact (rfl:aS 0 _=_)|exact (rfl:aS 1 _=_))(hl:Nat.ble (o+vs.length) cs.length=true:=by rfl):dJ H b o vs/\∀H',H'=ee H b o vs->Q H':=h.st i a hl k
theorem Ra3{b o:Nat}{v:Value}(a:aM H b o=some v:=by first|exact h.rd 0 rfl _|exact h.rd 1 rfl _|exact h.rd 2 rfl _):aM H b o=some v:=a
theorem Rs3{b o:Nat}{vs:Xb}(a:bV H b o vs:=by first|exact h.rds 0 rfl rfl|exact h.rds 1 rfl rfl|exact h.rds 2 rfl rfl):bV H b o vs:=a
theorem St3{Q:aC->Prop}{b o e i:Nat}{vs cs:Xb}(h:aA H L)(k:∀H',aA H' (put i (cellsA b (cq cs o vs) e) L)->Q H')(a:aS i L=cellsA b cs e:=by first|exact (rfl:aS 0 _=_)|exact (rfl:aS 1 _=_)|exact (rfl:aS 2 _=_))(hl:Nat.ble (o+vs.length) cs.length=true:=by rfl):dJ H b o vs/\∀H',H'=ee H b o vs->Q H':=h.st i a hl k
theorem Ra4{b o:Nat}{v:Value}(a:aM H b o=some v:=by first|exact h.rd 0 rfl _|exact h.rd 1 rfl _|exact h.rd 2 rfl _|exact h.rd 3 rfl _):aM H b o=some v:=a
theorem St4{Q:aC->Prop}{b o e i:Nat}{vs cs:Xb}(h:aA H L)(k:∀H',aA H' (put i (cellsA b (cq cs o vs) e) L)->Q H')(a:aS i L=cellsA b cs e:=by first|exact (rfl:aS 0 _=_)|exact (rfl:aS 1 _=_)|exact (rfl:aS 2 _=_)|exact (rfl:aS 3 _=_))(hl:Nat.ble (o+vs.length) cs.length=true:=by rfl):dJ H b o vs/\∀H',H'=ee H b o vs->Q H':=h.st i a hl k
theorem aA.q{b o e:Nat}{vs cs:Xb}(h:aA H L)(i:Nat)(a:aS i L=cellsA b cs e:=by rfl)(hv:(cs.drop o).take vs.length=vs:=by rfl):bV H b o vs:=h.rds i a hv
theorem aA.getO{b:Nat}{o:Obj}(h:aA H L)(i:Nat)(a:aS i L=pt b o):H[b]?=some o:=by
 have:=h.foc i;rw[a]at this;exact this.get
theorem aA.setO{b:Nat}{o:Obj}(h:aA H L)(i:Nat)(c:aS i L=pt b o)(a:Obj):aA (H.setIfInBounds b a) (put i (pt b a) L):=by
 have:=h.foc i;rw[c]at this;exact aA.back (lK this)
theorem aA.stl{Q:aC->Prop}{b:Nat}{R a:Loop}(h:aA H L)(i:Nat)(c:aS i L=pt b (.loop R))(k:∀H',aA H' (put i (pt b (.loop a)) L)->Q H'):∀H',H'=iQ H b a->Q H':=by
 rintro H' rfl;exact k _ (h.setO i c _)
theorem aA.rng(h:aA H L)(R:Loop):aA ((H.push (.deferred (some []))).push (.loop R)) (pt (H.size+1) (.loop R)::pt H.size (.deferred (some []))::L):=by
 have:=(h.push (.deferred (some []))).push (.loop R)
 rwa[Array.size_push]at this
theorem DP{A:List aD}:aA H (star A::L)↔aA H (A++L):=by
 unfold aA;rw[sZ];exact Iff.rfl
theorem aA.open{A:List aD}(h:aA H (star A::L)):aA H (A++L):=DP.1 h
theorem aA.shut(A:List aD)(h:aA H (A++L)):aA H (star A::L):=DP.2 h
theorem cy{α:Type}{A:α->aD}:aA H (exS A::L)↔∃x,aA H (A x::L):=sat_exs
theorem dX{b o:Nat}{p:Prop}(h:p):NN (some ⟨b,o,none⟩) p:=h
end
section
variable {κ α:Type}{kenc:κ->Value}{venc:α->Value}{r:Nat}{m:List (κ×α)}{H:aC}{L:List aD}{P:Program}
variable [DecidableEq κ]{t k e:Nat}{z:α}(T:hD P t k e venc z)(KO:jG P k kenc)
include T KO
theorem aA.mp_get{x:κ}(h:aA H L)(i:Nat)(a:aS i L=mapA kenc venc r m) :
  cZ P (Instr.lookup t (.map (some r)) (kenc x) true) H (.tuple #[venc ((aK x m).getD z),.bool (aK x m).isSome]):=by
 have:=h.mp_look T KO i a (x:=x)
 cases hm:aK x m with
 | none=>exact (this.2 hm).1
 | some v=>exact (this.1 v hm).1
theorem aA.mp_get1{x:κ}(h:aA H L)(i:Nat)(a:aS i L=mapA kenc venc r m) :
  cZ P (Instr.lookup t (.map (some r)) (kenc x) false) H (venc ((aK x m).getD z)):=by
 have:=h.mp_look T KO i a (x:=x)
 cases hm:aK x m with
 | none=>exact (this.2 hm).2
 | some v=>exact (this.1 v hm).2
end
theorem kT{R:Loop}(b:R.state=.ready)(a:R.pending=none):{ R with state:=.ready,pending:=none }=R:=by
 cases R;grind
theorem aA.old_rd{H H0:aC}{L:List aD}(h:aA H L)(i:Nat)(d:aS i L=old H0){a:Xa}{cs:Xb}(c:aN H0 a cs):aN H a cs:=λj v b=>⟨(c j v b).1,h.cell0 i d (c j v b).2⟩
theorem aA.old_grow{H H0:aC}{L:List aD}(h:aA H L)(i:Nat)(a:aS i L=old H0):cV H0 H:=λb hb=>h.was i a hb
theorem aA.ce_rd{H:aC}{L:List aD}(h:aA H L)(i:Nat){b e:Nat}{cs:Xb}(c:aS i L=cellsA b cs e):aN H (some ⟨b,0,none⟩) cs:=λj v a=>⟨rfl,by
 simp only[aW,aT,VB];rw[h.rd i c];exact a⟩
theorem sat0(H:aC):aA H [old H]:=by unfold aA star;exact (N4 H).eq (by rw[star,vh])
abbrev U8:=Value.int .u8
def bB(Q:aD)(a:Xa)(cs:Xb):Prop:=∀H F,aA H (Q::F)->aN H a cs
def aH(Q Q':aD):Prop:=∀H F,aA H (Q'::F)->∃F',aA H (Q::F')
def KG(H0:aC)(Q:aD):Prop:=∀H F,aA H (Q::F)->cV H0 H
theorem aH.refl(Q:aD):aH Q Q:=λH F h=>⟨F,h⟩
theorem aH.trans{Q Q' a:aD}(h:aH Q Q')(c:aH Q' a):aH Q a:=λH F hs=>by
 obtain⟨d,b⟩:=c H F hs;exact h H d b
theorem eX{H:aC}{A B:aD}{L:List aD}:aA H ((A*B)::L)↔aA H (A::B::L):=by
 grind [aA,star]
theorem aH.add(A Q:aD):aH Q (A*Q):=λH F h=>⟨A::F,(eX.1 h).ord [1,0] (by decide) |> λ_=>by
 have:=(eX.1 h).o [1,0] 2;exact this⟩
theorem bB.sub{Q Q':aD}{a:Xa}{cs:Xb}(h:bB Q a cs)(hs:aH Q Q'):bB Q' a cs:=λH F b=>by
 obtain⟨d,c⟩:=hs H F b;exact h H d c
theorem KG.sub{Q Q':aD}{H0:aC}(h:KG H0 Q)(hs:aH Q Q'):KG H0 Q':=λH F a=>by
 obtain⟨c,b⟩:=hs H F a;exact h H c b
theorem KG.old(H0:aC):KG H0 (old H0):=λH F h=>h.old_grow 0 rfl
theorem bB.old{H0:aC}{a:Xa}{cs:Xb}(h:aN H0 a cs):bB (old H0) a cs:=λH F hs=>hs.old_rd 0 rfl h
theorem bB.sl{Q:aD}{e sz n c:Nat}{a:Xa}{cs:Xb}:bB (slA e sz a n c cs*Q) a cs:=λH F h=>(eX.1 h).sl_rd 0 rfl
theorem bB.nil(Q:aD)(a:Xa):bB Q a []:=λH F h=>fK H a
theorem bB.at{Q:aD}{a:Xa}{cs:Xb}{H:aC}{L:List aD}(h:bB Q a cs)(hs:aA H L)(i:Nat)(c:aS i L=Q):aN H a cs:=by
 have b:=hs.foc i;rw[c]at b;exact h H (del i L) b
theorem nR{H:aC}{cs:Xb}(h:aN H none cs):cs=[]:=by
 cases cs with
 | nil=>rfl
 | cons v r=>have:=(h 0 v rfl).1;cases this
theorem mW{α:Type}{enc:α->Value}(b:∀x,cK [enc x]=true):∀l:List α,cK (l.map enc)=true
 | []=>rfl
 | a::r=>by
  have d:=b a;have c:=mW b r;have:cK (enc a::r.map enc)=cK ([enc a]++r.map enc):=rfl
  grind [vo]
def gy{κ α:Type}(kenc:κ->Value)(venc:α->Value)(r mb:Nat)(m dn:List (κ×α)):aD:=λh=>
 ∃(es:Array MapEntry) (clock:Nat) (ml:List (κ×α)) (seen:Array Nat) (is:List Nat),
  ((aL m).Nodup/\ml.Perm m/\es.toList.map (λe:MapEntry=>(e.key,e.val))=ml.map (λp=>(kenc p.1,venc p.2))/\(es.toList.map (·.born)).Nodup/\(∀e∈es.toList,e.born<clock)/\
   is.Nodup/\dn.map some=is.map (λi=>ml[i]?)/\seen.toList.map some=is.map (λi=>(es.toList[i]?).map (·.born)))/\
  (pt r (.mapIter (some mb) clock seen clock)*pt mb (.map es clock)) h
section
variable {κ α:Type}{kenc:κ->Value}{venc:α->Value}{r mb:Nat}{m dn:List (κ×α)}{H:aC}{L:List aD}{P:Program}
theorem vr{F:aD}(h:aO H (gy kenc venc r mb m dn*F)):∃(es:Array MapEntry) (a:Nat) (c:List (κ×α)) (b:Array Nat) (is:List Nat),
  ((aL m).Nodup/\c.Perm m/\es.toList.map (λe:MapEntry=>(e.key,e.val))=c.map (λp=>(kenc p.1,venc p.2))/\(es.toList.map (·.born)).Nodup/\(∀e∈es.toList,e.born<a)/\
   is.Nodup/\dn.map some=is.map (λi=>c[i]?)/\b.toList.map some=is.map (λi=>(es.toList[i]?).map (·.born)))/\
  aO H ((pt r (.mapIter (some mb) a b a)*pt mb (.map es a))*F):=by
 obtain⟨g,j,x,y,hd,rfl,⟨es,a,c,b,is,f,d⟩,k⟩:=h;exact⟨es,a,c,b,is,f,_,j,x,y,hd,rfl,d,k⟩
theorem aA.rg_map(h:aA H L)(i:Nat)(f:aS i L=gy kenc venc r mb m dn):aA H (put i (mapA kenc venc mb m) L):=by
 have d:=h.foc i;rw[f]at d;obtain⟨es,a,e,c,is,⟨f1,f2,f3,f4,f5,_⟩,b⟩:=vr d;refine aA.back ?_;rw[lH]at b;exact b.drop'.frame λp j=>⟨f1,es,a,⟨e,f2,f3⟩,f4,f5,j⟩
theorem NR{w:World}(o:Obj):(newObj o).run P w=.ok w.heap.size (w.alloc o):=rfl
theorem aA.rg_new{t k e:Nat}{z:α}(T:hD P t k e venc z){K:KQ}(h:aA H L)(i:Nat)(n:aS i L=mapA kenc venc mb m)
  (kk:∀r H',aA H' (put i (gy kenc venc r mb m []) L)->K (.pointer (some ⟨r,0,none⟩)) H'):bS P (Instr.range t (.map (some mb))) H K:=by
 refine .mk λw s=>?_
 subst s;have d:=h.foc i;rw[n]at d;obtain⟨f,es,a,⟨j,f2,f3⟩,f4,f5,b⟩:=mV d;refine⟨.pointer (some ⟨w.heap.size,0,none⟩),w.alloc (.mapIter (some mb) a #[] a),?_,⟨rfl,rfl,rfl⟩,kk _ _ ?_⟩
 .simp [Instr.range,run_underlying T.und,Go.MapKept.run_getObj_map b.get,NR]
 .refine aA.back ?_;have c:=b.push (.mapIter (some mb) a #[] a);rw[<-lH]at c;exact c.frame λp u=>⟨es,a,j,#[],[],⟨f,f2,f3,f4,f5,List.nodup_nil,rfl,rfl⟩,u⟩
theorem aA.rg_next{ty:Nat}{K:KQ}(h:aA H L)(i:Nat)(hA:aS i L=gy kenc venc r mb m dn)
  (k0:dn.Perm m->K (.tuple #[.bool false]) H)
  (k1:∀p,p∈m->p.1∉aL dn->∀H',aA H' (put i (gy kenc venc r mb m (dn++[p])) L)->K (.tuple #[.bool true,kenc p.1,venc p.2]) H') :
  bS P (Instr.next (.pointer (some ⟨r,0,none⟩)) false ty) H K:=by
 refine .mk λw hw=>?_
 subst hw;have B:=h.foc i;rw[hA]at B;obtain⟨es,c,f,d,is,⟨f1,f2,f3,f4,f5,f6,f7,f8⟩,E⟩:=vr B;rw[lH]at E;have R:es.toList.length=f.length:=by have:=congrArg List.length f3;grind
 have I:∀(i j:Nat) (a b:MapEntry),es.toList[i]?=some a->es.toList[j]?=some b->a.born=b.born->i=j:=by
  intro i j a b S hb x;have G:(es.toList.map (·.born))[i]?=some a.born:=by grind
  have B:(es.toList.map (·.born))[j]?=some a.born:=by grind
  grind [List.getElem?_inj]
 have n:∀b,b∈d.toList↔∃i∈is,∃a,es.toList[i]?=some a/\a.born=b:=by
  intro b;have:b∈d.toList↔some b∈d.toList.map some:=by simp
  grind
 rcases run_next_at (P:=P) w ty r mb c c d es c E.get E.drop'.get f5 (VD _) with ⟨h0,s⟩|⟨e,he,w1,y,s⟩
 .refine⟨_,_,s,bR.refl _,k0 ?_⟩;have A:∀e∈es.toList,e.born∈d.toList:=by
   grind [leftOf,Array.filter_eq_empty_iff]
  have Q:is.Perm (List.range f.length):=by
   refine (List.perm_ext_iff_of_nodup f6 List.nodup_range).2 λi=>?_
   rw[Wh]
   constructor
   .intro hi
    rcases W0 i f.length with h|h
    .exact h
    .exfalso;have G:(none:Option (κ×α))∈dn.map some:=by grind
     simp at G
   .intro hi;have D:i<es.toList.length:=by omega
    obtain⟨j,V,a,S,x⟩:=(n _).1 (A es.toList[i] (V7 D));have:=I j i a es.toList[i] S (List.getElem?_eq_getElem D) x
    grind
  have F:(dn.map some).Perm (f.map some):=by
   rw[f7];refine (Q.map _).trans ?_;have:(List.range f.length).map (λi=>f[i]?)=f.map some:=by
    apply Wp
    grind
   rw[this]
  have M:=F.filterMap id;simp only[List.filterMap_map,Function.comp_def,id]at M;rw[List.filterMap_some,List.filterMap_some]at M;exact M.trans f2
 .unfold leftOf at he;have C:e∈es.toList/\e.born∉d.toList:=by grind
  obtain⟨k,T,U⟩:=List.mem_iff_getElem.1 C.1;have N:k<f.length:=by omega
  have u:(e.key,e.val)=(kenc f[k].1,venc f[k].2):=by
   have:=congrArg (λl=>l[k]?) f3
   grind
  have h7:k∉is:=λhi=>C.2 ((n _).2 ⟨k,hi,e,by grind,rfl⟩)
  have J:(aL f).Nodup:=(f2.map Prod.fst).nodup_iff.2 f1;refine⟨_,_,s,?_,?_⟩
  .rcases y with rfl|rfl <;> exact⟨rfl,rfl,rfl⟩
  .have e1:e.key=kenc f[k].1:=congrArg Prod.fst u;have e2:e.val=venc f[k].2:=congrArg Prod.snd u;rw[e1,e2];refine k1 f[k] (f2.mem_iff.1 (V7 N)) (λv=>?_) _ (aA.back ?_)
   .obtain⟨q,Y,Z⟩:=V8.1 v;have:some q∈dn.map some:=V8.2 ⟨q,Y,rfl⟩;rw[f7]at this;obtain⟨j,V,t⟩:=V8.1 this;have O:j<f.length:=by
     grind
    rw[List.getElem?_eq_getElem O]at t;have t:=Option.some.inj t;have:j=k:=by
     have G:(aL f)[j]?=some q.1:=by grind
     have B:(aL f)[k]?=some q.1:=by grind
     exact (List.getElem?_inj (by grind) J).1 (G.trans B.symm)
    grind
   .have W:aO (w.heap.setIfInBounds r (.mapIter (some mb) c (d.push e.born) c)) (pt r (.mapIter (some mb) c (d.push e.born) c)*(pt mb (.map es c)*star (del i L))):=lK E;have F:aO (Go.ChangeMaps.setBlock w1 r (.mapIter (some mb) c (d.push e.born) c)).heap (pt r (.mapIter (some mb) c (d.push e.born) c)*(pt mb (.map es c)*star (del i L))):=by
     rcases y with rfl|rfl <;> exact W
    rw[<-lH]at F;refine F.frame λp Q=>⟨es,c,f,d.push e.born,is++[k],⟨f1,f2,f3,f4,f5,?_,?_,?_⟩,Q⟩
    .grind
    .grind
    grind
theorem aA.rg_entry{p:κ×α}(h:aA H L)(i:Nat)(B:aS i L=gy kenc venc r mb m (dn++[p])):cZ P (Instr.entry (.pointer (some ⟨r,0,none⟩))) H (.tuple #[kenc p.1,venc p.2]):=by
 intro w C;subst C;have v:=h.foc i;rw[B]at v;obtain⟨es,a,t,d,is,⟨f1,f2,f3,f4,f5,f6,f7,f8⟩,j⟩:=vr v;rw[lH]at j;have s:=congrArg List.length f7;have n:=congrArg List.length f8;simp only[VP,V6,WO]at s n
 rcases List.eq_nil_or_concat is with y|⟨x,c,rfl⟩
 .grind
 rw[List.concat_eq_append]at *;rw[VS,VS]at f7;have e7:=(List.append_inj' f7 (by simp)).2;simp only[VR,List.map_nil,List.cons.injEq,and_true]at e7;have A:c<t.length:=by
  grind
 have u:es.toList.length=t.length:=by have:=congrArg List.length f3;grind
 have e:c<es.toList.length:=by omega
 rcases List.eq_nil_or_concat d.toList with y|⟨s0,b,hs⟩
 .grind
 rw[List.concat_eq_append]at hs;rw[hs,VS,VS]at f8;have e8:=(List.append_inj' f8 (by simp)).2;simp only[VR,List.map_nil,List.cons.injEq,and_true,List.getElem?_eq_getElem e,VT,Option.some.injEq]at e8;have k:d=(⟨s0⟩:Array Nat).push es.toList[c].born:=by grind
 have f:(es.toList[c].key,es.toList[c].val)=(kenc p.1,venc p.2):=by
  have:=congrArg (λl=>l[c]?) f3
  grind
 have e1:es.toList[c].key=kenc p.1:=congrArg Prod.fst f;have e2:es.toList[c].val=venc p.2:=congrArg Prod.snd f;rw[k]at j;have:=run_entry_at (P:=P) w r mb a ⟨s0⟩ es a es.toList[c] j.get j.drop'.get (V7 e) f4
 grind
end
def pN(H:aC)(r:Nat):Nat:=match H[r]? with|some (.mapIter _ _ seen _)=>seen.size|_=>0
theorem aA.rg_count{κ α:Type}{kenc:κ->Value}{venc:α->Value}{r mb:Nat}{m dn:List (κ×α)}{H:aC}{L:List aD}(h:aA H L)(i:Nat)(s:aS i L=gy kenc venc r mb m dn):pN H r=dn.length/\dn.length<=m.length:=by
 have j:=h.foc i;rw[s]at j;obtain⟨es,d,k,f,is,⟨f1,f2,f3,f4,f5,f6,f7,f8⟩,e⟩:=vr j;rw[lH]at e;have b:=congrArg List.length f7;have c:=congrArg List.length f8;simp only[VP]at b c;refine⟨?_,?_⟩
 .unfold pN;rw[e.get]
  grind
 .rw [b,<-f2.length_eq];have a:is ⊆ List.range k.length:=by
   intro i hi;rw[Wh]
   rcases W0 i k.length with h|h
   .exact h
   .exfalso;have n:(none:Option (κ×α))∈dn.map some:=by grind
    simp at n
  have:=f6.length_le_of_subset a
  grind
instance wf64_dec (x:Int):Decidable (aG x):=by unfold aG;infer_instance
theorem vt{p q:Prop}[Decidable p][Decidable q]:(decide p ^^ decide q)=true↔((p/\¬q)\/(¬p/\q)):=by grind
theorem fw(x:Int):u64.wrap x=x%18446744073709551616:=by simp[IntKind.wrap,IntKind.bits,IntKind.signed]
theorem u64n{x:Nat}(h:x<18446744073709551616):u64.wrap (x:Int)=(x:Int):=by grind [fw]
theorem u64m(x:Nat):u64.wrap (x:Int)=((x%18446744073709551616:Nat):Int):=by grind [fw]
theorem bv64{n:Nat}(h:n<18446744073709551616):(BitVec.ofInt u64.bits (n:Int)).toNat=n:=by
 rw[BitVec.ofInt_natCast,BitVec.toNat_ofNat];exact WR h
theorem and64{n m:Nat}(a:n<18446744073709551616)(hm:m<18446744073709551616):aX .and .u64 (n:Int) (m:Int)=((n &&& m:Nat):Int):=by
 unfold aX;dsimp only;rw[BitVec.toNat_and,bv64 a,bv64 hm];have:n &&& m<2^64:=Nat.and_lt_two_pow n hm
 grind [u64n]
theorem or64{n m:Nat}(a:n<18446744073709551616)(hm:m<18446744073709551616):aX .or .u64 (n:Int) (m:Int)=((n ||| m:Nat):Int):=by
 unfold aX;dsimp only;rw[BitVec.toNat_or,bv64 a,bv64 hm];have:n ||| m<2^64:=Nat.or_lt_two_pow a hm
 grind [u64n]
theorem tv{n:Nat}(a:n<18446744073709551616):aX .and .u64 (n:Int) 4294967295=((n%4294967296:Nat):Int):=by
 have h:=and64 a (m:=4294967295) (by decide);have e:n &&& 4294967295=n%4294967296:=Nat.and_two_pow_sub_one_eq_mod n 32
 grind
theorem r8(a s:Nat):Int.fdiv (a:Int) (2^s)=((a/2^s:Nat):Int):=by
 grind
theorem fdiv32(a:Nat):Int.fdiv (a:Int) (2^(min (Int.toNat 32) (u64.bits)))=((a/4294967296:Nat):Int):=r8 a 32
theorem mulNN(a b:Nat):(a:Int)*(b:Int)=((a*b:Nat):Int):=(Int.natCast_mul a b).symm
theorem addNN(a b:Nat):(a:Int)+(b:Int)=((a+b:Nat):Int):=(Int.natCast_add a b).symm
theorem DQ(v:BitVec 64):i64.wrap (v.toNat:Int)<0↔v.msb=true:=by
 rw[BitVec.msb_eq_decide,V5];have:=v.isLt
 grind [IntKind.wrap,IntKind.bits,IntKind.signed]
theorem msb_of{x:Int}(h:aG x):(BitVec.ofInt 64 x).msb=decide (x<0):=by
 grind [BitVec.msb_eq_toInt,aG]
theorem vu{x y:Int}(b:aG x)(a:aG y):aX .xor .i64 x y<0↔(decide (x<0) ^^ decide (y<0))=true:=by
 unfold aX;dsimp only;exact (DQ (BitVec.ofInt 64 x^^^BitVec.ofInt 64 y)).trans (by grind [msb_of])
theorem DT{x y:Int}(b:aG x)(a:aG y):aX .and .i64 x y<0↔(decide (x<0)&&decide (y<0))=true:=by
 unfold aX;dsimp only;exact (DQ (BitVec.ofInt 64 x &&& BitVec.ofInt 64 y)).trans (by grind [msb_of])
theorem i64e(x:Int):i64.wrap x=(x+9223372036854775808)%18446744073709551616-9223372036854775808:=by
 simp only[IntKind.wrap,IntKind.bits,IntKind.signed]
 grind
theorem pP(x:Int):aG (i64.wrap x):=by unfold aG;grind [i64e]
theorem vv(op:BinOp)(x y:Int):aG (aX op .i64 x y):=by
 unfold aX
 split <;> exact pP _
theorem add_over{a b:Int}(c:aG a)(hb:aG b):decide (aX .and .i64 (aX .xor .i64 a (i64.wrap (a+b))) (aX .xor .i64 b (i64.wrap (a+b)))<0)=!decide (aG (a+b)):=by
 rw[Wd,V5,DT (vv _ _ _) (vv _ _ _),V4,V5,V5,vu c (pP _),vu hb (pP _),vt,vt,Wa,VG]
 grind [i64e,aG]
section
variable {u y1 y0 u1 q r:Nat}
theorem kn_mul:q*(y1*4294967296+y0)=(q*y1)*4294967296+q*y0:=by grind
theorem DU(c:2147483648<=y1)(e:y0<4294967296)(d:u<y1*4294967296+y0)(a:u1<4294967296) :
  (u/y1)*y1+u%y1=u/\u%y1<4294967296+y1/\(u*4294967296+u1)/(y1*4294967296+y0)<=u/y1/\u/y1<=4294967297:=by
 refine⟨Nat.div_add_mod' u y1,?_,?_,?_⟩
 .have:=W4 u (show 0<y1 by omega);omega
 .refine Nat.le_of_lt_succ ((WH (by omega)).2 ?_);rw[kn_mul];have b:=Nat.lt_mul_of_div_lt (Nat.lt_succ_self (u/y1)) (show 0<y1 by omega)
  grind
 .refine Nat.le_of_lt_succ ((WH (by omega)).2 ?_);omega
theorem kn_dec(e:2147483648<=y1)(f:u<y1*4294967296+y0)(b:u1<4294967296)(d:q*y1+r=u)
  (c:4294967296<=q\/4294967296*r+u1<q*y0):1<=q/\(u*4294967296+u1)/(y1*4294967296+y0)<=q-1:=by
 have a:1<=q:=by
  grind
 refine⟨a,Nat.le_sub_one_of_lt ?_⟩
 rcases c with h|h
 .refine Nat.lt_of_lt_of_le ((WH (by omega)).2 ?_) h;omega
 .refine (WH (by omega)).2 ?_
  grind
theorem DV(d:2147483648<=y1)(a:q*y1+r=u)(b:(u*4294967296+u1)/(y1*4294967296+y0)<=q)(c:q*y0<=4294967296*r+u1) :
  q=(u*4294967296+u1)/(y1*4294967296+y0):=by
 grind [Nat.le_antisymm,Nat.le_div_iff_mul_le]
theorem DW(d:2147483648<=y1)(f:y0<4294967296)(e:q*y1+r=u)(b:(u*4294967296+u1)/(y1*4294967296+y0)<=q)(c:4294967296<=r)(a:q<=4294967296) :
  q=(u*4294967296+u1)/(y1*4294967296+y0):=by
 refine Nat.le_antisymm ((Nat.le_div_iff_mul_le (by omega)).2 ?_) b;rw[kn_mul];have:q*y0<=4294967296*4294967296:=Nat.mul_le_mul a (by omega)
 grind
theorem kn_lt{y:Nat}(b:u<y)(a:u1<4294967296):(u*4294967296+u1)/y<4294967296:=(WH (by omega)).2 (by omega)
theorem kn_join'{U y u0:Nat}(a:0<y):((U*4294967296+u0)/y=U/y*4294967296+((U%y)*4294967296+u0)/y)/\
  ((U*4294967296+u0)%y=((U%y)*4294967296+u0)%y):=by
 have e1:=Nat.div_add_mod U y;have e:U*4294967296+u0=(U%y*4294967296+u0)+y*(U/y*4294967296):=by
  grind
 rw[e,Nat.add_mul_div_left _ _ a,Nat.add_mul_mod_self_left]
 grind
theorem kn_join{y u0:Nat}(a:0<y):(((u*4294967296+u1)*4294967296+u0)/y=(u*4294967296+u1)/y*4294967296+(((u*4294967296+u1)%y)*4294967296+u0)/y)/\
  (((u*4294967296+u1)*4294967296+u0)%y=(((u*4294967296+u1)%y)*4294967296+u0)%y):=kn_join' a
end
theorem norm_num{hi lo s:Nat}(hs:s<=64)(a:lo<18446744073709551616):(hi*2^s+lo/2^(64-s))*18446744073709551616+(lo*2^s)%18446744073709551616=(hi*18446744073709551616+lo)*2^s:=by
 have e:(18446744073709551616:Nat)=2^(64-s)*2^s:=by rw[<-Nat.pow_add,show 64-s+s=64 by omega]
 have e2:lo/2^(64-s)=(lo*2^s)/18446744073709551616:=by
  grind [Nat.mul_div_mul_right]
 grind
theorem DX:∀{l:Xb},(∀v∈l,cK [v]=true)->cK l=true
 | [],_=>rfl
 | v::r,h=>by
  have c:=h v VI;have a:=DX (l:=r) λx b=>h x (VF _ b)
  cases v <;> simp[cK]at c a ⊢ <;> exact a
theorem DY{v:Value}:∀{l:Xb},cK l=true->v∈l->cK [v]=true
 | [],_,a=>by cases a
 | u::r,h,a=>by
  have b:=xU h
  rcases V9.1 a with rfl|a
  .exact b.1
  .exact DY b.2 a
def y9(P:Program)(e:TypeId):Bool:=match P.info? e with
 | some i=>(match i.zero with|some z=>cK z.cells.toList|none=>false)
 | none=>false
theorem NS{z:Array Value}(b:cK z.toList=true)(k:Nat):cK (Builtin.zeroCells z k).toList=true:=by
 refine DX λv a=>?_
 simp only[Builtin.zeroCells,Array.toList_map,V8]at a;obtain⟨i,hi,rfl⟩:=a
 grind [Nat.mod_lt,DY]
section
variable {H:aC}{F:aD}{L:List aD}{e sz n c:Nat}{a:Xa}{cs:Xb}
theorem NT{P:Program}{t bytes m c2 ty:Nat}(T:SlT P t e sz bytes){a2:Xa}{ws:Xb}{K:KQ}(h:aO H (slA e sz a n c cs*F))(V:aN H a2 ws)(B:ws.length=m*sz)(G:cK ws=true)
  (d:n+m<=c)
  (k:∀H',aO H' (slA e sz a (n+m) c (cs++ws)*F)->K (.slice a (n+m) c) H') :
  bS P (Builtin.append_ #[t,t] ty #[.slice a n c,.slice a2 m c2]) H K:=by
 obtain⟨J,Q,i,z,hi,Y,rfl,rfl,R⟩:=T;refine .mk λw E=>?_
 subst E;obtain⟨u,v⟩:=jF h;have x:=te (P:=P) (w:=w) (c2:=c2) V B
 rcases v with ⟨v,I,C,A⟩|⟨b,f,post,W,fr,v,I,C,N,A⟩
 .subst v;subst I;subst C;obtain rfl:m=0:=by omega
  obtain rfl:ws=[]:=Wi (by grind);obtain rfl:cs=[]:=Wi (by grind);refine⟨.slice none (0+0) 0,w,?_,bR.refl w,k _ (rh A)⟩;simp[Builtin.append_,run_underlying J,sizeOf,typeInfo,hi,Builtin.lenOf,x]
 .subst v;have y:ws.length<=post.length:=by
   refine W2 ?_ C;rw[B];exact Wf _ (by omega)
  have D:(n+m)*i.size<=c*i.size:=Wf _ d;rw[Wt]at D;have s:dJ w.heap b (f.length+n*i.size) ws:=A.canG ws _ (by grind) λj M O=>N j (by omega) (by omega)
  obtain⟨S,M,O,U⟩:=qO (P:=P) (b:=b) ws (f.length+n*i.size) 0 w (by simpa using s) (by simpa using qP _ _ s) G;refine⟨.slice (some ⟨b,f.length,none⟩) (n+m) c,S,?_,O,k _ ?_⟩
  .simp [Builtin.append_,run_underlying J,sizeOf,typeInfo,hi,Builtin.lenOf,d,x,fu,M]
  .rw [U];have L:=aO.setsG ws (f.length+n*i.size) A;have e1:f.length+n*i.size=(f++cs).length:=by simp[u]
   rw[e1,rj _ _ _ y]at L;rw[Wk,e1];refine L.frame λp G=>⟨by grind,.inr ⟨b,f,post.drop ws.length,W,fr,rfl,d,?_,λ_=>N,by simpa using G⟩⟩
   rw[Wb,B];have:(c-(n+m))*i.size+m*i.size=(c-n)*i.size:=by rw[<-Wt];grind
   omega
theorem aA.appendIn{P:Program}{t bytes m c2 ty:Nat}(T:SlT P t e sz bytes){a2:Xa}{ws:Xb}{K:KQ}(h:aA H L)(i:Nat)(s:aS i L=slA e sz a n c cs)(u:aN H a2 ws)(j:ws.length=m*sz)(v:cK ws=true)
  (b:n+m<=c)
  (k:∀H',aA H' (put i (slA e sz a (n+m) c (cs++ws)) L)->K (.slice a (n+m) c) H') :
  bS P (Builtin.append_ #[t,t] ty #[.slice a n c,.slice a2 m c2]) H K:=by
 have d:=h.foc i;rw[s]at d;exact NT T d u j v b λH' f=>k H' (aA.back f)
theorem NV{P:Program}{t bytes m c2 ty:Nat}(T:SlT P t e sz bytes)(A:y9 P e=true){K:KQ}(h:aO H (slA e sz a n c cs*F))(x:n+m<=c)
  (k:∀v H',aO H' (slA e sz a n c cs*F)->K v H') :
  bS P (Builtin.clear_ #[t] ty #[.slice (bM a n c sz) m c2]) H K:=by
 obtain⟨E,S,i,z,hi,y,rfl,rfl,V⟩:=T;refine .mk λw L=>?_
 subst L;obtain⟨u,D⟩:=jF h;unfold y9 at A;rw[hi]at A;dsimp only at A;rw[y]at A;dsimp only at A;have f:m=0\/bM a n c i.size=none->∃v B,(Builtin.clear_ #[t] ty #[.slice (bM a n c i.size) m c2]).run P w=.ok v B/\bR w B/\K v B.heap:=by
  rintro (rfl|W)
  .refine⟨.tuple #[],w,?_,bR.refl w,k _ _ h⟩
   cases bM a n c i.size <;> simp[Builtin.clear_,run_underlying E]
  .refine⟨.tuple #[],w,?_,bR.refl w,k _ _ h⟩;rw[W];simp[Builtin.clear_,run_underlying E]
 cases m with
 | zero=>grind
 | succ m=>
  rcases D with ⟨D,M,Y,G⟩|⟨b,d,post,e',fr,D,M,Y,Q,G⟩
  .grind
  .subst D;have hb:bM (some ⟨b,d.length,none⟩) n c i.size=some ⟨b,d.length+n*i.size,none⟩:=by
    unfold bM;rw[nO,VT,fu]
   have U:(m+1)*i.size<=(c-n)*i.size:=Wf _ (by omega);have J:(n+(m+1))*i.size<=c*i.size:=Wf _ x;rw[Wt]at J;generalize hws:(Builtin.zeroCells z.cells (m+1)).toList=ws;have hl:ws.length=(m+1)*i.size:=by grind [Builtin.zeroCells]
   have I:cK ws=true:=by grind [NS]
   have s:dJ w.heap b (d.length+n*i.size) ws:=G.canG ws _ (by grind) λj O R=>Q j (by omega) (by omega)
   obtain⟨B,O,R,Z⟩:=qO (P:=P) (b:=b) ws (d.length+n*i.size) 0 w (by simpa using s) (by simpa using qP _ _ s) I;refine⟨.tuple #[],B,?_,R,k _ _ ?_⟩
   .rw [hb];simp[Builtin.clear_,run_underlying E,zeroValue,typeInfo,hi,y,hws,O]
   .rw [Z];have N:=aO.setsG ws (d.length+n*i.size) G;have e1:d.length+n*i.size=(d++cs).length:=by simp[u]
    have C:ws.length<=post.length:=by omega
    rw[e1,rj _ _ _ C]at N;rw[Wk,e1];refine N.frame λp hp=>⟨u,.inr ⟨b,d,ws++post.drop ws.length,e',fr,rfl,M,?_,λ_=>Q,by simpa using hp⟩⟩
    grind
theorem aA.clearS{P:Program}{t bytes m c2 ty:Nat}(T:SlT P t e sz bytes)(s:y9 P e=true){K:KQ}(h:aA H L)(i:Nat)(f:aS i L=slA e sz a n c cs)(b:n+m<=c)
  (k:∀v H',aA H' L->K v H') :
  bS P (Builtin.clear_ #[t] ty #[.slice (bM a n c sz) m c2]) H K:=by
 have d:=h.foc i;rw[f]at d;refine NV T s d b λv H' j=>k v H' ?_
 unfold aA;rw[vi i L,f];exact j
theorem aA.mk0{P:Program}{t bytes:Nat}(T:SlT P t e sz bytes){K:KQ}{m kc:IntKind}{c:Nat}(h:aA H L)(hb:bytes*c<=281474976710656)(A:c<=1099511627776)
  (k:∀a H',aA H' (slA e sz a 0 c []::L)->K (.slice a 0 c) H'):bS P (Instr.makeSlice t (.int m 0) (.int kc (c:Int))) H K:=by
 obtain⟨s,u,i,z,hi,v,rfl,rfl,y⟩:=T;refine .mk λw b=>?_
 subst b;have d:(i.bytes:Int)*(c:Int)<=281474976710656:=by
  grind
 have n:=run_make (P:=P) w t e i z s hi v m kc 0 c (Wc _) (by omega) d (by omega);simp only[Int.toNat_zero,VL]at n;refine⟨_,_,n,⟨rfl,rfl,rfl⟩,k _ _ ?_⟩;have f:aA _ _:=h.push (.cells (madeCells z.cells (c*i.size)) e (0,0));refine aA.mono f λp f=>⟨by simp,.inr ⟨_,[],(madeCells z.cells (c*i.size)).toList,e,(0,0),rfl,VE _,?_,λ_ j _ _ x=>by simp at x,by simpa using f⟩⟩
 rw[WM,size_madeCells,Nat.sub_zero]
 grind
theorem aA.mk1{P:Program}{t bytes:Nat}(T:SlT P t e 1 bytes){z0:Value}(C:vq P e=some z0)(x:z0.cells=#[z0]){K:KQ}{j kc:IntKind}{c:Nat}(h:aA H L)(hb:bytes*c<=281474976710656)(B:c<=1099511627776)
  (k:∀a H',aA H' (slA e 1 a c c (List.replicate c z0)::L)->K (.slice a c c) H'):bS P (Instr.makeSlice t (.int j (c:Int)) (.int kc (c:Int))) H K:=by
 obtain⟨s,u,i,z,hi,v,f,rfl,A⟩:=T;refine .mk λw b=>?_
 subst b;have d:(i.bytes:Int)*(c:Int)<=281474976710656:=by
  grind
 have m:=run_make (P:=P) w t e i z s hi v j kc c c (by omega) (Wc _) d (by omega);simp only[VL]at m;have y:z=z0:=by
  grind [vq]
 subst y;refine⟨_,_,m,⟨rfl,rfl,rfl⟩,k _ _ ?_⟩;have n:aA _ _:=h.push (.cells (madeCells z.cells (c*i.size)) e (0,0));have e2:(madeCells z.cells (c*i.size))=(List.replicate c z).toArray:=by
  rw[f,Wn,x];unfold madeCells
  grind
 rw[e2]at n ⊢;exact aA.sl_pt (e:=e) n 1 c (by simp)
end
end Go.Proofs.YtnjaappmhadfdaaGreatDoor
