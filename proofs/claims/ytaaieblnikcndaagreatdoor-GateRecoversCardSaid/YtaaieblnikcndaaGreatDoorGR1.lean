/-
  Lemmas for GateRecovers: part 1 of what it rests on. Conditions: none.
-/
import Derived.Test.YtaaieblnikcndaaGreatDoorGR0
set_option linter.unusedVariables false
set_option linter.unusedSimpArgs false
set_option maxRecDepth 100000
set_option maxHeartbeats 16000000
open Go.IntKind (i64 u64 i8 u8 i32 u32 i16 u16)
namespace Go.Proofs.YtaaieblnikcndaaGreatDoor
open Go
def cU.fits:cU->Value->Bool
 | .int k,.int k' _=>k=k'
 | .bool,.bool _=>true
 | .str,.string _=>true
 | .ptr,.pointer _=>true
 | .slice,.slice _ _ _=>true
 | .map,.map _=>true
 | .raw,_=>true
 | .fnv,.func (.func _) ⟨[]⟩ _=>true
 | .adr,.pointer (some ⟨_,_,none⟩)=>true
 | _,_=>false
def oe:List cU->Os->Bool
 | [],[]=>true
 | l::r,v::vs=>l.fits v&&oe r vs
 | _,_=>false
def Sh.fits:Sh->Value->Bool
 | .one l,v=>l.fits v
 | .agg ls,.agg cs=>oe ls cs.toList
 | .agg _,_=>false
def cU.lam:(l:cU)->{T:Type}->(Value->T)->l.fn T
 | .int k,_,f=>λn=>f (.int k n)
 | .bool,_,f=>λb=>f (.bool b)
 | .str,_,f=>λs=>f (.string s)
 | .ptr,_,f=>λa=>f (.pointer a)
 | .slice,_,f=>λa n c=>f (.slice a n c)
 | .map,_,f=>λr=>f (.map r)
 | .raw,_,f=>λv=>f v
 | .fnv,_,f=>λg cap=>f (.func (.func g) ⟨[]⟩ ⟨cap⟩)
 | .adr,_,f=>λb o=>f (.pointer (some ⟨b,o,none⟩))
 | .vec _ _,_,f=>f (.bool false)
def lamLs:(ls:List cU)->{T:Type}->(Os->T)->fnLs ls T
 | [],_,f=>f []
 | l::r,T,f=>l.lam (T:=fnLs r T) λv=>lamLs r λvs=>f (v::vs)
def Sh.lam:(s:Sh)->{T:Type}->(Value->T)->s.fn T
 | .one l,_,f=>l.lam f
 | .agg ls,_,f=>lamLs ls λvs=>f (.agg ⟨vs⟩)
def lamJ:(L:du)->{T:Type}->(Os->T)->JT T L
 | [],_,f=>f []
 | (_,s)::r,T,f=>s.lam (T:=JT T r) λv=>lamJ r λvs=>f (v::vs)
theorem Da{v:Value}(h:cU.fits .fnv v=true):∃g cap,v=.func (.func g) ⟨[]⟩ cap:=by
 cases v <;> (try cases h)
 rename_i fn first cap
 cases fn <;> (try cases h)
 rcases first with ⟨_|_⟩ <;> (try cases h);exact⟨_,_,rfl⟩
theorem Db{v:Value}(h:cU.fits .adr v=true):∃b o,v=.pointer (some ⟨b,o,none⟩):=by
 cases v <;> (try cases h)
 rename_i a
 rcases a with _|⟨b,o,_|s⟩ <;> (try cases h);exact⟨_,_,rfl⟩
theorem Dc(l:cU){T:Type}(f:Value->T)(v:Value)(h:l.fits v=true):l.app (l.lam f) v=some (f v):=by
 cases l
 case fnv=>obtain⟨g,⟨cap⟩,rfl⟩:=Da h;rfl
 case adr=>obtain⟨b,o,rfl⟩:=Db h;rfl
 all_goals (cases v <;> simp_all[cU.fits,cU.app,cU.lam])
theorem Dd(l:cU){T:Type}(f:l.fn T)(v:Value)(g:T)(h:l.app f v=some g):l.fits v=true:=by
 cases l
 case fnv=>
  cases v <;> (try cases h)
  rename_i fn first cap
  cases fn <;> (try cases h)
  rcases first with ⟨_|_⟩ <;> (try cases h);rfl
 case adr=>
  cases v <;> (try cases h)
  rename_i a
  rcases a with _|⟨b,o,_|s⟩ <;> (try cases h);rfl
 all_goals (cases v <;> simp_all[cU.fits,cU.app])
theorem De{l:cU}{K:Value->Prop}:l.all K↔∀v,l.fits v=true->K v:=by
 cases l
 case int k=>exact⟨λh v d=>by cases v <;> simp[cU.fits]at d;subst d;exact h _,λh n=>h _ (by simp[cU.fits])⟩
 case bool=>exact⟨λh v d=>by cases v <;> simp[cU.fits]at d;exact h _,λh n=>h _ rfl⟩
 case str=>exact⟨λh v d=>by cases v <;> simp[cU.fits]at d;exact h _,λh n=>h _ rfl⟩
 case ptr=>exact⟨λh v d=>by cases v <;> simp[cU.fits]at d;exact h _,λh n=>h _ rfl⟩
 case slice=>exact⟨λh v d=>by cases v <;> simp[cU.fits]at d;exact h _ _ _,λh a n c=>h _ rfl⟩
 case adr=>exact⟨λh v d=>by obtain⟨b,o,rfl⟩:=Db d;exact h _ _,λh b o=>h _ rfl⟩
 case fnv=>exact⟨λh v d=>by obtain⟨g,⟨cap⟩,rfl⟩:=Da d;exact h _ _,λh f cap=>h _ rfl⟩
 case map=>exact⟨λh v d=>by cases v <;> simp[cU.fits]at d;exact h _,λh n=>h _ rfl⟩
 case raw=>exact⟨λh v _=>h v,λh v=>h v rfl⟩
 case vec=>exact⟨λh v d=>(by cases v <;> cases d),λh=>trivial⟩
theorem Df:∀(ls:List cU) {T:Type} (f:Os->T) (vs:Os),oe ls vs=true->qU ls (lamLs ls f) vs=some (f vs)
 | [],_,f,[],_=>rfl
 | [],_,f,_::_,h=>by cases h
 | l::r,_,f,[],h=>by cases h
 | l::r,T,f,v::vs,h=>by
  simp only[oe,VB]at h;simp only[qU,lamLs];rw[Dc l _ v h.1];exact Df r _ vs h.2
theorem Dg:∀(ls:List cU) {T:Type} (f:fnLs ls T) (vs:Os) (g:T),qU ls f vs=some g->oe ls vs=true
 | [],_,f,[],_,_=>rfl
 | [],_,f,_::_,_,h=>by cases h
 | l::r,_,f,[],_,h=>by cases h
 | l::r,T,f,v::vs,g,h=>by
  simp only[qU]at h
  split at h
  .rename_i b a;simp only[oe,VB];exact⟨Dd l _ v _ a,Dg r _ vs g h⟩
  .cases h
theorem ls_all:∀{ls:List cU} {K:Os->Prop},allLs ls K↔∀a,oe ls a=true->K a
 | [],K=>⟨λh a b=>(by cases a with|nil=>exact h|cons=>cases b),λh=>h [] rfl⟩
 | l::r,K=>by
  simp only[allLs,De,ls_all];refine⟨λh a b=>?_,λh v b a c=>h _ (by simp[oe,b,c])⟩
  cases a with
  | nil=>cases b
  | cons v a=>
   simp only[oe,VB]at b;exact h v b.1 a b.2
theorem Ns(s:Sh){T:Type}(f:Value->T)(v:Value)(h:s.fits v=true):s.app (s.lam f) v=some (f v):=by
 cases s with
 | one l=>exact Dc l f v h
 | agg ls=>
  cases v <;> try cases h
  rename_i cs;simp only[Sh.app,Sh.lam];rw[Df ls _ cs.toList h]
theorem Nt(s:Sh){T:Type}(f:s.fn T)(v:Value)(g:T)(h:s.app f v=some g):s.fits v=true:=by
 cases s with
 | one l=>exact Dd l f v g h
 | agg ls=>
  cases v <;> try cases h
  rename_i cs;exact Dg ls f cs.toList g h
theorem sh_all{s:Sh}{K:Value->Prop}:s.all K↔∀v,s.fits v=true->K v:=by
 cases s with
 | one l=>exact De
 | agg ls=>
  simp only[Sh.all,ls_all];refine⟨λh v b=>?_,λh c a=>h _ a⟩
  cases v <;> try cases b
  exact h _ b
def lA:du->Os->Bool
 | [],[]=>true
 | (_,s)::r,v::vs=>s.fits v&&lA r vs
 | _,_=>false
def gG:du->Fr->Os->Fr
 | (t,_)::r,fr,v::vs=>gG r (iq fr t (.p v)) vs
 | _,fr,_=>fr
def gH(fr:Fr):du->Option (Os)
 | []=>some []
 | (t,_)::r=>match iK fr t,gH fr r with|some v,some vs=>some (v::vs)|_,_=>none
def appV:(L:du)->{T:Type}->JT T L->Os->Option T
 | [],_,j,[]=>some j
 | (_,s)::r,T,j,v::vs=>match s.app (T:=JT T r) j v with|some j'=>appV r j' vs|none=>none
 | _,_,_,_=>none
theorem yy:∀{L:du} {fr:Fr} {K:Fr->Prop},allJ L fr K↔∀a,lA L a=true->K (gG L fr a)
 | [],fr,K=>⟨λh a b=>(by cases a with|nil=>exact h|cons=>cases b),λh=>h [] rfl⟩
 | (t,s)::r,fr,K=>by
  simp only[allJ,lv,sh_all,yy];refine⟨λh a b=>?_,λh v b a c=>h (v::a) (by simp[lA,b,c])⟩
  cases a with
  | nil=>cases b
  | cons v a=>
   simp only[lA,VB]at b;exact h v b.1 a b.2
theorem yz:∀(L:du) {T:Type} (j:JT T L) (fr:Fr) (g:T),lu L j fr=some g->∃a,gH fr L=some a/\appV L j a=some g/\lA L a=true
 | [],_,j,fr,g,h=>⟨[],rfl,h,rfl⟩
 | (t,s)::r,T,j,fr,g,h=>by
  simp only[lu]at h
  cases hg:iK fr t with
  | none=>simp[hg]at h
  | some v=>
   simp only[hg]at h
   cases ha:s.app (T:=JT T r) j v with
   | none=>simp[ha]at h
   | some j'=>
    simp only[ha]at h;obtain⟨a,d,b,c⟩:=yz r j' fr g h;refine⟨v::a,?_,?_,?_⟩
    .simp only[gH,hg,d]
    .simp only[appV,ha,b]
    .simp only[lA,Nt s _ v _ ha,c,Bool.and_self]
theorem qf:∀(L:du) {T:Type} (j:JT T L) (fr:Fr) (vs:Os),gH fr L=some vs->lu L j fr=appV L j vs
 | [],_,j,fr,vs,h=>by simp[gH]at h;subst h;rfl
 | (t,s)::r,T,j,fr,vs,h=>by
  simp only[gH]at h
  cases hg:iK fr t with
  | none=>simp[hg]at h
  | some v=>cases hr:gH fr r with
   | none=>simp[hg,hr]at h
   | some vs'=>
    simp only[hg,hr,Option.some.injEq]at h;subst h;simp only[lu,hg,appV]
    cases s.app (T:=JT T r) j v with
    | none=>rfl
    | some j'=>exact qf r j' fr vs' hr
theorem y4:∀(L:du) {T:Type} (f:Os->T) (vs:Os),lA L vs=true->appV L (lamJ L f) vs=some (f vs)
 | [],_,f,[],_=>rfl
 | [],_,f,_::_,h=>by cases h
 | _::_,_,f,[],h=>by cases h
 | (t,s)::r,T,f,v::vs,h=>by
  simp only[lA,VB]at h;simp only[appV,lamJ];rw[Ns s _ v h.1];exact y4 r _ vs h.2
def nu:du->Nat->Bool
 | [],_=>true
 | (t,_)::r,n=>Nat.blt t n&&r.all (λx=>!(Nat.beq x.1 t))&&nu r n
theorem Dh:∀(L:du) (fr:Fr) (vs:Os),(gG L fr vs).length=fr.length
 | [],fr,vs=>by cases vs <;> rfl
 | (t,s)::r,fr,[]=>rfl
 | (t,s)::r,fr,v::vs=>by simp only[gG];rw[Dh,qe]
theorem Di:∀(L:du) (fr:Fr) (vs:Os) (t:Nat),(∀x∈L,x.1≠t)->aT (gG L fr vs) t=aT fr t
 | [],fr,vs,t,_=>by cases vs <;> rfl
 | (u,s)::r,fr,[],t,_=>rfl
 | (u,s)::r,fr,v::vs,t,h=>by
  simp only[gG];rw[Di r _ vs t (λx b=>h x (VQ _ b)),l9,V4 (λa=>h _ VO a.1)]
theorem Nu{t:Nat}{s:Sh}{r:du}{n:Nat}(h:nu ((t,s)::r) n=true):t<n/\(∀x∈r,x.1≠t)/\nu r n=true:=by
 simp only[nu,VB,Wt]at h;refine⟨by have:=h.1.1;simpa[Nat.blt_eq] using this,λx b a=>?_,h.2⟩
 have:=h.1.2 x b;rw[a]at this;simp at this
theorem tk:∀(L:du) (fr:Fr) (vs:Os),nu L fr.length=true->lA L vs=true->gH (gG L fr vs) L=some vs
 | [],fr,[],_,_=>rfl
 | [],fr,_::_,_,h=>by cases h
 | _::_,fr,[],_,h=>by cases h
 | (t,s)::r,fr,v::vs,hok,h=>by
  obtain⟨d,b,c⟩:=Nu hok;simp only[lA,VB]at h;have a:=tk r (iq fr t (.p v)) vs (by rw[qe];exact c) h.2;simp only[gG,gH,a];have:iK (gG r (iq fr t (.p v)) vs) t=some v:=by
   unfold iK;rw[Di r _ vs t b,l9,V5 ⟨rfl,d⟩]
  rw[this]
theorem Dj:∀{L:du} {fr:Fr} {vs:Os},gH fr L=some vs->∀a,(∀t v,aT fr t=some (.p v)->t<a.length)->∀t v,aT (gG L a vs) t=some (.p v)->aT fr t=some (.p v)\/(aT a t=some (.p v)/\∀x∈L,x.1≠t)
 | [],fr,vs,h,a,_,t,v,hl=>by simp[gH]at h;subst h;exact .inr ⟨hl,λx c=>by cases c⟩
 | (u,s)::r,fr,vs,h,a,hlen,t,v,hl=>by
  simp only[gH]at h
  cases hg:iK fr u with
  | none=>simp[hg]at h
  | some v'=>cases hr:gH fr r with
   | none=>simp[hg,hr]at h
   | some vs'=>
    simp only[hg,hr,Option.some.injEq]at h;subst h;have b:aT fr u=some (.p v'):=by
     unfold iK at hg
     split at hg
     .rename_i w e;cases hg;exact e
     .cases hg
    simp only[gG]at hl
    rcases Dj hr (iq a u (.p v')) (λt v h=>by rw[qe];exact hlen t v h) t v hl with h1|⟨h1,h2⟩
    .exact .inl h1
    .rw [l9]at h1
     split at h1
     .rename_i d
      cases h1
      left;rw[<-d.1];exact b
     .rename_i d;refine .inr ⟨h1,λx c=>?_⟩
      rcases VN.1 c with rfl|c
      .exact λf=>d ⟨f,by have:=hlen u v' b;exact this⟩
      .exact h2 x c
def gZ:List Oper->List Nat
 | []=>[]
 | o::r=>match o.dst with|some d=>d::gZ r|none=>gZ r
def fU:Code->List Nat
 | .region _ ops _=>gZ ops.toList
 | .seq a b=>fU a++fU b
 | .cond _ a b=>fU a++fU b
 | .block _ a=>fU a
 | .loop a=>fU a
 | _=>[]
inductive Ann where
 | no
 | reg
 | regJ (live:du)
 | seq (a b:Ann)
 | cond (a b:Ann)
 | condJ (live:du) (a b:Ann)
 | blk (a:Ann)
 | blkJ (live:du) (a:Ann)
 | loop (live:du) (a:Ann)
 | rng (shs:List Sh) (jumps:List (Option Code)) (x y:Ann)
def natJ(L:du)(μ:JT (aC->Nat) L)(fr:Fr)(H:aC):Nat:=match lu L μ fr with|some m=>m H|none=>0
def qg(L:du)(ds:List Nat)(fr:Fr)(rest:Fr->aC->Prop)(body:(Fr->aC->Prop)->Prop):Prop:=
 if nu L fr.length=false then False else
 ∀J:JT (aC->Prop) L,(ir (lw ds 0 fr) λfr0=>allJ L fr0 λfr'=>∀H',rest fr' H'->jI L J fr' H')->body (jI L J)
def rr(X:Ctx)(rd:Bool)(ops:Array Oper)(draw:Bool)(K:Fr->List DM->aC->Prop)(fr:Fr)(H:aC):Prop:=
 match draw with
 | false=>l7 X ops rd K ops.toList [] [] fr H
 | true=>re X ops (jK ops.toList []) (λfr' H'=>K fr' [] H') ops.size (Array.replicate ops.size false) [] [] [] fr H
def pan1(v:Value):Exit:=.panic [{ v,recovered:=false }]
abbrev QT:=Exit->Fr->List DM->aC->Prop
def gI(H:aC)(l:Nat)(R:Loop):aC:=H.setIfInBounds l (.loop R)
def vA:Fr->List Tmp->Os->Fr
 | fr,t::ts,v::vs=>vA (iq fr t (.p v)) ts vs
 | fr,_,_=>fr
def roundEnd(l:Nat)(R:Loop)(K:KE):Exit->aC->Prop
 | .normal,H=>K (.bool true) (gI H l R)
 | .ret,H=>K (.bool false) (gI H l { R with state:=.done,pending:=some .ret })
 | .exit i,H=>K (.bool false) (gI H l { R with state:=.done,pending:=some (.exit i) })
 | _,_=>False
def jumpQ(Q:Exit->Prop):Option Code->Prop
 | none=>Q .normal
 | some .ret=>Q .ret
 | some (.exit i)=>Q (.exit i)
 | some _=>False
def jumpK(Q:Exit->Prop):List (Option Code)->Option Code->Prop
 | [],_=>False
 | [c],pd=>pd=c/\jumpQ Q c
 | c::d::r,pd=>(pd=c/\jumpQ Q c)\/jumpK Q (d::r) pd
def kw:List DM->Prop->Prop
 | [],q=>q
 | _::_,_=>False
def Ctx.kq(X:Ctx)(ds:List Nat)(fr:Fr)(Q:QT):Ctx:={ X with kp:=λv H=>Q (pan1 v) (gu ds fr) [] H }
def Ctx.np(X:Ctx):Ctx:={ X with kp:=λ_ _=>False }
def seqQ(C:QT->Fr->aC->Prop)(Q:QT):QT:=λe fr M H=>match e with|.normal=>C (λe' fr' M' H'=>Q e' fr' (M'++M) H') fr H|e=>Q e fr M H
def seqN(C:QT->Fr->aC->Prop)(Q:QT):QT:=λe fr M H=>match e with|.normal=>(match M with|[]=>C Q fr H|M=>C (λe' fr' M' H'=>Q e' fr' (M'++M) H') fr H)|e=>Q e fr M H
theorem seqN_eq(C:QT->Fr->aC->Prop)(Q:QT):seqN C Q=seqQ C Q:=by
 funext e fr M H;unfold seqN seqQ
 cases e <;> try rfl
 cases M
 .simp only[We]
 .rfl
def joinQ(J:Fr->aC->Prop)(Q:QT):QT:=λe fr M H=>match e with|.normal=>kw M (J fr H)|e=>Q e fr M H
def blkQ(id:Nat)(Q:QT):QT:=λe fr M H=>match e with|.exit i=>if i=id then Q .normal fr M H else Q (.exit i) fr M H|e=>Q e fr M H
def blkJQ(id:Nat)(J:Fr->aC->Prop)(Q:QT):QT:=λe fr M H=>match e with|.exit i=>if i=id then kw M (J fr H) else Q (.exit i) fr M H|.normal=>kw M (J fr H)|e=>Q e fr M H
def endJ(L:du)(I:JT (aC->Prop) L)(μ:JT (aC->Nat) L)(fr0:Fr)(H0:aC)(fr:Fr)(H:aC):Prop:=match lu L I fr,lu L μ fr,lu L μ fr0 with
 | some p,some m,some m0=>p H/\m H<m0 H0
 | _,_,_=>False
theorem Nv{L:du}{I:JT (aC->Prop) L}{μ:JT (aC->Nat) L}{a:Fr}{H0:aC}{fr:Fr}{H:aC}(h:endJ L I μ a H0 fr H):jI L I fr H/\natJ L μ fr H<natJ L μ a H0:=by
 unfold endJ at h;unfold jI natJ
 split at h
 .rename_i e1 e2 e3;rw[e1,e2,e3];exact h
 .exact h.elim
def loopQ(L:du)(I:JT (aC->Prop) L)(μ:JT (aC->Nat) L)(fr0:Fr)(H0:aC)(Q:QT):QT:=λe fr M H=>match e with|.normal=>kw M (endJ L I μ fr0 H0 fr H)|e=>Q e fr M H
def regQ(X:Ctx)(ds:List Nat)(fr:Fr)(Q:QT)(C:Ctx->Prop):Prop:=match X.nop with|true=>C X.np|false=>C (X.kq ds fr Q)
def norQ(Q:QT):Fr->List DM->aC->Prop:=λfr M H=>Q .normal fr M H
def ft(X:Ctx):Option Nat->Code->Ann->QT->Fr->aC->Prop
 | _,.skip,_,Q,fr,H=>Q .normal fr [] H
 | ro,.region _ ops d,.reg,Q,fr,H=>regQ X (gZ ops.toList) fr Q λY=>rr Y ro.isNone ops d (norQ Q) fr H
 | ro,.region _ ops d,.regJ L,Q,fr,H=>qg L (gZ ops.toList) fr (λfr' H'=>Q .normal fr' [] H') λJ=>regQ X (gZ ops.toList) fr Q λY=>rr Y ro.isNone ops d (λfr' M H'=>kw M (J fr' H')) fr H
 | ro,.seq a b,.seq x y,Q,fr,H=>ft X ro a x (seqN (λQ' fr' H'=>ft X ro b y Q' fr' H') Q) fr H
 | ro,.cond c a b,.cond x y,Q,fr,H=>(match evG #[] fr [] none c with
  | some (.bool t)=>(t=true->ft X ro a x Q fr H)/\(t=false->ft X ro b y Q fr H)
  | _=>False)
 | ro,.cond c a b,.condJ L x y,Q,fr,H=>(match evG #[] fr [] none c with
  | some (.bool t)=>qg L (fU a++fU b) fr (λfr' H'=>Q .normal fr' [] H') λJ=>
    (t=true->ft X ro a x (joinQ J Q) fr H)/\(t=false->ft X ro b y (joinQ J Q) fr H)
  | _=>False)
 | ro,.block id a,.blk x,Q,fr,H=>ft X ro a x (blkQ id Q) fr H
 | ro,.block id a,.blkJ L x,Q,fr,H=>qg L (fU a) fr (λfr' H'=>Q .normal fr' [] H') λJ=>ft X ro a x (blkJQ id J Q) fr H
 | ro,.loop a,.loop L x,Q,fr,H=>if nu L fr.length=false then False else ∃I:JT (aC->Prop) L,∃μ:JT (aC->Nat) L,jI L I fr H/\
   ir (lw (fU a) 0 fr) λfr0=>allJ L fr0 λfr'=>∀H',jI L I fr' H'->ft X ro a x (loopQ L I μ fr' H' Q) fr' H'
 | none,.rangeFunc g ps a b,.rng shs js x y,Q,fr,H=>(match evG #[] fr [] none g with
  | some (.func (.func gf) ⟨[]⟩ ⟨cap⟩)=>if Nat.beq shs.length ps.toList.length=false then False else
    bI gf X.calls=true/\∀R:Loop,R.state=.ready->R.pending=none->
     (∀(vs:Os) (H1:aC) (K1:KE),
      (pI shs λus=>vs=us/\H1[H.size+1]?=some (.loop R)/\ft X (some (H.size+1)) a x (λe f1 M H2=>match e with
       | .normal=>kw M (H2[H.size+1]?=some (.loop R)/\∀H2':aC,H2'=gI H2 (H.size+1) { R with state:=.busy }->ft X (some (H.size+1)) b y (λe' _ M2 H3=>kw M2 (H3[H.size+1]?=some (.loop { R with state:=.busy })/\roundEnd (H.size+1) R K1 e' H3)) f1 H2')
       | _=>False) (vA fr ps.toList us) H1)->fI X.P (H.size+1) vs H1 K1)->
     iM X.P gf ⟨.func (.yield (H.size+1)) #[] #[]::cap⟩ ((H.push (.deferred (some []))).push (.loop R)) λ_ H2=>∃(st:LoopState) (pd:Option Code),st≠.busy/\H2[H.size+1]?=some (.loop { R with state:=st,pending:=pd })/\
      ∀H2':aC,H2'=gI H2 (H.size+1) { R with state:=.exhausted,pending:=pd }->jumpK (λe=>Q e fr [.mark H.size] H2') js pd
  | _=>False)
 | _,.exit id,_,Q,fr,H=>Q (.exit id) fr [] H
 | _,.ret,_,Q,fr,H=>Q .ret fr [] H
 | _,_,_,_,_,_=>False
theorem mj{M:List DM}{q:Prop}:kw M q↔M=[]/\q:=by cases M <;> simp[kw]
theorem Dk:∀(l:List Oper) (o:Oper) (d:Tmp),o∈l->o.dst=some d->d∈gZ l
 | [],_,_,h,_=>by cases h
 | x::r,o,d,h,hd=>by
  simp only[gZ]
  rcases VN.1 h with rfl|h
  .rw [hd];exact VO
  .have:=Dk r o d h hd
   split
   .exact VQ _ this
   .exact this
structure eI(ds:List Nat)(a a':Act):Prop where
 defers:a'.defers=a.defers
 size:a'.tmps.size=a.tmps.size
 same:∀t,t∉ds->a'.tmps[t]?=a.tmps[t]?
theorem eI.refl(ds:List Nat)(a:Act):eI ds a a:=⟨rfl,rfl,λ_ _=>rfl⟩
theorem eI.trans{ds:List Nat}{a b c:Act}(h:eI ds a b)(k:eI ds b c):eI ds a c:=
 ⟨k.defers.trans h.defers,k.size.trans h.size,λt d=>(k.same t d).trans (h.same t d)⟩
theorem eI.put{ds:List Nat}{a b:Act}(h:eI ds a b){d:Option Tmp}(hd:∀t,d=some t->t∈ds)(v:Value):eI ds a (b.put d v):=by
 cases d with
 | none=>exact h
 | some t=>
  refine⟨h.defers,?_,λu c=>?_⟩
  .rw [rh,Array.size_setIfInBounds];exact h.size
  .rw [rh,Array.getElem?_setIfInBounds,V4 (λe=>c (by rw[<-e];exact hd t rfl))];exact h.same u c
theorem tn(ds:List Nat)(fr:Fr):(gu ds fr).length=fr.length:=by
 unfold gu
 induction ds generalizing fr with
 | nil=>rfl
 | cons d r ih=>simp only[List.foldl_cons];rw[ih,qe]
theorem vB{ds:List Nat}:∀{fr:Fr} {t:Nat} {s:SV},aT (gu ds fr) t=some s->s=.x\/(aT fr t=some s/\t∉ds):=by
 unfold gu
 induction ds with
 | nil=>intro fr t s h;exact .inr ⟨h,by simp⟩
 | cons d r ih=>
  intro fr t s h;simp only[List.foldl_cons]at h
  rcases ih h with a|⟨a,b⟩
  .exact .inl a
  .rw [l9]at a
   split at a
   .cases a;exact .inl rfl
   .rename_i f
    by_cases hd:d=t
    .left;have c:¬d<fr.length:=λh=>f ⟨hd,h⟩
     rw[eH,List.getElem?_eq_none (by omega)]at a
     cases a
    .exact .inr ⟨a,by simp[b];exact λe=>hd e.symm⟩
theorem Dl(n:Nat):∀a,lw.memD n a=true↔n∈a
 | []=>by simp[lw.memD]
 | m::r=>by
  unfold lw.memD;rw[VN,<-Dl n r]
  cases h:Nat.beq n m with
  | true=>simp[WL h]
  | false=>
   have:n≠m:=λe=>by subst e;rw[Nat.beq_refl]at h;cases h
   simp[this]
theorem Dm(ds:List Nat):∀(fr:Fr) (i t:Nat),aT (lw ds i fr) t=(aT fr t).map λs=>if i+t∈ds then .x else s
 | [],_,_=>rfl
 | s::r,i,0=>by
  simp only[lw,aT,Wj,WM];have:=Dl i ds
  cases h:lw.memD i ds with
  | true=>rw[V5 (this.1 h)]
  | false=>rw[V4 (λhm=>by rw[this.2 hm]at h;cases h)]
 | s::r,i,t+1=>by
  simp only[lw,aT];rw[Dm ds r (i+1) t,Wy,Yj 1 t]
theorem Dn:∀(ds:List Nat) (fr:Fr) (t:Nat),aT (gu ds fr) t=(aT fr t).map λs=>if t∈ds then .x else s
 | [],fr,t=>by simp[gu]
 | d::r,fr,t=>by
  have:gu (d::r) fr=gu r (iq fr d .x):=rfl;rw[this,Dn r,l9]
  by_cases h:d=t
  .subst h
   by_cases hl:d<fr.length
   .rw [V5 ⟨rfl,hl⟩,eH,List.getElem?_eq_getElem hl];simp
   .rw [V4 (λx=>hl x.2),eH,List.getElem?_eq_none (by omega)];rfl
  .rw [V4 (λx=>h x.1)]
   have e:(t∈d::r)=(t∈r):=by rw[VN,eq_iff_iff];exact⟨λx=>x.resolve_left λe=>h e.symm,.inr⟩
   simp only[e]
theorem Do(ds:List Nat)(fr:Fr):lw ds 0 fr=gu ds fr:=by
 apply WU;intro t;rw[<-eH,<-eH,Dm,Dn,VX]
theorem ru{fr c:Fr}{a i:Act}{ds:List Nat}{L:du}{vs:Os}(R:Rel fr a)(K:eI ds a i)(k:Rel c i)(n:gH c L=some vs):Rel (gG L (gu ds fr) vs) i:=by
 have d:c.length=fr.length:=by rw[<-k.size,K.size,R.size]
 refine⟨by rw[Dh,tn,K.size];exact R.size,λt v h=>?_,λt j w v h=>?_⟩
 .rcases Dj n (gu ds fr) (λt v h=>by
    rw[tn,<-d];rw[eH]at h;exact (List.getElem?_eq_some_iff.1 h).1) t v h with h1|⟨h1,_⟩
  .exact k.pv _ _ h1
  .rcases vB h1 with b|⟨b,m⟩
   .cases b
   .rw [K.same t m];exact R.pv _ _ b
 .have key:∀(L:du) (f:Fr) (vs:Os),(∀t j w v,aT f t≠some (.g j w v))->∀t j w v,aT (gG L f vs) t≠some (.g j w v):=by
   intro L
   induction L with
   | nil=>intro f vs e t j w v;cases vs <;> exact e t j w v
   | cons x r ih=>
    intro f vs e t j w v;obtain⟨u,s⟩:=x
    cases vs with
    | nil=>exact e t j w v
    | cons v' vs=>
     simp only[gG];refine ih _ vs (λt j w v h=>?_) t j w v
     rw[l9]at h
     split at h
     .cases h
     .exact e t j w v h
  refine key L _ vs (λt j w v h=>?_) t j w v h
  rcases vB h with b|⟨b,_⟩
  .cases b
  .exact R.ng _ _ _ _ b
def DM.dfr:DM->Deferred
 | .mark r=>{ target:=.collected r,args:=#[] }
 | .fn g cap=>{ target:=.fn (.func g) ⟨cap⟩,args:=#[] }
def nv(M:List DM):List Deferred:=M.map DM.dfr
structure iP(ds:List Nat)(M:List DM)(a a':Act):Prop where
 defers:a'.defers=nv M++a.defers
 size:a'.tmps.size=a.tmps.size
 same:∀t,t∉ds->a'.tmps[t]?=a.tmps[t]?
theorem iP.of{ds:List Nat}{a b:Act}(h:eI ds a b):iP ds [] a b:=⟨h.defers,h.size,h.same⟩
theorem iP.keep{ds:List Nat}{a b:Act}(h:iP ds [] a b):eI ds a b:=⟨h.defers,h.size,h.same⟩
theorem iP.trans{ds:List Nat}{M N:List DM}{a b c:Act}(h:iP ds M a b)(k:iP ds N b c):iP ds (N++M) a c:=
 ⟨by rw[k.defers,h.defers];simp[nv],k.size.trans h.size,λt d=>(k.same t d).trans (h.same t d)⟩
theorem iP.mono{ds c:List Nat}{M:List DM}{a b:Act}(h:iP ds M a b)(hs:∀t∈ds,t∈c):iP c M a b:=
 ⟨h.defers,h.size,λt d=>h.same t (λhm=>d (hs t hm))⟩
def Out(w0:World)(a0:Act)(ds:List Nat)(Q:QT):Exit->Act->World->Prop
 | e,a,w=>bW w0 w/\∃M,iP ds M a0 a/\match e with
  | .normal=>∃fr,Rel fr a/\Q .normal fr M w.heap
  | .exit i=>∃fr,Rel fr a/\Q (.exit i) fr M w.heap
  | .ret=>∃fr,Rel fr a/\Q .ret fr M w.heap
  | .panic ch=>∃fr,Rel fr a/\Q (.panic ch) fr M w.heap
  | _=>False
theorem rel_kill{fr:Fr}{a c:Act}{ds:List Nat}(R:Rel fr a)(K:eI ds a c):Rel (gu ds fr) c:=by
 refine⟨by rw[tn,K.size];exact R.size,λt v h=>?_,λt j w v h=>?_⟩
 .rcases vB h with b|⟨b,d⟩
  .cases b
  .rw [K.same t d];exact R.pv _ _ b
 .rcases vB h with b|⟨b,_⟩
  .cases b
  .exact R.ng _ _ _ _ b
theorem Dp{X:Ctx}(hm:X.P.follows .mixedOrders=true)(F:∀f,bI f X.calls=true->gF X.P f){id:Nat}{ops:Array Oper}{d:Bool}{K:Fr->List DM->aC->Prop}{fr:Fr}{w0 w:World}{a:Act}{ro:Option Nat}
  (R:Rel fr a) (G:bW w0 w) (A:oL X ops d=true) (h:rr X ro.isNone ops d K fr w.heap):(Code.region id ops d).wpIn (FR ro) 0 X.P (λe m s=>bW w0 s/\match e with
   | .normal=>∃M,iP (gZ ops.toList) M a m/\∃c,Rel c m/\K c M s.heap
   | .panic ch=>∃v,ch=[{ v,recovered:=false }]/\eI (gZ ops.toList) a m/\X.kp v s.heap
   | _=>False) a w:=by
 have k:∀(b:Act) (o:Oper) (v:Value),o∈ops.toList->eI (gZ ops.toList) a b->eI (gZ ops.toList) a (b.put o.dst v):=
  λb o v S H=>H.put (λt O=>Dk _ o t S O) v
 cases d with
 | false=>
  refine wpIn_region_list ?_;refine rq (Inv:=eI (gZ ops.toList) a) F k (λc m s n i u y=>⟨n,[],.of y,c,i,u⟩) (λc m s g cap _ n i u y=>⟨n,_,⟨?_,y.size,y.same⟩,c,⟨i.size,i.pv,i.ng⟩,u⟩)
   (λv m s n i u=>⟨n,v,rfl,i,u⟩) ops.toList [] [] fr a w (λ_ h=>h) (eI.refl _ _) (rp R) G h
  simp[nv,DM.dfr,y.defers]
 | true=>
  simp only[rr]at h;simp only[oL,VB]at A;obtain⟨hs,E,D⟩:=A;refine wpIn_region_any hm ?_;have B:bW w0 { heap:=w.heap,tape:=w.tape,drawn:=w.drawn+1,os:=w.os,output:=w.output }:=G.trans ⟨rfl,rfl,rfl⟩;refine vp (w0:=w0) (KP:=X.kp) (isW:=isWB X ops) (bf:=bfB (jK ops.toList [])) (Q:=λm J=>(∃c,Rel c m/\K c [] J)/\eI (gZ ops.toList) a m) (λm s n i=>?_)
   (Cu E) (Inv:=eI (gZ ops.toList) a) k (λv m s n i u=>⟨n,v,rfl,i,u⟩) _ [] _ _ _ B (eI.refl _ _) ?_
  .exact⟨n,[],.of i.2,i.1⟩
  .refine vz F hs k _ _ [] [] [] fr _ a ?_ (λx N=>by cases N) (rp R) (eI.refl _ _) D h
   intro j T L I;exfalso
   rcases Wa j ops.size with C|C
   .simp [C]at I
   .simp [Array.getElem?_eq_none C]at L
theorem y5{L:du}{ds:List Nat}{fr:Fr}{rest:Fr->aC->Prop}{body:(Fr->aC->Prop)->Prop}(h:qg L ds fr rest body) :
  ∃J:Fr->aC->Prop,body J/\∀b H,J b H->∃a,gH b L=some a/\rest (gG L (gu ds fr) a) H:=by
 unfold qg at h;obtain⟨i,h⟩:=rk h;have d:nu L (gu ds fr).length=true:=by rw[tn];simpa using i
 refine⟨_,h (lamJ L λa=>rest (gG L (gu ds fr) a)) ?_,λb H f=>?_⟩
 .rw [lv,Do,yy];intro a e n c;unfold jI;rw[qf L _ _ a (tk L _ a d e),y4 L _ a e];exact c
 .unfold jI at f
  cases ha:lu L (lamJ L λa=>rest (gG L (gu ds fr) a)) b with
  | none=>rw[ha]at f;exact f.elim
  | some p=>
   rw[ha]at f;obtain⟨a,m,j,k⟩:=yz L _ b p ha;rw[y4 L _ a k]at j
   cases j
   exact⟨a,m,f⟩
def frOf(a:Act):Fr:=a.tmps.toList.map .p
theorem Dq:∀{L:du} {fr:Fr} {a:Act} {vs:Os},Rel fr a->gH fr L=some vs->gH (frOf a) L=some vs
 | [],_,_,_,_,h=>h
 | (t,s)::r,fr,a,vs,R,h=>by
  simp only[gH]at h ⊢
  cases hg:iK fr t with
  | none=>simp[hg]at h
  | some v=>cases hr:gH fr r with
   | none=>simp[hg,hr]at h
   | some vs'=>
    simp only[hg,hr,Option.some.injEq]at h;subst h;have b:aT fr t=some (.p v):=by
     unfold iK at hg
     split at hg
     .rename_i w d;cases hg;exact d
     .cases hg
    have c:=R.pv _ _ b;have:iK (frOf a) t=some v:=by
     unfold iK frOf;rw[yv,eH,Array.getElem?_toList,c];rfl
    rw[this,Dq R hr]
theorem Dr:∀{ss:List Sh} {Q:Os->Prop},pI ss Q->∃a,a.length=ss.length/\Q a
 | [],_,h=>⟨[],rfl,h⟩
 | s::r,Q,h=>by
  simp only[pI]at h;obtain⟨v,d⟩:=oJ h;obtain⟨a,b,c⟩:=Dr (ss:=r) d;exact⟨v::a,by simp[b],c⟩
theorem Ds:∀(ps:List Tmp) (vs:Os) (fr:Fr) (a:Act),Rel fr a->Rel (vA fr ps vs) { tmps:=(ps.zip vs).foldl (λt p=>t.setIfInBounds p.1 p.2) a.tmps,defers:=[] }
 | [],vs,fr,a,R=>⟨R.size,R.pv,R.ng⟩
 | t::ps,[],fr,a,R=>⟨R.size,R.pv,R.ng⟩
 | t::ps,v::vs,fr,a,R=>by
  simp only[vA,List.zip_cons_cons,List.foldl_cons];refine Ds ps vs (iq fr t (.p v)) { tmps:=a.tmps.setIfInBounds t v,defers:=[] } ⟨by simp[qe,R.size],λu x h=>?_,λu j w x h=>?_⟩
  .rw [l9]at h
   split at h
   .rename_i c;obtain⟨rfl,b⟩:=c
    cases h
    rw[Array.getElem?_setIfInBounds,V5 rfl,V5 (by rw[R.size];exact b)]
   .rename_i c;have d:=R.pv u x h
    by_cases e:t=u
    .subst e;exfalso;exact c ⟨rfl,by rw[eH]at h;exact (List.getElem?_eq_some_iff.1 h).1⟩
    .rw [Array.getElem?_setIfInBounds,V4 e];exact d
  .rw [l9]at h
   split at h
   .cases h
   .exact R.ng _ _ _ _ h
theorem Dt{X:Ctx}{ops:Array Oper}{ds:List Nat}{fr:Fr}{Q:QT}:∀l,l8 (X.kq ds fr Q) ops l=l8 X ops l
 | []=>rfl
 | i::r=>by
  unfold l8;rw[Dt r];rfl
theorem Du{X:Ctx}{ops:Array Oper}{ds:List Nat}{fr:Fr}{Q:QT}:∀n l,oK (X.kq ds fr Q) ops n l=oK X ops n l
 | 0,_=>rfl
 | n+1,l=>by
  unfold oK;simp only[Dt,Du n]
theorem Dv{X:Ctx}{ops:Array Oper}{d:Bool}{ds:List Nat}{fr:Fr}{Q:QT}(h:oL X ops d=true):oL (X.kq ds fr Q) ops d=true:=by
 unfold oL at h ⊢;simp only[Du];exact h
theorem Dw{X:Ctx}{ops:Array Oper}{d:Bool}{ds:List Nat}{fr:Fr}{Q:QT}{C:Ctx->Prop}(h:regQ X ds fr Q C)(a:oL X ops d=true) :
  ∃Y:Ctx,Y.P=X.P/\Y.calls=X.calls/\oL Y ops d=true/\(∀v H,Y.kp v H->(X.kq ds fr Q).kp v H)/\C Y:=by
 unfold regQ at h
 split at h
 .exact⟨X.np,rfl,rfl,Dv (X:=X) (ds:=[]) (fr:=[]) (Q:=λ_ _ _ _=>False) a,λ_ _ h=>h.elim,h⟩
 .exact⟨X.kq ds fr Q,rfl,rfl,Dv a,λ_ _ h=>h,h⟩
theorem and_l{a b:Bool}(h:(a&&b)=true):a=true:=by cases a <;> simp_all
theorem and_r{a b:Bool}(h:(a&&b)=true):b=true:=by cases a <;> simp_all
theorem Dx{X:Ctx}(hm:X.P.follows .mixedOrders=true)(hX:∀f,bI f X.calls=true->gF X.P f):∀(c:Code) (w0:World) (ro:Option Nat) (an:Ann) (Q:QT) (fr:Fr) (a:Act) (w:World),okC X c=true->
  Rel fr a->bW w0 w->ft X ro c an Q fr w.heap->c.wpIn (FR ro) 0 X.P (Out w0 a (fU c) Q) a w:=by
 intro c
 induction c with
 | skip=>intro w0 ro an Q fr a w m R E h;cases an <;> exact wpIn_skip ⟨E,[],.of (eI.refl _ _),fr,R,h⟩
 | exit id=>intro w0 ro an Q fr a w m R E h;cases an <;> cases ro <;> exact wpIn_exit ⟨E,[],.of (eI.refl _ _),fr,R,h⟩
 | ret=>intro w0 ro an Q fr a w m R E h;cases an <;> cases ro <;> exact wpIn_ret ⟨E,[],.of (eI.refl _ _),fr,R,h⟩
 | region id ops d=>
  intro w0 ro an Q fr a w m R E h;have r9:∀(ch:List PanicEntry) (D:Act) (G:World),bW w0 G->(∃v,ch=[{ v,recovered:=false }]/\eI (gZ ops.toList) a D/\(X.kq (gZ ops.toList) fr Q).kp v G.heap)->Out w0 a (fU (.region id ops d)) Q (.panic ch) D G:=by
   rintro ch D G B ⟨v,rfl,n,k⟩;exact⟨B,[],.of n,_,rel_kill R n,k⟩
  cases an with
  | reg=>
   have h:regQ X (gZ ops.toList) fr Q λY=>rr Y ro.isNone ops d (norQ Q) fr w.heap:=by cases ro <;> exact h
   obtain⟨Y,eP,eC,j1,y2,h⟩:=Dw h m;rw[<-eP]at hm hX ⊢;rw[<-eC]at hX;refine wpIn_mono (Dp (X:=Y) (ro:=ro) hm hX R E j1 (K:=norQ Q) h) (λe D G O=>?_)
   obtain⟨B,n⟩:=O
   cases e with
   | normal=>obtain⟨M,n,k⟩:=n;exact⟨B,M,n,k⟩
   | panic ch=>obtain⟨v,q1,q2,q3⟩:=n;exact r9 ch D G B ⟨v,q1,q2,y2 _ _ q3⟩
   | _=>exact n.elim
  | regJ L=>
   have h:qg L (gZ ops.toList) fr (λj H'=>Q .normal j [] H') λJ=>regQ X (gZ ops.toList) fr Q λY=>rr Y ro.isNone ops d (λj M H'=>kw M (J j H')) fr w.heap:=by cases ro <;> exact h
   obtain⟨J,B,n⟩:=y5 h;obtain⟨Y,eP,eC,j1,y2,B⟩:=Dw B m;rw[<-eP]at hm hX ⊢;rw[<-eC]at hX;refine wpIn_mono (Dp (X:=Y) (ro:=ro) hm hX R E j1 B) (λe D G O=>?_)
   obtain⟨k,u⟩:=O
   cases e with
   | normal=>
    obtain⟨M,u,j,A,T⟩:=u;obtain⟨rfl,T⟩:=mj.1 T;obtain⟨C,U,h8⟩:=n _ _ T;exact⟨k,[],u,_,ru R u.keep A U,h8⟩
   | panic ch=>obtain⟨v,q1,q2,q3⟩:=u;exact r9 ch D G k ⟨v,q1,q2,y2 _ _ q3⟩
   | _=>exact u.elim
  | _=>cases ro <;> exact h.elim
 | seq x y ihx ihy=>
  intro w0 ro an Q fr a w m R E h
  cases an with
  | seq N V=>
   have h:ft X ro x N (seqN (λQ' j H'=>ft X ro y V Q' j H') Q) fr w.heap:=by cases ro <;> exact h
   rw[seqN_eq]at h;refine wpIn_seq (wpIn_mono (ihx w0 ro N _ fr a w (and_l m) R E h) (λe D G O=>?_))
   obtain⟨B,M,n,k⟩:=O;have k1:iP (fU (.seq x y)) M a D:=n.mono (λt ht=>WV _ ht)
   cases e with
   | normal=>
    obtain⟨j,u,A⟩:=k;refine wpIn_mono (ihy w0 ro V _ j D G (and_r m) u B A) (λe' a'' w'' hq'=>?_)
    obtain⟨T,M',U,h8⟩:=hq';exact⟨T,M'++M,k1.trans (U.mono (λt ht=>Yk _ ht)),h8⟩
   | exit i=>exact⟨B,M,k1,k⟩
   | ret=>exact⟨B,M,k1,k⟩
   | panic ch=>exact⟨B,M,k1,k⟩
   | _=>exact k.elim
  | _=>cases ro <;> exact h.elim
 | cond c x y ihx ihy=>
  intro w0 ro an Q fr a w m R E h;have split:∀(W:QT) (N V:Ann) (t:Bool),evG #[] fr [] none c=some (.bool t)->(t=true->ft X ro x N W fr w.heap)->(t=false->ft X ro y V W fr w.heap)->
    (Code.cond c x y).wpIn (FR ro) 0 X.P (Out w0 a (fU (.cond c x y)) W) a w:=by
   intro W N V t ht B n;have hc:a.eval c=.bool t:=oM (rp (ops:=#[]) R) c _ ht trivial;refine wpIn_cond_split hc (λhb=>?_) (λhb=>?_)
   .refine wpIn_mono (ihx w0 ro N W fr a w (and_l m) R E (B hb)) (λe D G O=>?_)
    obtain⟨q1,M,q2,q3⟩:=O;exact⟨q1,M,q2.mono (λt ht=>WV _ ht),q3⟩
   .refine wpIn_mono (ihy w0 ro V W fr a w (and_r m) R E (n hb)) (λe D G O=>?_)
    obtain⟨q1,M,q2,q3⟩:=O;exact⟨q1,M,q2.mono (λt ht=>Yk _ ht),q3⟩
  cases an with
  | cond N V=>
   simp only[ft]at h
   cases he:evG #[] fr [] none c with
   | none=>simp[he]at h
   | some v=>
    cases v <;> simp only[he]at h <;> try exact h.elim
    exact split Q N V _ he h.1 h.2
  | condJ L N V=>
   simp only[ft]at h
   cases he:evG #[] fr [] none c with
   | none=>simp[he]at h
   | some v=>
    cases v <;> simp only[he]at h <;> try exact h.elim
    obtain⟨J,B,n⟩:=y5 h;refine wpIn_mono (split _ N V _ he B.1 B.2) (λe D G O=>?_)
    obtain⟨k,M,u,A⟩:=O
    cases e <;> simp only[joinQ]at A
    case normal=>
     obtain⟨j,T,U⟩:=A;obtain⟨rfl,U⟩:=mj.1 U;obtain⟨C,h8,h9⟩:=n _ _ U;exact⟨k,[],u,_,ru R u.keep T h8,h9⟩
    case exit i=>exact⟨k,M,u,A⟩
    case ret=>exact⟨k,M,u,A⟩
    case panic ch=>exact⟨k,M,u,A⟩
  | _=>cases ro <;> exact h.elim
 | block id x ih=>
  intro w0 ro an Q fr a w m R E h
  cases an with
  | blk N=>
   have h:ft X ro x N (blkQ id Q) fr w.heap:=by cases ro <;> exact h
   refine wpIn_block (wpIn_mono (ih w0 ro N _ fr a w m R E h) (λe D G O=>?_))
   obtain⟨B,M,n,k⟩:=O
   cases e with
   | normal=>exact⟨B,M,n,k⟩
   | exit i=>
    obtain⟨j,u,A⟩:=k;simp only[Exit.inBlock,blkQ,blkJQ]at A ⊢
    by_cases hi:i=id
    .simp only[hi,if_true]at A ⊢;exact⟨B,M,n,j,u,A⟩
    .simp only[hi,if_false]at A ⊢;exact⟨B,M,n,j,u,A⟩
   | ret=>exact⟨B,M,n,k⟩
   | panic ch=>exact⟨B,M,n,k⟩
   | _=>exact k.elim
  | blkJ L N=>
   have h:qg L (fU x) fr (λj H'=>Q .normal j [] H') λJ=>ft X ro x N (blkJQ id J Q) fr w.heap:=by cases ro <;> exact h
   obtain⟨J,hb,hj⟩:=y5 h;refine wpIn_block (wpIn_mono (ih w0 ro N _ fr a w m R E hb) (λe D G O=>?_))
   obtain⟨B,M,n,k⟩:=O
   cases e with
   | normal=>
    obtain⟨j,u,A⟩:=k;obtain⟨rfl,A⟩:=mj.1 A;obtain⟨C,T,U⟩:=hj _ _ A;exact⟨B,[],n,_,ru R n.keep u T,U⟩
   | exit i=>
    obtain⟨j,u,A⟩:=k;simp only[Exit.inBlock,blkQ,blkJQ]at A ⊢
    by_cases hi:i=id
    .simp only[hi,if_true]at A ⊢;obtain⟨rfl,A⟩:=mj.1 A;obtain⟨C,T,U⟩:=hj _ _ A;exact⟨B,[],n,_,ru R n.keep u T,U⟩
    .simp only[hi,if_false]at A ⊢;exact⟨B,M,n,j,u,A⟩
   | ret=>exact⟨B,M,n,k⟩
   | panic ch=>exact⟨B,M,n,k⟩
   | _=>exact k.elim
  | _=>cases ro <;> exact h.elim
 | loop x ih=>
  intro w0 ro an Q fr a w m R E h
  cases an with
  | loop L N=>
   have h:(if nu L fr.length=false then False else ∃I:JT (aC->Prop) L,∃μ:JT (aC->Nat) L,jI L I fr w.heap/\
    ir (lw (fU x) 0 fr) λfr0=>allJ L fr0 λj=>∀H',jI L I j H'->ft X ro x N (loopQ L I μ j H' Q) j H'):=by cases ro <;> exact h
   obtain⟨j1,I,μ,h0,F⟩:=rk h;have l5:nu L (gu (fU x) fr).length=true:=by rw[tn];simpa using j1
   rw[lv,Do,yy]at F;have hfr:∀(j:Fr) (H:aC),jI L I j H->∃C,gH j L=some C/\lA L C=true/\jI L I (gG L (gu (fU x) fr) C) H/\∀H'',natJ L μ (gG L (gu (fU x) fr) C) H''=natJ L μ j H'':=by
    intro j H hh;have hh0:=hh;unfold jI at hh
    cases ha:lu L I j with
    | none=>rw[ha]at hh;exact hh.elim
    | some p=>
     obtain⟨C,B,n,k⟩:=yz L _ j p ha;refine⟨C,B,k,?_,λH''=>?_⟩
     .unfold jI;rw[qf L _ _ C (tk L _ C l5 k),n];rw[ha]at hh;exact hh
     .unfold natJ;rw[qf L _ _ C (tk L _ C l5 k),qf L _ _ C B]
   have hmu:∀(j:Fr) (D:Act) (C:Os) (H:aC),Rel j D->gH j L=some C->natJ L μ (frOf D) H=natJ L μ j H:=by
    intro j D C H R' hg;unfold natJ;rw[qf L _ _ C (Dq R' hg),qf L _ _ C hg]
   refine wpIn_loop (λD G=>bW w0 G/\eI (fU x) a D/\∃C,lA L C=true/\Rel (gG L (gu (fU x) fr) C) D/\jI L I (gG L (gu (fU x) fr) C) G.heap)
    (λD G=>natJ L μ (frOf D) G.heap) ?_ ?_
   .obtain⟨C,B,n,k,_⟩:=hfr _ _ h0;exact⟨E,eI.refl _ _,C,n,ru R (eI.refl _ _) R B,k⟩
   .rintro D G ⟨B,n,C,k,u,A⟩;refine wpIn_mono (ih w0 ro N _ _ D G m u B (F C k G.heap A)) (λe a'' w'' O=>?_)
    obtain⟨T,M,U,h8⟩:=O
    cases e with
    | normal=>
     obtain⟨fr'',h9,Z⟩:=h8;obtain⟨rfl,Z⟩:=mj.1 Z;obtain⟨Z,h11⟩:=Nv Z;have k2:=n.trans U.keep;obtain⟨vs',h12,h13,h14,h15⟩:=hfr _ _ Z;have h16:=ru R k2 h9 h12;refine⟨⟨T,k2,vs',h13,h16,h14⟩,?_⟩;rw[hmu _ _ _ _ h9 h12,hmu _ _ _ _ u (tk L _ C l5 k)];exact h11
    | exit i=>exact⟨T,M,by have:=(iP.of n).trans U;rwa[We]at this,h8⟩
    | ret=>exact⟨T,M,by have:=(iP.of n).trans U;rwa[We]at this,h8⟩
    | panic ch=>exact⟨T,M,by have:=(iP.of n).trans U;rwa[We]at this,h8⟩
    | _=>exact h8.elim
  | _=>cases ro <;> exact h.elim
 | rangeFunc g ps x y ihx ihy=>
  intro w0 ro an Q fr a w m R E h
  cases ro with
  | some l0=>cases an <;> exact h.elim
  | none=>
   cases an with
   | rng shs js N V=>
    simp only[ft]at h
    split at h
    case h_2=>exact h.elim
    rename_i gf cap hg;obtain⟨j3,hmem,h⟩:=rk h;have j3:shs.length=ps.size:=by
     have:Nat.beq shs.length ps.toList.length=true:=by simpa using j3
     have:=WL this;simpa using this
    have hge:a.eval g=.func (.func gf) #[] ⟨cap⟩:=oM (rp (ops:=#[]) R) g _ hg trivial;show (Code.rangeFunc g ps x y).wpIn Fence.wide 0 X.P _ a w;refine wpIn_rangeFunc ?_;intro fn _;have u8:=h { state:=.ready,pending:=none,fn:=fn,tmps:=a.tmps,params:=ps,assign:=x,body:=y,defers:=w.heap.size } rfl rfl ?_
    .refine⟨w.heap.size+1,nv [.mark w.heap.size],(w.alloc (.deferred (some []))).alloc (.loop { state:=.ready,pending:=none,fn:=fn,tmps:=a.tmps,params:=ps,assign:=x,body:=y,defers:=w.heap.size }),
      { target:=.fn (.func gf) ⟨cap⟩,args:=#[.func (.yield (w.heap.size+1)) #[] #[]] },((w.alloc (.deferred (some []))).alloc (.loop { state:=.ready,pending:=none,fn:=fn,tmps:=a.tmps,params:=ps,assign:=x,body:=y,defers:=w.heap.size })),gf,#[.func (.yield (w.heap.size+1)) #[] #[]]++⟨cap⟩,((w.alloc (.deferred (some []))).alloc (.loop { state:=.ready,pending:=none,fn:=fn,tmps:=a.tmps,params:=ps,assign:=x,body:=y,defers:=w.heap.size })),run_enterLoop_outer _ _ _ _ _,?_,λ_ _=>trivial,?_,λhd=>(by cases hd),?_⟩
     .simp only[resolve,hge];simp[go_sem]
     .simp only[invoke];rw[tj (hX gf hmem)]
     .refine callsIn_wide.2 ?_;have e1:(#[.func (.yield (w.heap.size+1)) #[] #[]]++⟨cap⟩:Array Value)=⟨.func (.yield (w.heap.size+1)) #[] #[]::cap⟩:=by apply Array.ext';simp
      rw[e1];refine (u8.at ((w.alloc (.deferred (some []))).alloc (.loop { state:=.ready,pending:=none,fn:=fn,tmps:=a.tmps,params:=ps,assign:=x,body:=y,defers:=w.heap.size })) rfl).mono λe w3 he=>?_
      cases e <;> simp only[Fin]at he
      obtain⟨j2,st,pd,hst,S,hj⟩:=he;refine⟨pd,_,run_endLoop S hst,?_⟩;have hr4:bW w0 (w3.putObj (w.heap.size+1) (.loop { state:=.exhausted,pending:=pd,fn:=fn,tmps:=a.tmps,params:=ps,assign:=x,body:=y,defers:=w.heap.size })):=
       (E.trans (bW.trans (b:=(w.alloc (.deferred (some []))).alloc (.loop { state:=.ready,pending:=none,fn:=fn,tmps:=a.tmps,params:=ps,assign:=x,body:=y,defers:=w.heap.size })) ⟨rfl,rfl,rfl⟩ j2)).trans ⟨rfl,rfl,rfl⟩
      have hk:iP (fU (.rangeFunc g ps x y)) [.mark w.heap.size] a { a with defers:=nv [.mark w.heap.size]++a.defers }:=⟨rfl,rfl,λ_ _=>rfl⟩
      have hR:Rel fr { a with defers:=nv [.mark w.heap.size]++a.defers }:=⟨R.size,R.pv,R.ng⟩;have hjq:∀(js:List (Option Code)) (pd:Option Code) (W:Exit->Prop),jumpK W js pd->jumpQ W pd:=by
       intro js
       induction js with
       | nil=>intro pd W h;exact h.elim
       | cons c r ih=>
        intro pd W h
        cases r with
        | nil=>obtain⟨rfl,h⟩:=h;exact h
        | cons d r=>
         rcases h with ⟨rfl,h⟩|h
         .exact h
         .exact ih pd W h
      have r0:=hjq _ _ _ (hj _ rfl)
      cases pd with
      | none=>exact⟨hr4,[.mark w.heap.size],hk,fr,hR,r0⟩
      | some c=>
       cases c <;> simp only[jumpQ]at r0
       .rename_i i;exact wpIn_exit ⟨hr4,[.mark w.heap.size],hk,fr,hR,r0⟩
       .exact wpIn_ret ⟨hr4,[.mark w.heap.size],hk,fr,hR,r0⟩
    .intro C H1 K1 F;refine .mk λw1 hw1=>?_
     subst hw1;obtain⟨us,hul,rfl,hl1,hx⟩:=Dr F;refine⟨fn,_,x,y,run_yield hl1 (by simp[hul,j3]),roundIn_of_wpIn trivial ?_⟩;have hz:(ps.zip ⟨C⟩).foldl (λtmps (t,a)=>tmps.setIfInBounds t a) a.tmps=(ps.toList.zip C).foldl (λt p=>t.setIfInBounds p.1 p.2) a.tmps:=by
      rw[<-Array.foldl_toList,Array.toList_zip]
     refine wpIn_mono (ihx w1 (some (w.heap.size+1)) N _ _ _ w1 (and_l m) (by have:=Ds ps.toList C fr a R;rw[<-hz]at this;exact this) (bW.refl w1) hx) (λe a1 w2 O=>?_)
     obtain⟨hr2,M,hk2,k⟩:=O
     cases e with
     | normal=>
      obtain⟨r8,l6,k⟩:=k;obtain⟨rfl,hl2,hy⟩:=mj.1 k;refine⟨_,run_beginRound hl2 rfl,?_⟩;have hd1:a1.defers=[]:=hk2.defers;refine wpIn_mono (ihy w1 (some (w.heap.size+1)) V _ r8 a1 _ (and_r m) l6 (hr2.trans ⟨rfl,rfl,rfl⟩) (hy _ rfl)) (λe' a2 w3 O=>?_)
      obtain⟨j2,M2,hk3,u⟩:=O
      cases e' with
      | normal=>
       obtain⟨fr2,y3,u⟩:=u;obtain⟨rfl,S,A⟩:=mj.1 u;exact⟨_,_,run_endRound none S,j2.trans ⟨rfl,rfl,rfl⟩,A⟩
      | exit i=>
       obtain⟨fr2,y3,u⟩:=u;obtain⟨rfl,S,A⟩:=mj.1 u;exact⟨_,_,run_endRound (some (.exit i)) S,j2.trans ⟨rfl,rfl,rfl⟩,A⟩
      | ret=>
       obtain⟨fr2,y3,u⟩:=u;obtain⟨rfl,S,A⟩:=mj.1 u;exact⟨_,_,run_endRound (some .ret) S,j2.trans ⟨rfl,rfl,rfl⟩,A⟩
      | panic ch=>
       obtain⟨fr2,y3,u⟩:=u;obtain⟨rfl,S,A⟩:=mj.1 u;exact A.elim
      | _=>exact u.elim
     | exit i=>obtain⟨r8,l6,k⟩:=k;exact k.elim
     | ret=>obtain⟨r8,l6,k⟩:=k;exact k.elim
     | panic ch=>obtain⟨r8,l6,k⟩:=k;exact k.elim
     | _=>exact k.elim
   | _=>exact h.elim
 | scope x=>intro w0 ro an Q fr a w m R E h;cases ro <;> exact h.elim
 | label l=>intro w0 ro an Q fr a w m R E h;cases ro <;> exact h.elim
 | goto l=>intro w0 ro an Q fr a w m R E h;cases ro <;> exact h.elim
 | refuse s=>intro w0 ro an Q fr a w m R E h;cases ro <;> exact h.elim
def oN(args:Os)(n:Nat):Fr:=args.map .p++List.replicate (n-args.length) .x
def kM(X:Ctx)(fr:Fr)(H:aC):List ResultVar->(Os->Prop)->Prop
 | [],k=>k []
 | .tmp t::r,k=>(match iK fr t with|some v=>kM X fr H r λvs=>k (v::vs)|none=>False)
 | .cell a t::r,k=>(match iK fr a with
  | some (.pointer (some ⟨b,off,none⟩))=>(match aggT X.P t with
   | true=>uX X.P t λus=>(if us.length=X.P.cellsOf t then bE H b off us/\kM X fr H r λvs=>k (.agg ⟨us⟩::vs) else False)
   | false=>exT X.P t λu=>aL H b off=some u/\kM X fr H r λvs=>k (u::vs))
  | _=>False)
def qh:Os->Value
 | [v]=>v
 | vs=>.tuple ⟨vs⟩
def cC(P:Program)(g:FuncId)(cap:Os)(u:FrameMode)(H:aC)(K:FrameMode->aC->Prop):Prop:=
 ∀w,w.heap=H->CallsDIn Fence.wide 0 P g ⟨cap⟩ u w λe u' w'=>match e with
  | .returned _=>bW w w'/\K u' w'.heap
  | _=>False
def bi(v:Value)(r:Bool):FrameMode:=.panicking [{ v,recovered:=r }]
def qi(X:Ctx):List DM->aC->(aC->Prop)->Prop
 | [],H,k=>k H
 | .mark D::r,H,k=>H[D]?=some (.deferred (some []))/\qi X r (H.setIfInBounds D (.deferred none)) k
 | .fn g cap::r,H,k=>bI g X.calls=true/\cC X.P g cap .returning H λu H'=>u=.returning/\qi X r H' k
def panQ(X:Ctx)(v:Value):List DM->aC->(aC->Prop)->(aC->Prop)->Prop
 | [],H,_,kp=>kp H
 | .mark D::r,H,k,kp=>H[D]?=some (.deferred (some []))/\panQ X v r (H.setIfInBounds D (.deferred none)) k kp
 | .fn g cap::r,H,k,_=>bI g X.calls=true/\cC X.P g cap (bi v false) H λu H'=>u=bi v true/\qi X r H' k
def finQ(X:Ctx)(rs:List ResultVar)(K KP:KE):QT
 | .normal,fr,M,H=>qi X M H λH'=>kM X fr H' rs λvs=>K (qh vs) H'
 | .ret,fr,M,H=>qi X M H λH'=>kM X fr H' rs λvs=>K (qh vs) H'
 | .panic [⟨v,false,false⟩],fr,M,H=>panQ X v M H (λH'=>kM X fr H' rs λvs=>K (qh vs) H') (KP v)
 | _,_,_,_=>False
def tp(X:Ctx)(fn:Func)(an:Ann)(args:Os)(H:aC)(K KP:KE):Prop:=
 match fn.body with
 | some c=>ir (oN args fn.ntmps) λfr=>ft X none c an (finQ X fn.results.toList K KP) fr H
 | none=>False
def vcFun(X:Ctx)(fn:Func)(an:Ann)(args:Os)(H:aC)(K:KE):Prop:=tp X fn an args H K λ_ _=>False
section
variable {X:Ctx}
def rvOf(a:Act):ResultVar->Sem Value
 | .tmp t=>pure (a.tmps.getD t undef)
 | .cell c t=>do loadVar t (<-asAddr (a.tmps.getD c undef))
theorem Dy{fr:Fr}{t:Nat}{v:Value}(a:iK fr t=some v):aT fr t=some (.p v):=by
 unfold iK at a
 split at a
 .rename_i w b;cases a;exact b
 .cases a
theorem y6{a:Act}{x:ResultVar}{r:List ResultVar}{v:Value}{vs:Os}{w:World}(c:(rvOf a x).run X.P w=.ok v w)(b:(r.mapM (rvOf a)).run X.P w=.ok vs w) :
  ((x::r).mapM (rvOf a)).run X.P w=.ok (v::vs) w:=by
 simp only[List.mapM_cons,Sem.run_bind,c,b,Result.andThen_ok,Sem.run_pure]
theorem vC{fr:Fr}{a:Act}{w:World}(R:Rel fr a):∀(rs:List ResultVar) (k:Os->Prop),kM X fr w.heap rs k->
  ∃m,k m/\(rs.mapM (rvOf a)).run X.P w=.ok m w
 | [],k,h=>⟨[],h,by simp⟩
 | .tmp t::r,k,h=>by
  simp only[kM]at h
  cases hg:iK fr t with
  | none=>simp[hg]at h
  | some v=>
   simp only[hg]at h;obtain⟨m,i,e⟩:=vC R r _ h;have n:=R.pv _ _ (Dy hg);exact⟨_,i,y6 (by simp[rvOf,n]) e⟩
 | .cell c t::r,k,h=>by
  simp only[kM]at h
  cases hg:iK fr c with
  | none=>simp[hg]at h
  | some v=>
   have n:=R.pv _ _ (Dy hg);simp only[hg]at h
   split at h
   .rename_i b off C
    cases C
    have x:(asAddr (a.tmps.getD c undef)).run X.P w=.ok ⟨b,off,none⟩ w:=by
     rw[Y8,n];rfl
    split at h
    .rename_i d;unfold uX at h
     split at h
     .rename_i s _;obtain⟨D,h⟩:=te (ls:=s) h
      split at h
      .rename_i j;obtain⟨m,i,e⟩:=vC R r _ h.2;have f:=Cm (P:=X.P) d j h.1;simp only[Instr.loadAt,Instr.sureAddr,Sem.run_bind,Sem.run_pure,Result.andThen_ok]at f;exact⟨_,i,y6 (by simp only[rvOf,Sem.run_bind,x,Result.andThen_ok,f]) e⟩
      .exact h.elim
     .exact h.elim
    .rename_i d;have A:=Cj h;obtain⟨u,y,B⟩:=pT h;obtain⟨m,i,e⟩:=vC R r _ B;have f:=Cn (P:=X.P) A d y;simp only[Instr.loadAt,Instr.sureAddr,Sem.run_bind,Sem.run_pure,Result.andThen_ok]at f;exact⟨_,i,y6 (by simp only[rvOf,Sem.run_bind,x,Result.andThen_ok,f]) e⟩
   .exact h.elim
theorem Dz{fr:Fr}{a:Act}{w:World}(R:Rel fr a)(fn:Func)(k:Value->Prop)(h:kM X fr w.heap fn.results.toList λb=>k (qh b)) :
  ∃v,k v/\(results fn a.tmps).run X.P w=.ok v w:=by
 obtain⟨b,d,c⟩:=vC R _ _ h;refine⟨_,d,?_⟩;have e:results fn a.tmps=(do let l <-fn.results.mapM (rvOf a);pure (if h:l.size=1 then l[0] else .tuple l)):=by
  rfl
 rw[e,Array.mapM_eq_mapM_toList];simp only[Sem.run_bind,Sem.run_map,c,Result.andThen_ok,Sem.run_pure];congr 1
 match b with
 | []=>rfl
 | [v]=>rfl
 | v::u::r=>rfl
theorem D1(args:Os)(n:Nat):Rel (oN args n) { tmps:=(⟨args⟩:Array Value)++Array.replicate (n-(⟨args⟩:Array Value).size) undef,defers:=[] }:=by
 refine⟨by simp[oN],λt v h=>?_,λt j w v h=>?_⟩
 .unfold oN at h;rw[eH]at h
  rcases Wa t args.length with a|a
  .rw [List.getElem?_append_left (by simpa using a)]at h;simp[a]at h;subst h;simp[Array.getElem?_append,a]
  .rw [List.getElem?_append_right (by simpa using a)]at h;rw[List.getElem?_replicate]at h
   split at h <;> cases h
 .unfold oN at h;rw[eH]at h
  rcases Wa t args.length with a|a
  .rw [List.getElem?_append_left (by simpa using a)]at h;simp[a]at h
  .rw [List.getElem?_append_right (by simpa using a)]at h;rw[List.getElem?_replicate]at h
   split at h <;> cases h
theorem D2{X:Ctx}(b:∀f,bI f X.calls=true->gF X.P f){g:FuncId}(a:bI g X.calls=true)(cap:Os)(w:World) :
  (invoke (.fn (.func g) ⟨cap⟩) #[]).run X.P w=.ok (.enter g ⟨cap⟩) w:=by
 simp only[invoke];rw[tj (b g a)];simp
theorem vD{fn:Func}{tmps:Array Value}{R:Ending->World->Prop}{w0:World}{k:aC->Prop}(c:∀f,bI f X.calls=true->gF X.P f):∀(M:List DM) (w:World),bW w0 w->qi X M w.heap k->
  (∀a,bW w0 a->k a.heap->∃v,(results fn tmps).run X.P a=.ok v a/\R (.returned v) a)->LeavesInM Fence.wide 0 X.P fn tmps R (nv M) .returning w
 | [],w,hr,h,hk=>hk w hr h
 | .mark D::r,w,hr,h,hk=>by
  obtain⟨m,i⟩:=h;refine⟨by simp,.inl ⟨D,_,rfl,run_takeDeferred m,?_⟩⟩;exact vD c r (w.putObj D (.deferred none)) (hr.trans ⟨rfl,rfl,rfl⟩) i hk
 | .fn g cap::r,w,hr,h,hk=>by
  obtain⟨j,h⟩:=h;refine⟨by simp,.inr ⟨λhd=>(by cases hd),.func g,⟨cap⟩,g,⟨cap⟩,rfl,D2 c j cap w,λ_ _=>trivial,?_⟩⟩
  refine (h w rfl).mono λe n a d=>?_
  cases e <;> simp only at d ⊢
  obtain⟨b,rfl,h⟩:=d;exact vD c r a (hr.trans b) h hk
theorem D3{fn:Func}{tmps:Array Value}{R:Ending->World->Prop}{w0:World}{v:Value}{k kp:aC->Prop}(c:∀f,bI f X.calls=true->gF X.P f):∀(M:List DM) (w:World),bW w0 w->panQ X v M w.heap k kp->
  (∀a,bW w0 a->k a.heap->∃v,(results fn tmps).run X.P a=.ok v a/\R (.returned v) a)->(∀a,bW w0 a->kp a.heap->R (.panicked [{ v,recovered:=false }]) a)->
  LeavesInM Fence.wide 0 X.P fn tmps R (nv M) (.panicking [{ v,recovered:=false }]) w
 | [],w,hr,h,_,hp=>hp w hr h
 | .mark D::r,w,hr,h,hk,hp=>by
  obtain⟨m,i⟩:=h;refine⟨by simp,.inl ⟨D,_,rfl,run_takeDeferred m,?_⟩⟩;exact D3 c r (w.putObj D (.deferred none)) (hr.trans ⟨rfl,rfl,rfl⟩) i hk hp
 | .fn g cap::r,w,hr,h,hk,hp=>by
  obtain⟨j,h⟩:=h;refine⟨by simp,.inr ⟨λhd=>(by cases hd),.func g,⟨cap⟩,g,⟨cap⟩,rfl,D2 c j cap w,λ_ _=>trivial,?_⟩⟩
  refine (h w rfl).mono λe n a d=>?_
  cases e <;> simp only at d ⊢
  obtain⟨b,rfl,h⟩:=d;exact vD c r a (hr.trans b) h hk
theorem finQ_pan{rs:List ResultVar}{K KP:KE}{ch:List PanicEntry}{fr:Fr}{M:List DM}{H:aC}(h:finQ X rs K KP (.panic ch) fr M H) :
  ∃v,ch=[{ v,recovered:=false }]/\panQ X v M H (λa=>kM X fr a rs λb=>K (qh b) a) (KP v):=by
 rcases ch with _|⟨⟨v,r,g⟩,_|⟨_,_⟩⟩
 .exact h.elim
 .cases r <;> cases g <;> first|exact h.elim|exact⟨v,rfl,h⟩
 .cases r <;> cases g <;> exact h.elim
def okF(X:Ctx)(fn:Func):Bool:=match fn.body with|some c=>okC X c|none=>true
theorem D4(hm:X.P.follows .mixedOrders=true)(u:∀f,bI f X.calls=true->gF X.P f){f:FuncId}{fn:Func}(E:X.P.funcs[f]?=some fn)(an:Ann){args:Os}{H:aC}{K KP:KE}(A:okF X fn=true)
  (h:tp X fn an args H K KP):nj X.P f ⟨args⟩ H K KP:=by
 refine .mk λw J=>?_
 unfold tp at h
 cases hb:fn.body with
 | none=>simp[hb]at h
 | some c=>
  simp only[hb,lv]at h;simp only[okF,hb]at A;subst J;refine callsIn_wide.1 (callsIn_of_wp_marks (F:=Fence.wide) (n:=0) E hb trivial (wpIn_mono (Dx hm u c w none an _ _ _ w A (D1 args fn.ntmps) (bW.refl w) h) (λe j m L=>?_)))
  obtain⟨C,M,D,t⟩:=L;have hd:j.defers=nv M:=by rw[D.defers];simp
  have s:∀a,Rel a j->∀w2,bW w w2->(kM X a w2.heap fn.results.toList λy=>K (qh y) w2.heap)->∃v,(results fn j.tmps).run X.P w2=.ok v w2/\iN w K KP (.returned v) w2:=by
   intro a d w2 k x;obtain⟨v,I,G⟩:=Dz (w:=w2) d fn (λv=>K v w2.heap) x
   exact⟨v,G,k,I⟩
  have fin:∀a,Rel a j->(qi X M m.heap λB=>kM X a B fn.results.toList λy=>K (qh y) B)->LeavesInM Fence.wide 0 X.P fn j.tmps (iN w K KP) j.defers .returning m:=by
   intro a d b;rw[hd];exact vD u M m C b (s a d)
  cases e with
  | normal=>obtain⟨a,d,b⟩:=t;exact fin a d b
  | ret=>obtain⟨a,d,b⟩:=t;exact fin a d b
  | exit i=>obtain⟨a,d,b⟩:=t;exact b.elim
  | panic ch=>
   obtain⟨a,d,b⟩:=t;obtain⟨v,rfl,b⟩:=finQ_pan b
   .show LeavesInM Fence.wide 0 X.P fn j.tmps (iN w K KP) j.defers (.panicking [{ v,recovered:=false }]) m;rw[hd];exact D3 u M m C b (s a d) (λw2 k x=>⟨v,rfl,k,x⟩)
  | _=>exact t.elim
theorem Nw(hm:X.P.follows .mixedOrders=true)(a:∀f,bI f X.calls=true->gF X.P f){f:FuncId}{fn:Func}(e:X.P.funcs[f]?=some fn)(an:Ann){args:Os}{H:aC}{K:KE}(d:okF X fn=true)
  (h:vcFun X fn an args H K):iM X.P f ⟨args⟩ H K:=
 .mk λw b=>((D4 hm a e an d h).at w b).mono λ_ _ c=>c.fin
theorem D5{P:Program}(b:X.P=P)(hm:X.P.follows .mixedOrders=true)(a:∀f,bI f X.calls=true->gF X.P f){f:FuncId}{fn:Func}(e:P.funcs[f]?=some fn){an:Ann}{args:Os}{H:aC}{K:KE}{C:Prop}(d:okF X fn=true)
  (c:vcFun X fn an args H K=C) (h:C):iM P f args.toArray H K:=by
 subst b;exact Nw hm a e an d (c▸h)
theorem Nx{P:Program}(b:X.P=P)(hm:X.P.follows .mixedOrders=true)(a:∀f,bI f X.calls=true->gF X.P f){f:FuncId}{fn:Func}(e:P.funcs[f]?=some fn){an:Ann}{args:Os}{H:aC}{K KP:KE}{C:Prop}(d:okF X fn=true)
  (c:tp X fn an args H K KP=C) (h:C):nj P f args.toArray H K KP:=by
 subst b;exact D4 hm a e an d (c▸h)
def vE(P:Program)(f:FuncId):Bool:=match P.funcs[f]? with|some fn=>!fn.body.isNone && !(fn.name == "runtime.NumGoroutine")|none=>false
theorem Ny{P:Program}{f:FuncId}(h:vE P f=true):gF P f:=by
 unfold vE at h
 split at h
 .rename_i fn a;simp only[VB,Wb]at h;exact⟨fn,a,h.1,h.2⟩
 .cases h
theorem memN_all{l:List Nat}{p:Nat->Bool}(h:l.all p=true):∀f,bI f l=true->p f=true:=by
 induction l with
 | nil=>intro f a;cases a
 | cons m r ih=>
  intro f a;simp only[List.all_cons,VB]at h;simp only[bI,VR]at a
  rcases a with a|a
  .rw [WL a];exact h.1
  .exact ih h.2 f a
theorem Nz{P:Program}{l:List Nat}(h:l.all (vE P)=true):∀f,bI f l=true->gF P f:=λf a=>Ny (memN_all h f a)
theorem iM.mono{P:Program}{f:FuncId}{args:Array Value}{H:aC}{K b:KE}(h:iM P f args H K)(i:∀v c,K v c->b v c):iM P f args H b:=
 .mk λw d=>(h.at w d).mono λe j a=>by
  cases e <;> simp only[Fin]at a ⊢
  exact⟨a.1,i _ _ a.2⟩
end
def vF(op:Op):Bool:=match op with|.call cl=>(match cl.callee with|.builtin .recover=>true|_=>false)|_=>false
def defK(K:aC->Prop):QT
 | .normal,_,M,H=>kw M (K H)
 | .ret,_,M,H=>kw M (K H)
 | _,_,_,_=>False
def vcDef(X:Ctx)(fn:Func)(an:Ann)(args:Os)(rv:Value)(H:aC)(K:aC->Prop):Prop:=
 match fn.body with
 | some (.seq (.region _ ops false) b)=>(match ops.toList,an,fn.results.toList with
  | o::r,.seq .reg y,[]=>(match o.guard,o.dst with
   | none,some t=>if vF o.op=false then False else
     l7 (X.kq [] [] λ_ _ _ _=>False) ops true (λfr' M H'=>kw M (ft X none b y (defK K) fr' H')) r [] [] (iq (oN args fn.ntmps) t (.p rv)) H
   | _,_=>False)
  | _,_,_=>False)
 | _=>False
section
variable {X:Ctx}
theorem N0{P:Program}{o:Oper}{ρ:Operand->Value}{w:World}(h:vF o.op=true):(execOp ρ o).run P w=.ok .recover w:=by
 unfold vF at h
 split at h
 .rename_i cl a
  split at h
  .rename_i b;simp[execOp,a,resolve,b,invoke,builtin]
  .cases h
 .cases h
theorem N1(hm:X.P.follows .mixedOrders=true)(hX:∀f,bI f X.calls=true->gF X.P f){f:FuncId}{fn:Func}(hf:X.P.funcs[f]?=some fn)(an:Ann){args:Os}{B:Value}{u J:FrameMode}{H:aC}{K:aC->Prop}
  (hu:(u=.returning/\B=.nilIface/\J=.returning)\/(u=bi B false/\J=bi B true))
  (n:okF X fn=true) (h:vcDef X fn an args B H K):cC X.P f args u H λO H'=>O=J/\K H':=by
 intro w hw;subst hw;unfold vcDef at h
 split at h
 case h_2=>exact h.elim
 rename_i id ops b hb;have l6:okC X b=true:=by simp only[okF,hb,okC]at n;exact and_r n
 split at h
 case h_2=>exact h.elim
 rename_i o r y D Z
 split at h
 case h_2=>exact h.elim
 rename_i t hg hd;obtain⟨I,h⟩:=rk h;have I:vF o.op=true:=by simpa using I
 refine callsDIn_of_wpSIn hf hb trivial λC cs S=>wpSIn_seq ?_
 intro bf k h9 W hF x;have h0:ops[0]?=some o:=by
  have:ops.toList[0]?=some o:=by rw[D];rfl
  simpa using this
 have j1:ops.size=r.length+1:=by rw[<-WA,D];rfl
 have N:List.range ops.size=0::List.range' 1 r.length:=by rw[j1,List.range_eq_range',List.range'_succ]
 have j3:∀a:Act,Region.wanted o (yielded ops a.tmps)=true:=λa=>by simp[Region.wanted,hg]
 generalize ha:({ tmps:=(⟨args⟩:Array Value)++Array.replicate (fn.ntmps-(⟨args⟩:Array Value).size) undef,defers:=[] }:Act)=a at *;have R0:Rel (oN args fn.ntmps) a:=by rw[<-ha];exact D1 args fn.ntmps
 have l5:a.defers=[]:=by rw[<-ha]
 have Q:(a.put o.dst B).tmps=a.tmps.setIfInBounds t B:=by rw[hd,rh]
 have R1:Rel (iq (oN args fn.ntmps) t (.p B)) (a.put o.dst B):=by
  refine⟨by rw[Q,qe,Array.size_setIfInBounds];exact R0.size,λm v E=>?_,λm j F v E=>?_⟩
  .rw [l9]at E;rw[Q,Array.getElem?_setIfInBounds,R0.size]
   split at E
   .rename_i hc;cases E;rw[V5 hc.1,V5 hc.2]
   .rename_i hc
    by_cases e:t=m
    .subst e;exfalso;exact hc ⟨rfl,by rw[eH]at E;exact (List.getElem?_eq_some_iff.1 E).1⟩
    .rw [V4 e];exact R0.pv _ _ E
  .rw [l9]at E
   split at E
   .cases E
   .exact R0.ng _ _ _ _ E
 have V:wpListIn (FR none) 0 X.P ops (λe s F=>e=.normal/\bW w F/\s.defers=[]/\∃c,Rel c s/\ft X none b y (defK K) c F.heap) r (a.put o.dst B) w:=by
  refine rq (X:=X.kq [] [] λ_ _ _ _=>False) (ro:=none) (w0:=w) (Inv:=λs=>s.defers=[]) hX (λs o' v _ u8=>?_) (λc s F h1 h2 h3 h4=>?_) (λc s F g cap _ h1 h2 h3 h4=>h3.elim) (λv s F _ _ n=>n.elim)
   r [] [] _ _ w (λo' l0=>by rw[D];exact VQ _ l0) ?_ (rp R1) (bW.refl w) h
  .cases o'.dst <;> exact u8
  .exact⟨rfl,h1,h4,c,h2,h3⟩
  .rw [hd];exact l5
 have L:wpOpsIn Fence.wide 0 X.P ops (λe s F=>e=.normal/\bW w F/\s.defers=[]/\∃c,Rel c s/\ft X none b y (defK K) c F.heap) (List.range' 1 r.length) (a.put o.dst B) w:=by
  rw[wpOpsIn_eq_wpListIn r 1 (λj=>by rw[<-Array.getElem?_toList,D,Yj];rfl)]
  exact V
 obtain⟨Y,h6,T⟩:∃Y,Y={ C with mode:=J }::cs/\step X.P (lone (bf.atR a (.inRegion ops (0::List.range' 1 r.length)::k)) (C::cs) w)=.next (lone (bf.atR (a.put o.dst B) (.inRegion ops (List.range' 1 r.length)::k)) Y w):=by
  refine⟨_,rfl,step_lone_go ?_⟩;have h7:=stepGR_op (P:=X.P) (b:=bf) (k:=k) (cs:=C::cs) (w:=w) (rest:=List.range' 1 r.length) h0 (j3 a);rw[W,Oper.semAt_none]at h7;have h8:(bf.atR a (.inRegion ops (0::List.range' 1 r.length)::k)).finish B=bf.atR (a.put o.dst B) (.inRegion ops (List.range' 1 r.length)::k):=by
   rw[Frame.finish_atR,h0];rfl
  have hr:=N0 (P:=X.P) (ρ:=a.eval) (w:=w) I;have G:=tryRecover_deferred (fr:=bf.atR a (.inRegion ops (0::List.range' 1 r.length)::k)) h9 (C::cs);rw[h7,<-h8];simp only[Frame.atR,W]at G ⊢
  rcases hu with ⟨rfl,rfl,rfl⟩|⟨rfl,rfl⟩
  .have R:recoverD (C::cs)=none:=by simp[recoverD,S]
   rw[R]at G;have r8:({ C with mode:=FrameMode.returning }:Frame)=C:=by rw[<-S]
   simp[stepG.apply,hr,G,r8]
  .have R:recoverD (C::cs)=some (B,{ C with mode:=bi B true }::cs):=by simp[recoverD,S,bi]
   rw[R]at G;simp[stepG.apply,hr,G]
 subst h6;obtain⟨e,s,F,⟨rfl,j2,r0,c,r9,U⟩,h5⟩:=wp_opsIn _ _ _ L bf k ({ C with mode:=J }::cs) W hF x;refine⟨.normal,s,{ C with mode:=J }::cs,F,rfl,?_,?_⟩
 .show b.wpSIn Fence.wide 0 X.P _ s ({ C with mode:=J }::cs) F;refine wpSIn_of_wpIn rfl (wpIn_mono (Dx hm hX b w none y _ c s F l6 r9 j2 U) λe a2 w2 hq=>?_)
  obtain⟨q1,M,q2,q3⟩:=hq;have fin:∀d,Rel d a2->kw M (K w2.heap)->a2.defers=[]/\∃O,({ C with mode:=J }::cs:List Frame)={ C with mode:=O }::cs/\∃v,(results fn a2.tmps).run X.P w2=.ok v w2/\(bW w w2/\O=J/\K w2.heap):=by
   intro d A n;obtain⟨rfl,n⟩:=mj.1 n;refine⟨by rw[q2.defers];simpa[nv] using r0,J,rfl,?_⟩;obtain⟨v,_,E⟩:=Dz (X:=X) (w:=w2) A fn (λ_=>True) (by rw[Z];trivial)
   exact⟨v,E,q1,rfl,n⟩
  cases e with
  | normal=>obtain⟨d,A,n⟩:=q3;exact fin d A n
  | ret=>obtain⟨d,A,n⟩:=q3;exact fin d A n
  | exit i=>obtain⟨d,A,n⟩:=q3;exact n.elim
  | panic ch=>obtain⟨d,A,n⟩:=q3;exact n.elim
  | _=>exact q3.elim
 .refine .of_steps (.one (fenced_calm hF x rfl) stepR_region) ?_;rw[N];refine .of_steps (.one ?_ T) h5;exact fenced_oper hF x h0 (λ_ _=>trivial)
theorem y7{P:Program}(e:X.P=P)(hm:X.P.follows .mixedOrders=true)(d:∀f,bI f X.calls=true->gF X.P f){f:FuncId}{fn:Func}(n:P.funcs[f]?=some fn){an:Ann}{args:Os}{a:Value}{u b:FrameMode}{H:aC}{K:aC->Prop}{C:Prop}
  (m:(u=.returning/\a=.nilIface/\b=.returning)\/(u=bi a false/\b=bi a true))
  (i:vcDef X fn an args a H K=C) (h:C) (j:okF X fn=true:=by kernel_rfl):cC P f args u H λc k=>c=b/\K k:=by
 subst e;exact N1 hm d n an m j (i▸h)
end
structure LOut where
 n:Nat
 ret:Nat
 ex:List (Nat×Nat)
def ny:Code->List Oper
 | .region _ ops _=>ops.toList
 | .seq a b=>ny a++ny b
 | .cond _ a b=>ny a++ny b
 | .block _ a=>ny a
 | .loop a=>ny a
 | .rangeFunc _ _ a b=>ny a++ny b
 | _=>[]
def extSh(P:Program)(d i:Nat):List Oper->Sh
 | []=>.one .raw
 | o::r=>match o.op with
  | .extract (.tmp t) j=>(match Nat.beq t d&&Nat.beq i j with|true=>(match pL P o.type with|some s=>s|none=>.one .raw)|false=>extSh P d i r)
  | _=>extSh P d i r
def y8(P:Program)(all:List Oper):List Oper->List (Nat×Sh×Sh)
 | []=>[]
 | o::r=>match o.op,o.dst with
  | .entry _,some d=>(d,extSh P d 0 all,extSh P d 1 all)::y8 P all r
  | _,_=>y8 P all r
def nxF(X:Ctx)(fn:Func):Ctx:=X.nx (match fn.body with|some c=>y8 X.P (ny c) (ny c)|none=>[])
def okAt(X:Ctx)(f:FuncId):Bool:=match X.P.funcs[f]? with|some fn=>okF (nxF X fn) fn|none=>true
theorem D6{X:Ctx}{f:FuncId}(h:okAt X f=true){fn:Func}(a:X.P.funcs[f]?=some fn):okF (nxF X fn) fn=true:=by
 unfold okAt at h;rw[a]at h;exact h
abbrev PH:=Nat->Option Obj
def aE:=PH->Prop
def eU(a b:PH):PH:=λi=>match a i with|some o=>some o|none=>b i
def phDisj(a b:PH):Prop:=∀i,a i=none\/b i=none
def aE.sep(A B:aE):aE:=λh=>∃a b,phDisj a b/\h=eU a b/\A a/\B b
instance:Mul aE:=⟨aE.sep⟩
def qj:PH:=λ_=>none
def emp:aE:=λh=>h=qj
def pt(b:Nat)(o:Obj):aE:=λh=>h=λi=>if i=b then some o else none
def pur(p:Prop):aE:=λh=>p/\h=qj
def exS{α:Type}(A:α->aE):aE:=λh=>∃x,A x h
def old(H0:aC):aE:=λh=>h=λi=>H0[i]?
def aQ(H:aC)(A:aE):Prop:=∃h:PH,(∀i o,h i=some o->H[i]?=some o)/\A h
theorem D7{a b:PH}(h:phDisj a b):eU a b=eU b a:=by
 funext i;simp only[eU]
 rcases h i with h|h <;> simp only[h] <;> split <;> simp_all
theorem ry(A B:aE):A*B=B*A:=by
 funext h;apply propext
 constructor
 .rintro⟨a,b,hd,rfl,ha,hb⟩;exact⟨b,a,λi=>(hd i).symm,D7 hd,hb,ha⟩
 .rintro⟨a,b,hd,rfl,ha,hb⟩;exact⟨b,a,λi=>(hd i).symm,D7 hd,hb,ha⟩
theorem D8(a b c:PH):eU (eU a b) c=eU a (eU b c):=by
 funext i;simp only[eU]
 cases a i <;> simp
theorem jv(A B C:aE):A*B*C=A*(B*C):=by
 funext h;apply propext
 constructor
 .rintro⟨ab,c,hd,rfl,⟨a,b,hd',rfl,ha,hb⟩,hc⟩;refine⟨a,eU b c,λi=>?_,D8 a b c,ha,b,c,λi=>?_,rfl,hb,hc⟩
  .simp only[eU]
   rcases hd' i with h|h
   .exact .inl h
   .rcases hd i with d|d
    .simp only[eU]at d
     cases ha:a i with
     | none=>exact .inl rfl
     | some o=>simp[ha]at d
    .right;simp[h,d]
  .rcases hd i with d|d
   .simp only[eU]at d
    cases ha:a i with
    | none=>simp[ha]at d;exact .inl d
    | some o=>simp[ha]at d
   .exact .inr d
 .rintro⟨a,bc,hd,rfl,ha,b,c,hd',rfl,hb,hc⟩;refine⟨eU a b,c,λi=>?_,(D8 a b c).symm,⟨a,b,λi=>?_,rfl,ha,hb⟩,hc⟩
  .rcases hd i with d|d
   .simp only[eU,d];exact hd' i
   .simp only[eU]at d
    cases hb:b i with
    | none=>simp[hb]at d;exact .inr d
    | some o=>simp[hb]at d
  .rcases hd i with d|d
   .exact .inl d
   .simp only[eU]at d
    cases hb:b i with
    | none=>exact .inr rfl
    | some o=>simp[hb]at d
instance:Std.Commutative (α:=aE) (·*·):=⟨ry⟩
instance:Std.Associative (α:=aE) (·*·):=⟨jv⟩
theorem vG(A B C:aE):A*(B*C)=B*(A*C):=by rw[<-jv,ry A B,jv]
theorem tq(h:PH):eU qj h=h:=by funext i;rfl
theorem oO(A:aE):emp*A=A:=by
 funext h;apply propext
 constructor
 .rintro⟨a,b,hd,rfl,ha,hb⟩;have:a=qj:=ha;subst this;rw[tq];exact hb
 .intro c;exact⟨qj,h,λi=>.inl rfl,(tq h).symm,rfl,c⟩
theorem vH(A:aE):A*emp=A:=by rw[ry,oO]
theorem y9(p:Prop)(A:aE)(h:PH):(pur p*A) h↔p/\A h:=by
 constructor
 .rintro⟨a,b,hd,rfl,⟨hp,rfl⟩,hb⟩;rw[tq];exact⟨hp,hb⟩
 .rintro⟨hp,hA⟩;exact⟨qj,h,λi=>.inl rfl,(tq h).symm,⟨hp,rfl⟩,hA⟩
theorem exS_sep{α:Type}(A:α->aE)(B:aE):exS A*B=exS λx=>A x*B:=by
 funext h;apply propext
 constructor
 .rintro⟨a,b,hd,rfl,⟨x,ha⟩,hb⟩;exact⟨x,a,b,hd,rfl,ha,hb⟩
 .rintro⟨x,a,b,hd,rfl,ha,hb⟩;exact⟨a,b,hd,rfl,⟨x,ha⟩,hb⟩
section
variable {H:aC}{A B F:aE}
theorem aQ.eq(h:aQ H A)(a:A=B):aQ H B:=a▸h
theorem aQ.drop(h:aQ H (A*B)):aQ H A:=by
 obtain⟨g,e,a,b,hd,rfl,c,hb⟩:=h;exact⟨a,λi o d=>e i o (by simp[eU,d]),c⟩
theorem aQ.drop'(h:aQ H (A*B)):aQ H B:=by rw[ry]at h;exact h.drop
theorem aQ.frame(h:aQ H (A*F))(e:∀h,A h->B h):aQ H (B*F):=by
 obtain⟨g,f,a,b,hd,d,c,hb⟩:=h;exact⟨g,f,a,b,hd,d,e _ c,hb⟩
theorem sat_ex{α:Type}{A:α->aE}:aQ H (exS A)↔∃x,aQ H (A x):=
 ⟨λ⟨g,b,x,a⟩=>⟨x,g,b,a⟩,λ⟨x,g,b,a⟩=>⟨g,b,x,a⟩⟩
theorem sat_exs{α:Type}{A:α->aE}:aQ H (exS A*F)↔∃x,aQ H (A x*F):=by rw[exS_sep,sat_ex]
theorem yA{p:Prop}:aQ H (pur p*A)↔p/\aQ H A:=
 ⟨λ⟨g,b,a⟩=>⟨((y9 p A g).1 a).1,g,b,((y9 p A g).1 a).2⟩,λ⟨c,g,b,a⟩=>⟨g,b,(y9 p A g).2 ⟨c,a⟩⟩⟩
theorem aQ.get{b:Nat}{o:Obj}(h:aQ H (pt b o*F)):H[b]?=some o:=by
 obtain⟨g,e,a,c,hd,rfl,d,f⟩:=h;refine e b o ?_;have:a=_:=d;subst this;simp[eU]
theorem aQ.upd{b:Nat}{o j:Obj}{e:aC}(h:aQ H (pt b o*F))(hb:e[b]?=some j)(s:∀i,i≠b->e[i]?=H[i]?):aQ e (pt b j*F):=by
 obtain⟨g,m,a,c,hd,rfl,n,k⟩:=h;have:a=_:=n;subst this;have f:c b=none:=by
  rcases hd b with h|h
  .simp at h
  .exact h
 refine⟨eU (λi=>if i=b then some j else none) c,λi o1 d=>?_,_,c,λi=>?_,rfl,rfl,k⟩
 .simp only[eU]at d
  by_cases hi:i=b
  .subst hi;simp at d;subst d;exact hb
  .rw [s i hi];refine m i o1 ?_;simp only[eU,V4 hi]at d ⊢;exact d
 .by_cases hi:i=b
  .subst hi;exact .inr f
  .left;simp[hi]
theorem aQ.push(h:aQ H F)(o:Obj):aQ (H.push o) (pt H.size o*F):=by
 obtain⟨g,d,e⟩:=h;have b:∀i c,g i=some c->i<H.size:=λi c hi=>(Array.getElem?_eq_some_iff.1 (d i c hi)).1
 refine⟨eU (λi=>if i=H.size then some o else none) g,λi o1 a=>?_,_,g,λi=>?_,rfl,rfl,e⟩
 .simp only[eU]at a
  by_cases hi:i=H.size
  .subst hi;simp at a;subst a;simp
  .simp only[V4 hi]at a;have:=b i o1 a;rw[Array.getElem?_push,V4 hi];exact d i o1 a
 .by_cases hi:i=H.size
  .subst hi;right
   cases hg:g H.size with
   | none=>rfl
   | some c=>have:=b _ _ hg;omega
  .left;simp[hi]
theorem aQ.lt{b:Nat}{o:Obj}(h:aQ H (pt b o*F)):b<H.size:=(Array.getElem?_eq_some_iff.1 h.get).1
theorem N2(H:aC):aQ H (old H):=⟨λi=>H[i]?,λ_ _ h=>h,rfl⟩
theorem aQ.was{H0:aC}(h:aQ H (old H0*F)){i:Nat}(hi:i<H0.size):H[i]?=H0[i]?:=by
 obtain⟨g,e,a,c,hd,rfl,d,f⟩:=h;have:a=_:=d;subst this;have b:H0[i]?=some H0[i]:=by simp[hi]
 rw[b];refine e i _ ?_;simp[eU,b]
end
def cellsA(b:Nat)(cs:Os)(e:TypeId):aE:=pt b (.cells cs.toArray e (0,0))
theorem aQ.cell{H:aC}{F:aE}{b:Nat}{cs:Os}{e:TypeId}(h:aQ H (cellsA b cs e*F))(o:Nat):aL H b o=cs[o]?:=by
 have:=h.get;simp[aL,this]
theorem aQ.cell_old{H H0:aC}{F:aE}(h:aQ H (old H0*F)){b o:Nat}{v:Value}(c:aL H0 b o=some v):aL H b o=some v:=by
 have hb:b<H0.size:=by
  unfold aL at c
  rcases Wa b H0.size with d|a
  .exact d
  .simp [Array.getElem?_eq_none a]at c
 simp only[aL,h.was hb];exact c
theorem D9{H:aC}{b o:Nat}{v:Value}{cs:Os}{e:TypeId}(h:H[b]?=some (.cells cs.toArray e (0,0))) :
  (iJ H b o v)[b]?=some (.cells (cs.set o v).toArray e (0,0))/\∀i,i≠b->(iJ H b o v)[i]?=H[i]?:=by
 refine⟨?_,λi hi=>?_⟩
 .simp only[iJ,Array.getElem?_modify,if_true,h,Wj];simp
 .simp only[iJ,Array.getElem?_modify];rw[V4 (λe=>hi e.symm)]
def cv(cs:Os):Nat->Os->Os
 | _,[]=>cs
 | o,v::r=>cv (cs.set o v) (o+1) r
theorem aQ.set1{H:aC}{F:aE}{b:Nat}{cs:Os}{e:TypeId}(h:aQ H (cellsA b cs e*F))(o:Nat)(v:Value):aQ (iJ H b o v) (cellsA b (cs.set o v) e*F):=
 h.upd (D9 h.get).1 (D9 h.get).2
theorem aQ.sets{H:aC}{F:aE}{b:Nat}{e:TypeId}:∀(vs:Os) {cs:Os} (o:Nat),aQ H (cellsA b cs e*F)->aQ (fJ H b o vs) (cellsA b (cv cs o vs) e*F)
 | [],cs,o,h=>h
 | v::r,cs,o,h=>by
  have:=aQ.set1 h o v;simp only[fJ,cv];exact aQ.sets r (o+1) this
theorem aQ.can{H:aC}{F:aE}{b:Nat}{cs:Os}{e:TypeId}(h:aQ H (cellsA b cs e*F)):∀(vs:Os) (o:Nat),o+vs.length<=cs.length->eT H b o vs
 | [],_,_=>trivial
 | v::r,o,hl=>by
  simp only[VE]at hl;refine⟨⟨?_,?_⟩,aQ.can h r (o+1) (by omega)⟩
  .rw [h.cell];simp;omega
  .have:=h.get;simp only[md,this];simp
def star:List aE->aE
 | []=>emp
 | A::r=>A*star r
def aA(H:aC)(L:List aE):Prop:=aQ H (star L)
def aW:Nat->List aE->aE
 | _,[]=>emp
 | 0,a::_=>a
 | n+1,_::r=>aW n r
def del:Nat->List aE->List aE
 | _,[]=>[]
 | 0,_::r=>r
 | n+1,a::r=>a::del n r
def put:Nat->aE->List aE->List aE
 | _,A,[]=>[A]
 | 0,A,_::r=>A::r
 | n+1,A,a::r=>a::put n A r
def rz:Nat->List aE->List aE
 | 0,L=>L
 | _,[]=>[]
 | n+1,_::r=>rz n r
def ordL(is:List Nat)(L:List aE):List aE:=match is with
 | []=>[]
 | i::r=>aW i L::ordL r L
def ordT(is:List Nat)(n:Nat)(L:List aE):List aE:=match is with
 | []=>rz n L
 | i::r=>aW i L::ordT r n L
theorem vI:∀(i:Nat) (L:List aE),star L=aW i L*star (del i L)
 | _,[]=>by simp[aW,del,star,oO]
 | 0,a::r=>rfl
 | n+1,a::r=>by
  have:=vI n r;simp only[aW,del,star];rw[this,vG]
theorem yB:∀(i:Nat) (A:aE) (L:List aE),star (put i A L)=A*star (del i L)
 | _,A,[]=>by simp[put,del,star]
 | 0,A,a::r=>rfl
 | n+1,A,a::r=>by
  have:=yB n A r;simp only[put,del,star];rw[this,vG]
theorem DV:∀{i j:Nat} (L:List aE),j≠i->aW j (put i emp L)=aW j L
 | i,j,[],h=>by
  cases j with
  | zero=>simp[put,aW]
  | succ n=>simp[put,aW]
 | 0,0,a::r,h=>V6 rfl h
 | 0,j+1,a::r,h=>rfl
 | i+1,0,a::r,h=>rfl
 | i+1,j+1,a::r,h=>by
  simp only[put,aW];exact DV r (by omega)
theorem yC{L L':List aE}:∀{is:List Nat},(∀j∈is,aW j L=aW j L')->ordL is L=ordL is L'
 | [],_=>rfl
 | i::r,h=>by
  simp only[ordL];rw[h i (by simp),yC (is:=r) λj a=>h j (by simp[a])]
theorem yD{H:aC}:∀(is:List Nat) (L:List aE) (F:aE),is.Nodup->aQ H (star L*F)->aQ H (star (ordL is L)*F)
 | [],L,F,_,h=>by
  simp only[ordL,star,oO];exact h.drop'
 | i::is,L,F,hn,h=>by
  rw[WW]at hn;have e:star L*F=star (put i emp L)*(aW i L*F):=by
   rw[yB,oO,vI i L];rw[ry (aW i L),jv]
  rw[e]at h;have a:=yD is _ _ hn.2 h;rw[yC (L:=put i emp L) (L':=L) (λj b=>DV L (λ(e:j=i)=>hn.1 (by rw[<-e];exact b)))]at a
  simp only[ordL,star];rw[jv,vG];exact a
theorem tr:∀(a b:List aE),star (a++b)=star a*star b
 | [],b=>by simp[star,oO]
 | x::r,b=>by simp only[WE,star];rw[tr r b,jv]
def tt:Nat->List aE->List aE
 | 0,_=>[]
 | _,[]=>[]
 | n+1,a::r=>a::tt n r
theorem DW:∀(n:Nat) (L:List aE),L=tt n L++rz n L
 | 0,L=>rfl
 | n+1,[]=>rfl
 | n+1,a::r=>by simp only[tt,rz,WE];rw[<-DW n r]
theorem DX:∀{n j:Nat} (L:List aE),j<n->aW j (tt n L)=aW j L
 | 0,_,_,h=>V6 h (by omega)
 | n+1,j,[],h=>rfl
 | n+1,0,a::r,h=>rfl
 | n+1,j+1,a::r,h=>by simp only[tt,aW];exact DX r (by omega)
theorem DY(n:Nat)(L:List aE):∀(is:List Nat),ordT is n L=ordL is L++rz n L
 | []=>rfl
 | i::r=>by simp only[ordT,ordL,WE];rw[DY n L r]
section
variable {H:aC}{L:List aE}
theorem aA.foc(h:aA H L)(i:Nat):aQ H (aW i L*star (del i L)):=by unfold aA at h;rw[vI i L]at h;exact h
theorem aA.back{i:Nat}{A:aE}(h:aQ H (A*star (del i L))):aA H (put i A L):=by unfold aA;rw[yB];exact h
theorem aA.ord(h:aA H L)(is:List Nat)(b:is.Nodup):aA H (ordL is L):=by
 have a:=yD is L emp b (by rw[vH];exact h);rw[vH]at a;exact a
theorem aA.ordt(h:aA H L)(is:List Nat)(n:Nat)(d:is.Nodup)(b:∀i∈is,i<n):aA H (ordT is n L):=by
 unfold aA at *;rw[DW n L,tr]at h;have a:=yD is _ _ d h;rw[DY,tr];rw[yC (L':=L) λj c=>DX L (b j c)]at a
 exact a
theorem aA.o{H:aC}{L:List aE}(h:aA H L)(is:List Nat)(n:Nat)(a:is.Nodup:=by decide)(h2:∀i∈is,i<n:=by decide):aA H (ordT is n L):=h.ordt is n a h2
theorem aA.tl{A:aE}(h:aA H (A::L)):aA H L:=aQ.drop' h
theorem aA.consP{p:Prop}(h:aA H (pur p::L)):p/\aA H L:=yA.1 h
theorem aA.pur{p:Prop}(h:aA H L)(a:p):aA H (pur p::L):=yA.2 ⟨a,h⟩
theorem aA.mono{A B:aE}(h:aA H (A::L))(a:∀h,A h->B h):aA H (B::L):=aQ.frame h a
theorem aA.push(h:aA H L)(o:Obj):aA (H.push o) (pt H.size o::L):=aQ.push h o
def dB(H H':aC):Prop:=∀b,b<H.size->H'[b]?=H[b]?
theorem dB.size{H b:aC}(h:dB H b):H.size<=b.size:=by
 rcases Wa b.size H.size with a|c
 .have:=h b.size a;simp[a]at this
 .exact c
theorem dB.trans{H c a:aC}(h:dB H c)(d:dB c a):dB H a:=λb hb=>(d b (Nat.lt_of_lt_of_le hb h.size)).trans (h b hb)
theorem dB.push(H:aC)(o:Obj):dB H (H.push o):=λb hb=>by rw[Array.getElem?_push,nO]
theorem aQ.grow{H a:aC}{F:aE}(h:aQ H F)(g:dB H a):aQ a F:=by
 obtain⟨p,b,c⟩:=h;exact⟨p,λi o hi=>(g i (Array.getElem?_eq_some_iff.1 (b i o hi)).1).trans (b i o hi),c⟩
theorem aQ.add{H:aC}{F:aE}{o:Obj}{b n:Nat}(hb:H[b]?=some o)(h:∃H0:aC,H0.size=n/\aQ H0 F/\dB H0 H/\n<=b):aQ H (pt b o*F):=by
 obtain⟨H0,rfl,⟨p,e,f⟩,g,j⟩:=h;have c:∀i d,p i=some d->i<H0.size:=λi d hi=>(Array.getElem?_eq_some_iff.1 (e i d hi)).1
 refine⟨eU (λi=>if i=b then some o else none) p,λi o1 a=>?_,_,p,λi=>?_,rfl,rfl,f⟩
 .simp only[eU]at a
  by_cases hi:i=b
  .subst hi;simp at a;subst a;exact hb
  .simp only[V4 hi]at a;exact (g i (c i o1 a)).trans (e i o1 a)
 .by_cases hi:i=b
  .subst hi;right
   cases hp:p i with
   | none=>rfl
   | some d=>have:=c _ _ hp;omega
  .left;simp[hi]
theorem aA.grow{H a:aC}(h:aA H L)(g:dB H a):aA a L:=aQ.grow h g
theorem aA.new{H a:aC}{b:Nat}{o:Obj}(h:aA H L)(g:dB H a)(hb:H.size<=b)(c:a[b]?=some o):aA a (pt b o::L):=
 aQ.add c ⟨H,rfl,h,g,hb⟩
theorem fL{α:Type}(l:List α)(n:Nat):aT l n=l[n]?:=by
 induction l generalizing n with
 | nil=>simp[aT]
 | cons a r ih=>cases n <;> simp[aT,ih]
theorem aQ.rdc{H:aC}{A F:aE}(h:aQ H (A*F)){b e:Nat}{cs:Os}(a:A=cellsA b cs e)(o:Nat):aL H b o=aT cs o:=by
 subst a;rw[h.cell,fL]
theorem aA.rd(h:aA H L)(i:Nat){b e:Nat}{cs:Os}(a:aW i L=cellsA b cs e)(o:Nat):aL H b o=aT cs o:=(h.foc i).rdc a o
theorem aA.r{H:aC}{L:List aE}(h:aA H L)(i:Nat){b e o:Nat}{cs:Os}(a:aW i L=cellsA b cs e:=by rfl):aL H b o=aT cs o:=h.rd i a o
theorem aA.can(h:aA H L)(i:Nat){b e:Nat}{cs:Os}(c:aW i L=cellsA b cs e)(o:Nat)(vs:Os)(a:o+vs.length<=cs.length):eT H b o vs:=by
 have:=h.foc i;rw[c]at this;exact this.can vs o a
theorem aA.set(h:aA H L)(i:Nat){b e:Nat}{cs:Os}(a:aW i L=cellsA b cs e)(o:Nat)(vs:Os):aA (fJ H b o vs) (put i (cellsA b (cv cs o vs) e) L):=by
 have:=h.foc i;rw[a]at this;exact aA.back (aQ.sets vs o this)
theorem aA.was(h:aA H L)(i:Nat){H0:aC}(a:aW i L=old H0){b:Nat}(hb:b<H0.size):H[b]?=H0[b]?:=by
 have:=h.foc i;rw[a]at this;exact this.was hb
theorem aA.cell0(h:aA H L)(i:Nat){H0:aC}(c:aW i L=old H0){b o:Nat}{v:Value}(a:aL H0 b o=some v):aL H b o=some v:=by
 have:=h.foc i;rw[c]at this;exact this.cell_old a
end
structure SlT(P:Program)(t e sz bytes:Nat):Prop where
 und:P.underlying t=some (.slice e)
 pos:0<sz
 info:∃i z,P.info? e=some i/\i.zero=some z/\i.size=sz/\i.bytes=bytes/\z.cells.size=sz
def slTB(P:Program)(t e sz bytes:Nat):Bool:=
 match P.underlying t,P.info? e with
 | some (.slice e'),some i=>(match i.zero with
  | some z=>Nat.beq e' e&&Nat.blt 0 sz&&Nat.beq i.size sz&&Nat.beq i.bytes bytes&&Nat.beq z.cells.size sz
  | none=>false)
 | _,_=>false
theorem iu{P:Program}{t e sz bytes:Nat}(h:slTB P t e sz bytes=true):SlT P t e sz bytes:=by
 unfold slTB at h
 split at h
 .rename_i m i c hi
  split at h
  .rename_i z j;simp only[VB]at h;obtain⟨⟨⟨⟨a,b⟩,d⟩,k⟩,f⟩:=h;have a:=WL a;subst a;exact⟨c,Ys b,i,z,hi,j,WL d,WL k,WL f⟩
  .cases h
 .cases h
def aP(H:aC)(a:KQ)(cs:Os):Prop:=∀j v,aT cs j=some v->a=some ⟨aV a,aS a,none⟩/\aL H (aV a) (aS a+j)=some v
theorem og{α:Type}{l:List α}{j:Nat}{v:α}(h:aT l j=some v):j<l.length:=by
 rw[fL]at h;exact (List.getElem?_eq_some_iff.1 h).1
theorem vJ{α:Type}{l:List α}{j:Nat}(h:j<l.length):aT l j=some l[j]:=by rw[fL,List.getElem?_eq_getElem h]
theorem iv(H:aC)(a:KQ):aP H a []:=λj v h=>by simp[aT]at h
theorem aP.take{H:aC}{a:KQ}{cs:Os}(h:aP H a cs)(n:Nat):aP H a (cs.take n):=λj v b=>h j v (by
 rw[fL]at b ⊢;rw[List.getElem?_take]at b
 split at b
 .exact b
 .cases b)
theorem aQ.cellG{H:aC}{F:aE}{b e:Nat}{cs:Os}{fr:Nat×Nat}(h:aQ H (pt b (.cells cs.toArray e fr)*F))(o:Nat):aL H b o=cs[o]?:=by
 have:=h.get;simp[aL,this]
theorem DZ{H:aC}{b o e:Nat}{v:Value}{cs:Os}{fr:Nat×Nat}(h:H[b]?=some (.cells cs.toArray e fr)) :
  (iJ H b o v)[b]?=some (.cells (cs.set o v).toArray e fr)/\∀i,i≠b->(iJ H b o v)[i]?=H[i]?:=by
 refine⟨?_,λi hi=>?_⟩
 .simp only[iJ,Array.getElem?_modify,if_true,h,Wj];simp
 .simp only[iJ,Array.getElem?_modify];rw[V4 (λe=>hi e.symm)]
theorem aQ.setsG{H:aC}{F:aE}{b e:Nat}{fr:Nat×Nat}:∀(vs:Os) {cs:Os} (o:Nat),aQ H (pt b (.cells cs.toArray e fr)*F)->aQ (fJ H b o vs) (pt b (.cells (cv cs o vs).toArray e fr)*F)
 | [],cs,o,h=>h
 | v::r,cs,o,h=>by
  have:=h.upd (DZ (o:=o) (v:=v) h.get).1 (DZ h.get).2;simp only[fJ,cv];exact aQ.setsG r (o+1) this
theorem aQ.canG{H:aC}{F:aE}{b e:Nat}{cs:Os}{fr:Nat×Nat}(h:aQ H (pt b (.cells cs.toArray e fr)*F)):∀(vs:Os) (o:Nat),o+vs.length<=cs.length->(∀i,o<=i->i<o+vs.length->¬(fr.1<=i/\i<fr.2))->eT H b o vs
 | [],_,_,_=>trivial
 | v::r,o,hl,hf=>by
  simp only[VE]at hl hf;refine⟨⟨?_,?_⟩,aQ.canG h r (o+1) (by omega) λi c a=>hf i (by omega) (by omega)⟩
  .rw [h.cellG];simp;omega
  .have:=h.get;have d:=hf o (VF _) (by omega);simp only[md,this];simp only[Wo,VD];omega
def slA(e sz:Nat)(a:KQ)(n c:Nat)(cs:Os):aE:=λh=>
 cs.length=n*sz/\((a=none/\n=0/\c=0/\h=qj)\/
  ∃b pre post e' fr,a=some ⟨b,pre.length,none⟩/\n<=c/\(c-n)*sz<=post.length/\(e=e->∀i,pre.length<=i->i<pre.length+c*sz->¬(fr.1<=i/\i<fr.2))/\pt b (.cells (pre++cs++post).toArray e' fr) h)
section
variable {H:aC}{F:aE}{e sz n c:Nat}{a:KQ}{cs:Os}
theorem rA(h:aQ H F):aQ H (slA e sz none 0 0 []*F):=by
 have:aQ H (emp*F):=by rw[oO];exact h
 exact this.frame λp a=>⟨by simp,.inl ⟨rfl,rfl,rfl,a⟩⟩
theorem slA_pt{b:Nat}(h:aQ H (cellsA b cs e*F))(c:cs.length=n*sz):aQ H (slA e sz (some ⟨b,0,none⟩) n n cs*F):=
 h.frame λp a=>⟨c,.inr ⟨b,[],[],e,(0,0),rfl,VF _,by simp,λ_ i _ _ d=>by simp at d,by simpa[cellsA] using a⟩⟩
theorem ky(h:aQ H (slA e sz a n c cs*F)):cs.length=n*sz/\((a=none/\n=0/\c=0/\aQ H F)\/
  ∃b pre post d fr,a=some ⟨b,pre.length,none⟩/\n<=c/\(c-n)*sz<=post.length/\(∀i,pre.length<=i->i<pre.length+c*sz->¬(fr.1<=i/\i<fr.2))/\aQ H (pt b (.cells (pre++cs++post).toArray d fr)*F)):=by
 obtain⟨g,t,x,y,hd,rfl,s,u⟩:=h;refine⟨s.1,?_⟩
 rcases s.2 with ⟨f,j,m,k⟩|⟨b,pre,post,d,fr,f,j,m,v,k⟩
 .left;refine⟨f,j,m,_,t,?_⟩;rw[k,tq];exact u
 .right;exact⟨b,pre,post,d,fr,f,j,m,v rfl,_,t,x,y,hd,rfl,k,u⟩
theorem slA_nc(h:aQ H (slA e sz a n c cs*F)):n<=c:=by
 rcases (ky h).2 with ⟨d,f,j,i⟩|⟨b,pre,post,k,fr,d,f,j,m,i⟩ <;> omega
theorem yE(h:aQ H (slA e sz a n c cs*F)):aP H a cs:=by
 obtain⟨s,f⟩:=ky h;intro j v m;have d:=og m
 rcases f with ⟨f,i,t,k⟩|⟨b,pre,post,u,fr,f,i,t,w,k⟩
 .subst i;simp[s]at d
 .subst f;refine⟨rfl,?_⟩;show aL H b (pre.length+j)=some v;rw[k.cellG];rw[VK,List.getElem?_append_right (by omega),Yf,List.getElem?_append_left d,<-fL];exact m
theorem oh:∀(vs cs:Os) (o:Nat),(cv cs o vs).length=cs.length
 | [],_,_=>rfl
 | v::r,cs,o=>by simp only[cv];rw[oh r];simp
theorem Eb:∀(vs pre cs post:Os) (o:Nat),o+vs.length<=cs.length->cv (pre++cs++post) (pre.length+o) vs=pre++cv cs o vs++post
 | [],_,_,_,_,_=>rfl
 | v::r,pre,cs,post,o,h=>by
  simp only[VE]at h;simp only[cv];have:=Eb r pre (cs.set o v) post (o+1) (by simp;omega);rw[<-Wy]at this;rw[<-this];congr 1;rw[VK,VK,List.set_append_right _ _ (by omega),Yf,List.set_append_left _ _ (by omega)]
theorem rB:∀(vs pre post:Os),vs.length<=post.length->cv (pre++post) pre.length vs=pre++vs++post.drop vs.length
 | [],_,_,_=>by simp[cv]
 | v::r,pre,[],h=>by simp at h
 | v::r,pre,p::post,h=>by
  simp only[cv];have:=rB r (pre++[v]) post (by simpa using h);simp only[V7,VE,VZ,VX,VK,WE,Wl]at this;simp only[VE,Y9,VK,WE];rw[<-this];congr 1;rw[List.set_append_right _ _ (by omega)];simp
theorem slA_set(h:aQ H (slA e sz a n c cs*F))(o:Nat)(vs:Os)(m:o+vs.length<=cs.length)(h0:vs≠[]) :
  a=some ⟨aV a,aS a,none⟩/\eT H (aV a) (aS a+o) vs/\aQ (fJ H (aV a) (aS a+o) vs) (slA e sz a n c (cv cs o vs)*F):=by
 obtain⟨d,f⟩:=ky h
 rcases f with ⟨f,j,t,k⟩|⟨b,pre,post,u,fr,f,j,t,s,k⟩
 .subst j
  cases vs with
  | nil=>exact V6 rfl h0
  | cons v r=>simp at m;omega
 .subst f;have A:n*sz<=c*sz:=W1 _ j;refine⟨rfl,k.canG vs _ (by simp[aS];omega) (λi x w=>s i (by simp only[aS]at x;omega) (by simp only[aS]at w;omega)),?_⟩
  have:=aQ.setsG vs (pre.length+o) k;rw[Eb _ _ _ _ _ m]at this;exact this.frame λp y=>⟨by rw[oh];exact d,.inr ⟨b,pre,post,u,fr,rfl,j,t,λ_=>s,y⟩⟩
theorem iQ(b o n:Nat):(⟨b,o,none⟩:Addr).add n=⟨b,o+n,none⟩:=by
 unfold Addr.add;split <;> simp_all
theorem tu{P:Program}{w:World}{m:Nat}{a2:KQ}{c2:Nat}{ws:Os}(c:aP w.heap a2 ws)(d:ws.length=m*sz) :
  (Builtin.firstCells sz m (.slice a2 m c2)).run P w=.ok ws.toArray w:=by
 cases a2 with
 | none=>
  have:ws=[]:=by
   cases ws with
   | nil=>rfl
   | cons v r=>have:=(c 0 v rfl).1;simp at this
  subst this;exact run_firstCells_none w sz m m c2
 | some a=>
  refine run_firstCells_some w sz m a m c2 ws d λj v e=>?_
  have h:=c j v (by rw[fL];exact e);simp only[Option.some.injEq]at h;rw[h.1,iQ];have b:=h.2;unfold World.cell?;unfold aL at b;simp only[Option.isSome_none,aV,aS]at b ⊢
  split at b
  .rename_i cc x1 x2 hb;rw[hb];exact b
  .cases b
theorem N3{P:Program}{t bytes m c2 ty:Nat}(T:SlT P t e sz bytes){a2:KQ}{ws:Os}{K:KE}(h:aQ H (slA e sz a n c cs*F))(V:aP H a2 ws)(s:ws.length=m*sz)(A:cT ws=true)
  (hb:(n+m)*bytes<=140737488355328) (hn:n+m<=140737488355328)
  (k:∀R Y W,aQ W (slA e sz R (n+m) Y (cs++ws)*F)->K (.slice R (n+m) Y) W) :
  cB P (Builtin.append_ #[t,t] ty #[.slice a n c,.slice a2 m c2]) H K:=by
 obtain⟨M,h0,i,z,hi,hz,rfl,rfl,D⟩:=T;refine .mk λw E=>?_
 subst E;obtain⟨d,v⟩:=ky h;have L:¬(9223372036854775807<(n:Int)+(m:Int)):=by omega
 have y:=tu (P:=P) (w:=w) (c2:=c2) V s;have C:=tu (P:=P) (w:=w.drew) (c2:=c2) V s;have N:=tu (P:=P) (w:=w.drew) (a2:=a) (m:=n) (c2:=c) (yE h) d
 by_cases hroom:n+m<=c
 .rcases v with ⟨v,S,I,u⟩|⟨b,pre,post,e',fr,v,S,I,Q,u⟩
  .subst v;subst S;subst I;obtain rfl:m=0:=by omega
   obtain rfl:ws=[]:=WN (by simpa using s);obtain rfl:cs=[]:=WN (by simpa using d);refine⟨.slice none (0+0) 0,w,?_,bW.refl w,k _ _ _ (rA u)⟩;simp[Builtin.append_,run_underlying M,sizeOf,typeInfo,hi,Builtin.lenOf,y]
  .subst v;have x:ws.length<=post.length:=by
    refine VT ?_ I;rw[s];exact W1 _ (by omega)
   have O:(n+m)*i.size<=c*i.size:=W1 _ hroom;rw[Wr]at O;have f:eT w.heap b (pre.length+n*i.size) ws:=u.canG ws _ (by simp[d];omega) λj B U=>Q j (by omega) (by omega)
   obtain⟨w',B,U,h8⟩:=qW (P:=P) (b:=b) ws (pre.length+n*i.size) 0 w (by simpa using f) (by simpa using qX _ _ f) A;refine⟨.slice (some ⟨b,pre.length,none⟩) (n+m) c,w',?_,U,k _ _ _ ?_⟩
   .simp [Builtin.append_,run_underlying M,sizeOf,typeInfo,hi,Builtin.lenOf,hroom,y,iQ,B]
   .rw [h8];have Z:=aQ.setsG ws (pre.length+n*i.size) u;have e1:pre.length+n*i.size=(pre++cs).length:=by simp[d]
    rw[e1,rB _ _ _ x]at Z;rw[WM,e1];refine Z.frame λp A=>⟨by simp[d,s,Wr],.inr ⟨b,pre,post.drop ws.length,e',fr,rfl,hroom,?_,λ_=>Q,by simpa using A⟩⟩
    rw[VU,s];have:(c-(n+m))*i.size+m*i.size=(c-n)*i.size:=by rw[<-Wr];congr 1;omega
    omega
 .have J:¬(281474976710656<Builtin.nextslicecap (n+m) c*i.bytes):=by
   have:=growslice_fits (need:=n+m) (old:=c) (bytes:=i.bytes) (by omega) hb;omega
  refine⟨.slice (some ⟨w.heap.size,0,none⟩) (n+m) (grownCap w (n+m) c e),w.drew.alloc (.cells (cs.toArray++ws.toArray++Builtin.zeroCells z.cells (grownCap w (n+m) c e-(n+m))) e),?_,⟨rfl,rfl,rfl⟩,k _ _ _ ?_⟩
  .simp [Builtin.append_,run_underlying M,sizeOf,typeInfo,zeroValue,hi,hz,Builtin.lenOf,hroom,L,J,Question.forced,N,C,newRow,grownCap];congr 2;apply Array.ext';simp[VK]
  .have u:aQ w.heap F:=h.drop';have B:=u.push (.cells (cs.toArray++ws.toArray++Builtin.zeroCells z.cells (grownCap w (n+m) c e-(n+m))) e);have G:=grownCap_ge w (n+m) c e;refine B.frame λp A=>⟨by simp[d,s,Wr],.inr ⟨w.heap.size,[],(Builtin.zeroCells z.cells (grownCap w (n+m) c e-(n+m))).toList,e,(0,0),rfl,G,?_,λ_ i _ _ hh=>by simp at hh,?_⟩⟩
   .rw [WA,size_zeroCells,D];exact VF _
   .have e2:(([]:Os)++(cs++ws)++(Builtin.zeroCells z.cells (grownCap w (n+m) c e-(n+m))).toList).toArray=cs.toArray++ws.toArray++Builtin.zeroCells z.cells (grownCap w (n+m) c e-(n+m)):=by
     apply Array.ext';simp
    rw[e2];exact A
end
section
variable {H:aC}{L:List aE}{e sz n c:Nat}{a:KQ}{cs:Os}
theorem aA.sl_rd(h:aA H L)(i:Nat)(b:aW i L=slA e sz a n c cs):aP H a cs:=yE (F:=star (del i L)) (by have:=h.foc i;rw[b]at this;exact this)
theorem aA.sl_nc(h:aA H L)(i:Nat)(b:aW i L=slA e sz a n c cs):n<=c:=slA_nc (F:=star (del i L)) (by have:=h.foc i;rw[b]at this;exact this)
theorem aA.sl_nil(h:aA H L)(e sz:Nat):aA H (slA e sz none 0 0 []::L):=rA h
theorem aA.sl_pt{b:Nat}(h:aA H (pt b (.cells cs.toArray e (0,0))::L))(sz n:Nat)(a:cs.length=n*sz):aA H (slA e sz (some ⟨b,0,none⟩) n n cs::L):=slA_pt h a
theorem aA.sl_set(h:aA H L)(i:Nat)(j:aW i L=slA e sz a n c cs)(o:Nat)(vs:Os)(f:o+vs.length<=cs.length)(h0:vs≠[]) :
  a=some ⟨aV a,aS a,none⟩/\eT H (aV a) (aS a+o) vs/\aA (fJ H (aV a) (aS a+o) vs) (put i (slA e sz a n c (cv cs o vs)) L):=by
 have:=h.foc i;rw[j]at this;obtain⟨k,b,d⟩:=slA_set this o vs f h0;exact⟨k,b,aA.back d⟩
theorem aA.append{P:Program}{t bytes m c2 ty:Nat}(T:SlT P t e sz bytes){a2:KQ}{ws:Os}{K:KE}(h:aA H L)(i:Nat)(w:aW i L=slA e sz a n c cs)(u:aP H a2 ws)(v:ws.length=m*sz)(x:cT ws=true)
  (hb:(n+m)*bytes<=140737488355328) (y:n+m<=140737488355328)
  (k:∀d f b,aA b (put i (slA e sz d (n+m) f (cs++ws)) L)->K (.slice d (n+m) f) b) :
  cB P (Builtin.append_ #[t,t] ty #[.slice a n c,.slice a2 m c2]) H K:=by
 have j:=h.foc i;rw[w]at j;exact N3 T j u v x hb y λd f b s=>k d f b (aA.back s)
theorem aA.append1{P:Program}{t bytes ty e2:Nat}(T:SlT P t e sz bytes){ws:Os}{K:KE}(h:aA H L)(i:Nat)(u:aW i L=slA e sz a n c cs)(s:ws.length=sz)(w:cT ws=true)
  (hb:(n+1)*bytes<=140737488355328) (x:n+1<=140737488355328)
  (k:∀f m b,aA b (put i (slA e sz f (n+1) m (cs++ws)) L)->K (.slice f (n+1) m) b) :
  cB P (Builtin.append_ #[t,t] ty #[.slice a n c,.slice (some ⟨H.size,0,none⟩) 1 1]) (H.push (.cells ws.toArray e2 (0,0))) K:=by
 have g:=dB.push H (.cells ws.toArray e2 (0,0));refine aA.append T (h.grow g) i u (ws:=ws) (λj v d=>⟨rfl,?_⟩) (by simpa using s) w hb x k
 simp only[aV,aS,VX];rw[fL]at d;simp[aL,d]
end
section
variable {α:Type}{enc:α->Os}{sz:Nat}{xs ys:List α}{H:aC}{a:KQ}
def flat(enc:α->Os)(xs:List α):Os:=xs.flatMap enc
@[simp] theorem flat_nil:flat enc ([]:List α)=[]:=rfl
theorem lB(x:α):flat enc (x::xs)=enc x++flat enc xs:=rfl
theorem dS:flat enc (xs++ys)=flat enc xs++flat enc ys:=by simp[flat]
theorem nA(x:α):flat enc [x]=enc x:=by simp[flat]
theorem fg(a:∀x,(enc x).length=sz):∀xs:List α,(flat enc xs).length=xs.length*sz
 | []=>by simp
 | x::r=>by rw[lB,V7,a,fg a r,VE,Wr];omega
theorem tv(a:∀x,(enc x).length=sz):∀(k:Nat) (xs:List α),(flat enc xs).drop (k*sz)=flat enc (xs.drop k)
 | 0,xs=>by simp
 | k+1,[]=>by simp
 | k+1,x::r=>by
  rw[lB,Y9,<-tv a k r,Wr,Nat.one_mul,Yj];rw[<-a x,List.drop_append];simp
theorem Ec(a:∀x,(enc x).length=sz):∀(k:Nat) (xs:List α),(flat enc xs).take (k*sz)=flat enc (xs.take k)
 | 0,xs=>by simp
 | k+1,[]=>by simp
 | k+1,x::r=>by
  rw[lB,WO,lB,<-Ec a k r,Wr,Nat.one_mul,Yj];rw[<-a x,List.take_append,Wc (by omega),Yf]
theorem Ed{β:Type}:∀{l r:List β} {j:Nat},j<l.length->aT (l++r) j=aT l j:=by
 intro l r j h;rw[fL,fL,List.getElem?_append_left h]
theorem yF{β:Type}{l r:List β}(j:Nat):aT (l++r) (l.length+j)=aT r j:=by
 rw[fL,fL,List.getElem?_append_right (by omega),Yf]
theorem vK(a:∀x,(enc x).length=sz):∀{xs:List α} {k:Nat} (b:k<xs.length) (f:Nat),f<sz->aT (flat enc xs) (k*sz+f)=aT (enc xs[k]) f
 | x::r,0,_,f,hf=>by rw[Yl,VX,lB,Ed (by rw[a];exact hf)];rfl
 | x::r,k+1,b,f,hf=>by
  rw[lB,show (k+1)*sz+f=(enc x).length+(k*sz+f) by rw[a,Wr];omega,yF,vK a (by simpa using b) f hf];rfl
theorem aP.el(h:aP H a (flat enc xs))(b:∀x,(enc x).length=sz){k:Nat}(e:k<xs.length)(f:Nat){v:Value}(c:aT (enc xs[k]) f=some v) :
  aL H (aV a) (aS a+k*sz+f)=some v:=by
 have d:f<sz:=by rw[<-b xs[k]];exact og c
 have:=(h (k*sz+f) v (by rw[vK b e f d];exact c)).2
 rwa[<-Wy]at this
theorem aP.el0(h:aP H a (flat enc xs))(b:∀x,(enc x).length=sz){k:Nat}(c:k<xs.length){v:Value}(d:aT (enc xs[k]) 0=some v) :
  aL H (aV a) (aS a+k*sz)=some v:=h.el b c 0 d
theorem aP.some(h:aP H a (flat enc xs))(b:∀x,(enc x).length=sz)(hs:0<sz){k:Nat}(c:k<xs.length):a=some ⟨aV a,aS a,none⟩:=by
 have h0:0<(flat enc xs).length:=by rw[fg b];exact Nat.mul_pos (by omega) hs
 exact (h 0 _ (vJ h0)).1
theorem tw:∀{vs:Os} {b o:Nat},(∀f v,aT vs f=some v->aL H b (o+f)=some v)->bE H b o vs
 | [],_,_,_=>trivial
 | [v],b,o,h=>h 0 v rfl
 | v::u::r,b,o,h=>⟨h 0 v rfl,tw λf w a=>by have:=h (f+1) w a;rwa[show o+(f+1)=o+1+f by omega]at this⟩
theorem aP.els(h:aP H a (flat enc xs))(b:∀x,(enc x).length=sz){k:Nat}(c:k<xs.length):bE H (aV a) (aS a+k*sz) (enc xs[k]):=
 tw λf v d=>h.el b c f d
theorem Ee:∀(vs l r:Os) (o:Nat),o+vs.length<=l.length->cv (l++r) o vs=cv l o vs++r
 | [],_,_,_,_=>rfl
 | v::vs,l,r,o,h=>by
  simp only[VE]at h;simp only[cv];rw[List.set_append_left _ _ (by omega),Ee vs _ r (o+1) (by simp;omega)]
theorem tx:∀(vs l r:Os) (o:Nat),cv (l++r) (l.length+o) vs=l++cv r o vs
 | [],_,_,_=>rfl
 | v::vs,l,r,o=>by
  simp only[cv];rw[List.set_append_right _ _ (by omega),Yf,Wy,tx vs l _ (o+1)]
theorem vL:∀(vs l:Os),vs.length=l.length->cv l 0 vs=vs:=by
 intro vs l h;have:=rB vs [] l (by omega);simp only[Wl,VZ]at this;rw[this,YA (by omega),We]
theorem yG(a:∀x,(enc x).length=sz)(y:α)(vs:Os)(f:Nat):∀{xs:List α} {k:Nat} (b:k<xs.length),f+vs.length<=sz->cv (enc xs[k]) f vs=enc y->cv (flat enc xs) (k*sz+f) vs=flat enc (xs.set k y)
 | x::r,0,_,hl,h=>by
  rw[Yl,VX,lB,Yt,lB,Ee _ _ _ _ (by rw[a];omega)];exact congrArg (·++flat enc r) h
 | x::r,k+1,b,hl,h=>by
  rw[YB,lB,lB,<-yG a y vs f (xs:=r) (k:=k) (by simpa using b) hl h,show (k+1)*sz+f=(enc x).length+(k*sz+f) by rw[a,Wr];omega,tx]
theorem vM:∀{l r:Os},cT l=true->cT r=true->cT (l++r)=true
 | [],r,_,h=>h
 | v::l,r,h,h2=>by
  have:=ym h;have a:=vM this.2 h2
  cases v <;> simp[cT]at h ⊢ <;> exact a
theorem lC(a:∀x,cT (enc x)=true):∀xs:List α,cT (flat enc xs)=true
 | []=>rfl
 | x::r=>vM (a x) (lC a r)
end
section
variable {H:aC}{L:List aE}{e sz n c:Nat}{a:KQ}{cs:Os}
theorem aA.sl_drop(h:aA H L)(i:Nat)(B:aW i L=slA e sz a n c cs)(k:Nat)(x:k<=n):aA H (put i (slA e sz (cq a k c sz) (n-k) (c-k) (cs.drop (k*sz))) L):=by
 have u:=h.foc i;rw[B]at u;refine aA.back (i:=i) (L:=L) (u.frame λp s=>?_)
 obtain⟨w,s⟩:=s;refine⟨by rw[VU,w,Nat.sub_mul],?_⟩
 rcases s with ⟨j,y,m,d⟩|⟨b,pre,post,t,fr,j,y,m,C,d⟩
 .left;subst j;subst y;subst m;exact⟨by simp[cq],by omega,by omega,d⟩
 .right;subst j;unfold cq
  by_cases e:c=k
  .rw [V5 e];have:n=k:=by omega
   subst this;have hd:cs.drop (n*sz)=[]:=by rw[<-w];simp
   refine⟨b,pre,cs++post,t,fr,rfl,by omega,by rw[show c-n-(n-n)=0 by omega];omega,λ_ i v f=>by rw[show c-n=0 by omega]at f;omega,?_⟩
   rw[hd];simpa using d
  .rw [V4 e];refine⟨b,pre++cs.take (k*sz),post,t,fr,?_,by omega,?_,λ_ i v f=>?_,?_⟩
   .have:k*sz<=n*sz:=W1 _ x;simp only[Wj,iQ,V7,VY];rw[WX (by omega)]
   .rw [show c-k-(n-k)=c-n by omega];exact m
   .have D:k*sz<=n*sz:=W1 _ x;have A:(c-k)*sz+k*sz=c*sz:=by rw[<-Wr];congr 1;omega
    rw[V7,VY,WX (by omega)]at v f;exact C rfl i (by omega) (by omega)
   .have:pre++cs.take (k*sz)++cs.drop (k*sz)++post=pre++cs++post:=by
     rw[VK,VK,<-VK (cs.take _),Ww,VK]
    rw[this];exact d
theorem aA.sl_take(h:aA H L)(i:Nat)(w:aW i L=slA e sz a n c cs)(k:Nat)(v:k<=n):aA H (put i (slA e sz a k c (cs.take (k*sz))) L):=by
 have m:=h.foc i;rw[w]at m;refine aA.back (i:=i) (L:=L) (m.frame λp j=>?_)
 obtain⟨t,j⟩:=j;have x:k*sz<=n*sz:=W1 _ v;refine⟨by rw[VY,t];omega,?_⟩
 rcases j with ⟨d,A,s,f⟩|⟨b,pre,post,u,fr,d,A,s,y,f⟩
 .left;exact⟨d,by omega,s,f⟩
 .right;refine⟨b,pre,cs.drop (k*sz)++post,u,fr,d,by omega,?_,y,?_⟩
  .have:(c-k)*sz=(c-n)*sz+(n-k)*sz:=by rw[<-Wr];congr 1;omega
   rw[V7,VU,t,this,<-Nat.sub_mul];omega
  .have:pre++cs.take (k*sz)++(cs.drop (k*sz)++post)=pre++cs++post:=by
    rw[VK,<-VK (cs.take _),Ww,<-VK]
   rw[this];exact f
end
theorem vN{α β:Type}(f:α->β):∀(l:List α) (i:Nat),(l.eraseIdx i).map f=(l.map f).eraseIdx i
 | [],_=>rfl
 | a::r,0=>rfl
 | a::r,i+1=>by simp only[List.eraseIdx_cons_succ,Wf];rw[vN f r i]
section
variable {κ α:Type}[DecidableEq κ]
def aK(x:κ):List (κ×α)->Option α
 | []=>none
 | (y,v)::r=>if x=y then some v else aK x r
def bU(x:κ)(m:List (κ×α)):List (κ×α):=m.filter λp=>decide (p.1≠x)
def mset(x:κ)(v:α)(m:List (κ×α)):List (κ×α):=(x,v)::bU x m
abbrev aG(m:List (κ×α)):List κ:=m.map Prod.fst
theorem hI{x:κ}{v:α}:∀{m:List (κ×α)},aK x m=some v->(x,v)∈m
 | [],h=>by simp[aK]at h
 | (y,u)::r,h=>by
  simp only[aK]at h
  split at h
  .rename_i e;subst e;cases h;simp
  .exact VQ _ (hI h)
theorem mo{x:κ}{v:α}:∀{m:List (κ×α)},(aG m).Nodup->(x,v)∈m->aK x m=some v
 | [],_,h=>by simp at h
 | (y,u)::r,hn,h=>by
  simp only[aG,Wf,WW]at hn;simp only[aK]
  rcases VN.1 h with a|a
  .cases a;simp
  .rw [V4]
   .exact mo hn.2 a
   .intro e;exact hn.1 (VH.2 ⟨(x,v),a,e⟩)
theorem fu{x:κ}:∀{m:List (κ×α)},aK x m=none↔x∉aG m
 | []=>by simp[aK]
 | (y,u)::r=>by
  simp only[aK,aG,Wf,VN,not_or]
  split
  .rename_i e;simp[e]
  .rename_i e;rw[fu (m:=r)];simp[e]
theorem qk{x:κ}{m m':List (κ×α)}(d:(aG m).Nodup)(b:m.Perm m'):aK x m=aK x m':=by
 have a:(aG m').Nodup:=(b.map Prod.fst).nodup_iff.1 d
 cases h:aK x m with
 | none=>
  rw[fu]at h;exact (fu.2 λc=>h ((b.map Prod.fst).mem_iff.2 c)).symm
 | some v=>exact (mo a (b.mem_iff.1 (hI h))).symm
theorem Ef{x:κ}{m m':List (κ×α)}(a:m.Perm m'):(bU x m).Perm (bU x m'):=a.filter _
theorem rC{x:κ}{p:κ×α}{m:List (κ×α)}:p∈bU x m↔p∈m/\p.1≠x:=by simp[bU]
theorem rD{x:κ}{m:List (κ×α)}(a:(aG m).Nodup):(aG (bU x m)).Nodup:=a.sublist (List.Sublist.map _ List.filter_sublist)
theorem oP{x:κ}{v:α}{m:List (κ×α)}(b:(aG m).Nodup):(aG (mset x v m)).Nodup:=by
 simp only[aG,mset,Wf,WW];refine⟨λh=>?_,rD b⟩
 obtain⟨p,a,e⟩:=VH.1 h;exact (rC.1 a).2 e
theorem kN{x:κ}{m:List (κ×α)}(h:aK x m=none):bU x m=m:=by
 rw[fu]at h;unfold bU;rw[Yz];intro p a;simp only[VA];intro e;subst e;exact h (VH.2 ⟨p,a,rfl⟩)
theorem yH{x y:κ}(h:y≠x):∀{m:List (κ×α)},aK y (bU x m)=aK y m
 | []=>rfl
 | (z,u)::r=>by
  have a:=yH h (m:=r);simp only[bU,Wm]at a ⊢
  split
  .simp only[aK];split
   .rfl
   .exact a
  .rename_i b;simp only[VA,ne_eq,Decidable.not_not]at b;simp only[aK];rw[V4 (by rw[b];exact h)];exact a
theorem N4{x:κ}{m:List (κ×α)}:aK x (bU x m)=none:=by
 rw[fu];intro h;obtain⟨p,a,e⟩:=VH.1 h;exact (rC.1 a).2 e
theorem lD{x y:κ}{v:α}{m:List (κ×α)}:aK y (mset x v m)=if y=x then some v else aK y m:=by
 simp only[mset,aK]
 split
 .rfl
 .rename_i h;exact yH h
theorem vO{x y:κ}{m:List (κ×α)}:aK y (bU x m)=if y=x then none else aK y m:=by
 split
 .rename_i h;subst h;exact N4
 .rename_i h;exact yH h
theorem N5{x:κ}{v:α}{m m':List (κ×α)}(a:m.Perm m'):(mset x v m).Perm (mset x v m'):=(Ef a).cons _
theorem Eg{x:κ}{v:α}{m:List (κ×α)}(h:aK x m=none):(mset x v m).length=m.length+1:=by simp[mset,kN h]
theorem Eh{x:κ}{v:α}:∀{m:List (κ×α)},(aG m).Nodup->aK x m=some v->(bU x m).length+1=m.length
 | [],_,h=>by simp[aK]at h
 | (y,u)::r,hn,h=>by
  simp only[aG,Wf,WW]at hn;simp only[aK]at h
  by_cases e:x=y
  .subst e;have:aK x r=none:=fu.2 hn.1;have b:=kN this;have c:bU x ((x,u)::r)=bU x r:=by simp[bU,Wm]
   rw[c,b];rfl
  .rw [V4 e]at h;have a:=Eh hn.2 h;simp only[bU,Wm]at a ⊢;rw[V5 (by simpa using λe2=>e e2.symm)]
   simp only[VE];omega
theorem Ei{x:κ}{v u:α}{m:List (κ×α)}(a:(aG m).Nodup)(h:aK x m=some u):(mset x v m).length=m.length:=by
 have:=Eh a h;simp only[mset,VE];omega
theorem getElem?_of_mlook{x:κ}{v:α}{m:List (κ×α)}(h:aK x m=some v):∃i:Nat,m[i]?=some (x,v)/\∀j,j<i->(aG m)[j]?≠some x:=by
 induction m with
 | nil=>simp[aK]at h
 | cons p r ih=>
  obtain⟨y,u⟩:=p;simp only[aK]at h
  split at h
  .rename_i e;subst e;cases h;exact⟨0,rfl,λj a=>V6 a (by omega)⟩
  .rename_i e;obtain⟨i,c,b⟩:=ih h;refine⟨i+1,by simpa using c,λj a=>?_⟩
   cases j with
   | zero=>simp[aG];exact λe2=>e e2.symm
   | succ j=>simpa[aG] using b j (by omega)
theorem Ej{x:κ}{v:α}{m:List (κ×α)}(a:(aG m).Nodup){i:Nat}(hi:m[i]?=some (x,v)):m.eraseIdx i=bU x m:=by
 induction m generalizing i with
 | nil=>simp at hi
 | cons p r b=>
  simp only[aG,Wf,WW]at a
  cases i with
  | zero=>
   simp at hi;subst hi;have:aK x r=none:=fu.2 a.1;have c:=kN this;have d:bU x ((x,v)::r)=bU x r:=by simp[bU,Wm]
   rw[d,c];rfl
  | succ i=>
   simp only[List.getElem?_cons_succ]at hi;have b:=b a.2 hi;simp only[List.eraseIdx_cons_succ,b];simp only[bU,Wm];rw[V5];simp only[VA];intro e;exact a.1 (VH.2 ⟨_,Wk hi,e.symm⟩)
theorem El{x:κ}{v u:α}{m:List (κ×α)}(b:(aG m).Nodup){i:Nat}(hi:m[i]?=some (x,v)):(m.set i (x,u)).Perm (mset x u m):=by
 have h:=Ej b hi;have a:i<m.length:=(List.getElem?_eq_some_iff.1 hi).1;unfold mset;rw[<-h];rw[List.set_eq_take_append_cons_drop,V5 a,List.eraseIdx_eq_take_drop_succ];exact List.perm_middle
end
structure nB{κ:Type}(P:Program)(k:TypeId)(kenc:κ->Value):Prop where
 inj:∀x y,kenc x=kenc y->x=y
 chk:∀(em:Bool) (x:κ) (w:World),(Instr.checkKey em 10000 k (kenc x)).run P w=.ok () w
 non:∀(x:κ) (ks:List κ) (es:List MapEntry) (w:World),es.map (·.key)=ks.map kenc->x∉ks->(Instr.findKey k (kenc x) es).run P w=.ok none w
 fnd:∀(x:κ) (ks:List κ) (es:List MapEntry) (w:World) (i:Nat) (e:MapEntry),es.map (·.key)=ks.map kenc->ks[i]?=some x->(∀j,j<i->ks[j]?≠some x)->es[i]?=some e->(Instr.findKey k (kenc x) es).run P w=.ok (some (i,e.val)) w
 stay:∀(x:κ) (w:World),(Instr.keyThatStays (kenc x) (kenc x)).run P w=.ok (kenc x) w
theorem yI{kk kd:IntKind}(x:Int):∀(a:List MapEntry) (ks:List Int) (i:Nat),a.map (·.key)=ks.map (Value.int kk)->
  (x∉ks->Instr.findNow (.int kd) (.int kk x) a i=some none)/\∀j e,ks[j]?=some x->(∀l,l<j->ks[l]?≠some x)->a[j]?=some e->Instr.findNow (.int kd) (.int kk x) a i=some (some (i+j,e.val))
 | [],[],i,_=>⟨λ_=>rfl,λj e h=>by simp at h⟩
 | [],_::_,i,h=>by simp at h
 | _::_,[],i,h=>by simp at h
 | e0::a,y::ks,i,h=>by
  simp only[Wf,List.cons.injEq]at h;obtain⟨n,k⟩:=yI (kd:=kd) x a ks (i+1) h.2
  by_cases e:x=y
  .subst e;refine⟨λd=>V6 (by simp) d,λj e1 c m b=>?_⟩
   have:j=0:=by
    cases j with
    | zero=>rfl
    | succ j=>exact V6 rfl (m 0 (by omega))
   subst this;simp at b;subst b;simp[Instr.findNow,Instr.sameNow,h.1]
  .refine⟨λd=>?_,λj e1 c m b=>?_⟩
   .simp only[VN,not_or]at d;have f:(x == y)=false:=by simpa using e
    simp[Instr.findNow,Instr.sameNow,h.1,f,n d.2]
   .cases j with
    | zero=>simp at c;exact V6 c.symm e
    | succ j=>
     have:=k j e1 (by simpa using c) (λl s=>by simpa using m (l+1) (by omega)) (by simpa using b)
     have f:(x == y)=false:=by simpa using e
     simp only[Instr.findNow,Instr.sameNow,h.1,f,this,if_true];rw[show i+1+j=i+(j+1) by omega]
theorem vP{P:Program}{k:TypeId}{kd:IntKind}(h:P.underlying k=some (.int kd)):nB P k (Value.int kd) where
 inj x y h:=by cases h;rfl
 chk em x w:=by
  show (Instr.checkKey em (9999+1) k (Value.int kd x)).run P w=.ok () w;generalize 9999=n;simp[Instr.checkKey,run_underlying h]
 non x ks es w hk hx:=by simp[Instr.findKey,run_underlying h,(yI (kd:=kd) x es ks 0 hk).1 hx]
 fnd x ks es w i e hk h1 h2 h3:=by simp[Instr.findKey,run_underlying h,(yI (kd:=kd) x es ks 0 hk).2 i e h1 h2 h3]
 stay x w:=by
  have:Instr.sameBits 10000 (Value.int kd x) (Value.int kd x)=true:=by
   generalize 10000=n;unfold Instr.sameBits;simp
  simp[Instr.keyThatStays,this]
structure lE{α:Type}(P:Program)(t k e:Nat)(venc:α->Value)(z:α):Prop where
 und:P.underlying t=some (.map k e)
 info:∃i,P.info? e=some i/\i.zero=some (venc z)
def mapA{κ α:Type}(kenc:κ->Value)(venc:α->Value)(r:Nat)(m:List (κ×α)):aE:=λh=>
 (aG m).Nodup/\∃es clock,(∃ml:List (κ×α),ml.Perm m/\es.toList.map (λe:MapEntry=>(e.key,e.val))=ml.map λp=>(kenc p.1,venc p.2))/\
  (es.toList.map (·.born)).Nodup/\(∀e∈es.toList,e.born<clock)/\pt r (.map es clock) h
section
variable {κ α:Type}{kenc:κ->Value}{venc:α->Value}{r:Nat}{m m':List (κ×α)}{H:aC}{F:aE}{P:Program}
theorem nC(e:m.Perm m'):mapA kenc venc r m=mapA kenc venc r m':=by
 funext h;apply propext;have key:∀{a b:List (κ×α)},a.Perm b->mapA kenc venc r a h->mapA kenc venc r b h:=by
  rintro a b d ⟨u,s,c,⟨k,n,f⟩,i,t,j⟩;exact⟨(d.map Prod.fst).nodup_iff.1 u,s,c,⟨k,n.trans d,f⟩,i,t,j⟩
 exact⟨key e,key e.symm⟩
theorem mp(h:aQ H (mapA kenc venc r m*F)):(aG m).Nodup/\∃b a,(∃c:List (κ×α),c.Perm m/\b.toList.map (λe:MapEntry=>(e.key,e.val))=c.map λp=>(kenc p.1,venc p.2))/\
  (b.toList.map (·.born)).Nodup/\(∀e∈b.toList,e.born<a)/\aQ H (pt r (.map b a)*F):=by
 obtain⟨g,j,x,y,hd,rfl,⟨s,b,a,d,f,n,i⟩,k⟩:=h;exact⟨s,b,a,d,f,n,_,j,x,y,hd,rfl,i,k⟩
theorem mapA_new(h:aQ H (pt r (.map #[] 0)*F)):aQ H (mapA kenc venc r []*F):=
 h.frame λp a=>⟨by simp,#[],0,⟨[],.refl _,rfl⟩,by simp,by simp,a⟩
theorem tz{b:Array MapEntry}{c:List (κ×α)}(h:b.toList.map (λe:MapEntry=>(e.key,e.val))=c.map λp=>(kenc p.1,venc p.2)) :
  b.toList.map (·.key)=(aG c).map kenc/\∀(i:Nat) x v,c[i]?=some (x,v)->∃e:MapEntry,b.toList[i]?=some e/\e.key=kenc x/\e.val=venc v:=by
 constructor
 .have:=congrArg (List.map Prod.fst) h;simpa[aG,Function.comp_def] using this
 .intro i x v hi;have a:=congrArg (λl=>l[i]?) h
  simp only[List.getElem?_map,hi,Wj]at a
  cases he:b.toList[i]? with
  | none=>rw[he]at a;cases a
  | some e=>rw[he]at a;simp at a;exact⟨e,rfl,a.1,a.2⟩
section
variable [DecidableEq κ]{t k e:Nat}{z:α}(T:lE P t k e venc z)(KO:nB P k kenc)
include T KO
theorem map_look{x:κ}(h:aQ H (mapA kenc venc r m*F)) :
  (∀v,aK x m=some v->dm P (Instr.lookup t (.map (some r)) (kenc x) true) H (.tuple #[venc v,.bool true])/\dm P (Instr.lookup t (.map (some r)) (kenc x) false) H (venc v))/\
  (aK x m=none->dm P (Instr.lookup t (.map (some r)) (kenc x) true) H (.tuple #[venc z,.bool false])/\dm P (Instr.lookup t (.map (some r)) (kenc x) false) H (venc z)):=by
 obtain⟨I,A,k,⟨d,n,e⟩,_,_,C⟩:=mp h;have hb:=C.get;obtain⟨u,E⟩:=tz e;have b:(aG d).Nodup:=(n.map Prod.fst).nodup_iff.2 I;obtain⟨i,hi,G⟩:=T.info
 constructor
 .intro v a;rw[<-qk b n]at a;obtain⟨j,y,f⟩:=getElem?_of_mlook a;obtain⟨B,D,_,s⟩:=E j x v y
  constructor <;> intro w c <;> subst c <;>
   simp[Instr.lookup,run_underlying T.und,Go.MapKept.run_getObj_map hb,KO.chk,KO.fnd x (aG d) A.toList w j B u (by simp[aG,y]) f D,s]
 .intro a;rw[<-qk b n,fu]at a
  constructor <;> intro w c <;> subst c <;>
   simp[Instr.lookup,run_underlying T.und,Go.MapKept.run_getObj_map hb,KO.chk,KO.non x (aG d) A.toList w u a,zeroValue,typeInfo,hi,G]
omit T KO [DecidableEq κ] in
theorem tA(w:World)(r:Nat)(o:Obj):bW w { w with heap:=w.heap.setIfInBounds r o }:=⟨rfl,rfl,rfl⟩
omit T KO [DecidableEq κ] in
theorem ql{H:aC}{o a:Obj}(h:aQ H (pt r o*F)):aQ (H.setIfInBounds r a) (pt r a*F):=by
 refine h.upd ?_ λi hi=>?_
 .rw [Array.getElem?_setIfInBounds,V5 rfl,V5 h.lt]
 .rw [Array.getElem?_setIfInBounds,V4 (λe=>hi e.symm)]
def mapC(kenc:κ->Value)(venc:α->Value)(m:List (κ×α))(es:Array MapEntry)(clock:Nat):Prop:=
 (aG m).Nodup/\(∃ml:List (κ×α),ml.Perm m/\es.toList.map (λe:MapEntry=>(e.key,e.val))=ml.map λp=>(kenc p.1,venc p.2))/\
  (es.toList.map (·.born)).Nodup/\∀e∈es.toList,e.born<clock
omit T KO [DecidableEq κ] in
theorem Em{c:Array MapEntry}{a:Nat}(b:mapC kenc venc m c a)(h:aQ H (pt r (.map c a)*F)):aQ H (mapA kenc venc r m*F):=
 h.frame λ_ d=>⟨b.1,c,a,b.2.1,b.2.2.1,b.2.2.2,d⟩
omit T KO in
theorem mapC_set{x:κ}{v:α}{h:List (κ×α)}{d:Array MapEntry}{b j:Nat}{u:α}{C:MapEntry}(B:(aG m).Nodup)(A:h.Perm m)(n:d.toList.map (λe:MapEntry=>(e.key,e.val))=h.map λp=>(kenc p.1,venc p.2))
  (f:(d.toList.map (·.born)).Nodup) (c:∀e∈d.toList,e.born<b) (y:h[j]?=some (x,u)) (D:d.toList[j]?=some C) :
  mapC kenc venc (mset x v m) (d.modify j λe=>{ e with key:=kenc x,val:=venc v }) b:=by
 have t:(aG h).Nodup:=(A.map Prod.fst).nodup_iff.2 B;refine⟨oP B,⟨h.set j (x,v),(El t y).trans (N5 A),?_⟩,?_,?_⟩
 .apply WU;intro i;have k:=congrArg (λl=>l[i]?) n
  simp only[List.getElem?_map]at k ⊢;simp only[Array.toList_modify,List.getElem?_modify,List.getElem?_set]
  by_cases hij:j=i
  .subst hij;have w:j<h.length:=(List.getElem?_eq_some_iff.1 y).1;simp[D,w]
  .simp only[V4 hij,Option.map_map,Function.comp_def]at k ⊢;simpa using k
 .have:((d.modify j λe=>{ e with key:=kenc x,val:=venc v }).toList.map (·.born))=d.toList.map (·.born):=by
   apply WU;intro i;simp only[List.getElem?_map,Array.toList_modify,List.getElem?_modify]
   cases d.toList[i]? with
   | none=>simp
   | some a=>simp;split <;> rfl
  rw[this];exact f
 .intro e2 s;obtain⟨i,hi⟩:=List.getElem?_of_mem s;simp only[Array.toList_modify,List.getElem?_modify]at hi
  cases h3:d.toList[i]? with
  | none=>simp[h3]at hi
  | some a=>
   have:=c a (Wk h3);rw[h3]at hi;simp at hi;subst hi
   split <;> exact this
omit T KO in
theorem mapC_new{x:κ}{v:α}{j:List (κ×α)}{s:Array MapEntry}{c:Nat}(A:(aG m).Nodup)(w:j.Perm m)(t:s.toList.map (λe:MapEntry=>(e.key,e.val))=j.map λp=>(kenc p.1,venc p.2))
  (f:(s.toList.map (·.born)).Nodup) (d:∀e∈s.toList,e.born<c) (h:aK x j=none) :
  mapC kenc venc (mset x v m) (s.push { key:=kenc x,val:=venc v,born:=c }) (c+1):=by
 have y:(aG j).Nodup:=(w.map Prod.fst).nodup_iff.2 A;refine⟨oP A,⟨j++[(x,v)],?_,?_⟩,?_,?_⟩
 .unfold mset;rw[kN (by rw[<-qk y w];exact h)];exact (List.perm_append_singleton _ _).trans (w.cons _)
 .simp [t]
 .simp only[Array.toList_push,VW,Wf,Yg];rw[List.nodup_append];refine⟨f,by simp,?_⟩;intro a B b n u;simp at n;subst n;subst u;obtain⟨e2,i,C⟩:=VH.1 B;have:=d e2 i;omega
 .intro e2 k;simp at k
  rcases k with i|i
  .have:=d e2 (by simpa using i);omega
  .subst i;simp
theorem N6{x:κ}{v:α}{K:Unit->aC->Prop}(h:aQ H (mapA kenc venc r m*F))(kk:∀G,aQ G (mapA kenc venc r (mset x v m)*F)->K () G) :
  cB P (Instr.mapUpdate t (.map (some r)) (kenc x) (venc v)) H K:=by
 obtain⟨J,f,a,⟨i,I,d⟩,c,b,k⟩:=mp h;have hb:=k.get;obtain⟨E,M⟩:=tz d;refine .mk λw L=>?_
 subst L
 cases hlook:aK x i with
 | some u=>
  obtain⟨j,s,y⟩:=getElem?_of_mlook hlook;obtain⟨D,n,A,N⟩:=M j x u s;refine⟨(),_,?_,tA w r (.map (f.modify j λe=>{ e with key:=kenc x,val:=venc v }) a),kk _ (Em (mapC_set J I d c b s n) (ql k))⟩
  have B:f[j]?=some D:=by simpa using n
  simp[Instr.mapUpdate,run_underlying T.und,Go.MapKept.run_getObj_map hb,KO.chk,KO.fnd x (aG i) f.toList w j D E (by simp[aG,s]) y n,B,A,KO.stay,Go.MapKept.run_setObj_map _ hb]
 | none=>
  have C:x∉aG i:=fu.1 hlook;refine⟨(),_,?_,tA w r (.map (f.push { key:=kenc x,val:=venc v,born:=a }) (a+1)),kk _ (Em (mapC_new J I d c b hlook) (ql k))⟩;simp[Instr.mapUpdate,run_underlying T.und,Go.MapKept.run_getObj_map hb,KO.chk,KO.non x (aG i) f.toList w E C,Go.MapKept.run_setObj_map _ hb]
theorem N7{x:κ}{ty:Nat}{K:KE}(h:aQ H (mapA kenc venc r m*F))(kk:∀L,aQ L (mapA kenc venc r (bU x m)*F)->K (.tuple #[]) L) :
  cB P (Builtin.delete_ #[t,k] ty #[.map (some r),kenc x]) H K:=by
 obtain⟨G,e,a,⟨f,A,i⟩,d,c,B⟩:=mp h;have hb:=B.get;obtain⟨J,O⟩:=tz i;have y:(aG f).Nodup:=(A.map Prod.fst).nodup_iff.2 G;refine .mk λw N=>?_
 subst N
 cases hlook:aK x f with
 | some u=>
  obtain⟨j,D,C⟩:=getElem?_of_mlook hlook;obtain⟨M,I,Q,R⟩:=O j x u D;have s:j<e.size:=by have:=(List.getElem?_eq_some_iff.1 I).1;simpa using this
  have b:(e.eraseIdxIfInBounds j).toList=e.toList.eraseIdx j:=by
   simp[Array.eraseIdxIfInBounds,s,Array.toList_eraseIdx]
  refine⟨.tuple #[],_,?_,tA w r (.map (e.eraseIdxIfInBounds j) a),kk _ ((ql B).frame λp n=>?_)⟩
  .simp [Builtin.delete_,run_underlying T.und,Go.MapKept.run_getObj_map hb,KO.chk,KO.fnd x (aG f) e.toList w j M J (by simp[aG,D]) C I,Go.MapKept.run_setObj_map _ hb]
  .refine⟨rD G,_,_,⟨f.eraseIdx j,?_,?_⟩,?_,?_,n⟩
   .rw [Ej y D];exact Ef A
   .rw [b];rw[vN,vN,i]
   .rw [b,vN];exact d.sublist (List.eraseIdx_sublist _ _)
   .intro e2 v;rw[b]at v;exact c e2 (List.mem_of_mem_eraseIdx v)
 | none=>
  have E:x∉aG f:=fu.1 hlook;refine⟨.tuple #[],_,?_,tA w r (.map e a),kk _ ((ql B).frame λp n=>?_)⟩
  .simp [Builtin.delete_,run_underlying T.und,Go.MapKept.run_getObj_map hb,KO.chk,KO.non x (aG f) e.toList w J E,Go.MapKept.run_setObj_map _ hb]
  .refine⟨rD G,e,a,⟨f,?_,i⟩,d,c,n⟩;rw[kN (by rw[<-qk y A];exact hlook)];exact A
omit KO [DecidableEq κ] in
theorem N8{ty:Nat}{K:KE}(h:aQ H (mapA kenc venc r m*F))(kk:∀f,aQ f (mapA kenc venc r []*F)->K (.tuple #[]) f) :
  cB P (Builtin.clear_ #[t] ty #[.map (some r)]) H K:=by
 obtain⟨u,s,a,⟨k,n,j⟩,c,b,e⟩:=mp h;have hb:=e.get;refine .mk λw i=>?_
 subst i;refine⟨.tuple #[],_,?_,tA w r (.map #[] a),kk _ ((ql e).frame λp d=>?_)⟩
 .simp [Builtin.clear_,run_underlying T.und,Go.MapKept.run_getObj_map hb,Go.MapKept.run_setObj_map _ hb]
 .exact⟨by simp,#[],a,⟨[],.refl _,rfl⟩,by simp,by simp,d⟩
omit KO [DecidableEq κ] in
theorem map_len{ty:Nat}(h:aQ H (mapA kenc venc r m*F)):dm P (Builtin.len_ #[t] ty #[.map (some r)]) H (.int .i64 m.length):=by
 obtain⟨s,k,e,⟨n,f,d⟩,c,b,i⟩:=mp h;have hb:=i.get;intro w j;subst j;have a:k.size=m.length:=by
  have:=congrArg List.length d;simp at this;rw[this,f.length_eq]
 simp[Builtin.len_,run_underlying T.und,Go.MapKept.run_getObj_map hb,a,goInt]
end
end
section
variable {κ α:Type}{kenc:κ->Value}{venc:α->Value}{r:Nat}{m m':List (κ×α)}{H:aC}{L:List aE}{P:Program}
theorem aA.mp_new(h:aA H (pt r (.map #[] 0)::L))(kenc:κ->Value)(venc:α->Value):aA H (mapA kenc venc r []::L):=mapA_new h
variable [DecidableEq κ]{t k e:Nat}{z:α}(T:lE P t k e venc z)(KO:nB P k kenc)
include T KO
theorem aA.mp_look{x:κ}(h:aA H L)(i:Nat)(b:aW i L=mapA kenc venc r m) :
  (∀v,aK x m=some v->dm P (Instr.lookup t (.map (some r)) (kenc x) true) H (.tuple #[venc v,.bool true])/\dm P (Instr.lookup t (.map (some r)) (kenc x) false) H (venc v))/\
  (aK x m=none->dm P (Instr.lookup t (.map (some r)) (kenc x) true) H (.tuple #[venc z,.bool false])/\dm P (Instr.lookup t (.map (some r)) (kenc x) false) H (venc z)):=by
 have a:=h.foc i;rw[b]at a;exact map_look T KO a
theorem aA.mp_update{x:κ}{v:α}{K:Unit->aC->Prop}(h:aA H L)(i:Nat)(d:aW i L=mapA kenc venc r m)(kk:∀a,aA a (put i (mapA kenc venc r (mset x v m)) L)->K () a) :
  cB P (Instr.mapUpdate t (.map (some r)) (kenc x) (venc v)) H K:=by
 have b:=h.foc i;rw[d]at b;exact N6 T KO b λa c=>kk a (aA.back c)
theorem aA.mp_delete{x:κ}{ty:Nat}{K:KE}(h:aA H L)(i:Nat)(d:aW i L=mapA kenc venc r m)(kk:∀a,aA a (put i (mapA kenc venc r (bU x m)) L)->K (.tuple #[]) a) :
  cB P (Builtin.delete_ #[t,k] ty #[.map (some r),kenc x]) H K:=by
 have b:=h.foc i;rw[d]at b;exact N7 T KO b λa c=>kk a (aA.back c)
omit KO [DecidableEq κ] in
theorem aA.mp_clear{ty:Nat}{K:KE}(h:aA H L)(i:Nat)(d:aW i L=mapA kenc venc r m)(kk:∀a,aA a (put i (mapA kenc venc r []) L)->K (.tuple #[]) a) :
  cB P (Builtin.clear_ #[t] ty #[.map (some r)]) H K:=by
 have b:=h.foc i;rw[d]at b;exact N8 T b λa c=>kk a (aA.back c)
omit KO [DecidableEq κ] in
theorem aA.mp_len{ty:Nat}(h:aA H L)(i:Nat)(b:aW i L=mapA kenc venc r m):dm P (Builtin.len_ #[t] ty #[.map (some r)]) H (.int .i64 m.length):=by
 have a:=h.foc i;rw[b]at a;exact map_len T a
end
open Go Go.Maps Go.RowKit
def sortI(l:List Int):List Int:=l.mergeSort λx y=>decide (x<=y)
theorem vQ{l a:List Int}(h:l.Perm a):sortI l=sortI a:=mergeSort_of_perm_i h
theorem qm(l:List Int):(sortI l).Perm l:=List.mergeSort_perm l _
theorem Eo(l:List Int):(sortI l).Pairwise (·<=·):=by
 have:=List.pairwise_mergeSort (le:=λx y:Int=>decide (x<=y)) (λa b c e d=>by simp only[VA]at *;omega) (λa b=>by simp only[VR,VA];omega) l
 exact this.imp (by simp)
theorem yJ{l:List Int}(h:l.Pairwise (·<=·)):sortI l=l:=by
 refine List.Perm.eq_of_pairwise (le:=(·<=·)) (λa b _ _ d c=>by omega) (Eo l) h (qm l)
theorem vR(l:List Int):(sortI l).length=l.length:=(qm l).length_eq
def aF(x:Int):Prop:=-9223372036854775808<=x/\x<=9223372036854775807
theorem wf64_lit{x:Int}(h:aF x):(Lit.int .i64 x).wf=true:=by
 unfold aF at h;simp[Lit.wf,IntKind.min,IntKind.max,IntKind.signed,IntKind.bits];omega
theorem rE{w a:World}(h:Below w.heap.size w a):dB w.heap a.heap:=λb hb=>h.block b hb
theorem tB{n:Nat}{w a:World}(h:Below n w a):bW w a:=⟨h.os,h.tape,h.output⟩
abbrev oQ(H:Type):Value->Option (DataW H×List MemPlace):=λ_=>some (.lit (.bool true),[])
theorem yK{α:Type}{venc:α->Value}{P:Program}{k:TypeId}{w:World}{r:Nat}{m:List (Int×α)}{F:aE}(Q:P.underlying k=some (.int .i64))
  (h:aQ w.heap (mapA (Value.int .i64) venc r m*F)) (M:∀x∈aG m,aF x) (L:m.length<=maxLen) :
  ∃C:DataW Unit,w.ownsMap P k (oQ Unit) r m.length C/\(intKeys C).Perm (aG m)/\Maps.size C=m.length:=by
 obtain⟨R,c,i,⟨J,A,f⟩,j,d,D⟩:=mp h;have y:c.size=m.length:=by
  have:=congrArg List.length f;simp at this;rw[this,A.length_eq]
 have s:∀x∈c.toList,∃a:Int,x.key=Value.int .i64 a/\Go.WideElems.rd P k (oQ Unit) x=some (.int .i64 a,.lit (.bool true)):=by
  intro x u;have:(x.key,x.val)∈c.toList.map (λe:MapEntry=>(e.key,e.val)):=VH.2 ⟨x,u,rfl⟩
  rw[f]at this;obtain⟨p,E,n⟩:=VH.1 this;have B:p.1∈aG m:=VH.2 ⟨p,A.mem_iff.1 E,rfl⟩;have O:=wf64_lit (M _ B);simp only[Prod.mk.injEq]at n;refine⟨p.1,n.1.symm,?_⟩;unfold Go.WideElems.rd;rw[<-n.1];simp[keyOf,Q,mapKey,O,oQ]
 have b:=Go.WideShapes.sorted_perm (c.toList.map (Go.WideElems.rg P k (oQ Unit)));have H:c.toList.map (λx=>Go.intOf (Go.WideElems.rg P k (oQ Unit) x).1)=aG J:=by
  have t:=(tz f).1;have N:c.toList.map (λx=>Go.intOf (Go.WideElems.rg P k (oQ Unit) x).1)=(c.toList.map (·.key)).map λv=>match v with|.int _ a=>a|_=>0:=by
   rw[Wu];apply WP;intro x u;obtain⟨a,K,D⟩:=s x u;simp[Go.WideElems.rg,D,K,Go.intOf]
  rw[N,t,Wu];simp[Function.comp_def]
 refine⟨_,⟨c,i,D.get,⟨by omega,⟨d,j,?_⟩,λx u=>?_⟩,by omega,rfl⟩,?_,?_⟩
 .have t:=(tz f).1;rw[t];have I:(aG J).Nodup:=(A.map Prod.fst).nodup_iff.2 R;exact Y0.2 (I.imp λG e=>G (by cases e;rfl))
 .obtain⟨a,_,t⟩:=s x u;exact⟨_,t⟩
 .show ((c.toList.map (Go.WideElems.rg P k (oQ Unit))).foldr DataW.insert [] |>.map λp=>Go.intOf p.1).Perm _
  refine (b.map _).trans ?_;rw[Wu];simp only[Function.comp_def];rw[H];exact A.map Prod.fst
 .show ((c.toList.map (Go.WideElems.rg P k (oQ Unit))).foldr DataW.insert []).length=_;rw[b.length_eq];simpa using y
theorem aA.of_row{w b:World}{L:List aE}(h:aA w.heap L)(hb:Below w.heap.size w b){e:TypeId}{v:Value}{n:Nat}{xs:Os}(u:b.ownsRow w.heap.size e 1 v n xs) :
  ∃a c,v=.slice a n c/\aA b.heap (slA e 1 a n c xs::L):=by
 obtain⟨d,f⟩:=u;have g:=rE hb
 rcases f with ⟨rfl,rfl⟩|⟨g1,cap,cur,rfl,m,k,y,hm,hs,s⟩
 .have:xs=[]:=WN (by simpa using d);subst this;exact⟨none,0,rfl,(h.grow g).sl_nil e 1⟩
 .refine⟨_,_,rfl,?_⟩;have j:aA b.heap (cellsA g1 cur.toList e::L):=h.new g m (by simpa using k);refine j.mono λp t=>⟨d,.inr ⟨g1,[],cur.toList.drop n,e,(0,0),rfl,y,?_,λ_ i _ _ x=>by simp at x,?_⟩⟩
  .simp only[VU,WA,W2];omega
  .have:([]++xs++cur.toList.drop n)=cur.toList:=by
    rw[<-s];simp
   rw[this];exact t
def vS:Value->Value->Option Bool
 | .int k a,.int k' b=>if k=k' then some (a == b) else none
 | .bool a,.bool b=>some (a == b)
 | .string a,.string b=>some (a == b)
 | _,_=>none
def jw:Option TypeDesc->Value->Bool
 | some (.int _),.int _ _=>true
 | some .bool,.bool _=>true
 | some .string,.string _=>true
 | _,_=>false
def tC(P:Program)(xs ys:Os):List Field->Option Bool
 | []=>some true
 | f::fs=>if f.name= "_" then none else match aT xs f.offset,aT ys f.offset with
  | some a,some b=>if jw (P.underlying f.type) a&&jw (P.underlying f.type) b then
    match vS a b,tC P xs ys fs with
    | some r,some s=>some (r&&s)
    | _,_=>none
   else none
  | _,_=>none
def rF(P:Program)(t:TypeId)(xs ys:Os):Option Bool:=
 match P.underlying t with
 | some (.struct fs)=>if P.stoodInHeld t=false/\P.eqGuardType P.depth t=false then tC P xs ys fs.toList else none
 | _=>none
theorem Ep{P:Program}{w:World}{t:TypeId}{a b:Value}{r:Bool}(c:jw (P.underlying t) a=true)(hb:jw (P.underlying t) b=true)(h:vS a b=some r)(d:Nat) :
  (Op.equalIn (d+1) t a b).run P w=.ok r w:=by
 cases hu:P.underlying t with
 | none=>rw[hu]at c;simp[jw]at c
 | some k=>
  rw[hu]at c hb
  cases k <;> cases a <;> simp[jw]at c <;> cases b <;> simp[jw]at hb <;> simp[vS]at h
  .subst h;simp[Op.equalIn,run_underlying hu]
  .obtain⟨rfl,rfl⟩:=h;simp[Op.equalIn,run_underlying hu]
  .subst h;simp[Op.equalIn,run_underlying hu]
theorem tD{P:Program}{w:World}{t:TypeId}{xs:Os}{o:Nat}{a:Value}(b:jw (P.underlying t) a=true)(d:aT xs o=some a):(part t ⟨xs⟩ o).run P w=.ok a w:=by
 rw[fL]at d
 cases hu:P.underlying t with
 | none=>rw[hu]at b;simp[jw]at b
 | some k=>
  rw[hu]at b;have c:(⟨xs⟩:Array Value)[o]?=some a:=by simpa using d
  cases k <;> cases a <;> simp[jw]at b <;> simp[part,isAgg,run_underlying hu,c]
theorem yL{P:Program}{w:World}{xs ys:Os}(d:Nat):∀{fs:List Field} {r:Bool},tC P xs ys fs=some r->(Op.eqFields (d+1) ⟨xs⟩ ⟨ys⟩ fs).run P w=.ok r w
 | [],r,h=>by simp[tC]at h;subst h;simp[Op.eqFields]
 | f::fs,r,h=>by
  simp only[tC]at h
  split at h
  .cases h
  .rename_i k
   split at h
   .rename_i a b j i
    split at h
    .rename_i c;simp only[VB]at c
     split at h
     .rename_i r1 s e hs
      cases h
      simp only[Op.eqFields,ne_eq,k,not_false_eq_true,if_true,Sem.run_bind,tD c.1 j,tD c.2 i,Result.andThen_ok,Ep c.1 c.2 e]
      cases r1
      .simp
      .simp [yL d hs]
     .cases h
    .cases h
   .cases h
theorem tE{P:Program}{t:TypeId}{xs ys:Os}{r:Bool}(h:rF P t xs ys=some r):iL P .eql t (.agg ⟨xs⟩) (.agg ⟨ys⟩) r/\iL P .neq t (.agg ⟨xs⟩) (.agg ⟨ys⟩) (!r):=by
 unfold rF at h
 split at h
 .rename_i j e
  split at h
  .rename_i c;have f:P.fieldsOf t=j:=by simp[Program.fieldsOf,e]
   have b:P.underlying t=some (.struct (P.fieldsOf t)):=by rw[f];exact e
   have i:∀w,(Op.equalIn 10000 t (.agg ⟨xs⟩) (.agg ⟨ys⟩)).run P w=.ok r w:=by
    intro w;show (Op.equalIn (9998+1+1) t (.agg ⟨xs⟩) (.agg ⟨ys⟩)).run P w=.ok r w;generalize 9998=n;rw[run_equalIn_struct w (n+1) t ⟨xs⟩ ⟨ys⟩ b c.1,f];exact yL n h
   constructor
   .intro d a w;simp only[Sem.run_bind,run_eqGuard_agg w .eql t d a ⟨xs⟩ ⟨ys⟩ c.2,Result.andThen_ok,run_eql_struct,i]
   .intro d a w;simp only[Sem.run_bind,run_eqGuard_agg w .neq t d a ⟨xs⟩ ⟨ys⟩ c.2,Result.andThen_ok,run_neq_struct,i]
  .cases h
 .cases h
theorem aJ{x:Int}(a:-9223372036854775808<=x:=by omega)(h2:x<=9223372036854775807:=by omega):i64.wrap x=x:=IntWalk.i64_in x (by omega)
def vT(P:Program)(e:TypeId):Option Value:=match P.info? e with|some i=>i.zero|none=>none
theorem qn{α:Type}{P:Program}{t k e:Nat}{venc:α->Value}{z:α}(b:P.underlying t=some (.map k e))(a:vT P e=some (venc z)):lE P t k e venc z:=by
 refine⟨b,?_⟩;unfold vT at a
 split at a
 .rename_i i hi;exact⟨i,hi,a⟩
 .cases a
theorem Er{α:Type}{enc:α->Value}:∀(xs:List α) (j:Nat),aT (xs.map enc) j=(aT xs j).map enc
 | [],_=>rfl
 | _::_,0=>rfl
 | _::r,j+1=>Er r j
theorem aP.at{α:Type}{H:aC}{a:KQ}{enc:α->Value}{xs:List α}(h:aP H a (xs.map enc)){j:Nat}(b:j<xs.length) :
  a=Option.some ⟨aV a,aS a,none⟩/\aL H (aV a) (aS a+j)=Option.some (enc xs[j]):=h j _ (by rw[Er,vJ b];rfl)
theorem Es(k:IntKind):∀(l:List Int),cT (l.map (Value.int k))=true
 | []=>rfl
 | a::r=>Es k r
section
variable {H:aC}{L:List aE}
theorem aA.al{Q:Nat->aC->Prop}{cs:Os}{e:TypeId}(h:aA H L)(k:∀b a,aA a (cellsA b cs e::L)->Q b a):∀(b:Nat) (a:aC),b=H.size->a=H.push (.cells cs.toArray e)->Q b a:=by
 rintro b a rfl rfl;exact k _ _ (h.push _)
theorem aA.alm{κ α:Type}{Q:Nat->aC->Prop}(h:aA H L)(kenc:κ->Value)(venc:α->Value)(k:∀b a,aA a (mapA kenc venc b []::L)->Q b a):∀(b:Nat) (a:aC),b=H.size->a=H.push (.map #[] 0)->Q b a:=by
 rintro b a rfl rfl;exact k _ _ ((h.push _).mp_new kenc venc)
theorem aA.st{Q:aC->Prop}{b o e:Nat}{vs cs:Os}(h:aA H L)(i:Nat)(c:aW i L=cellsA b cs e)(d:Nat.ble (o+vs.length) cs.length=true)(k:∀a,aA a (put i (cellsA b (cv cs o vs) e) L)->Q a) :
  eT H b o vs/\∀a,a=fJ H b o vs->Q a:=by
 refine⟨h.can i c o vs (Ys d),?_⟩;rintro a rfl;exact k _ (h.set i c o vs)
theorem N9{α:Type}:∀(l:List α) (o n f:Nat),f<n->aT ((l.drop o).take n) f=aT l (o+f):=by
 intro l o n f a;rw[fL,fL,List.getElem?_take_of_lt a,List.getElem?_drop]
theorem aA.rds{b o e:Nat}{vs cs:Os}(h:aA H L)(i:Nat)(c:aW i L=cellsA b cs e)(d:(cs.drop o).take vs.length=vs):bE H b o vs:=
 tw λf v a=>by
  rw[h.rd i c,<-N9 cs o vs.length f (og a),d];exact a
theorem Ra1{b o:Nat}{v:Value}(a:aL H b o=some v:=by first|exact h.rd 0 rfl _):aL H b o=some v:=a
theorem Rs1{b o:Nat}{vs:Os}(a:bE H b o vs:=by first|exact h.rds 0 rfl rfl):bE H b o vs:=a
theorem St1{Q:aC->Prop}{b o e i:Nat}{vs cs:Os}(h:aA H L)(k:∀a,aA a (put i (cellsA b (cv cs o vs) e) L)->Q a)(c:aW i L=cellsA b cs e:=by first|exact (rfl:aW 0 _=_))(hl:Nat.ble (o+vs.length) cs.length=true:=by rfl):eT H b o vs/\∀a,a=fJ H b o vs->Q a:=h.st i c hl k
theorem Ra2{b o:Nat}{v:Value}(a:aL H b o=some v:=by first|exact h.rd 0 rfl _|exact h.rd 1 rfl _):aL H b o=some v:=a
theorem Rs2{b o:Nat}{vs:Os}(a:bE H b o vs:=by first|exact h.rds 0 rfl rfl|exact h.rds 1 rfl rfl):bE H b o vs:=a
theorem St2{Q:aC->Prop}{b o e i:Nat}{vs cs:Os}(h:aA H L)(k:∀a,aA a (put i (cellsA b (cv cs o vs) e) L)->Q a)(c:aW i L=cellsA b cs e:=by first|exact (rfl:aW 0 _=_)|exact (rfl:aW 1 _=_))(hl:Nat.ble (o+vs.length) cs.length=true:=by rfl):eT H b o vs/\∀a,a=fJ H b o vs->Q a:=h.st i c hl k
theorem Ra3{b o:Nat}{v:Value}(a:aL H b o=some v:=by first|exact h.rd 0 rfl _|exact h.rd 1 rfl _|exact h.rd 2 rfl _):aL H b o=some v:=a
theorem Rs3{b o:Nat}{vs:Os}(a:bE H b o vs:=by first|exact h.rds 0 rfl rfl|exact h.rds 1 rfl rfl|exact h.rds 2 rfl rfl):bE H b o vs:=a
theorem St3{Q:aC->Prop}{b o e i:Nat}{vs cs:Os}(h:aA H L)(k:∀a,aA a (put i (cellsA b (cv cs o vs) e) L)->Q a)(c:aW i L=cellsA b cs e:=by first|exact (rfl:aW 0 _=_)|exact (rfl:aW 1 _=_)|exact (rfl:aW 2 _=_))(hl:Nat.ble (o+vs.length) cs.length=true:=by rfl):eT H b o vs/\∀a,a=fJ H b o vs->Q a:=h.st i c hl k
theorem Ra4{b o:Nat}{v:Value}(a:aL H b o=some v:=by first|exact h.rd 0 rfl _|exact h.rd 1 rfl _|exact h.rd 2 rfl _|exact h.rd 3 rfl _):aL H b o=some v:=a
theorem St4{Q:aC->Prop}{b o e i:Nat}{vs cs:Os}(h:aA H L)(k:∀a,aA a (put i (cellsA b (cv cs o vs) e) L)->Q a)(c:aW i L=cellsA b cs e:=by first|exact (rfl:aW 0 _=_)|exact (rfl:aW 1 _=_)|exact (rfl:aW 2 _=_)|exact (rfl:aW 3 _=_))(hl:Nat.ble (o+vs.length) cs.length=true:=by rfl):eT H b o vs/\∀a,a=fJ H b o vs->Q a:=h.st i c hl k
theorem aA.q{b o e:Nat}{vs cs:Os}(h:aA H L)(i:Nat)(a:aW i L=cellsA b cs e:=by rfl)(hv:(cs.drop o).take vs.length=vs:=by rfl):bE H b o vs:=h.rds i a hv
theorem aA.getO{b:Nat}{o:Obj}(h:aA H L)(i:Nat)(a:aW i L=pt b o):H[b]?=some o:=by
 have:=h.foc i;rw[a]at this;exact this.get
theorem aA.setO{b:Nat}{o:Obj}(h:aA H L)(i:Nat)(c:aW i L=pt b o)(a:Obj):aA (H.setIfInBounds b a) (put i (pt b a) L):=by
 have:=h.foc i;rw[c]at this;exact aA.back (ql this)
theorem aA.stl{Q:aC->Prop}{b:Nat}{R c:Loop}(h:aA H L)(i:Nat)(d:aW i L=pt b (.loop R))(k:∀a,aA a (put i (pt b (.loop c)) L)->Q a):∀a,a=gI H b c->Q a:=by
 rintro a rfl;exact k _ (h.setO i d _)
theorem aA.rng(h:aA H L)(R:Loop):aA ((H.push (.deferred (some []))).push (.loop R)) (pt (H.size+1) (.loop R)::pt H.size (.deferred (some []))::L):=by
 have:=(h.push (.deferred (some []))).push (.loop R)
 rwa[Array.size_push]at this
theorem Et{A:List aE}:aA H (star A::L)↔aA H (A++L):=by
 unfold aA;rw[tr];exact Iff.rfl
theorem aA.open{A:List aE}(h:aA H (star A::L)):aA H (A++L):=Et.1 h
theorem aA.shut(A:List aE)(h:aA H (A++L)):aA H (star A::L):=Et.2 h
theorem cK{α:Type}{A:α->aE}:aA H (exS A::L)↔∃x,aA H (A x::L):=sat_exs
theorem cZ{b o:Nat}{p:Prop}(h:p):NN (some ⟨b,o,none⟩) p:=h
end
section
variable {κ α:Type}{kenc:κ->Value}{venc:α->Value}{r:Nat}{m:List (κ×α)}{H:aC}{L:List aE}{P:Program}
variable [DecidableEq κ]{t k e:Nat}{z:α}(T:lE P t k e venc z)(KO:nB P k kenc)
include T KO
theorem aA.mp_get{x:κ}(h:aA H L)(i:Nat)(a:aW i L=mapA kenc venc r m) :
  dm P (Instr.lookup t (.map (some r)) (kenc x) true) H (.tuple #[venc ((aK x m).getD z),.bool (aK x m).isSome]):=by
 have:=h.mp_look T KO i a (x:=x)
 cases hm:aK x m with
 | none=>exact (this.2 hm).1
 | some v=>exact (this.1 v hm).1
theorem aA.mp_get1{x:κ}(h:aA H L)(i:Nat)(a:aW i L=mapA kenc venc r m) :
  dm P (Instr.lookup t (.map (some r)) (kenc x) false) H (venc ((aK x m).getD z)):=by
 have:=h.mp_look T KO i a (x:=x)
 cases hm:aK x m with
 | none=>exact (this.2 hm).2
 | some v=>exact (this.1 v hm).2
end
theorem nD{R:Loop}(b:R.state=.ready)(a:R.pending=none):{ R with state:=.ready,pending:=none }=R:=by
 cases R;simp only at b a;subst b;subst a;rfl
theorem aA.old_rd{H H0:aC}{L:List aE}(h:aA H L)(i:Nat)(d:aW i L=old H0){a:KQ}{cs:Os}(b:aP H0 a cs):aP H a cs:=λj v c=>⟨(b j v c).1,h.cell0 i d (b j v c).2⟩
theorem aA.old_grow{H H0:aC}{L:List aE}(h:aA H L)(i:Nat)(a:aW i L=old H0):dB H0 H:=λb hb=>h.was i a hb
theorem aA.ce_rd{H:aC}{L:List aE}(h:aA H L)(i:Nat){b e:Nat}{cs:Os}(c:aW i L=cellsA b cs e):aP H (some ⟨b,0,none⟩) cs:=λj v a=>⟨rfl,by
 simp only[aV,aS,VX];rw[h.rd i c];exact a⟩
theorem sat0(H:aC):aA H [old H]:=by unfold aA star;exact (N2 H).eq (by rw[star,vH])
abbrev U8:=Value.int .u8
def KIn(Q:aE)(a:KQ)(cs:Os):Prop:=∀H F,aA H (Q::F)->aP H a cs
def aM(Q Q':aE):Prop:=∀H F,aA H (Q'::F)->∃F',aA H (Q::F')
def KG(H0:aC)(Q:aE):Prop:=∀H F,aA H (Q::F)->dB H0 H
theorem aM.refl(Q:aE):aM Q Q:=λH F h=>⟨F,h⟩
theorem aM.trans{Q Q' a:aE}(h:aM Q Q')(c:aM Q' a):aM Q a:=λH F hs=>by
 obtain⟨d,b⟩:=c H F hs;exact h H d b
theorem gy{H:aC}{A B:aE}{L:List aE}:aA H ((A*B)::L)↔aA H (A::B::L):=by
 unfold aA;simp only[star];rw[jv]
theorem aM.add(A Q:aE):aM Q (A*Q):=λH F h=>⟨A::F,(gy.1 h).ord [1,0] (by decide) |> λ_=>by
 have:=(gy.1 h).o [1,0] 2;exact this⟩
theorem KIn.sub{Q Q':aE}{a:KQ}{cs:Os}(h:KIn Q a cs)(hs:aM Q Q'):KIn Q' a cs:=λH F d=>by
 obtain⟨c,b⟩:=hs H F d;exact h H c b
theorem KG.sub{Q Q':aE}{H0:aC}(h:KG H0 Q)(hs:aM Q Q'):KG H0 Q':=λH F c=>by
 obtain⟨b,a⟩:=hs H F c;exact h H b a
theorem KG.old(H0:aC):KG H0 (old H0):=λH F h=>h.old_grow 0 rfl
theorem KIn.old{H0:aC}{a:KQ}{cs:Os}(h:aP H0 a cs):KIn (old H0) a cs:=λH F hs=>hs.old_rd 0 rfl h
theorem KIn.sl{Q:aE}{e sz n c:Nat}{a:KQ}{cs:Os}:KIn (slA e sz a n c cs*Q) a cs:=λH F h=>(gy.1 h).sl_rd 0 rfl
theorem KIn.nil(Q:aE)(a:KQ):KIn Q a []:=λH F h=>iv H a
theorem KIn.at{Q:aE}{a:KQ}{cs:Os}{H:aC}{L:List aE}(h:KIn Q a cs)(hs:aA H L)(i:Nat)(c:aW i L=Q):aP H a cs:=by
 have b:=hs.foc i;rw[c]at b;exact h H (del i L) b
theorem ol{H:aC}{cs:Os}(h:aP H none cs):cs=[]:=by
 cases cs with
 | nil=>rfl
 | cons v r=>have:=(h 0 v rfl).1;cases this
theorem nE{α:Type}{enc:α->Value}(b:∀x,cT [enc x]=true):∀l:List α,cT (l.map enc)=true
 | []=>rfl
 | a::r=>by
  have d:=b a;have c:=nE b r;have:cT (enc a::r.map enc)=cT ([enc a]++r.map enc):=rfl;rw[Wf,this];exact vM d c
def kO{κ α:Type}(kenc:κ->Value)(venc:α->Value)(r mb:Nat)(m dn:List (κ×α)):aE:=λh=>
 ∃(es:Array MapEntry) (clock:Nat) (ml:List (κ×α)) (seen:Array Nat) (is:List Nat),
  ((aG m).Nodup/\ml.Perm m/\es.toList.map (λe:MapEntry=>(e.key,e.val))=ml.map (λp=>(kenc p.1,venc p.2))/\(es.toList.map (·.born)).Nodup/\(∀e∈es.toList,e.born<clock)/\
   is.Nodup/\dn.map some=is.map (λi=>ml[i]?)/\seen.toList.map some=is.map (λi=>(es.toList[i]?).map (·.born)))/\
  (pt r (.mapIter (some mb) clock seen clock)*pt mb (.map es clock)) h
section
variable {κ α:Type}{kenc:κ->Value}{venc:α->Value}{r mb:Nat}{m dn:List (κ×α)}{H:aC}{L:List aE}{P:Program}
theorem vU{F:aE}(h:aQ H (kO kenc venc r mb m dn*F)):∃(c:Array MapEntry) (a:Nat) (d:List (κ×α)) (b:Array Nat) (is:List Nat),
  ((aG m).Nodup/\d.Perm m/\c.toList.map (λe:MapEntry=>(e.key,e.val))=d.map (λp=>(kenc p.1,venc p.2))/\(c.toList.map (·.born)).Nodup/\(∀e∈c.toList,e.born<a)/\
   is.Nodup/\dn.map some=is.map (λi=>d[i]?)/\b.toList.map some=is.map (λi=>(c.toList[i]?).map (·.born)))/\
  aQ H ((pt r (.mapIter (some mb) a b a)*pt mb (.map c a))*F):=by
 obtain⟨g,k,x,y,hd,rfl,⟨c,a,d,b,is,f,j⟩,n⟩:=h;exact⟨c,a,d,b,is,f,_,k,x,y,hd,rfl,j,n⟩
theorem aA.rg_map(h:aA H L)(i:Nat)(f:aW i L=kO kenc venc r mb m dn):aA H (put i (mapA kenc venc mb m) L):=by
 have b:=h.foc i;rw[f]at b;obtain⟨k,a,e,d,is,⟨f1,f2,f3,f4,f5,_⟩,c⟩:=vU b;refine aA.back ?_;rw[jv]at c;exact c.drop'.frame λp j=>⟨f1,k,a,⟨e,f2,f3⟩,f4,f5,j⟩
theorem NH{w:World}(o:Obj):(newObj o).run P w=.ok w.heap.size (w.alloc o):=rfl
theorem aA.rg_new{t k e:Nat}{z:α}(T:lE P t k e venc z){K:KE}(h:aA H L)(i:Nat)(s:aW i L=mapA kenc venc mb m)
  (kk:∀r d,aA d (put i (kO kenc venc r mb m []) L)->K (.pointer (some ⟨r,0,none⟩)) d):cB P (Instr.range t (.map (some mb))) H K:=by
 refine .mk λw j=>?_
 subst j;have b:=h.foc i;rw[s]at b;obtain⟨x,v,a,⟨n,f2,f3⟩,f4,f5,c⟩:=mp b;refine⟨.pointer (some ⟨w.heap.size,0,none⟩),w.alloc (.mapIter (some mb) a #[] a),?_,⟨rfl,rfl,rfl⟩,kk _ _ ?_⟩
 .simp [Instr.range,run_underlying T.und,Go.MapKept.run_getObj_map c.get,NH]
 .refine aA.back ?_;have f:=c.push (.mapIter (some mb) a #[] a);rw[<-jv]at f;exact f.frame λp u=>⟨v,a,n,#[],[],⟨x,f2,f3,f4,f5,List.nodup_nil,rfl,rfl⟩,u⟩
theorem aA.rg_next{ty:Nat}{K:KE}(h:aA H L)(i:Nat)(hA:aW i L=kO kenc venc r mb m dn)
  (k0:dn.Perm m->K (.tuple #[.bool false]) H)
  (k1:∀p,p∈m->p.1∉aG dn->∀H',aA H' (put i (kO kenc venc r mb m (dn++[p])) L)->K (.tuple #[.bool true,kenc p.1,venc p.2]) H') :
  cB P (Instr.next (.pointer (some ⟨r,0,none⟩)) false ty) H K:=by
 refine .mk λw hw=>?_
 subst hw;have F:=h.foc i;rw[hA]at F;obtain⟨k,c,f,d,is,⟨f1,f2,f3,f4,f5,f6,f7,f8⟩,T⟩:=vU F;rw[jv]at T;have h7:k.toList.length=f.length:=by have:=congrArg List.length f3;simpa using this
 have V:∀(i j:Nat) (a b:MapEntry),k.toList[i]?=some a->k.toList[j]?=some b->a.born=b.born->i=j:=by
  intro i j a b O hb C;have E:(k.toList.map (·.born))[i]?=some a.born:=by simp[List.getElem?_map,O]
  have F:(k.toList.map (·.born))[j]?=some a.born:=by simp[List.getElem?_map,hb,C]
  have hi:i<(k.toList.map (·.born)).length:=by
   rcases Wa i (k.toList.map (·.born)).length with h|h
   .exact h
   .rw [List.getElem?_eq_none h]at E;cases E
  exact (List.getElem?_inj hi f4).1 (E.trans F.symm)
 have t:∀b,b∈d.toList↔∃i∈is,∃a,k.toList[i]?=some a/\a.born=b:=by
  intro b;have:b∈d.toList↔some b∈d.toList.map some:=by simp
  rw[this,f8,VH]
  constructor
  .rintro⟨i,hi,h⟩
   cases v:k.toList[i]? with
   | none=>rw[v]at h;cases h
   | some a=>rw[v]at h;simp at h;exact⟨i,hi,a,v,h⟩
  .rintro⟨i,hi,a,v,h⟩;exact⟨i,hi,by rw[v];simp[h]⟩
 rcases run_next_at (P:=P) w ty r mb c c d k c T.get T.drop'.get f5 (VF _) with ⟨h0,u⟩|⟨e,v,w1,M,u⟩
 .refine⟨_,_,u,bW.refl _,k0 ?_⟩;have R:∀e∈k.toList,e.born∈d.toList:=by
   intro e v;have Y:leftOf k d=#[]:=Array.eq_empty_of_size_eq_zero h0;unfold leftOf at Y;rw[Array.filter_eq_empty_iff]at Y;have:=Y e (by simpa using v);simpa using this
  have hp:is.Perm (List.range f.length):=by
   refine (List.perm_ext_iff_of_nodup f6 List.nodup_range).2 λi=>?_
   rw[WG]
   constructor
   .intro hi
    rcases Wa i f.length with h|h
    .exact h
    .exfalso;have E:(none:Option (κ×α))∈dn.map some:=by rw[f7];exact VH.2 ⟨i,hi,by rw[List.getElem?_eq_none h]⟩
     simp at E
   .intro hi;have I:i<k.toList.length:=by omega
    obtain⟨j,B,a,O,C⟩:=(t _).1 (R k.toList[i] (VL I));have:=V j i a k.toList[i] O (List.getElem?_eq_getElem I) C;rw[<-this];exact B
  have S:(dn.map some).Perm (f.map some):=by
   rw[f7];refine (hp.map _).trans ?_;have:(List.range f.length).map (λi=>f[i]?)=f.map some:=by
    apply WU;intro j;simp only[List.getElem?_map]
    by_cases B:j<f.length
    .rw [List.getElem?_range B,List.getElem?_eq_getElem B];simp
    .rw [List.getElem?_eq_none (by simpa using B),List.getElem?_eq_none (by omega)];rfl
   rw[this]
  have U:=S.filterMap id;simp only[List.filterMap_map,Function.comp_def,id]at U;rw[List.filterMap_some,List.filterMap_some]at U;exact U.trans f2
 .unfold leftOf at v;have G:e∈k.toList/\e.born∉d.toList:=by simpa using v
  obtain⟨s,D,A⟩:=List.mem_iff_getElem.1 G.1;have x:s<f.length:=by omega
  have N:(e.key,e.val)=(kenc f[s].1,venc f[s].2):=by
   have:=congrArg (λl=>l[s]?) f3
   simp only[List.getElem?_map,List.getElem?_eq_getElem D,List.getElem?_eq_getElem x,Wj,A]at this;exact Option.some.inj this
  have J:s∉is:=λhi=>G.2 ((t _).2 ⟨s,hi,e,by rw[List.getElem?_eq_getElem D,A],rfl⟩)
  have Z:(aG f).Nodup:=(f2.map Prod.fst).nodup_iff.2 f1;refine⟨_,_,u,?_,?_⟩
  .rcases M with rfl|rfl <;> exact⟨rfl,rfl,rfl⟩
  .have e1:e.key=kenc f[s].1:=congrArg Prod.fst N;have e2:e.val=venc f[s].2:=congrArg Prod.snd N;rw[e1,e2];refine k1 f[s] (f2.mem_iff.1 (VL x)) (λQ=>?_) _ (aA.back ?_)
   .obtain⟨q,hq,W⟩:=VH.1 Q;have:some q∈dn.map some:=VH.2 ⟨q,hq,rfl⟩;rw[f7]at this;obtain⟨j,B,n⟩:=VH.1 this;have y:j<f.length:=by
     rcases Wa j f.length with h|h
     .exact h
     .rw [List.getElem?_eq_none h]at n;cases n
    rw[List.getElem?_eq_getElem y]at n;have n:=Option.some.inj n;have:j=s:=by
     have E:(aG f)[j]?=some q.1:=by simp[aG,List.getElem?_eq_getElem y,n]
     have F:(aG f)[s]?=some q.1:=by simp[aG,List.getElem?_eq_getElem x,W]
     exact (List.getElem?_inj (by simpa[aG] using y) Z).1 (E.trans F.symm)
    exact J (this▸B)
   .have h4:aQ (w.heap.setIfInBounds r (.mapIter (some mb) c (d.push e.born) c)) (pt r (.mapIter (some mb) c (d.push e.born) c)*(pt mb (.map k c)*star (del i L))):=ql T;have S:aQ (Go.ChangeMaps.setBlock w1 r (.mapIter (some mb) c (d.push e.born) c)).heap (pt r (.mapIter (some mb) c (d.push e.born) c)*(pt mb (.map k c)*star (del i L))):=by
     rcases M with rfl|rfl <;> exact h4
    rw[<-jv]at S;refine S.frame λp hp=>⟨k,c,f,d.push e.born,is++[s],⟨f1,f2,f3,f4,f5,?_,?_,?_⟩,hp⟩
    .exact List.nodup_append.2 ⟨f6,by simp,λa O b hb=>by simp at hb;subst hb;exact λe=>J (e▸O)⟩
    .rw [VW,f7,VW];simp[List.getElem?_eq_getElem x]
    .rw [Array.toList_push,VW,f8,VW];simp only[Wf,Yg,List.getElem?_eq_getElem D,A,Wj]
theorem aA.rg_entry{p:κ×α}(h:aA H L)(i:Nat)(C:aW i L=kO kenc venc r mb m (dn++[p])):dm P (Instr.entry (.pointer (some ⟨r,0,none⟩))) H (.tuple #[kenc p.1,venc p.2]):=by
 intro w B;subst B;have x:=h.foc i;rw[C]at x;obtain⟨d,a,t,e,is,⟨f1,f2,f3,f4,f5,f6,f7,f8⟩,s⟩:=vU x;rw[jv]at s;have k:=congrArg List.length f7;have j:=congrArg List.length f8;simp only[VM,V7,Wv]at k j
 rcases YC is with v|⟨A,c,rfl⟩
 .subst v;simp at k
 rw[YD]at *;rw[VW,VW]at f7;have e7:=(List.append_inj' f7 (by simp)).2;simp only[Wf,Yg,List.cons.injEq,and_true]at e7;have D:c<t.length:=by
  rcases Wa c t.length with h|h
  .exact h
  .rw [List.getElem?_eq_none h]at e7;cases e7
 have y:d.toList.length=t.length:=by have:=congrArg List.length f3;simpa using this
 have f:c<d.toList.length:=by omega
 rcases YC e.toList with v|⟨s0,b,hs⟩
 .rw [v]at j;simp at j
 rw[YD]at hs;rw[hs,VW,VW]at f8;have e8:=(List.append_inj' f8 (by simp)).2;simp only[Wf,Yg,List.cons.injEq,and_true,List.getElem?_eq_getElem f,Wj,Option.some.injEq]at e8;have u:e=(⟨s0⟩:Array Nat).push d.toList[c].born:=by apply Array.ext';rw[hs,e8];simp
 have n:(d.toList[c].key,d.toList[c].val)=(kenc p.1,venc p.2):=by
  have:=congrArg (λl=>l[c]?) f3
  simp only[List.getElem?_map,List.getElem?_eq_getElem f,<-e7,Wj]at this;exact Option.some.inj this
 have e1:d.toList[c].key=kenc p.1:=congrArg Prod.fst n;have e2:d.toList[c].val=venc p.2:=congrArg Prod.snd n;rw[u]at s;have:=run_entry_at (P:=P) w r mb a ⟨s0⟩ d a d.toList[c] s.get s.drop'.get (VL f) f4;rw[e1,e2]at this;exact this
end
def oR(H:aC)(r:Nat):Nat:=match H[r]? with|some (.mapIter _ _ seen _)=>seen.size|_=>0
theorem aA.rg_count{κ α:Type}{kenc:κ->Value}{venc:α->Value}{r mb:Nat}{m dn:List (κ×α)}{H:aC}{L:List aE}(h:aA H L)(i:Nat)(n:aW i L=kO kenc venc r mb m dn):oR H r=dn.length/\dn.length<=m.length:=by
 have e:=h.foc i;rw[n]at e;obtain⟨t,d,j,k,is,⟨f1,f2,f3,f4,f5,f6,f7,f8⟩,f⟩:=vU e;rw[jv]at f;have a:=congrArg List.length f7;have b:=congrArg List.length f8;simp only[VM]at a b;refine⟨?_,?_⟩
 .unfold oR;rw[f.get];simp only;rw[<-WA,b,a]
 .rw [a,<-f2.length_eq];have c:is ⊆ List.range j.length:=by
   intro i hi;rw[WG]
   rcases Wa i j.length with h|h
   .exact h
   .exfalso;have s:(none:Option (κ×α))∈dn.map some:=by rw[f7];exact VH.2 ⟨i,hi,by rw[List.getElem?_eq_none h]⟩
    simp at s
  have:=f6.length_le_of_subset c;simpa using this
def fh(s:Fa):List Int:=s.data.toList.map λb=>(b.toNat:Int)
theorem tF(s:Fa):(fh s).length=s.size:=by
 rw[fh,VM,WA];rfl
theorem NI(s:Fa):∀x∈fh s,0<=x/\x<256:=by
 intro x a;simp only[fh,VH]at a;obtain⟨b,_,rfl⟩:=a;have:=b.toNat_lt;omega
section
variable {H:aC}{F:aE}{e sz n c:Nat}{a:KQ}{cs:Os}
theorem Eu{P:Program}(s:Fa)(size:Nat)(w:World):(Builtin.firstCells size s.size (.string s)).run P w=.ok (((fh s).map U8).toArray) w:=by
 have c:s.extract 0 s.size=s:=by simp
 have a:s.data.map (λb=>Value.int .u8 b.toNat)=((fh s).map U8).toArray:=by
  apply Array.ext';rw[Array.toList_map,List.toList_toArray,fh,Wu];rfl
 simp only[Builtin.firstCells,c,a];rfl
theorem NJ{P:Program}{t ts bytes ty:Nat}(T:SlT P t e 1 bytes)(A:P.underlying ts=some .string){s:Fa}{K:KE}(h:aQ H (slA e 1 a n c cs*F))
  (hb:(n+s.size)*bytes<=140737488355328) (hn:n+s.size<=140737488355328)
  (k:∀W c' Z,aQ Z (slA e 1 W (n+s.size) c' (cs++(fh s).map U8)*F)->K (.slice W (n+s.size) c') Z) :
  cB P (Builtin.append_ #[t,ts] ty #[.slice a n c,.string s]) H K:=by
 obtain⟨V,h1,i,z,hi,hz,x,rfl,v⟩:=T;refine .mk λw M=>?_
 subst M;obtain⟨d,B⟩:=ky h;have U:((fh s).map U8).length=s.size:=by rw[VM,tF]
 have G:cT ((fh s).map U8)=true:=nE (λ_=>rfl) _
 have S:¬(9223372036854775807<(n:Int)+(s.size:Int)):=by omega
 have y:=Eu (P:=P) s i.size w;have L:=Eu (P:=P) s i.size w.drew;have I:=tu (P:=P) (w:=w.drew) (a2:=a) (m:=n) (c2:=c) (yE h) d;generalize hws:(fh s).map U8=ws at *;rw[<-x]at d B v I
 by_cases hroom:n+s.size<=c
 .rcases B with ⟨B,Y,E,C⟩|⟨b,pre,post,e',fr,B,Y,E,O,C⟩
  .subst B;subst Y;subst E;have h0:s.size=0:=by omega
   obtain rfl:ws=[]:=WN (by omega);obtain rfl:cs=[]:=WN (by simpa using d);refine⟨.slice none (0+s.size) 0,w,?_,bW.refl w,k _ _ _ ?_⟩
   .rw [h0]at y;simp[Builtin.append_,run_underlying V,run_underlying A,sizeOf,typeInfo,hi,Builtin.lenOf,h0,y]
   .rw [h0];exact rA C
  .subst B;have f:i.size=1:=x.symm▸rfl;have D:ws.length<=post.length:=by
    rw[f]at E;omega
   have u:eT w.heap b (pre.length+n*i.size) ws:=C.canG ws _ (by rw[f]at d ⊢;simp[d];rw[f]at E;omega) λj J R=>O j (by omega) (by rw[f]at R ⊢;omega)
   obtain⟨w',J,R,h8⟩:=qW (P:=P) (b:=b) ws (pre.length+n*i.size) 0 w (by simpa using u) (by simpa using qX _ _ u) G;refine⟨.slice (some ⟨b,pre.length,none⟩) (n+s.size) c,w',?_,R,k _ _ _ ?_⟩
   .simp [Builtin.append_,run_underlying V,run_underlying A,sizeOf,typeInfo,hi,Builtin.lenOf,hroom,y,iQ,J]
   .rw [h8];have h9:=aQ.setsG ws (pre.length+n*i.size) C;have e1:pre.length+n*i.size=(pre++cs).length:=by simp[d]
    rw[e1,rB _ _ _ D]at h9;rw[WM,e1];rw[f]at d E;refine h9.frame λp G=>⟨by simp[d,U],.inr ⟨b,pre,post.drop ws.length,e',fr,rfl,hroom,?_,λh=>by rw[f]at O;exact O,by simpa using G⟩⟩
    rw[VU,U];omega
 .have Q:¬(281474976710656<Builtin.nextslicecap (n+s.size) c*i.bytes):=by
   have:=growslice_fits (need:=n+s.size) (old:=c) (bytes:=i.bytes) (by omega) hb;omega
  refine⟨.slice (some ⟨w.heap.size,0,none⟩) (n+s.size) (grownCap w (n+s.size) c e),w.drew.alloc (.cells (cs.toArray++ws.toArray++Builtin.zeroCells z.cells (grownCap w (n+s.size) c e-(n+s.size))) e),?_,⟨rfl,rfl,rfl⟩,k _ _ _ ?_⟩
  .simp [Builtin.append_,run_underlying V,run_underlying A,sizeOf,typeInfo,zeroValue,hi,hz,Builtin.lenOf,hroom,S,Q,Question.forced,I,L,newRow,grownCap];congr 2;apply Array.ext';simp[VK]
  .have C:aQ w.heap F:=h.drop';have J:=C.push (.cells (cs.toArray++ws.toArray++Builtin.zeroCells z.cells (grownCap w (n+s.size) c e-(n+s.size))) e);have N:=grownCap_ge w (n+s.size) c e;have f:i.size=1:=x.symm▸rfl;rw[f]at d v;refine J.frame λp G=>⟨by simp[d,U],.inr ⟨w.heap.size,[],(Builtin.zeroCells z.cells (grownCap w (n+s.size) c e-(n+s.size))).toList,e,(0,0),rfl,N,?_,λ_ i _ _ hh=>by simp at hh,?_⟩⟩
   .rw [WA,size_zeroCells,v];exact VF _
   .have e2:(([]:Os)++(cs++ws)++(Builtin.zeroCells z.cells (grownCap w (n+s.size) c e-(n+s.size))).toList).toArray=cs.toArray++ws.toArray++Builtin.zeroCells z.cells (grownCap w (n+s.size) c e-(n+s.size)):=by
     apply Array.ext';simp
    rw[e2];exact G
end
theorem aA.appendS{P:Program}{t ts bytes ty e n c:Nat}{a:KQ}{cs:Os}{H:aC}{L:List aE}(T:SlT P t e 1 bytes)(j:P.underlying ts=some .string){s:Fa}{K:KE}(h:aA H L)(i:Nat)(v:aW i L=slA e 1 a n c cs)
  (hb:(n+s.size)*bytes<=140737488355328) (w:n+s.size<=140737488355328)
  (k:∀d f b,aA b (put i (slA e 1 d (n+s.size) f (cs++(fh s).map U8)) L)->K (.slice d (n+s.size) f) b) :
  cB P (Builtin.append_ #[t,ts] ty #[.slice a n c,.string s]) H K:=by
 have m:=h.foc i;rw[v]at m;exact NJ T j m hb w λd f b u=>k d f b (aA.back u)
end Go.Proofs.YtaaieblnikcndaaGreatDoor
