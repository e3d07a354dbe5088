/-
  Lemmas for GateQuiet: part 1 of what it rests on. Conditions: none.
-/
import Derived.Test.YtaaieblnikcndaaGreatDoorGC0
set_option linter.unusedVariables false
set_option linter.unusedSimpArgs false
set_option maxRecDepth 100000
set_option maxHeartbeats 16000000
open Go.IntKind (i64 u64 i8 u8 i32 u32 i16 u16)
namespace Go.Proofs.YtaaieblnikcndaaGreatDoor
open Go
def cT.fits:cT->Value->Bool
 | .int k,.int k' _=>k=k'
 | .bool,.bool _=>true
 | .str,.string _=>true
 | .ptr,.pointer _=>true
 | .slice,.slice _ _ _=>true
 | .map,.map _=>true
 | .raw,_=>true
 | .fnv,.func (.func _) ⟨[]⟩ _=>true
 | .adr,.pointer (some ⟨_,_,none⟩)=>true
 | _,_=>false
def nS:List cT->Os->Bool
 | [],[]=>true
 | l::r,v::vs=>l.fits v&&nS r vs
 | _,_=>false
def Sh.fits:Sh->Value->Bool
 | .one l,v=>l.fits v
 | .agg ls,.agg cs=>nS ls cs.toList
 | .agg _,_=>false
def cT.lam:(l:cT)->{T:Type}->(Value->T)->l.fn T
 | .int k,_,f=>λn=>f (.int k n)
 | .bool,_,f=>λb=>f (.bool b)
 | .str,_,f=>λs=>f (.string s)
 | .ptr,_,f=>λa=>f (.pointer a)
 | .slice,_,f=>λa n c=>f (.slice a n c)
 | .map,_,f=>λr=>f (.map r)
 | .raw,_,f=>λv=>f v
 | .fnv,_,f=>λg cap=>f (.func (.func g) ⟨[]⟩ ⟨cap⟩)
 | .adr,_,f=>λb o=>f (.pointer (some ⟨b,o,none⟩))
 | .vec _ _,_,f=>f (.bool false)
def lamLs:(ls:List cT)->{T:Type}->(Os->T)->fnLs ls T
 | [],_,f=>f []
 | l::r,T,f=>l.lam (T:=fnLs r T) λv=>lamLs r λvs=>f (v::vs)
def Sh.lam:(s:Sh)->{T:Type}->(Value->T)->s.fn T
 | .one l,_,f=>l.lam f
 | .agg ls,_,f=>lamLs ls λvs=>f (.agg ⟨vs⟩)
def lamJ:(L:dt)->{T:Type}->(Os->T)->JT T L
 | [],_,f=>f []
 | (_,s)::r,T,f=>s.lam (T:=JT T r) λv=>lamJ r λvs=>f (v::vs)
theorem C7{v:Value}(h:cT.fits .fnv v=true):∃g cap,v=.func (.func g) ⟨[]⟩ cap:=by
 cases v <;> (try cases h)
 rename_i fn first cap
 cases fn <;> (try cases h)
 rcases first with ⟨_|_⟩ <;> (try cases h);exact⟨_,_,rfl⟩
theorem C8{v:Value}(h:cT.fits .adr v=true):∃b o,v=.pointer (some ⟨b,o,none⟩):=by
 cases v <;> (try cases h)
 rename_i a
 rcases a with _|⟨b,o,_|s⟩ <;> (try cases h);exact⟨_,_,rfl⟩
theorem C9(l:cT){T:Type}(f:Value->T)(v:Value)(h:l.fits v=true):l.app (l.lam f) v=some (f v):=by
 cases l
 case fnv=>obtain⟨g,⟨cap⟩,rfl⟩:=C7 h;rfl
 case adr=>obtain⟨b,o,rfl⟩:=C8 h;rfl
 all_goals (cases v <;> simp_all[cT.fits,cT.app,cT.lam])
theorem CE(l:cT){T:Type}(f:l.fn T)(v:Value)(g:T)(h:l.app f v=some g):l.fits v=true:=by
 cases l
 case fnv=>
  cases v <;> (try cases h)
  rename_i fn first cap
  cases fn <;> (try cases h)
  rcases first with ⟨_|_⟩ <;> (try cases h);rfl
 case adr=>
  cases v <;> (try cases h)
  rename_i a
  rcases a with _|⟨b,o,_|s⟩ <;> (try cases h);rfl
 all_goals (cases v <;> simp_all[cT.fits,cT.app])
theorem CG{l:cT}{K:Value->Prop}:l.all K↔∀v,l.fits v=true->K v:=by
 cases l
 case int k=>exact⟨λh v d=>by cases v <;> simp[cT.fits]at d;subst d;exact h _,λh n=>h _ (by simp[cT.fits])⟩
 case bool=>exact⟨λh v d=>by cases v <;> simp[cT.fits]at d;exact h _,λh n=>h _ rfl⟩
 case str=>exact⟨λh v d=>by cases v <;> simp[cT.fits]at d;exact h _,λh n=>h _ rfl⟩
 case ptr=>exact⟨λh v d=>by cases v <;> simp[cT.fits]at d;exact h _,λh n=>h _ rfl⟩
 case slice=>exact⟨λh v d=>by cases v <;> simp[cT.fits]at d;exact h _ _ _,λh a n c=>h _ rfl⟩
 case adr=>exact⟨λh v d=>by obtain⟨b,o,rfl⟩:=C8 d;exact h _ _,λh b o=>h _ rfl⟩
 case fnv=>exact⟨λh v d=>by obtain⟨g,⟨cap⟩,rfl⟩:=C7 d;exact h _ _,λh f cap=>h _ rfl⟩
 case map=>exact⟨λh v d=>by cases v <;> simp[cT.fits]at d;exact h _,λh n=>h _ rfl⟩
 case raw=>exact⟨λh v _=>h v,λh v=>h v rfl⟩
 case vec=>exact⟨λh v d=>(by cases v <;> cases d),λh=>trivial⟩
theorem CI:∀(ls:List cT) {T:Type} (f:Os->T) (vs:Os),nS ls vs=true->qK ls (lamLs ls f) vs=some (f vs)
 | [],_,f,[],_=>rfl
 | [],_,f,_::_,h=>by cases h
 | l::r,_,f,[],h=>by cases h
 | l::r,T,f,v::vs,h=>by
  simp only[nS,Vd]at h;simp only[qK,lamLs];rw[C9 l _ v h.1];exact CI r _ vs h.2
theorem CJ:∀(ls:List cT) {T:Type} (f:fnLs ls T) (vs:Os) (g:T),qK ls f vs=some g->nS ls vs=true
 | [],_,f,[],_,_=>rfl
 | [],_,f,_::_,_,h=>by cases h
 | l::r,_,f,[],_,h=>by cases h
 | l::r,T,f,v::vs,g,h=>by
  simp only[qK]at h
  split at h
  .rename_i b a;simp only[nS,Vd];exact⟨CE l _ v _ a,CJ r _ vs g h⟩
  .cases h
theorem ls_all:∀{ls:List cT} {K:Os->Prop},allLs ls K↔∀a,nS ls a=true->K a
 | [],K=>⟨λh a b=>(by cases a with|nil=>exact h|cons=>cases b),λh=>h [] rfl⟩
 | l::r,K=>by
  simp only[allLs,CG,ls_all];refine⟨λh a b=>?_,λh v b a c=>h _ (by simp[nS,b,c])⟩
  cases a with
  | nil=>cases b
  | cons v a=>
   simp only[nS,Vd]at b;exact h v b.1 a b.2
theorem MM(s:Sh){T:Type}(f:Value->T)(v:Value)(h:s.fits v=true):s.app (s.lam f) v=some (f v):=by
 cases s with
 | one l=>exact C9 l f v h
 | agg ls=>
  cases v <;> try cases h
  rename_i cs;simp only[Sh.app,Sh.lam];rw[CI ls _ cs.toList h]
theorem MN(s:Sh){T:Type}(f:s.fn T)(v:Value)(g:T)(h:s.app f v=some g):s.fits v=true:=by
 cases s with
 | one l=>exact CE l f v g h
 | agg ls=>
  cases v <;> try cases h
  rename_i cs;exact CJ ls f cs.toList g h
theorem sh_all{s:Sh}{K:Value->Prop}:s.all K↔∀v,s.fits v=true->K v:=by
 cases s with
 | one l=>exact CG
 | agg ls=>
  simp only[Sh.all,ls_all];refine⟨λh v b=>?_,λh c a=>h _ a⟩
  cases v <;> try cases b
  exact h _ b
def lz:dt->Os->Bool
 | [],[]=>true
 | (_,s)::r,v::vs=>s.fits v&&lz r vs
 | _,_=>false
def gD:dt->Fr->Os->Fr
 | (t,_)::r,fr,v::vs=>gD r (im fr t (.p v)) vs
 | _,fr,_=>fr
def gE(fr:Fr):dt->Option (Os)
 | []=>some []
 | (t,_)::r=>match iG fr t,gE fr r with|some v,some vs=>some (v::vs)|_,_=>none
def appV:(L:dt)->{T:Type}->JT T L->Os->Option T
 | [],_,j,[]=>some j
 | (_,s)::r,T,j,v::vs=>match s.app (T:=JT T r) j v with|some j'=>appV r j' vs|none=>none
 | _,_,_,_=>none
theorem yn:∀{L:dt} {fr:Fr} {K:Fr->Prop},allJ L fr K↔∀a,lz L a=true->K (gD L fr a)
 | [],fr,K=>⟨λh a b=>(by cases a with|nil=>exact h|cons=>cases b),λh=>h [] rfl⟩
 | (t,s)::r,fr,K=>by
  simp only[allJ,lp,sh_all,yn];refine⟨λh a b=>?_,λh v b a c=>h (v::a) (by simp[lz,b,c])⟩
  cases a with
  | nil=>cases b
  | cons v a=>
   simp only[lz,Vd]at b;exact h v b.1 a b.2
theorem yo:∀(L:dt) {T:Type} (j:JT T L) (fr:Fr) (g:T),lm L j fr=some g->∃a,gE fr L=some a/\appV L j a=some g/\lz L a=true
 | [],_,j,fr,g,h=>⟨[],rfl,h,rfl⟩
 | (t,s)::r,T,j,fr,g,h=>by
  simp only[lm]at h
  cases hg:iG fr t with
  | none=>simp[hg]at h
  | some v=>
   simp only[hg]at h
   cases ha:s.app (T:=JT T r) j v with
   | none=>simp[ha]at h
   | some j'=>
    simp only[ha]at h;obtain⟨a,c,b,d⟩:=yo r j' fr g h;refine⟨v::a,?_,?_,?_⟩
    .simp only[gE,hg,c]
    .simp only[appV,ha,b]
    .simp only[lz,MN s _ v _ ha,d,Bool.and_self]
theorem pV:∀(L:dt) {T:Type} (j:JT T L) (fr:Fr) (vs:Os),gE fr L=some vs->lm L j fr=appV L j vs
 | [],_,j,fr,vs,h=>by simp[gE]at h;subst h;rfl
 | (t,s)::r,T,j,fr,vs,h=>by
  simp only[gE]at h
  cases hg:iG fr t with
  | none=>simp[hg]at h
  | some v=>cases hr:gE fr r with
   | none=>simp[hg,hr]at h
   | some vs'=>
    simp only[hg,hr,Option.some.injEq]at h;subst h;simp only[lm,hg,appV]
    cases s.app (T:=JT T r) j v with
    | none=>rfl
    | some j'=>exact pV r j' fr vs' hr
theorem yp:∀(L:dt) {T:Type} (f:Os->T) (vs:Os),lz L vs=true->appV L (lamJ L f) vs=some (f vs)
 | [],_,f,[],_=>rfl
 | [],_,f,_::_,h=>by cases h
 | _::_,_,f,[],h=>by cases h
 | (t,s)::r,T,f,v::vs,h=>by
  simp only[lz,Vd]at h;simp only[appV,lamJ];rw[MM s _ v h.1];exact yp r _ vs h.2
def nj:dt->Nat->Bool
 | [],_=>true
 | (t,_)::r,n=>Nat.blt t n&&r.all (λx=>!(Nat.beq x.1 t))&&nj r n
theorem CK:∀(L:dt) (fr:Fr) (vs:Os),(gD L fr vs).length=fr.length
 | [],fr,vs=>by cases vs <;> rfl
 | (t,s)::r,fr,[]=>rfl
 | (t,s)::r,fr,v::vs=>by simp only[gD];rw[CK,pU]
theorem CN:∀(L:dt) (fr:Fr) (vs:Os) (t:Nat),(∀x∈L,x.1≠t)->aT (gD L fr vs) t=aT fr t
 | [],fr,vs,t,_=>by cases vs <;> rfl
 | (u,s)::r,fr,[],t,_=>rfl
 | (u,s)::r,fr,v::vs,t,h=>by
  simp only[gD];rw[CN r _ vs t (λx a=>h x (Vq _ a)),ly,UW (λb=>h _ Vn b.1)]
theorem MO{t:Nat}{s:Sh}{r:dt}{n:Nat}(h:nj ((t,s)::r) n=true):t<n/\(∀x∈r,x.1≠t)/\nj r n=true:=by
 simp only[nj,Vd,VL]at h;refine⟨by have:=h.1.1;simpa[Nat.blt_eq] using this,λx a b=>?_,h.2⟩
 have:=h.1.2 x a;rw[b]at this;simp at this
theorem sR:∀(L:dt) (fr:Fr) (vs:Os),nj L fr.length=true->lz L vs=true->gE (gD L fr vs) L=some vs
 | [],fr,[],_,_=>rfl
 | [],fr,_::_,_,h=>by cases h
 | _::_,fr,[],_,h=>by cases h
 | (t,s)::r,fr,v::vs,hok,h=>by
  obtain⟨b,a,d⟩:=MO hok;simp only[lz,Vd]at h;have c:=sR r (im fr t (.p v)) vs (by rw[pU];exact d) h.2;simp only[gD,gE,c];have:iG (gD r (im fr t (.p v)) vs) t=some v:=by
   unfold iG;rw[CN r _ vs t a,ly,UX ⟨rfl,b⟩]
  rw[this]
theorem CR:∀{L:dt} {fr:Fr} {vs:Os},gE fr L=some vs->∀a,(∀t v,aT fr t=some (.p v)->t<a.length)->∀t v,aT (gD L a vs) t=some (.p v)->aT fr t=some (.p v)\/(aT a t=some (.p v)/\∀x∈L,x.1≠t)
 | [],fr,vs,h,a,_,t,v,hl=>by simp[gE]at h;subst h;exact .inr ⟨hl,λx b=>by cases b⟩
 | (u,s)::r,fr,vs,h,a,hlen,t,v,hl=>by
  simp only[gE]at h
  cases hg:iG fr u with
  | none=>simp[hg]at h
  | some v'=>cases hr:gE fr r with
   | none=>simp[hg,hr]at h
   | some vs'=>
    simp only[hg,hr,Option.some.injEq]at h;subst h;have c:aT fr u=some (.p v'):=by
     unfold iG at hg
     split at hg
     .rename_i w e;cases hg;exact e
     .cases hg
    simp only[gD]at hl
    rcases CR hr (im a u (.p v')) (λt v h=>by rw[pU];exact hlen t v h) t v hl with h1|⟨h1,h2⟩
    .exact .inl h1
    .rw [ly]at h1
     split at h1
     .rename_i d
      cases h1
      left;rw[<-d.1];exact c
     .rename_i d;refine .inr ⟨h1,λx b=>?_⟩
      rcases Vm.1 b with rfl|b
      .exact λf=>d ⟨f,by have:=hlen u v' c;exact this⟩
      .exact h2 x b
def gX:List Oper->List Nat
 | []=>[]
 | o::r=>match o.dst with|some d=>d::gX r|none=>gX r
def fR:Code->List Nat
 | .region _ ops _=>gX ops.toList
 | .seq a b=>fR a++fR b
 | .cond _ a b=>fR a++fR b
 | .block _ a=>fR a
 | .loop a=>fR a
 | _=>[]
inductive Ann where
 | no
 | reg
 | regJ (live:dt)
 | seq (a b:Ann)
 | cond (a b:Ann)
 | condJ (live:dt) (a b:Ann)
 | blk (a:Ann)
 | blkJ (live:dt) (a:Ann)
 | loop (live:dt) (a:Ann)
 | rng (shs:List Sh) (jumps:List (Option Code)) (x y:Ann)
def natJ(L:dt)(μ:JT (aC->Nat) L)(fr:Fr)(H:aC):Nat:=match lm L μ fr with|some m=>m H|none=>0
def pW(L:dt)(ds:List Nat)(fr:Fr)(rest:Fr->aC->Prop)(body:(Fr->aC->Prop)->Prop):Prop:=
 if nj L fr.length=false then False else
 ∀J:JT (aC->Prop) L,(io (lq ds 0 fr) λfr0=>allJ L fr0 λfr'=>∀H',rest fr' H'->jE L J fr' H')->body (jE L J)
def qW(X:Ctx)(rd:Bool)(ops:Array Oper)(draw:Bool)(K:Fr->List DM->aC->Prop)(fr:Fr)(H:aC):Prop:=
 match draw with
 | false=>lw X ops rd K ops.toList [] [] fr H
 | true=>qQ X ops (jG ops.toList []) (λfr' H'=>K fr' [] H') ops.size (Array.replicate ops.size false) [] [] [] fr H
def pan1(v:Value):Exit:=.panic [{ v,recovered:=false }]
abbrev QT:=Exit->Fr->List DM->aC->Prop
def gF(H:aC)(l:Nat)(R:Loop):aC:=H.setIfInBounds l (.loop R)
def vm:Fr->List Tmp->Os->Fr
 | fr,t::ts,v::vs=>vm (im fr t (.p v)) ts vs
 | fr,_,_=>fr
def roundEnd(l:Nat)(R:Loop)(K:KE):Exit->aC->Prop
 | .normal,H=>K (.bool true) (gF H l R)
 | .ret,H=>K (.bool false) (gF H l { R with state:=.done,pending:=some .ret })
 | .exit i,H=>K (.bool false) (gF H l { R with state:=.done,pending:=some (.exit i) })
 | _,_=>False
def jumpQ(Q:Exit->Prop):Option Code->Prop
 | none=>Q .normal
 | some .ret=>Q .ret
 | some (.exit i)=>Q (.exit i)
 | some _=>False
def jumpK(Q:Exit->Prop):List (Option Code)->Option Code->Prop
 | [],_=>False
 | [c],pd=>pd=c/\jumpQ Q c
 | c::d::r,pd=>(pd=c/\jumpQ Q c)\/jumpK Q (d::r) pd
def ko:List DM->Prop->Prop
 | [],q=>q
 | _::_,_=>False
def Ctx.kq(X:Ctx)(ds:List Nat)(fr:Fr)(Q:QT):Ctx:={ X with kp:=λv H=>Q (pan1 v) (gl ds fr) [] H }
def Ctx.np(X:Ctx):Ctx:={ X with kp:=λ_ _=>False }
def seqQ(C:QT->Fr->aC->Prop)(Q:QT):QT:=λe fr M H=>match e with|.normal=>C (λe' fr' M' H'=>Q e' fr' (M'++M) H') fr H|e=>Q e fr M H
def seqN(C:QT->Fr->aC->Prop)(Q:QT):QT:=λe fr M H=>match e with|.normal=>(match M with|[]=>C Q fr H|M=>C (λe' fr' M' H'=>Q e' fr' (M'++M) H') fr H)|e=>Q e fr M H
theorem seqN_eq(C:QT->Fr->aC->Prop)(Q:QT):seqN C Q=seqQ C Q:=by
 funext e fr M H;unfold seqN seqQ
 cases e <;> try rfl
 cases M
 .simp only[V4]
 .rfl
def joinQ(J:Fr->aC->Prop)(Q:QT):QT:=λe fr M H=>match e with|.normal=>ko M (J fr H)|e=>Q e fr M H
def blkQ(id:Nat)(Q:QT):QT:=λe fr M H=>match e with|.exit i=>if i=id then Q .normal fr M H else Q (.exit i) fr M H|e=>Q e fr M H
def blkJQ(id:Nat)(J:Fr->aC->Prop)(Q:QT):QT:=λe fr M H=>match e with|.exit i=>if i=id then ko M (J fr H) else Q (.exit i) fr M H|.normal=>ko M (J fr H)|e=>Q e fr M H
def endJ(L:dt)(I:JT (aC->Prop) L)(μ:JT (aC->Nat) L)(fr0:Fr)(H0:aC)(fr:Fr)(H:aC):Prop:=match lm L I fr,lm L μ fr,lm L μ fr0 with
 | some p,some m,some m0=>p H/\m H<m0 H0
 | _,_,_=>False
theorem MQ{L:dt}{I:JT (aC->Prop) L}{μ:JT (aC->Nat) L}{a:Fr}{H0:aC}{fr:Fr}{H:aC}(h:endJ L I μ a H0 fr H):jE L I fr H/\natJ L μ fr H<natJ L μ a H0:=by
 unfold endJ at h;unfold jE natJ
 split at h
 .rename_i e1 e2 e3;rw[e1,e2,e3];exact h
 .exact h.elim
def loopQ(L:dt)(I:JT (aC->Prop) L)(μ:JT (aC->Nat) L)(fr0:Fr)(H0:aC)(Q:QT):QT:=λe fr M H=>match e with|.normal=>ko M (endJ L I μ fr0 H0 fr H)|e=>Q e fr M H
def regQ(X:Ctx)(ds:List Nat)(fr:Fr)(Q:QT)(C:Ctx->Prop):Prop:=match X.nop with|true=>C X.np|false=>C (X.kq ds fr Q)
def norQ(Q:QT):Fr->List DM->aC->Prop:=λfr M H=>Q .normal fr M H
def fo(X:Ctx):Option Nat->Code->Ann->QT->Fr->aC->Prop
 | _,.skip,_,Q,fr,H=>Q .normal fr [] H
 | ro,.region _ ops d,.reg,Q,fr,H=>regQ X (gX ops.toList) fr Q λY=>qW Y ro.isNone ops d (norQ Q) fr H
 | ro,.region _ ops d,.regJ L,Q,fr,H=>pW L (gX ops.toList) fr (λfr' H'=>Q .normal fr' [] H') λJ=>regQ X (gX ops.toList) fr Q λY=>qW Y ro.isNone ops d (λfr' M H'=>ko M (J fr' H')) fr H
 | ro,.seq a b,.seq x y,Q,fr,H=>fo X ro a x (seqN (λQ' fr' H'=>fo X ro b y Q' fr' H') Q) fr H
 | ro,.cond c a b,.cond x y,Q,fr,H=>(match evG #[] fr [] none c with
  | some (.bool t)=>(t=true->fo X ro a x Q fr H)/\(t=false->fo X ro b y Q fr H)
  | _=>False)
 | ro,.cond c a b,.condJ L x y,Q,fr,H=>(match evG #[] fr [] none c with
  | some (.bool t)=>pW L (fR a++fR b) fr (λfr' H'=>Q .normal fr' [] H') λJ=>
    (t=true->fo X ro a x (joinQ J Q) fr H)/\(t=false->fo X ro b y (joinQ J Q) fr H)
  | _=>False)
 | ro,.block id a,.blk x,Q,fr,H=>fo X ro a x (blkQ id Q) fr H
 | ro,.block id a,.blkJ L x,Q,fr,H=>pW L (fR a) fr (λfr' H'=>Q .normal fr' [] H') λJ=>fo X ro a x (blkJQ id J Q) fr H
 | ro,.loop a,.loop L x,Q,fr,H=>if nj L fr.length=false then False else ∃I:JT (aC->Prop) L,∃μ:JT (aC->Nat) L,jE L I fr H/\
   io (lq (fR a) 0 fr) λfr0=>allJ L fr0 λfr'=>∀H',jE L I fr' H'->fo X ro a x (loopQ L I μ fr' H' Q) fr' H'
 | none,.rangeFunc g ps a b,.rng shs js x y,Q,fr,H=>(match evG #[] fr [] none g with
  | some (.func (.func gf) ⟨[]⟩ ⟨cap⟩)=>if Nat.beq shs.length ps.toList.length=false then False else
    bI gf X.calls=true/\∀R:Loop,R.state=.ready->R.pending=none->
     (∀(vs:Os) (H1:aC) (K1:KE),
      (pB shs λus=>vs=us/\H1[H.size+1]?=some (.loop R)/\fo X (some (H.size+1)) a x (λe f1 M H2=>match e with
       | .normal=>ko M (H2[H.size+1]?=some (.loop R)/\∀H2':aC,H2'=gF H2 (H.size+1) { R with state:=.busy }->fo X (some (H.size+1)) b y (λe' _ M2 H3=>ko M2 (H3[H.size+1]?=some (.loop { R with state:=.busy })/\roundEnd (H.size+1) R K1 e' H3)) f1 H2')
       | _=>False) (vm fr ps.toList us) H1)->fI X.P (H.size+1) vs H1 K1)->
     iI X.P gf ⟨.func (.yield (H.size+1)) #[] #[]::cap⟩ ((H.push (.deferred (some []))).push (.loop R)) λ_ H2=>∃(st:LoopState) (pd:Option Code),st≠.busy/\H2[H.size+1]?=some (.loop { R with state:=st,pending:=pd })/\
      ∀H2':aC,H2'=gF H2 (H.size+1) { R with state:=.exhausted,pending:=pd }->jumpK (λe=>Q e fr [.mark H.size] H2') js pd
  | _=>False)
 | _,.exit id,_,Q,fr,H=>Q (.exit id) fr [] H
 | _,.ret,_,Q,fr,H=>Q .ret fr [] H
 | _,_,_,_,_,_=>False
theorem lZ{M:List DM}{q:Prop}:ko M q↔M=[]/\q:=by cases M <;> simp[ko]
theorem CZ:∀(l:List Oper) (o:Oper) (d:Tmp),o∈l->o.dst=some d->d∈gX l
 | [],_,_,h,_=>by cases h
 | x::r,o,d,h,hd=>by
  simp only[gX]
  rcases Vm.1 h with rfl|h
  .rw [hd];exact Vn
  .have:=CZ r o d h hd
   split
   .exact Vq _ this
   .exact this
structure eI(ds:List Nat)(a a':Act):Prop where
 defers:a'.defers=a.defers
 size:a'.tmps.size=a.tmps.size
 same:∀t,t∉ds->a'.tmps[t]?=a.tmps[t]?
theorem eI.refl(ds:List Nat)(a:Act):eI ds a a:=⟨rfl,rfl,λ_ _=>rfl⟩
theorem eI.trans{ds:List Nat}{a b c:Act}(h:eI ds a b)(k:eI ds b c):eI ds a c:=
 ⟨k.defers.trans h.defers,k.size.trans h.size,λt d=>(k.same t d).trans (h.same t d)⟩
theorem eI.put{ds:List Nat}{a b:Act}(h:eI ds a b){d:Option Tmp}(hd:∀t,d=some t->t∈ds)(v:Value):eI ds a (b.put d v):=by
 cases d with
 | none=>exact h
 | some t=>
  refine⟨h.defers,?_,λu c=>?_⟩
  .rw [qR,Array.size_setIfInBounds];exact h.size
  .rw [qR,Array.getElem?_setIfInBounds,UW (λe=>c (by rw[<-e];exact hd t rfl))];exact h.same u c
theorem sV(ds:List Nat)(fr:Fr):(gl ds fr).length=fr.length:=by
 unfold gl
 induction ds generalizing fr with
 | nil=>rfl
 | cons d r ih=>simp only[List.foldl_cons];rw[ih,pU]
theorem vo{ds:List Nat}:∀{fr:Fr} {t:Nat} {s:SV},aT (gl ds fr) t=some s->s=.x\/(aT fr t=some s/\t∉ds):=by
 unfold gl
 induction ds with
 | nil=>intro fr t s h;exact .inr ⟨h,by simp⟩
 | cons d r ih=>
  intro fr t s h;simp only[List.foldl_cons]at h
  rcases ih h with a|⟨a,c⟩
  .exact .inl a
  .rw [ly]at a
   split at a
   .cases a;exact .inl rfl
   .rename_i b
    by_cases hd:d=t
    .left;have f:¬d<fr.length:=λh=>b ⟨hd,h⟩
     rw[eH,List.getElem?_eq_none (by omega)]at a
     cases a
    .exact .inr ⟨a,by simp[c];exact λe=>hd e.symm⟩
theorem Da(n:Nat):∀a,lq.memD n a=true↔n∈a
 | []=>by simp[lq.memD]
 | m::r=>by
  unfold lq.memD;rw[Vm,<-Da n r]
  cases h:Nat.beq n m with
  | true=>simp[Wl h]
  | false=>
   have:n≠m:=λe=>by subst e;rw[Nat.beq_refl]at h;cases h
   simp[this]
theorem Db(ds:List Nat):∀(fr:Fr) (i t:Nat),aT (lq ds i fr) t=(aT fr t).map λs=>if i+t∈ds then .x else s
 | [],_,_=>rfl
 | s::r,i,0=>by
  simp only[lq,aT,V9,Wm];have:=Da i ds
  cases h:lq.memD i ds with
  | true=>rw[UX (this.1 h)]
  | false=>rw[UW (λhm=>by rw[this.2 hm]at h;cases h)]
 | s::r,i,t+1=>by
  simp only[lq,aT];rw[Db ds r (i+1) t,VQ,W6 1 t]
theorem Dc:∀(ds:List Nat) (fr:Fr) (t:Nat),aT (gl ds fr) t=(aT fr t).map λs=>if t∈ds then .x else s
 | [],fr,t=>by simp[gl]
 | d::r,fr,t=>by
  have:gl (d::r) fr=gl r (im fr d .x):=rfl;rw[this,Dc r,ly]
  by_cases h:d=t
  .subst h
   by_cases hl:d<fr.length
   .rw [UX ⟨rfl,hl⟩,eH,List.getElem?_eq_getElem hl];simp
   .rw [UW (λx=>hl x.2),eH,List.getElem?_eq_none (by omega)];rfl
  .rw [UW (λx=>h x.1)]
   have e:(t∈d::r)=(t∈r):=by rw[Vm,eq_iff_iff];exact⟨λx=>x.resolve_left λe=>h e.symm,.inr⟩
   simp only[e]
theorem Dd(ds:List Nat)(fr:Fr):lq ds 0 fr=gl ds fr:=by
 apply Wu;intro t;rw[<-eH,<-eH,Db,Dc,Vw]
theorem qX{fr b:Fr}{a i:Act}{ds:List Nat}{L:dt}{vs:Os}(R:Rel fr a)(K:eI ds a i)(k:Rel b i)(m:gE b L=some vs):Rel (gD L (gl ds fr) vs) i:=by
 have d:b.length=fr.length:=by rw[<-k.size,K.size,R.size]
 refine⟨by rw[CK,sV,K.size];exact R.size,λt v h=>?_,λt j w v h=>?_⟩
 .rcases CR m (gl ds fr) (λt v h=>by
    rw[sV,<-d];rw[eH]at h;exact (List.getElem?_eq_some_iff.1 h).1) t v h with h1|⟨h1,_⟩
  .exact k.pv _ _ h1
  .rcases vo h1 with c|⟨c,n⟩
   .cases c
   .rw [K.same t n];exact R.pv _ _ c
 .have key:∀(L:dt) (f:Fr) (vs:Os),(∀t j w v,aT f t≠some (.g j w v))->∀t j w v,aT (gD L f vs) t≠some (.g j w v):=by
   intro L
   induction L with
   | nil=>intro f vs e t j w v;cases vs <;> exact e t j w v
   | cons x r ih=>
    intro f vs e t j w v;obtain⟨u,s⟩:=x
    cases vs with
    | nil=>exact e t j w v
    | cons v' vs=>
     simp only[gD];refine ih _ vs (λt j w v h=>?_) t j w v
     rw[ly]at h
     split at h
     .cases h
     .exact e t j w v h
  refine key L _ vs (λt j w v h=>?_) t j w v h
  rcases vo h with c|⟨c,_⟩
  .cases c
  .exact R.ng _ _ _ _ c
def DM.dfr:DM->Deferred
 | .mark r=>{ target:=.collected r,args:=#[] }
 | .fn g cap=>{ target:=.fn (.func g) ⟨cap⟩,args:=#[] }
def nk(M:List DM):List Deferred:=M.map DM.dfr
structure iL(ds:List Nat)(M:List DM)(a a':Act):Prop where
 defers:a'.defers=nk M++a.defers
 size:a'.tmps.size=a.tmps.size
 same:∀t,t∉ds->a'.tmps[t]?=a.tmps[t]?
theorem iL.of{ds:List Nat}{a b:Act}(h:eI ds a b):iL ds [] a b:=⟨h.defers,h.size,h.same⟩
theorem iL.keep{ds:List Nat}{a b:Act}(h:iL ds [] a b):eI ds a b:=⟨h.defers,h.size,h.same⟩
theorem iL.trans{ds:List Nat}{M N:List DM}{a b c:Act}(h:iL ds M a b)(k:iL ds N b c):iL ds (N++M) a c:=
 ⟨by rw[k.defers,h.defers];simp[nk],k.size.trans h.size,λt d=>(k.same t d).trans (h.same t d)⟩
theorem iL.mono{ds c:List Nat}{M:List DM}{a b:Act}(h:iL ds M a b)(hs:∀t∈ds,t∈c):iL c M a b:=
 ⟨h.defers,h.size,λt d=>h.same t (λhm=>d (hs t hm))⟩
def Out(w0:World)(a0:Act)(ds:List Nat)(Q:QT):Exit->Act->World->Prop
 | e,a,w=>bV w0 w/\∃M,iL ds M a0 a/\match e with
  | .normal=>∃fr,Rel fr a/\Q .normal fr M w.heap
  | .exit i=>∃fr,Rel fr a/\Q (.exit i) fr M w.heap
  | .ret=>∃fr,Rel fr a/\Q .ret fr M w.heap
  | .panic ch=>∃fr,Rel fr a/\Q (.panic ch) fr M w.heap
  | _=>False
theorem rel_kill{fr:Fr}{a c:Act}{ds:List Nat}(R:Rel fr a)(K:eI ds a c):Rel (gl ds fr) c:=by
 refine⟨by rw[sV,K.size];exact R.size,λt v h=>?_,λt j w v h=>?_⟩
 .rcases vo h with b|⟨b,d⟩
  .cases b
  .rw [K.same t d];exact R.pv _ _ b
 .rcases vo h with b|⟨b,_⟩
  .cases b
  .exact R.ng _ _ _ _ b
theorem De{X:Ctx}(hm:X.P.follows .mixedOrders=true)(G:∀f,bI f X.calls=true->gC X.P f){S:Nat}{ops:Array Oper}{d:Bool}{K:Fr->List DM->aC->Prop}{fr:Fr}{w0 w:World}{a:Act}{ro:Option Nat}
  (R:Rel fr a) (F:bV w0 w) (y:oB X ops d=true) (h:qW X ro.isNone ops d K fr w.heap):(Code.region S ops d).wpIn (FR ro) 0 X.P (λe k s=>bV w0 s/\match e with
   | .normal=>∃M,iL (gX ops.toList) M a k/\∃c,Rel c k/\K c M s.heap
   | .panic ch=>∃v,ch=[{ v,recovered:=false }]/\eI (gX ops.toList) a k/\X.kp v s.heap
   | _=>False) a w:=by
 have m:∀(b:Act) (o:Oper) (v:Value),o∈ops.toList->eI (gX ops.toList) a b->eI (gX ops.toList) a (b.put o.dst v):=
  λb o v T L=>L.put (λt H=>CZ _ o t T H) v
 cases d with
 | false=>
  refine wpIn_region_list ?_;refine qV (Inv:=eI (gX ops.toList) a) G m (λc k s n i u A=>⟨n,[],.of A,c,i,u⟩) (λc k s g cap _ n i u A=>⟨n,_,⟨?_,A.size,A.same⟩,c,⟨i.size,i.pv,i.ng⟩,u⟩)
   (λv k s n i u=>⟨n,v,rfl,i,u⟩) ops.toList [] [] fr a w (λ_ h=>h) (eI.refl _ _) (qU R) F h
  simp[nk,DM.dfr,A.defers]
 | true=>
  simp only[qW]at h;simp only[oB,Vd]at y;obtain⟨hs,E,B⟩:=y;refine wpIn_region_any hm ?_;have D:bV w0 { heap:=w.heap,tape:=w.tape,drawn:=w.drawn+1,os:=w.os,output:=w.output }:=F.trans ⟨rfl,rfl,rfl⟩;refine uZ (w0:=w0) (KP:=X.kp) (isW:=isWB X ops) (bf:=bfB (jG ops.toList [])) (Q:=λk N=>(∃c,Rel c k/\K c [] N)/\eI (gX ops.toList) a k) (λk s n i=>?_)
   (Ch E) (Inv:=eI (gX ops.toList) a) m (λv k s n i u=>⟨n,v,rfl,i,u⟩) _ [] _ _ _ D (eI.refl _ _) ?_
  .exact⟨n,[],.of i.2,i.1⟩
  .refine vl G hs m _ _ [] [] [] fr _ a ?_ (λx O=>by cases O) (qU R) (eI.refl _ _) B h
   intro j U J I;exfalso
   rcases V0 j ops.size with C|C
   .simp [C]at I
   .simp [Array.getElem?_eq_none C]at J
theorem yq{L:dt}{ds:List Nat}{fr:Fr}{rest:Fr->aC->Prop}{body:(Fr->aC->Prop)->Prop}(h:pW L ds fr rest body) :
  ∃J:Fr->aC->Prop,body J/\∀b H,J b H->∃a,gE b L=some a/\rest (gD L (gl ds fr) a) H:=by
 unfold pW at h;obtain⟨i,h⟩:=qT h;have f:nj L (gl ds fr).length=true:=by rw[sV];simpa using i
 refine⟨_,h (lamJ L λa=>rest (gD L (gl ds fr) a)) ?_,λb H e=>?_⟩
 .rw [lp,Dd,yn];intro a d n c;unfold jE;rw[pV L _ _ a (sR L _ a f d),yp L _ a d];exact c
 .unfold jE at e
  cases ha:lm L (lamJ L λa=>rest (gD L (gl ds fr) a)) b with
  | none=>rw[ha]at e;exact e.elim
  | some p=>
   rw[ha]at e;obtain⟨a,k,j,m⟩:=yo L _ b p ha;rw[yp L _ a m]at j
   cases j
   exact⟨a,k,e⟩
def frOf(a:Act):Fr:=a.tmps.toList.map .p
theorem Df:∀{L:dt} {fr:Fr} {a:Act} {vs:Os},Rel fr a->gE fr L=some vs->gE (frOf a) L=some vs
 | [],_,_,_,_,h=>h
 | (t,s)::r,fr,a,vs,R,h=>by
  simp only[gE]at h ⊢
  cases hg:iG fr t with
  | none=>simp[hg]at h
  | some v=>cases hr:gE fr r with
   | none=>simp[hg,hr]at h
   | some vs'=>
    simp only[hg,hr,Option.some.injEq]at h;subst h;have b:aT fr t=some (.p v):=by
     unfold iG at hg
     split at hg
     .rename_i w d;cases hg;exact d
     .cases hg
    have c:=R.pv _ _ b;have:iG (frOf a) t=some v:=by
     unfold iG frOf;rw[yk,eH,Array.getElem?_toList,c];rfl
    rw[this,Df R hr]
theorem Dg:∀{ss:List Sh} {Q:Os->Prop},pB ss Q->∃a,a.length=ss.length/\Q a
 | [],_,h=>⟨[],rfl,h⟩
 | s::r,Q,h=>by
  simp only[pB]at h;obtain⟨v,b⟩:=oz h;obtain⟨a,c,d⟩:=Dg (ss:=r) b;exact⟨v::a,by simp[c],d⟩
theorem Dh:∀(ps:List Tmp) (vs:Os) (fr:Fr) (a:Act),Rel fr a->Rel (vm fr ps vs) { tmps:=(ps.zip vs).foldl (λt p=>t.setIfInBounds p.1 p.2) a.tmps,defers:=[] }
 | [],vs,fr,a,R=>⟨R.size,R.pv,R.ng⟩
 | t::ps,[],fr,a,R=>⟨R.size,R.pv,R.ng⟩
 | t::ps,v::vs,fr,a,R=>by
  simp only[vm,List.zip_cons_cons,List.foldl_cons];refine Dh ps vs (im fr t (.p v)) { tmps:=a.tmps.setIfInBounds t v,defers:=[] } ⟨by simp[pU,R.size],λu x h=>?_,λu j w x h=>?_⟩
  .rw [ly]at h
   split at h
   .rename_i b;obtain⟨rfl,c⟩:=b
    cases h
    rw[Array.getElem?_setIfInBounds,UX rfl,UX (by rw[R.size];exact c)]
   .rename_i b;have d:=R.pv u x h
    by_cases e:t=u
    .subst e;exfalso;exact b ⟨rfl,by rw[eH]at h;exact (List.getElem?_eq_some_iff.1 h).1⟩
    .rw [Array.getElem?_setIfInBounds,UW e];exact d
  .rw [ly]at h
   split at h
   .cases h
   .exact R.ng _ _ _ _ h
theorem Di{X:Ctx}{ops:Array Oper}{ds:List Nat}{fr:Fr}{Q:QT}:∀l,lx (X.kq ds fr Q) ops l=lx X ops l
 | []=>rfl
 | i::r=>by
  unfold lx;rw[Di r];rfl
theorem Dj{X:Ctx}{ops:Array Oper}{ds:List Nat}{fr:Fr}{Q:QT}:∀n l,oA (X.kq ds fr Q) ops n l=oA X ops n l
 | 0,_=>rfl
 | n+1,l=>by
  unfold oA;simp only[Di,Dj n]
theorem Dk{X:Ctx}{ops:Array Oper}{d:Bool}{ds:List Nat}{fr:Fr}{Q:QT}(h:oB X ops d=true):oB (X.kq ds fr Q) ops d=true:=by
 unfold oB at h ⊢;simp only[Dj];exact h
theorem Dl{X:Ctx}{ops:Array Oper}{d:Bool}{ds:List Nat}{fr:Fr}{Q:QT}{C:Ctx->Prop}(h:regQ X ds fr Q C)(a:oB X ops d=true) :
  ∃Y:Ctx,Y.P=X.P/\Y.calls=X.calls/\oB Y ops d=true/\(∀v H,Y.kp v H->(X.kq ds fr Q).kp v H)/\C Y:=by
 unfold regQ at h
 split at h
 .exact⟨X.np,rfl,rfl,Dk (X:=X) (ds:=[]) (fr:=[]) (Q:=λ_ _ _ _=>False) a,λ_ _ h=>h.elim,h⟩
 .exact⟨X.kq ds fr Q,rfl,rfl,Dk a,λ_ _ h=>h,h⟩
theorem and_l{a b:Bool}(h:(a&&b)=true):a=true:=by cases a <;> simp_all
theorem and_r{a b:Bool}(h:(a&&b)=true):b=true:=by cases a <;> simp_all
theorem Dm{X:Ctx}(hm:X.P.follows .mixedOrders=true)(hX:∀f,bI f X.calls=true->gC X.P f):∀(c:Code) (w0:World) (ro:Option Nat) (an:Ann) (Q:QT) (fr:Fr) (a:Act) (w:World),okC X c=true->
  Rel fr a->bV w0 w->fo X ro c an Q fr w.heap->c.wpIn (FR ro) 0 X.P (Out w0 a (fR c) Q) a w:=by
 intro c
 induction c with
 | skip=>intro w0 ro an Q fr a w m R F h;cases an <;> exact wpIn_skip ⟨F,[],.of (eI.refl _ _),fr,R,h⟩
 | exit id=>intro w0 ro an Q fr a w m R F h;cases an <;> cases ro <;> exact wpIn_exit ⟨F,[],.of (eI.refl _ _),fr,R,h⟩
 | ret=>intro w0 ro an Q fr a w m R F h;cases an <;> cases ro <;> exact wpIn_ret ⟨F,[],.of (eI.refl _ _),fr,R,h⟩
 | region id ops d=>
  intro w0 ro an Q fr a w m R F h;have u8:∀(ch:List PanicEntry) (D:Act) (G:World),bV w0 G->(∃v,ch=[{ v,recovered:=false }]/\eI (gX ops.toList) a D/\(X.kq (gX ops.toList) fr Q).kp v G.heap)->Out w0 a (fR (.region id ops d)) Q (.panic ch) D G:=by
   rintro ch D G B ⟨v,rfl,n,k⟩;exact⟨B,[],.of n,_,rel_kill R n,k⟩
  cases an with
  | reg=>
   have h:regQ X (gX ops.toList) fr Q λY=>qW Y ro.isNone ops d (norQ Q) fr w.heap:=by cases ro <;> exact h
   obtain⟨Y,eP,eC,l5,hkp,h⟩:=Dl h m;rw[<-eP]at hm hX ⊢;rw[<-eC]at hX;refine wpIn_mono (De (X:=Y) (ro:=ro) hm hX R F l5 (K:=norQ Q) h) (λe D G N=>?_)
   obtain⟨B,n⟩:=N
   cases e with
   | normal=>obtain⟨M,n,k⟩:=n;exact⟨B,M,n,k⟩
   | panic ch=>obtain⟨v,q1,q2,q3⟩:=n;exact u8 ch D G B ⟨v,q1,q2,hkp _ _ q3⟩
   | _=>exact n.elim
  | regJ L=>
   have h:pW L (gX ops.toList) fr (λj H'=>Q .normal j [] H') λJ=>regQ X (gX ops.toList) fr Q λY=>qW Y ro.isNone ops d (λj M H'=>ko M (J j H')) fr w.heap:=by cases ro <;> exact h
   obtain⟨J,B,n⟩:=yq h;obtain⟨Y,eP,eC,l5,hkp,B⟩:=Dl B m;rw[<-eP]at hm hX ⊢;rw[<-eC]at hX;refine wpIn_mono (De (X:=Y) (ro:=ro) hm hX R F l5 B) (λe D G N=>?_)
   obtain⟨k,u⟩:=N
   cases e with
   | normal=>
    obtain⟨M,u,j,A,U⟩:=u;obtain⟨rfl,U⟩:=lZ.1 U;obtain⟨C,T,Z⟩:=n _ _ U;exact⟨k,[],u,_,qX R u.keep A T,Z⟩
   | panic ch=>obtain⟨v,q1,q2,q3⟩:=u;exact u8 ch D G k ⟨v,q1,q2,hkp _ _ q3⟩
   | _=>exact u.elim
  | _=>cases ro <;> exact h.elim
 | seq x y ihx ihy=>
  intro w0 ro an Q fr a w m R F h
  cases an with
  | seq O V=>
   have h:fo X ro x O (seqN (λQ' j H'=>fo X ro y V Q' j H') Q) fr w.heap:=by cases ro <;> exact h
   rw[seqN_eq]at h;refine wpIn_seq (wpIn_mono (ihx w0 ro O _ fr a w (and_l m) R F h) (λe D G N=>?_))
   obtain⟨B,M,n,k⟩:=N;have k1:iL (fR (.seq x y)) M a D:=n.mono (λt ht=>WP _ ht)
   cases e with
   | normal=>
    obtain⟨j,u,A⟩:=k;refine wpIn_mono (ihy w0 ro V _ j D G (and_r m) u B A) (λe' a'' w'' hq'=>?_)
    obtain⟨U,M',T,Z⟩:=hq';exact⟨U,M'++M,k1.trans (T.mono (λt ht=>WG _ ht)),Z⟩
   | exit i=>exact⟨B,M,k1,k⟩
   | ret=>exact⟨B,M,k1,k⟩
   | panic ch=>exact⟨B,M,k1,k⟩
   | _=>exact k.elim
  | _=>cases ro <;> exact h.elim
 | cond c x y ihx ihy=>
  intro w0 ro an Q fr a w m R F h;have split:∀(W:QT) (O V:Ann) (t:Bool),evG #[] fr [] none c=some (.bool t)->(t=true->fo X ro x O W fr w.heap)->(t=false->fo X ro y V W fr w.heap)->
    (Code.cond c x y).wpIn (FR ro) 0 X.P (Out w0 a (fR (.cond c x y)) W) a w:=by
   intro W O V t ht B n;have hc:a.eval c=.bool t:=oC (qU (ops:=#[]) R) c _ ht trivial;refine wpIn_cond_split hc (λhb=>?_) (λhb=>?_)
   .refine wpIn_mono (ihx w0 ro O W fr a w (and_l m) R F (B hb)) (λe D G N=>?_)
    obtain⟨q1,M,q2,q3⟩:=N;exact⟨q1,M,q2.mono (λt ht=>WP _ ht),q3⟩
   .refine wpIn_mono (ihy w0 ro V W fr a w (and_r m) R F (n hb)) (λe D G N=>?_)
    obtain⟨q1,M,q2,q3⟩:=N;exact⟨q1,M,q2.mono (λt ht=>WG _ ht),q3⟩
  cases an with
  | cond O V=>
   simp only[fo]at h
   cases he:evG #[] fr [] none c with
   | none=>simp[he]at h
   | some v=>
    cases v <;> simp only[he]at h <;> try exact h.elim
    exact split Q O V _ he h.1 h.2
  | condJ L O V=>
   simp only[fo]at h
   cases he:evG #[] fr [] none c with
   | none=>simp[he]at h
   | some v=>
    cases v <;> simp only[he]at h <;> try exact h.elim
    obtain⟨J,B,n⟩:=yq h;refine wpIn_mono (split _ O V _ he B.1 B.2) (λe D G N=>?_)
    obtain⟨k,M,u,A⟩:=N
    cases e <;> simp only[joinQ]at A
    case normal=>
     obtain⟨j,U,T⟩:=A;obtain⟨rfl,T⟩:=lZ.1 T;obtain⟨C,Z,h9⟩:=n _ _ T;exact⟨k,[],u,_,qX R u.keep U Z,h9⟩
    case exit i=>exact⟨k,M,u,A⟩
    case ret=>exact⟨k,M,u,A⟩
    case panic ch=>exact⟨k,M,u,A⟩
  | _=>cases ro <;> exact h.elim
 | block id x ih=>
  intro w0 ro an Q fr a w m R F h
  cases an with
  | blk O=>
   have h:fo X ro x O (blkQ id Q) fr w.heap:=by cases ro <;> exact h
   refine wpIn_block (wpIn_mono (ih w0 ro O _ fr a w m R F h) (λe D G N=>?_))
   obtain⟨B,M,n,k⟩:=N
   cases e with
   | normal=>exact⟨B,M,n,k⟩
   | exit i=>
    obtain⟨j,u,A⟩:=k;simp only[Exit.inBlock,blkQ,blkJQ]at A ⊢
    by_cases hi:i=id
    .simp only[hi,if_true]at A ⊢;exact⟨B,M,n,j,u,A⟩
    .simp only[hi,if_false]at A ⊢;exact⟨B,M,n,j,u,A⟩
   | ret=>exact⟨B,M,n,k⟩
   | panic ch=>exact⟨B,M,n,k⟩
   | _=>exact k.elim
  | blkJ L O=>
   have h:pW L (fR x) fr (λj H'=>Q .normal j [] H') λJ=>fo X ro x O (blkJQ id J Q) fr w.heap:=by cases ro <;> exact h
   obtain⟨J,hb,hj⟩:=yq h;refine wpIn_block (wpIn_mono (ih w0 ro O _ fr a w m R F hb) (λe D G N=>?_))
   obtain⟨B,M,n,k⟩:=N
   cases e with
   | normal=>
    obtain⟨j,u,A⟩:=k;obtain⟨rfl,A⟩:=lZ.1 A;obtain⟨C,U,T⟩:=hj _ _ A;exact⟨B,[],n,_,qX R n.keep u U,T⟩
   | exit i=>
    obtain⟨j,u,A⟩:=k;simp only[Exit.inBlock,blkQ,blkJQ]at A ⊢
    by_cases hi:i=id
    .simp only[hi,if_true]at A ⊢;obtain⟨rfl,A⟩:=lZ.1 A;obtain⟨C,U,T⟩:=hj _ _ A;exact⟨B,[],n,_,qX R n.keep u U,T⟩
    .simp only[hi,if_false]at A ⊢;exact⟨B,M,n,j,u,A⟩
   | ret=>exact⟨B,M,n,k⟩
   | panic ch=>exact⟨B,M,n,k⟩
   | _=>exact k.elim
  | _=>cases ro <;> exact h.elim
 | loop x ih=>
  intro w0 ro an Q fr a w m R F h
  cases an with
  | loop L O=>
   have h:(if nj L fr.length=false then False else ∃I:JT (aC->Prop) L,∃μ:JT (aC->Nat) L,jE L I fr w.heap/\
    io (lq (fR x) 0 fr) λfr0=>allJ L fr0 λj=>∀H',jE L I j H'->fo X ro x O (loopQ L I μ j H' Q) j H'):=by cases ro <;> exact h
   obtain⟨l5,I,μ,h0,E⟩:=qT h;have l6:nj L (gl (fR x) fr).length=true:=by rw[sV];simpa using l5
   rw[lp,Dd,yn]at E;have hfr:∀(j:Fr) (H:aC),jE L I j H->∃C,gE j L=some C/\lz L C=true/\jE L I (gD L (gl (fR x) fr) C) H/\∀H'',natJ L μ (gD L (gl (fR x) fr) C) H''=natJ L μ j H'':=by
    intro j H hh;have hh0:=hh;unfold jE at hh
    cases ha:lm L I j with
    | none=>rw[ha]at hh;exact hh.elim
    | some p=>
     obtain⟨C,B,n,k⟩:=yo L _ j p ha;refine⟨C,B,k,?_,λH''=>?_⟩
     .unfold jE;rw[pV L _ _ C (sR L _ C l6 k),n];rw[ha]at hh;exact hh
     .unfold natJ;rw[pV L _ _ C (sR L _ C l6 k),pV L _ _ C B]
   have hmu:∀(j:Fr) (D:Act) (C:Os) (H:aC),Rel j D->gE j L=some C->natJ L μ (frOf D) H=natJ L μ j H:=by
    intro j D C H R' hg;unfold natJ;rw[pV L _ _ C (Df R' hg),pV L _ _ C hg]
   refine wpIn_loop (λD G=>bV w0 G/\eI (fR x) a D/\∃C,lz L C=true/\Rel (gD L (gl (fR x) fr) C) D/\jE L I (gD L (gl (fR x) fr) C) G.heap)
    (λD G=>natJ L μ (frOf D) G.heap) ?_ ?_
   .obtain⟨C,B,n,k,_⟩:=hfr _ _ h0;exact⟨F,eI.refl _ _,C,n,qX R (eI.refl _ _) R B,k⟩
   .rintro D G ⟨B,n,C,k,u,A⟩;refine wpIn_mono (ih w0 ro O _ _ D G m u B (E C k G.heap A)) (λe a'' w'' N=>?_)
    obtain⟨U,M,T,Z⟩:=N
    cases e with
    | normal=>
     obtain⟨fr'',h9,j3⟩:=Z;obtain⟨rfl,j3⟩:=lZ.1 j3;obtain⟨j3,h11⟩:=MQ j3;have k2:=n.trans T.keep;obtain⟨vs',h12,h13,h14,h15⟩:=hfr _ _ j3;have h16:=qX R k2 h9 h12;refine⟨⟨U,k2,vs',h13,h16,h14⟩,?_⟩;rw[hmu _ _ _ _ h9 h12,hmu _ _ _ _ u (sR L _ C l6 k)];exact h11
    | exit i=>exact⟨U,M,by have:=(iL.of n).trans T;rwa[V4]at this,Z⟩
    | ret=>exact⟨U,M,by have:=(iL.of n).trans T;rwa[V4]at this,Z⟩
    | panic ch=>exact⟨U,M,by have:=(iL.of n).trans T;rwa[V4]at this,Z⟩
    | _=>exact Z.elim
  | _=>cases ro <;> exact h.elim
 | rangeFunc g ps x y ihx ihy=>
  intro w0 ro an Q fr a w m R F h
  cases ro with
  | some l0=>cases an <;> exact h.elim
  | none=>
   cases an with
   | rng shs js O V=>
    simp only[fo]at h
    split at h
    case h_2=>exact h.elim
    rename_i gf cap hg;obtain⟨j2,hmem,h⟩:=qT h;have j2:shs.length=ps.size:=by
     have:Nat.beq shs.length ps.toList.length=true:=by simpa using j2
     have:=Wl this;simpa using this
    have hge:a.eval g=.func (.func gf) #[] ⟨cap⟩:=oC (qU (ops:=#[]) R) g _ hg trivial;show (Code.rangeFunc g ps x y).wpIn Fence.wide 0 X.P _ a w;refine wpIn_rangeFunc ?_;intro fn _;have y2:=h { state:=.ready,pending:=none,fn:=fn,tmps:=a.tmps,params:=ps,assign:=x,body:=y,defers:=w.heap.size } rfl rfl ?_
    .refine⟨w.heap.size+1,nk [.mark w.heap.size],(w.alloc (.deferred (some []))).alloc (.loop { state:=.ready,pending:=none,fn:=fn,tmps:=a.tmps,params:=ps,assign:=x,body:=y,defers:=w.heap.size }),
      { target:=.fn (.func gf) ⟨cap⟩,args:=#[.func (.yield (w.heap.size+1)) #[] #[]] },((w.alloc (.deferred (some []))).alloc (.loop { state:=.ready,pending:=none,fn:=fn,tmps:=a.tmps,params:=ps,assign:=x,body:=y,defers:=w.heap.size })),gf,#[.func (.yield (w.heap.size+1)) #[] #[]]++⟨cap⟩,((w.alloc (.deferred (some []))).alloc (.loop { state:=.ready,pending:=none,fn:=fn,tmps:=a.tmps,params:=ps,assign:=x,body:=y,defers:=w.heap.size })),run_enterLoop_outer _ _ _ _ _,?_,λ_ _=>trivial,?_,λhd=>(by cases hd),?_⟩
     .simp only[resolve,hge];simp[go_sem]
     .simp only[invoke];rw[sQ (hX gf hmem)]
     .refine callsIn_wide.2 ?_;have e1:(#[.func (.yield (w.heap.size+1)) #[] #[]]++⟨cap⟩:Array Value)=⟨.func (.yield (w.heap.size+1)) #[] #[]::cap⟩:=by apply Array.ext';simp
      rw[e1];refine (y2.at ((w.alloc (.deferred (some []))).alloc (.loop { state:=.ready,pending:=none,fn:=fn,tmps:=a.tmps,params:=ps,assign:=x,body:=y,defers:=w.heap.size })) rfl).mono λe w3 he=>?_
      cases e <;> simp only[Fin]at he
      obtain⟨j1,st,pd,hst,S,hj⟩:=he;refine⟨pd,_,run_endLoop S hst,?_⟩;have hr4:bV w0 (w3.putObj (w.heap.size+1) (.loop { state:=.exhausted,pending:=pd,fn:=fn,tmps:=a.tmps,params:=ps,assign:=x,body:=y,defers:=w.heap.size })):=
       (F.trans (bV.trans (b:=(w.alloc (.deferred (some []))).alloc (.loop { state:=.ready,pending:=none,fn:=fn,tmps:=a.tmps,params:=ps,assign:=x,body:=y,defers:=w.heap.size })) ⟨rfl,rfl,rfl⟩ j1)).trans ⟨rfl,rfl,rfl⟩
      have hk:iL (fR (.rangeFunc g ps x y)) [.mark w.heap.size] a { a with defers:=nk [.mark w.heap.size]++a.defers }:=⟨rfl,rfl,λ_ _=>rfl⟩
      have hR:Rel fr { a with defers:=nk [.mark w.heap.size]++a.defers }:=⟨R.size,R.pv,R.ng⟩;have hjq:∀(js:List (Option Code)) (pd:Option Code) (W:Exit->Prop),jumpK W js pd->jumpQ W pd:=by
       intro js
       induction js with
       | nil=>intro pd W h;exact h.elim
       | cons c r ih=>
        intro pd W h
        cases r with
        | nil=>obtain⟨rfl,h⟩:=h;exact h
        | cons d r=>
         rcases h with ⟨rfl,h⟩|h
         .exact h
         .exact ih pd W h
      have r9:=hjq _ _ _ (hj _ rfl)
      cases pd with
      | none=>exact⟨hr4,[.mark w.heap.size],hk,fr,hR,r9⟩
      | some c=>
       cases c <;> simp only[jumpQ]at r9
       .rename_i i;exact wpIn_exit ⟨hr4,[.mark w.heap.size],hk,fr,hR,r9⟩
       .exact wpIn_ret ⟨hr4,[.mark w.heap.size],hk,fr,hR,r9⟩
    .intro C H1 K1 E;refine .mk λw1 hw1=>?_
     subst hw1;obtain⟨us,hul,rfl,hl1,hx⟩:=Dg E;refine⟨fn,_,x,y,run_yield hl1 (by simp[hul,j2]),roundIn_of_wpIn trivial ?_⟩;have hz:(ps.zip ⟨C⟩).foldl (λtmps (t,a)=>tmps.setIfInBounds t a) a.tmps=(ps.toList.zip C).foldl (λt p=>t.setIfInBounds p.1 p.2) a.tmps:=by
      rw[<-Array.foldl_toList,Array.toList_zip]
     refine wpIn_mono (ihx w1 (some (w.heap.size+1)) O _ _ _ w1 (and_l m) (by have:=Dh ps.toList C fr a R;rw[<-hz]at this;exact this) (bV.refl w1) hx) (λe a1 w2 N=>?_)
     obtain⟨hr2,M,hk2,k⟩:=N
     cases e with
     | normal=>
      obtain⟨r0,r8,k⟩:=k;obtain⟨rfl,hl2,hy⟩:=lZ.1 k;refine⟨_,run_beginRound hl2 rfl,?_⟩;have hd1:a1.defers=[]:=hk2.defers;refine wpIn_mono (ihy w1 (some (w.heap.size+1)) V _ r0 a1 _ (and_r m) r8 (hr2.trans ⟨rfl,rfl,rfl⟩) (hy _ rfl)) (λe' a2 w3 N=>?_)
      obtain⟨j1,M2,hk3,u⟩:=N
      cases e' with
      | normal=>
       obtain⟨y3,hR2,u⟩:=u;obtain⟨rfl,S,A⟩:=lZ.1 u;exact⟨_,_,run_endRound none S,j1.trans ⟨rfl,rfl,rfl⟩,A⟩
      | exit i=>
       obtain⟨y3,hR2,u⟩:=u;obtain⟨rfl,S,A⟩:=lZ.1 u;exact⟨_,_,run_endRound (some (.exit i)) S,j1.trans ⟨rfl,rfl,rfl⟩,A⟩
      | ret=>
       obtain⟨y3,hR2,u⟩:=u;obtain⟨rfl,S,A⟩:=lZ.1 u;exact⟨_,_,run_endRound (some .ret) S,j1.trans ⟨rfl,rfl,rfl⟩,A⟩
      | panic ch=>
       obtain⟨y3,hR2,u⟩:=u;obtain⟨rfl,S,A⟩:=lZ.1 u;exact A.elim
      | _=>exact u.elim
     | exit i=>obtain⟨r0,r8,k⟩:=k;exact k.elim
     | ret=>obtain⟨r0,r8,k⟩:=k;exact k.elim
     | panic ch=>obtain⟨r0,r8,k⟩:=k;exact k.elim
     | _=>exact k.elim
   | _=>exact h.elim
 | scope x=>intro w0 ro an Q fr a w m R F h;cases ro <;> exact h.elim
 | label l=>intro w0 ro an Q fr a w m R F h;cases ro <;> exact h.elim
 | goto l=>intro w0 ro an Q fr a w m R F h;cases ro <;> exact h.elim
 | refuse s=>intro w0 ro an Q fr a w m R F h;cases ro <;> exact h.elim
def oD(args:Os)(n:Nat):Fr:=args.map .p++List.replicate (n-args.length) .x
def kF(X:Ctx)(fr:Fr)(H:aC):List ResultVar->(Os->Prop)->Prop
 | [],k=>k []
 | .tmp t::r,k=>(match iG fr t with|some v=>kF X fr H r λvs=>k (v::vs)|none=>False)
 | .cell a t::r,k=>(match iG fr a with
  | some (.pointer (some ⟨b,off,none⟩))=>(match aggT X.P t with
   | true=>uM X.P t λus=>(if us.length=X.P.cellsOf t then bD H b off us/\kF X fr H r λvs=>k (.agg ⟨us⟩::vs) else False)
   | false=>exT X.P t λu=>aK H b off=some u/\kF X fr H r λvs=>k (u::vs))
  | _=>False)
def pX:Os->Value
 | [v]=>v
 | vs=>.tuple ⟨vs⟩
def cB(P:Program)(g:FuncId)(cap:Os)(u:FrameMode)(H:aC)(K:FrameMode->aC->Prop):Prop:=
 ∀w,w.heap=H->CallsDIn Fence.wide 0 P g ⟨cap⟩ u w λe u' w'=>match e with
  | .returned _=>bV w w'/\K u' w'.heap
  | _=>False
def bi(v:Value)(r:Bool):FrameMode:=.panicking [{ v,recovered:=r }]
def pY(X:Ctx):List DM->aC->(aC->Prop)->Prop
 | [],H,k=>k H
 | .mark D::r,H,k=>H[D]?=some (.deferred (some []))/\pY X r (H.setIfInBounds D (.deferred none)) k
 | .fn g cap::r,H,k=>bI g X.calls=true/\cB X.P g cap .returning H λu H'=>u=.returning/\pY X r H' k
def panQ(X:Ctx)(v:Value):List DM->aC->(aC->Prop)->(aC->Prop)->Prop
 | [],H,_,kp=>kp H
 | .mark D::r,H,k,kp=>H[D]?=some (.deferred (some []))/\panQ X v r (H.setIfInBounds D (.deferred none)) k kp
 | .fn g cap::r,H,k,_=>bI g X.calls=true/\cB X.P g cap (bi v false) H λu H'=>u=bi v true/\pY X r H' k
def finQ(X:Ctx)(rs:List ResultVar)(K KP:KE):QT
 | .normal,fr,M,H=>pY X M H λH'=>kF X fr H' rs λvs=>K (pX vs) H'
 | .ret,fr,M,H=>pY X M H λH'=>kF X fr H' rs λvs=>K (pX vs) H'
 | .panic [⟨v,false,false⟩],fr,M,H=>panQ X v M H (λH'=>kF X fr H' rs λvs=>K (pX vs) H') (KP v)
 | _,_,_,_=>False
def sW(X:Ctx)(fn:Func)(an:Ann)(args:Os)(H:aC)(K KP:KE):Prop:=
 match fn.body with
 | some c=>io (oD args fn.ntmps) λfr=>fo X none c an (finQ X fn.results.toList K KP) fr H
 | none=>False
def vcFun(X:Ctx)(fn:Func)(an:Ann)(args:Os)(H:aC)(K:KE):Prop:=sW X fn an args H K λ_ _=>False
section
variable {X:Ctx}
def rvOf(a:Act):ResultVar->Sem Value
 | .tmp t=>pure (a.tmps.getD t undef)
 | .cell c t=>do loadVar t (<-asAddr (a.tmps.getD c undef))
theorem Dn{fr:Fr}{t:Nat}{v:Value}(a:iG fr t=some v):aT fr t=some (.p v):=by
 unfold iG at a
 split at a
 .rename_i w b;cases a;exact b
 .cases a
theorem yr{a:Act}{x:ResultVar}{r:List ResultVar}{v:Value}{vs:Os}{w:World}(c:(rvOf a x).run X.P w=.ok v w)(b:(r.mapM (rvOf a)).run X.P w=.ok vs w) :
  ((x::r).mapM (rvOf a)).run X.P w=.ok (v::vs) w:=by
 simp only[List.mapM_cons,Sem.run_bind,c,b,Result.andThen_ok,Sem.run_pure]
theorem vp{fr:Fr}{a:Act}{w:World}(R:Rel fr a):∀(rs:List ResultVar) (k:Os->Prop),kF X fr w.heap rs k->
  ∃f,k f/\(rs.mapM (rvOf a)).run X.P w=.ok f w
 | [],k,h=>⟨[],h,by simp⟩
 | .tmp t::r,k,h=>by
  simp only[kF]at h
  cases hg:iG fr t with
  | none=>simp[hg]at h
  | some v=>
   simp only[hg]at h;obtain⟨f,j,e⟩:=vp R r _ h;have n:=R.pv _ _ (Dn hg);exact⟨_,j,yr (by simp[rvOf,n]) e⟩
 | .cell c t::r,k,h=>by
  simp only[kF]at h
  cases hg:iG fr c with
  | none=>simp[hg]at h
  | some v=>
   have n:=R.pv _ _ (Dn hg);simp only[hg]at h
   split at h
   .rename_i b off A
    cases A
    have s:(asAddr (a.tmps.getD c undef)).run X.P w=.ok ⟨b,off,none⟩ w:=by
     rw[WZ,n];rfl
    split at h
    .rename_i d;unfold uM at h
     split at h
     .rename_i x _;obtain⟨D,h⟩:=sL (ls:=x) h
      split at h
      .rename_i m;obtain⟨f,j,e⟩:=vp R r _ h.2;have i:=BZ (P:=X.P) d m h.1;simp only[Instr.loadAt,Instr.sureAddr,Sem.run_bind,Sem.run_pure,Result.andThen_ok]at i;exact⟨_,j,yr (by simp only[rvOf,Sem.run_bind,s,Result.andThen_ok,i]) e⟩
      .exact h.elim
     .exact h.elim
    .rename_i d;have y:=BX h;obtain⟨u,C,B⟩:=pK h;obtain⟨f,j,e⟩:=vp R r _ B;have i:=Ca (P:=X.P) y d C;simp only[Instr.loadAt,Instr.sureAddr,Sem.run_bind,Sem.run_pure,Result.andThen_ok]at i;exact⟨_,j,yr (by simp only[rvOf,Sem.run_bind,s,Result.andThen_ok,i]) e⟩
   .exact h.elim
theorem Do{fr:Fr}{a:Act}{w:World}(R:Rel fr a)(fn:Func)(k:Value->Prop)(h:kF X fr w.heap fn.results.toList λb=>k (pX b)) :
  ∃v,k v/\(results fn a.tmps).run X.P w=.ok v w:=by
 obtain⟨b,d,c⟩:=vp R _ _ h;refine⟨_,d,?_⟩;have e:results fn a.tmps=(do let l <-fn.results.mapM (rvOf a);pure (if h:l.size=1 then l[0] else .tuple l)):=by
  rfl
 rw[e,Array.mapM_eq_mapM_toList];simp only[Sem.run_bind,Sem.run_map,c,Result.andThen_ok,Sem.run_pure];congr 1
 match b with
 | []=>rfl
 | [v]=>rfl
 | v::u::r=>rfl
theorem Dp(args:Os)(n:Nat):Rel (oD args n) { tmps:=(⟨args⟩:Array Value)++Array.replicate (n-(⟨args⟩:Array Value).size) undef,defers:=[] }:=by
 refine⟨by simp[oD],λt v h=>?_,λt j w v h=>?_⟩
 .unfold oD at h;rw[eH]at h
  rcases V0 t args.length with a|a
  .rw [List.getElem?_append_left (by simpa using a)]at h;simp[a]at h;subst h;simp[Array.getElem?_append,a]
  .rw [List.getElem?_append_right (by simpa using a)]at h;rw[List.getElem?_replicate]at h
   split at h <;> cases h
 .unfold oD at h;rw[eH]at h
  rcases V0 t args.length with a|a
  .rw [List.getElem?_append_left (by simpa using a)]at h;simp[a]at h
  .rw [List.getElem?_append_right (by simpa using a)]at h;rw[List.getElem?_replicate]at h
   split at h <;> cases h
theorem Dq{X:Ctx}(b:∀f,bI f X.calls=true->gC X.P f){g:FuncId}(a:bI g X.calls=true)(cap:Os)(w:World) :
  (invoke (.fn (.func g) ⟨cap⟩) #[]).run X.P w=.ok (.enter g ⟨cap⟩) w:=by
 simp only[invoke];rw[sQ (b g a)];simp
theorem vq{fn:Func}{tmps:Array Value}{R:Ending->World->Prop}{w0:World}{k:aC->Prop}(b:∀f,bI f X.calls=true->gC X.P f):∀(M:List DM) (w:World),bV w0 w->pY X M w.heap k->
  (∀a,bV w0 a->k a.heap->∃v,(results fn tmps).run X.P a=.ok v a/\R (.returned v) a)->LeavesInM Fence.wide 0 X.P fn tmps R (nk M) .returning w
 | [],w,hr,h,hk=>hk w hr h
 | .mark D::r,w,hr,h,hk=>by
  obtain⟨m,i⟩:=h;refine⟨by simp,.inl ⟨D,_,rfl,run_takeDeferred m,?_⟩⟩;exact vq b r (w.putObj D (.deferred none)) (hr.trans ⟨rfl,rfl,rfl⟩) i hk
 | .fn g cap::r,w,hr,h,hk=>by
  obtain⟨j,h⟩:=h;refine⟨by simp,.inr ⟨λhd=>(by cases hd),.func g,⟨cap⟩,g,⟨cap⟩,rfl,Dq b j cap w,λ_ _=>trivial,?_⟩⟩
  refine (h w rfl).mono λe n a d=>?_
  cases e <;> simp only at d ⊢
  obtain⟨c,rfl,h⟩:=d;exact vq b r a (hr.trans c) h hk
theorem Dr{fn:Func}{tmps:Array Value}{R:Ending->World->Prop}{w0:World}{v:Value}{k kp:aC->Prop}(b:∀f,bI f X.calls=true->gC X.P f):∀(M:List DM) (w:World),bV w0 w->panQ X v M w.heap k kp->
  (∀a,bV w0 a->k a.heap->∃v,(results fn tmps).run X.P a=.ok v a/\R (.returned v) a)->(∀a,bV w0 a->kp a.heap->R (.panicked [{ v,recovered:=false }]) a)->
  LeavesInM Fence.wide 0 X.P fn tmps R (nk M) (.panicking [{ v,recovered:=false }]) w
 | [],w,hr,h,_,hp=>hp w hr h
 | .mark D::r,w,hr,h,hk,hp=>by
  obtain⟨m,i⟩:=h;refine⟨by simp,.inl ⟨D,_,rfl,run_takeDeferred m,?_⟩⟩;exact Dr b r (w.putObj D (.deferred none)) (hr.trans ⟨rfl,rfl,rfl⟩) i hk hp
 | .fn g cap::r,w,hr,h,hk,hp=>by
  obtain⟨j,h⟩:=h;refine⟨by simp,.inr ⟨λhd=>(by cases hd),.func g,⟨cap⟩,g,⟨cap⟩,rfl,Dq b j cap w,λ_ _=>trivial,?_⟩⟩
  refine (h w rfl).mono λe n a d=>?_
  cases e <;> simp only at d ⊢
  obtain⟨c,rfl,h⟩:=d;exact vq b r a (hr.trans c) h hk
theorem finQ_pan{rs:List ResultVar}{K KP:KE}{ch:List PanicEntry}{fr:Fr}{M:List DM}{H:aC}(h:finQ X rs K KP (.panic ch) fr M H) :
  ∃v,ch=[{ v,recovered:=false }]/\panQ X v M H (λa=>kF X fr a rs λb=>K (pX b) a) (KP v):=by
 rcases ch with _|⟨⟨v,r,g⟩,_|⟨_,_⟩⟩
 .exact h.elim
 .cases r <;> cases g <;> first|exact h.elim|exact⟨v,rfl,h⟩
 .cases r <;> cases g <;> exact h.elim
def okF(X:Ctx)(fn:Func):Bool:=match fn.body with|some c=>okC X c|none=>true
theorem Ds(hm:X.P.follows .mixedOrders=true)(y:∀f,bI f X.calls=true->gC X.P f){f:FuncId}{fn:Func}(E:X.P.funcs[f]?=some fn)(an:Ann){args:Os}{H:aC}{K KP:KE}(A:okF X fn=true)
  (h:sW X fn an args H K KP):mX X.P f ⟨args⟩ H K KP:=by
 refine .mk λw G=>?_
 unfold sW at h
 cases hb:fn.body with
 | none=>simp[hb]at h
 | some c=>
  simp only[hb,lp]at h;simp only[okF,hb]at A;subst G;refine callsIn_wide.1 (callsIn_of_wp_marks (F:=Fence.wide) (n:=0) E hb trivial (wpIn_mono (Dm hm y c w none an _ _ _ w A (Dp args fn.ntmps) (bV.refl w) h) (λe j s I=>?_)))
  obtain⟨B,M,J,t⟩:=I;have hd:j.defers=nk M:=by rw[J.defers];simp
  have m:∀a,Rel a j->∀w2,bV w w2->(kF X a w2.heap fn.results.toList λx=>K (pX x) w2.heap)->∃v,(results fn j.tmps).run X.P w2=.ok v w2/\iJ w K KP (.returned v) w2:=by
   intro a d w2 k u;obtain⟨v,L,D⟩:=Do (w:=w2) d fn (λv=>K v w2.heap) u
   exact⟨v,D,k,L⟩
  have fin:∀a,Rel a j->(pY X M s.heap λC=>kF X a C fn.results.toList λx=>K (pX x) C)->LeavesInM Fence.wide 0 X.P fn j.tmps (iJ w K KP) j.defers .returning s:=by
   intro a d b;rw[hd];exact vq y M s B b (m a d)
  cases e with
  | normal=>obtain⟨a,d,b⟩:=t;exact fin a d b
  | ret=>obtain⟨a,d,b⟩:=t;exact fin a d b
  | exit i=>obtain⟨a,d,b⟩:=t;exact b.elim
  | panic ch=>
   obtain⟨a,d,b⟩:=t;obtain⟨v,rfl,b⟩:=finQ_pan b
   .show LeavesInM Fence.wide 0 X.P fn j.tmps (iJ w K KP) j.defers (.panicking [{ v,recovered:=false }]) s;rw[hd];exact Dr y M s B b (m a d) (λw2 k u=>⟨v,rfl,k,u⟩)
  | _=>exact t.elim
theorem MT(hm:X.P.follows .mixedOrders=true)(a:∀f,bI f X.calls=true->gC X.P f){f:FuncId}{fn:Func}(b:X.P.funcs[f]?=some fn)(an:Ann){args:Os}{H:aC}{K:KE}(c:okF X fn=true)
  (h:vcFun X fn an args H K):iI X.P f ⟨args⟩ H K:=
 .mk λw d=>((Ds hm a b an c h).at w d).mono λ_ _ e=>e.fin
theorem Dt{P:Program}(d:X.P=P)(hm:X.P.follows .mixedOrders=true)(a:∀f,bI f X.calls=true->gC X.P f){f:FuncId}{fn:Func}(b:P.funcs[f]?=some fn){an:Ann}{args:Os}{H:aC}{K:KE}{C:Prop}(c:okF X fn=true)
  (e:vcFun X fn an args H K=C) (h:C):iI P f args.toArray H K:=by
 subst d;exact MT hm a b an c (e▸h)
theorem MV{P:Program}(d:X.P=P)(hm:X.P.follows .mixedOrders=true)(a:∀f,bI f X.calls=true->gC X.P f){f:FuncId}{fn:Func}(b:P.funcs[f]?=some fn){an:Ann}{args:Os}{H:aC}{K KP:KE}{C:Prop}(c:okF X fn=true)
  (e:sW X fn an args H K KP=C) (h:C):mX P f args.toArray H K KP:=by
 subst d;exact Ds hm a b an c (e▸h)
def vr(P:Program)(f:FuncId):Bool:=match P.funcs[f]? with|some fn=>!fn.body.isNone && !(fn.name == "runtime.NumGoroutine")|none=>false
theorem MW{P:Program}{f:FuncId}(h:vr P f=true):gC P f:=by
 unfold vr at h
 split at h
 .rename_i fn a;simp only[Vd,V1]at h;exact⟨fn,a,h.1,h.2⟩
 .cases h
theorem memN_all{l:List Nat}{p:Nat->Bool}(h:l.all p=true):∀f,bI f l=true->p f=true:=by
 induction l with
 | nil=>intro f a;cases a
 | cons m r ih=>
  intro f a;simp only[List.all_cons,Vd]at h;simp only[bI,Vr]at a
  rcases a with a|a
  .rw [Wl a];exact h.1
  .exact ih h.2 f a
theorem MX{P:Program}{l:List Nat}(h:l.all (vr P)=true):∀f,bI f l=true->gC P f:=λf a=>MW (memN_all h f a)
theorem iI.mono{P:Program}{f:FuncId}{args:Array Value}{H:aC}{K b:KE}(h:iI P f args H K)(d:∀v c,K v c->b v c):iI P f args H b:=
 .mk λw i=>(h.at w i).mono λe j a=>by
  cases e <;> simp only[Fin]at a ⊢
  exact⟨a.1,d _ _ a.2⟩
end
def vt(op:Op):Bool:=match op with|.call cl=>(match cl.callee with|.builtin .recover=>true|_=>false)|_=>false
def defK(K:aC->Prop):QT
 | .normal,_,M,H=>ko M (K H)
 | .ret,_,M,H=>ko M (K H)
 | _,_,_,_=>False
def vcDef(X:Ctx)(fn:Func)(an:Ann)(args:Os)(rv:Value)(H:aC)(K:aC->Prop):Prop:=
 match fn.body with
 | some (.seq (.region _ ops false) b)=>(match ops.toList,an,fn.results.toList with
  | o::r,.seq .reg y,[]=>(match o.guard,o.dst with
   | none,some t=>if vt o.op=false then False else
     lw (X.kq [] [] λ_ _ _ _=>False) ops true (λfr' M H'=>ko M (fo X none b y (defK K) fr' H')) r [] [] (im (oD args fn.ntmps) t (.p rv)) H
   | _,_=>False)
  | _,_,_=>False)
 | _=>False
section
variable {X:Ctx}
theorem MY{P:Program}{o:Oper}{ρ:Operand->Value}{w:World}(h:vt o.op=true):(execOp ρ o).run P w=.ok .recover w:=by
 unfold vt at h
 split at h
 .rename_i cl b
  split at h
  .rename_i a;simp[execOp,b,resolve,a,invoke,builtin]
  .cases h
 .cases h
theorem MZ(hm:X.P.follows .mixedOrders=true)(hX:∀f,bI f X.calls=true->gC X.P f){f:FuncId}{fn:Func}(hf:X.P.funcs[f]?=some fn)(an:Ann){args:Os}{s:Value}{u J:FrameMode}{H:aC}{K:aC->Prop}
  (hu:(u=.returning/\s=.nilIface/\J=.returning)\/(u=bi s false/\J=bi s true))
  (n:okF X fn=true) (h:vcDef X fn an args s H K):cB X.P f args u H λN H'=>N=J/\K H':=by
 intro w hw;subst hw;unfold vcDef at h
 split at h
 case h_2=>exact h.elim
 rename_i id ops b hb;have r0:okC X b=true:=by simp only[okF,hb,okC]at n;exact and_r n
 split at h
 case h_2=>exact h.elim
 rename_i o r y C h8
 split at h
 case h_2=>exact h.elim
 rename_i t hg hd;obtain⟨G,h⟩:=qT h;have G:vt o.op=true:=by simpa using G
 refine callsDIn_of_wpSIn hf hb trivial λD cs W=>wpSIn_seq ?_
 intro bf k l0 R hF x;have h0:ops[0]?=some o:=by
  have:ops.toList[0]?=some o:=by rw[C];rfl
  simpa using this
 have u8:ops.size=r.length+1:=by rw[<-Wb,C];rfl
 have L:List.range ops.size=0::List.range' 1 r.length:=by rw[u8,List.range_eq_range',List.range'_succ]
 have h9:∀a:Act,Region.wanted o (yielded ops a.tmps)=true:=λa=>by simp[Region.wanted,hg]
 generalize ha:({ tmps:=(⟨args⟩:Array Value)++Array.replicate (fn.ntmps-(⟨args⟩:Array Value).size) undef,defers:=[] }:Act)=a at *;have R0:Rel (oD args fn.ntmps) a:=by rw[<-ha];exact Dp args fn.ntmps
 have j3:a.defers=[]:=by rw[<-ha]
 have Q:(a.put o.dst s).tmps=a.tmps.setIfInBounds t s:=by rw[hd,qR]
 have R1:Rel (im (oD args fn.ntmps) t (.p s)) (a.put o.dst s):=by
  refine⟨by rw[Q,pU,Array.size_setIfInBounds];exact R0.size,λm v E=>?_,λm j F v E=>?_⟩
  .rw [ly]at E;rw[Q,Array.getElem?_setIfInBounds,R0.size]
   split at E
   .rename_i hc;cases E;rw[UX hc.1,UX hc.2]
   .rename_i hc
    by_cases e:t=m
    .subst e;exfalso;exact hc ⟨rfl,by rw[eH]at E;exact (List.getElem?_eq_some_iff.1 E).1⟩
    .rw [UW e];exact R0.pv _ _ E
  .rw [ly]at E
   split at E
   .cases E
   .exact R0.ng _ _ _ _ E
 have T:wpListIn (FR none) 0 X.P ops (λe A F=>e=.normal/\bV w F/\A.defers=[]/\∃c,Rel c A/\fo X none b y (defK K) c F.heap) r (a.put o.dst s) w:=by
  refine qV (X:=X.kq [] [] λ_ _ _ _=>False) (ro:=none) (w0:=w) (Inv:=λA=>A.defers=[]) hX (λA o' v _ j1=>?_) (λc A F h1 h2 h3 h4=>?_) (λc A F g cap _ h1 h2 h3 h4=>h3.elim) (λv A F _ _ n=>n.elim)
   r [] [] _ _ w (λo' r9=>by rw[C];exact Vq _ r9) ?_ (qU R1) (bV.refl w) h
  .cases o'.dst <;> exact j1
  .exact⟨rfl,h1,h4,c,h2,h3⟩
  .rw [hd];exact j3
 have O:wpOpsIn Fence.wide 0 X.P ops (λe A F=>e=.normal/\bV w F/\A.defers=[]/\∃c,Rel c A/\fo X none b y (defK K) c F.heap) (List.range' 1 r.length) (a.put o.dst s) w:=by
  rw[wpOpsIn_eq_wpListIn r 1 (λj=>by rw[<-Array.getElem?_toList,C,W6];rfl)]
  exact T
 obtain⟨U,Z,V⟩:∃U,U={ D with mode:=J }::cs/\step X.P (lone (bf.atR a (.inRegion ops (0::List.range' 1 r.length)::k)) (D::cs) w)=.next (lone (bf.atR (a.put o.dst s) (.inRegion ops (List.range' 1 r.length)::k)) U w):=by
  refine⟨_,rfl,step_lone_go ?_⟩;have h5:=stepGR_op (P:=X.P) (b:=bf) (k:=k) (cs:=D::cs) (w:=w) (rest:=List.range' 1 r.length) h0 (h9 a);rw[R,Oper.semAt_none]at h5;have h7:(bf.atR a (.inRegion ops (0::List.range' 1 r.length)::k)).finish s=bf.atR (a.put o.dst s) (.inRegion ops (List.range' 1 r.length)::k):=by
   rw[Frame.finish_atR,h0];rfl
  have hr:=MY (P:=X.P) (ρ:=a.eval) (w:=w) G;have I:=tryRecover_deferred (fr:=bf.atR a (.inRegion ops (0::List.range' 1 r.length)::k)) l0 (D::cs);rw[h5,<-h7];simp only[Frame.atR,R]at I ⊢
  rcases hu with ⟨rfl,rfl,rfl⟩|⟨rfl,rfl⟩
  .have S:recoverD (D::cs)=none:=by simp[recoverD,W]
   rw[S]at I;have j2:({ D with mode:=FrameMode.returning }:Frame)=D:=by rw[<-W]
   simp[stepG.apply,hr,I,j2]
  .have S:recoverD (D::cs)=some (s,{ D with mode:=bi s true }::cs):=by simp[recoverD,W,bi]
   rw[S]at I;simp[stepG.apply,hr,I]
 subst Z;obtain⟨e,A,F,⟨rfl,r8,l5,c,l6,Y⟩,h6⟩:=wp_opsIn _ _ _ O bf k ({ D with mode:=J }::cs) R hF x;refine⟨.normal,A,{ D with mode:=J }::cs,F,rfl,?_,?_⟩
 .show b.wpSIn Fence.wide 0 X.P _ A ({ D with mode:=J }::cs) F;refine wpSIn_of_wpIn rfl (wpIn_mono (Dm hm hX b w none y _ c A F r0 l6 r8 Y) λe a2 w2 hq=>?_)
  obtain⟨q1,M,q2,q3⟩:=hq;have fin:∀d,Rel d a2->ko M (K w2.heap)->a2.defers=[]/\∃N,({ D with mode:=J }::cs:List Frame)={ D with mode:=N }::cs/\∃v,(results fn a2.tmps).run X.P w2=.ok v w2/\(bV w w2/\N=J/\K w2.heap):=by
   intro d B n;obtain⟨rfl,n⟩:=lZ.1 n;refine⟨by rw[q2.defers];simpa[nk] using l5,J,rfl,?_⟩;obtain⟨v,_,E⟩:=Do (X:=X) (w:=w2) B fn (λ_=>True) (by rw[h8];trivial)
   exact⟨v,E,q1,rfl,n⟩
  cases e with
  | normal=>obtain⟨d,B,n⟩:=q3;exact fin d B n
  | ret=>obtain⟨d,B,n⟩:=q3;exact fin d B n
  | exit i=>obtain⟨d,B,n⟩:=q3;exact n.elim
  | panic ch=>obtain⟨d,B,n⟩:=q3;exact n.elim
  | _=>exact q3.elim
 .refine .of_steps (.one (fenced_calm hF x rfl) stepR_region) ?_;rw[L];refine .of_steps (.one ?_ V) h6;exact fenced_oper hF x h0 (λ_ _=>trivial)
theorem yu{P:Program}(k:X.P=P)(hm:X.P.follows .mixedOrders=true)(d:∀f,bI f X.calls=true->gC X.P f){f:FuncId}{fn:Func}(i:P.funcs[f]?=some fn){an:Ann}{args:Os}{a:Value}{u b:FrameMode}{H:aC}{K:aC->Prop}{C:Prop}
  (e:(u=.returning/\a=.nilIface/\b=.returning)\/(u=bi a false/\b=bi a true))
  (m:vcDef X fn an args a H K=C) (h:C) (j:okF X fn=true:=by kernel_rfl):cB P f args u H λc n=>c=b/\K n:=by
 subst k;exact MZ hm d i an e j (m▸h)
end
structure LOut where
 n:Nat
 ret:Nat
 ex:List (Nat×Nat)
def nl:Code->List Oper
 | .region _ ops _=>ops.toList
 | .seq a b=>nl a++nl b
 | .cond _ a b=>nl a++nl b
 | .block _ a=>nl a
 | .loop a=>nl a
 | .rangeFunc _ _ a b=>nl a++nl b
 | _=>[]
def extSh(P:Program)(d i:Nat):List Oper->Sh
 | []=>.one .raw
 | o::r=>match o.op with
  | .extract (.tmp t) j=>(match Nat.beq t d&&Nat.beq i j with|true=>(match pE P o.type with|some s=>s|none=>.one .raw)|false=>extSh P d i r)
  | _=>extSh P d i r
def yv(P:Program)(all:List Oper):List Oper->List (Nat×Sh×Sh)
 | []=>[]
 | o::r=>match o.op,o.dst with
  | .entry _,some d=>(d,extSh P d 0 all,extSh P d 1 all)::yv P all r
  | _,_=>yv P all r
def nxF(X:Ctx)(fn:Func):Ctx:=X.nx (match fn.body with|some c=>yv X.P (nl c) (nl c)|none=>[])
def okAt(X:Ctx)(f:FuncId):Bool:=match X.P.funcs[f]? with|some fn=>okF (nxF X fn) fn|none=>true
theorem Du{X:Ctx}{f:FuncId}(h:okAt X f=true){fn:Func}(a:X.P.funcs[f]?=some fn):okF (nxF X fn) fn=true:=by
 unfold okAt at h;rw[a]at h;exact h
abbrev PH:=Nat->Option Obj
def aE:=PH->Prop
def eT(a b:PH):PH:=λi=>match a i with|some o=>some o|none=>b i
def phDisj(a b:PH):Prop:=∀i,a i=none\/b i=none
def aE.sep(A B:aE):aE:=λh=>∃a b,phDisj a b/\h=eT a b/\A a/\B b
instance:Mul aE:=⟨aE.sep⟩
def pZ:PH:=λ_=>none
def emp:aE:=λh=>h=pZ
def pt(b:Nat)(o:Obj):aE:=λh=>h=λi=>if i=b then some o else none
def pur(p:Prop):aE:=λh=>p/\h=pZ
def exS{α:Type}(A:α->aE):aE:=λh=>∃x,A x h
def old(H0:aC):aE:=λh=>h=λi=>H0[i]?
def aQ(H:aC)(A:aE):Prop:=∃h:PH,(∀i o,h i=some o->H[i]?=some o)/\A h
theorem Dv{a b:PH}(h:phDisj a b):eT a b=eT b a:=by
 funext i;simp only[eT]
 rcases h i with h|h <;> simp only[h] <;> split <;> simp_all
theorem qY(A B:aE):A*B=B*A:=by
 funext h;apply propext
 constructor
 .rintro⟨a,b,hd,rfl,ha,hb⟩;exact⟨b,a,λi=>(hd i).symm,Dv hd,hb,ha⟩
 .rintro⟨a,b,hd,rfl,ha,hb⟩;exact⟨b,a,λi=>(hd i).symm,Dv hd,hb,ha⟩
theorem Dw(a b c:PH):eT (eT a b) c=eT a (eT b c):=by
 funext i;simp only[eT]
 cases a i <;> simp
theorem jt(A B C:aE):A*B*C=A*(B*C):=by
 funext h;apply propext
 constructor
 .rintro⟨ab,c,hd,rfl,⟨a,b,hd',rfl,ha,hb⟩,hc⟩;refine⟨a,eT b c,λi=>?_,Dw a b c,ha,b,c,λi=>?_,rfl,hb,hc⟩
  .simp only[eT]
   rcases hd' i with h|h
   .exact .inl h
   .rcases hd i with d|d
    .simp only[eT]at d
     cases ha:a i with
     | none=>exact .inl rfl
     | some o=>simp[ha]at d
    .right;simp[h,d]
  .rcases hd i with d|d
   .simp only[eT]at d
    cases ha:a i with
    | none=>simp[ha]at d;exact .inl d
    | some o=>simp[ha]at d
   .exact .inr d
 .rintro⟨a,bc,hd,rfl,ha,b,c,hd',rfl,hb,hc⟩;refine⟨eT a b,c,λi=>?_,(Dw a b c).symm,⟨a,b,λi=>?_,rfl,ha,hb⟩,hc⟩
  .rcases hd i with d|d
   .simp only[eT,d];exact hd' i
   .simp only[eT]at d
    cases hb:b i with
    | none=>simp[hb]at d;exact .inr d
    | some o=>simp[hb]at d
  .rcases hd i with d|d
   .exact .inl d
   .simp only[eT]at d
    cases hb:b i with
    | none=>exact .inr rfl
    | some o=>simp[hb]at d
instance:Std.Commutative (α:=aE) (·*·):=⟨qY⟩
instance:Std.Associative (α:=aE) (·*·):=⟨jt⟩
theorem vu(A B C:aE):A*(B*C)=B*(A*C):=by rw[<-jt,qY A B,jt]
theorem sX(h:PH):eT pZ h=h:=by funext i;rfl
theorem oE(A:aE):emp*A=A:=by
 funext h;apply propext
 constructor
 .rintro⟨a,b,hd,rfl,ha,hb⟩;have:a=pZ:=ha;subst this;rw[sX];exact hb
 .intro c;exact⟨pZ,h,λi=>.inl rfl,(sX h).symm,rfl,c⟩
theorem vw(A:aE):A*emp=A:=by rw[qY,oE]
theorem yw(p:Prop)(A:aE)(h:PH):(pur p*A) h↔p/\A h:=by
 constructor
 .rintro⟨a,b,hd,rfl,⟨hp,rfl⟩,hb⟩;rw[sX];exact⟨hp,hb⟩
 .rintro⟨hp,hA⟩;exact⟨pZ,h,λi=>.inl rfl,(sX h).symm,⟨hp,rfl⟩,hA⟩
theorem exS_sep{α:Type}(A:α->aE)(B:aE):exS A*B=exS λx=>A x*B:=by
 funext h;apply propext
 constructor
 .rintro⟨a,b,hd,rfl,⟨x,ha⟩,hb⟩;exact⟨x,a,b,hd,rfl,ha,hb⟩
 .rintro⟨x,a,b,hd,rfl,ha,hb⟩;exact⟨a,b,hd,rfl,⟨x,ha⟩,hb⟩
section
variable {H:aC}{A B F:aE}
theorem aQ.eq(h:aQ H A)(a:A=B):aQ H B:=a▸h
theorem aQ.drop(h:aQ H (A*B)):aQ H A:=by
 obtain⟨g,c,a,b,hd,rfl,d,hb⟩:=h;exact⟨a,λi o e=>c i o (by simp[eT,e]),d⟩
theorem aQ.drop'(h:aQ H (A*B)):aQ H B:=by rw[qY]at h;exact h.drop
theorem aQ.frame(h:aQ H (A*F))(c:∀h,A h->B h):aQ H (B*F):=by
 obtain⟨g,e,a,b,hd,d,f,hb⟩:=h;exact⟨g,e,a,b,hd,d,c _ f,hb⟩
theorem sat_ex{α:Type}{A:α->aE}:aQ H (exS A)↔∃x,aQ H (A x):=
 ⟨λ⟨g,a,x,b⟩=>⟨x,g,a,b⟩,λ⟨x,g,a,b⟩=>⟨g,a,x,b⟩⟩
theorem sat_exs{α:Type}{A:α->aE}:aQ H (exS A*F)↔∃x,aQ H (A x*F):=by rw[exS_sep,sat_ex]
theorem yx{p:Prop}:aQ H (pur p*A)↔p/\aQ H A:=
 ⟨λ⟨g,b,a⟩=>⟨((yw p A g).1 a).1,g,b,((yw p A g).1 a).2⟩,λ⟨c,g,b,a⟩=>⟨g,b,(yw p A g).2 ⟨c,a⟩⟩⟩
theorem aQ.get{b:Nat}{o:Obj}(h:aQ H (pt b o*F)):H[b]?=some o:=by
 obtain⟨g,d,a,c,hd,rfl,e,f⟩:=h;refine d b o ?_;have:a=_:=e;subst this;simp[eT]
theorem aQ.upd{b:Nat}{o f:Obj}{e:aC}(h:aQ H (pt b o*F))(hb:e[b]?=some f)(s:∀i,i≠b->e[i]?=H[i]?):aQ e (pt b f*F):=by
 obtain⟨g,n,a,c,hd,rfl,m,k⟩:=h;have:a=_:=m;subst this;have j:c b=none:=by
  rcases hd b with h|h
  .simp at h
  .exact h
 refine⟨eT (λi=>if i=b then some f else none) c,λi o1 d=>?_,_,c,λi=>?_,rfl,rfl,k⟩
 .simp only[eT]at d
  by_cases hi:i=b
  .subst hi;simp at d;subst d;exact hb
  .rw [s i hi];refine n i o1 ?_;simp only[eT,UW hi]at d ⊢;exact d
 .by_cases hi:i=b
  .subst hi;exact .inr j
  .left;simp[hi]
theorem aQ.push(h:aQ H F)(o:Obj):aQ (H.push o) (pt H.size o*F):=by
 obtain⟨g,d,e⟩:=h;have b:∀i c,g i=some c->i<H.size:=λi c hi=>(Array.getElem?_eq_some_iff.1 (d i c hi)).1
 refine⟨eT (λi=>if i=H.size then some o else none) g,λi o1 a=>?_,_,g,λi=>?_,rfl,rfl,e⟩
 .simp only[eT]at a
  by_cases hi:i=H.size
  .subst hi;simp at a;subst a;simp
  .simp only[UW hi]at a;have:=b i o1 a;rw[Array.getElem?_push,UW hi];exact d i o1 a
 .by_cases hi:i=H.size
  .subst hi;right
   cases hg:g H.size with
   | none=>rfl
   | some c=>have:=b _ _ hg;omega
  .left;simp[hi]
theorem aQ.lt{b:Nat}{o:Obj}(h:aQ H (pt b o*F)):b<H.size:=(Array.getElem?_eq_some_iff.1 h.get).1
theorem Na(H:aC):aQ H (old H):=⟨λi=>H[i]?,λ_ _ h=>h,rfl⟩
theorem aQ.was{H0:aC}(h:aQ H (old H0*F)){i:Nat}(hi:i<H0.size):H[i]?=H0[i]?:=by
 obtain⟨g,d,a,c,hd,rfl,e,f⟩:=h;have:a=_:=e;subst this;have b:H0[i]?=some H0[i]:=by simp[hi]
 rw[b];refine d i _ ?_;simp[eT,b]
end
def cellsA(b:Nat)(cs:Os)(e:TypeId):aE:=pt b (.cells cs.toArray e (0,0))
theorem aQ.cell{H:aC}{F:aE}{b:Nat}{cs:Os}{e:TypeId}(h:aQ H (cellsA b cs e*F))(o:Nat):aK H b o=cs[o]?:=by
 have:=h.get;simp[aK,this]
theorem aQ.cell_old{H H0:aC}{F:aE}(h:aQ H (old H0*F)){b o:Nat}{v:Value}(a:aK H0 b o=some v):aK H b o=some v:=by
 have hb:b<H0.size:=by
  unfold aK at a
  rcases V0 b H0.size with d|c
  .exact d
  .simp [Array.getElem?_eq_none c]at a
 simp only[aK,h.was hb];exact a
theorem Dx{H:aC}{b o:Nat}{v:Value}{cs:Os}{e:TypeId}(h:H[b]?=some (.cells cs.toArray e (0,0))) :
  (iF H b o v)[b]?=some (.cells (cs.set o v).toArray e (0,0))/\∀i,i≠b->(iF H b o v)[i]?=H[i]?:=by
 refine⟨?_,λi hi=>?_⟩
 .simp only[iF,Array.getElem?_modify,if_true,h,V9];simp
 .simp only[iF,Array.getElem?_modify];rw[UW (λe=>hi e.symm)]
def cv(cs:Os):Nat->Os->Os
 | _,[]=>cs
 | o,v::r=>cv (cs.set o v) (o+1) r
theorem aQ.set1{H:aC}{F:aE}{b:Nat}{cs:Os}{e:TypeId}(h:aQ H (cellsA b cs e*F))(o:Nat)(v:Value):aQ (iF H b o v) (cellsA b (cs.set o v) e*F):=
 h.upd (Dx h.get).1 (Dx h.get).2
theorem aQ.sets{H:aC}{F:aE}{b:Nat}{e:TypeId}:∀(vs:Os) {cs:Os} (o:Nat),aQ H (cellsA b cs e*F)->aQ (fJ H b o vs) (cellsA b (cv cs o vs) e*F)
 | [],cs,o,h=>h
 | v::r,cs,o,h=>by
  have:=aQ.set1 h o v;simp only[fJ,cv];exact aQ.sets r (o+1) this
theorem aQ.can{H:aC}{F:aE}{b:Nat}{cs:Os}{e:TypeId}(h:aQ H (cellsA b cs e*F)):∀(vs:Os) (o:Nat),o+vs.length<=cs.length->eQ H b o vs
 | [],_,_=>trivial
 | v::r,o,hl=>by
  simp only[Vf]at hl;refine⟨⟨?_,?_⟩,aQ.can h r (o+1) (by omega)⟩
  .rw [h.cell];simp;omega
  .have:=h.get;simp only[lT,this];simp
def star:List aE->aE
 | []=>emp
 | A::r=>A*star r
def aA(H:aC)(L:List aE):Prop:=aQ H (star L)
def aW:Nat->List aE->aE
 | _,[]=>emp
 | 0,a::_=>a
 | n+1,_::r=>aW n r
def del:Nat->List aE->List aE
 | _,[]=>[]
 | 0,_::r=>r
 | n+1,a::r=>a::del n r
def put:Nat->aE->List aE->List aE
 | _,A,[]=>[A]
 | 0,A,_::r=>A::r
 | n+1,A,a::r=>a::put n A r
def qZ:Nat->List aE->List aE
 | 0,L=>L
 | _,[]=>[]
 | n+1,_::r=>qZ n r
def ordL(is:List Nat)(L:List aE):List aE:=match is with
 | []=>[]
 | i::r=>aW i L::ordL r L
def ordT(is:List Nat)(n:Nat)(L:List aE):List aE:=match is with
 | []=>qZ n L
 | i::r=>aW i L::ordT r n L
theorem vx:∀(i:Nat) (L:List aE),star L=aW i L*star (del i L)
 | _,[]=>by simp[aW,del,star,oE]
 | 0,a::r=>rfl
 | n+1,a::r=>by
  have:=vx n r;simp only[aW,del,star];rw[this,vu]
theorem yy:∀(i:Nat) (A:aE) (L:List aE),star (put i A L)=A*star (del i L)
 | _,A,[]=>by simp[put,del,star]
 | 0,A,a::r=>rfl
 | n+1,A,a::r=>by
  have:=yy n A r;simp only[put,del,star];rw[this,vu]
theorem Dy:∀{i j:Nat} (L:List aE),j≠i->aW j (put i emp L)=aW j L
 | i,j,[],h=>by
  cases j with
  | zero=>simp[put,aW]
  | succ n=>simp[put,aW]
 | 0,0,a::r,h=>UY rfl h
 | 0,j+1,a::r,h=>rfl
 | i+1,0,a::r,h=>rfl
 | i+1,j+1,a::r,h=>by
  simp only[put,aW];exact Dy r (by omega)
theorem yz{L L':List aE}:∀{is:List Nat},(∀j∈is,aW j L=aW j L')->ordL is L=ordL is L'
 | [],_=>rfl
 | i::r,h=>by
  simp only[ordL];rw[h i (by simp),yz (is:=r) λj a=>h j (by simp[a])]
theorem y4{H:aC}:∀(is:List Nat) (L:List aE) (F:aE),is.Nodup->aQ H (star L*F)->aQ H (star (ordL is L)*F)
 | [],L,F,_,h=>by
  simp only[ordL,star,oE];exact h.drop'
 | i::is,L,F,hn,h=>by
  rw[Wv]at hn;have e:star L*F=star (put i emp L)*(aW i L*F):=by
   rw[yy,oE,vx i L];rw[qY (aW i L),jt]
  rw[e]at h;have a:=y4 is _ _ hn.2 h;rw[yz (L:=put i emp L) (L':=L) (λj b=>Dy L (λ(e:j=i)=>hn.1 (by rw[<-e];exact b)))]at a
  simp only[ordL,star];rw[jt,vu];exact a
theorem sY:∀(a b:List aE),star (a++b)=star a*star b
 | [],b=>by simp[star,oE]
 | x::r,b=>by simp only[Wf,star];rw[sY r b,jt]
def sZ:Nat->List aE->List aE
 | 0,_=>[]
 | _,[]=>[]
 | n+1,a::r=>a::sZ n r
theorem Dz:∀(n:Nat) (L:List aE),L=sZ n L++qZ n L
 | 0,L=>rfl
 | n+1,[]=>rfl
 | n+1,a::r=>by simp only[sZ,qZ,Wf];rw[<-Dz n r]
theorem D1:∀{n j:Nat} (L:List aE),j<n->aW j (sZ n L)=aW j L
 | 0,_,_,h=>UY h (by omega)
 | n+1,j,[],h=>rfl
 | n+1,0,a::r,h=>rfl
 | n+1,j+1,a::r,h=>by simp only[sZ,aW];exact D1 r (by omega)
theorem D2(n:Nat)(L:List aE):∀(is:List Nat),ordT is n L=ordL is L++qZ n L
 | []=>rfl
 | i::r=>by simp only[ordT,ordL,Wf];rw[D2 n L r]
section
variable {H:aC}{L:List aE}
theorem aA.foc(h:aA H L)(i:Nat):aQ H (aW i L*star (del i L)):=by unfold aA at h;rw[vx i L]at h;exact h
theorem aA.back{i:Nat}{A:aE}(h:aQ H (A*star (del i L))):aA H (put i A L):=by unfold aA;rw[yy];exact h
theorem aA.ord(h:aA H L)(is:List Nat)(b:is.Nodup):aA H (ordL is L):=by
 have a:=y4 is L emp b (by rw[vw];exact h);rw[vw]at a;exact a
theorem aA.ordt(h:aA H L)(is:List Nat)(n:Nat)(d:is.Nodup)(b:∀i∈is,i<n):aA H (ordT is n L):=by
 unfold aA at *;rw[Dz n L,sY]at h;have a:=y4 is _ _ d h;rw[D2,sY];rw[yz (L':=L) λj c=>D1 L (b j c)]at a
 exact a
theorem aA.o{H:aC}{L:List aE}(h:aA H L)(is:List Nat)(n:Nat)(a:is.Nodup:=by decide)(h2:∀i∈is,i<n:=by decide):aA H (ordT is n L):=h.ordt is n a h2
theorem aA.tl{A:aE}(h:aA H (A::L)):aA H L:=aQ.drop' h
theorem aA.consP{p:Prop}(h:aA H (pur p::L)):p/\aA H L:=yx.1 h
theorem aA.pur{p:Prop}(h:aA H L)(a:p):aA H (pur p::L):=yx.2 ⟨a,h⟩
theorem aA.mono{A B:aE}(h:aA H (A::L))(a:∀h,A h->B h):aA H (B::L):=aQ.frame h a
theorem aA.push(h:aA H L)(o:Obj):aA (H.push o) (pt H.size o::L):=aQ.push h o
def dC(H H':aC):Prop:=∀b,b<H.size->H'[b]?=H[b]?
theorem dC.size{H b:aC}(h:dC H b):H.size<=b.size:=by
 rcases V0 b.size H.size with a|c
 .have:=h b.size a;simp[a]at this
 .exact c
theorem dC.trans{H c a:aC}(h:dC H c)(d:dC c a):dC H a:=λb hb=>(d b (Nat.lt_of_lt_of_le hb h.size)).trans (h b hb)
theorem dC.push(H:aC)(o:Obj):dC H (H.push o):=λb hb=>by rw[Array.getElem?_push,nO]
theorem aQ.grow{H b:aC}{F:aE}(h:aQ H F)(g:dC H b):aQ b F:=by
 obtain⟨p,a,c⟩:=h;exact⟨p,λi o hi=>(g i (Array.getElem?_eq_some_iff.1 (a i o hi)).1).trans (a i o hi),c⟩
theorem aQ.add{H:aC}{F:aE}{o:Obj}{b n:Nat}(hb:H[b]?=some o)(h:∃H0:aC,H0.size=n/\aQ H0 F/\dC H0 H/\n<=b):aQ H (pt b o*F):=by
 obtain⟨H0,rfl,⟨p,e,f⟩,g,j⟩:=h;have c:∀i d,p i=some d->i<H0.size:=λi d hi=>(Array.getElem?_eq_some_iff.1 (e i d hi)).1
 refine⟨eT (λi=>if i=b then some o else none) p,λi o1 a=>?_,_,p,λi=>?_,rfl,rfl,f⟩
 .simp only[eT]at a
  by_cases hi:i=b
  .subst hi;simp at a;subst a;exact hb
  .simp only[UW hi]at a;exact (g i (c i o1 a)).trans (e i o1 a)
 .by_cases hi:i=b
  .subst hi;right
   cases hp:p i with
   | none=>rfl
   | some d=>have:=c _ _ hp;omega
  .left;simp[hi]
theorem aA.grow{H a:aC}(h:aA H L)(g:dC H a):aA a L:=aQ.grow h g
theorem aA.new{H a:aC}{b:Nat}{o:Obj}(h:aA H L)(g:dC H a)(hb:H.size<=b)(c:a[b]?=some o):aA a (pt b o::L):=
 aQ.add c ⟨H,rfl,h,g,hb⟩
theorem fL{α:Type}(l:List α)(n:Nat):aT l n=l[n]?:=by
 induction l generalizing n with
 | nil=>simp[aT]
 | cons a r ih=>cases n <;> simp[aT,ih]
theorem aQ.rdc{H:aC}{A F:aE}(h:aQ H (A*F)){b e:Nat}{cs:Os}(a:A=cellsA b cs e)(o:Nat):aK H b o=aT cs o:=by
 subst a;rw[h.cell,fL]
theorem aA.rd(h:aA H L)(i:Nat){b e:Nat}{cs:Os}(a:aW i L=cellsA b cs e)(o:Nat):aK H b o=aT cs o:=(h.foc i).rdc a o
theorem aA.r{H:aC}{L:List aE}(h:aA H L)(i:Nat){b e o:Nat}{cs:Os}(a:aW i L=cellsA b cs e:=by rfl):aK H b o=aT cs o:=h.rd i a o
theorem aA.can(h:aA H L)(i:Nat){b e:Nat}{cs:Os}(a:aW i L=cellsA b cs e)(o:Nat)(vs:Os)(c:o+vs.length<=cs.length):eQ H b o vs:=by
 have:=h.foc i;rw[a]at this;exact this.can vs o c
theorem aA.set(h:aA H L)(i:Nat){b e:Nat}{cs:Os}(a:aW i L=cellsA b cs e)(o:Nat)(vs:Os):aA (fJ H b o vs) (put i (cellsA b (cv cs o vs) e) L):=by
 have:=h.foc i;rw[a]at this;exact aA.back (aQ.sets vs o this)
theorem aA.was(h:aA H L)(i:Nat){H0:aC}(a:aW i L=old H0){b:Nat}(hb:b<H0.size):H[b]?=H0[b]?:=by
 have:=h.foc i;rw[a]at this;exact this.was hb
theorem aA.cell0(h:aA H L)(i:Nat){H0:aC}(a:aW i L=old H0){b o:Nat}{v:Value}(c:aK H0 b o=some v):aK H b o=some v:=by
 have:=h.foc i;rw[a]at this;exact this.cell_old c
end
structure SlT(P:Program)(t e sz bytes:Nat):Prop where
 und:P.underlying t=some (.slice e)
 pos:0<sz
 info:∃i z,P.info? e=some i/\i.zero=some z/\i.size=sz/\i.bytes=bytes/\z.cells.size=sz
def slTB(P:Program)(t e sz bytes:Nat):Bool:=
 match P.underlying t,P.info? e with
 | some (.slice e'),some i=>(match i.zero with
  | some z=>Nat.beq e' e&&Nat.blt 0 sz&&Nat.beq i.size sz&&Nat.beq i.bytes bytes&&Nat.beq z.cells.size sz
  | none=>false)
 | _,_=>false
theorem iM{P:Program}{t e sz bytes:Nat}(h:slTB P t e sz bytes=true):SlT P t e sz bytes:=by
 unfold slTB at h
 split at h
 .rename_i m i j hi
  split at h
  .rename_i z c;simp only[Vd]at h;obtain⟨⟨⟨⟨a,b⟩,k⟩,f⟩,d⟩:=h;have a:=Wl a;subst a;exact⟨j,WH b,i,z,hi,c,Wl k,Wl f,Wl d⟩
  .cases h
 .cases h
def aP(H:aC)(a:KQ)(cs:Os):Prop:=∀j v,aT cs j=some v->a=some ⟨aV a,aS a,none⟩/\aK H (aV a) (aS a+j)=some v
theorem nT{α:Type}{l:List α}{j:Nat}{v:α}(h:aT l j=some v):j<l.length:=by
 rw[fL]at h;exact (List.getElem?_eq_some_iff.1 h).1
theorem vy{α:Type}{l:List α}{j:Nat}(h:j<l.length):aT l j=some l[j]:=by rw[fL,List.getElem?_eq_getElem h]
theorem ip(H:aC)(a:KQ):aP H a []:=λj v h=>by simp[aT]at h
theorem aP.take{H:aC}{a:KQ}{cs:Os}(h:aP H a cs)(n:Nat):aP H a (cs.take n):=λj v b=>h j v (by
 rw[fL]at b ⊢;rw[List.getElem?_take]at b
 split at b
 .exact b
 .cases b)
theorem aQ.cellG{H:aC}{F:aE}{b e:Nat}{cs:Os}{fr:Nat×Nat}(h:aQ H (pt b (.cells cs.toArray e fr)*F))(o:Nat):aK H b o=cs[o]?:=by
 have:=h.get;simp[aK,this]
theorem D3{H:aC}{b o e:Nat}{v:Value}{cs:Os}{fr:Nat×Nat}(h:H[b]?=some (.cells cs.toArray e fr)) :
  (iF H b o v)[b]?=some (.cells (cs.set o v).toArray e fr)/\∀i,i≠b->(iF H b o v)[i]?=H[i]?:=by
 refine⟨?_,λi hi=>?_⟩
 .simp only[iF,Array.getElem?_modify,if_true,h,V9];simp
 .simp only[iF,Array.getElem?_modify];rw[UW (λe=>hi e.symm)]
theorem aQ.setsG{H:aC}{F:aE}{b e:Nat}{fr:Nat×Nat}:∀(vs:Os) {cs:Os} (o:Nat),aQ H (pt b (.cells cs.toArray e fr)*F)->aQ (fJ H b o vs) (pt b (.cells (cv cs o vs).toArray e fr)*F)
 | [],cs,o,h=>h
 | v::r,cs,o,h=>by
  have:=h.upd (D3 (o:=o) (v:=v) h.get).1 (D3 h.get).2;simp only[fJ,cv];exact aQ.setsG r (o+1) this
theorem aQ.canG{H:aC}{F:aE}{b e:Nat}{cs:Os}{fr:Nat×Nat}(h:aQ H (pt b (.cells cs.toArray e fr)*F)):∀(vs:Os) (o:Nat),o+vs.length<=cs.length->(∀i,o<=i->i<o+vs.length->¬(fr.1<=i/\i<fr.2))->eQ H b o vs
 | [],_,_,_=>trivial
 | v::r,o,hl,hf=>by
  simp only[Vf]at hl hf;refine⟨⟨?_,?_⟩,aQ.canG h r (o+1) (by omega) λi d a=>hf i (by omega) (by omega)⟩
  .rw [h.cellG];simp;omega
  .have:=h.get;have c:=hf o (Vg _) (by omega);simp only[lT,this];simp only[VF,Ve];omega
def slA(e sz:Nat)(a:KQ)(n c:Nat)(cs:Os):aE:=λh=>
 cs.length=n*sz/\((a=none/\n=0/\c=0/\h=pZ)\/
  ∃b pre post e' fr,a=some ⟨b,pre.length,none⟩/\n<=c/\(c-n)*sz<=post.length/\(e=e->∀i,pre.length<=i->i<pre.length+c*sz->¬(fr.1<=i/\i<fr.2))/\pt b (.cells (pre++cs++post).toArray e' fr) h)
section
variable {H:aC}{F:aE}{e sz n c:Nat}{a:KQ}{cs:Os}
theorem re(h:aQ H F):aQ H (slA e sz none 0 0 []*F):=by
 have:aQ H (emp*F):=by rw[oE];exact h
 exact this.frame λp a=>⟨by simp,.inl ⟨rfl,rfl,rfl,a⟩⟩
theorem slA_pt{b:Nat}(h:aQ H (cellsA b cs e*F))(a:cs.length=n*sz):aQ H (slA e sz (some ⟨b,0,none⟩) n n cs*F):=
 h.frame λp d=>⟨a,.inr ⟨b,[],[],e,(0,0),rfl,Vg _,by simp,λ_ i _ _ c=>by simp at c,by simpa[cellsA] using d⟩⟩
theorem kr(h:aQ H (slA e sz a n c cs*F)):cs.length=n*sz/\((a=none/\n=0/\c=0/\aQ H F)\/
  ∃b pre post d fr,a=some ⟨b,pre.length,none⟩/\n<=c/\(c-n)*sz<=post.length/\(∀i,pre.length<=i->i<pre.length+c*sz->¬(fr.1<=i/\i<fr.2))/\aQ H (pt b (.cells (pre++cs++post).toArray d fr)*F)):=by
 obtain⟨g,t,x,y,hd,rfl,s,u⟩:=h;refine⟨s.1,?_⟩
 rcases s.2 with ⟨f,j,m,k⟩|⟨b,pre,post,d,fr,f,j,m,v,k⟩
 .left;refine⟨f,j,m,_,t,?_⟩;rw[k,sX];exact u
 .right;exact⟨b,pre,post,d,fr,f,j,m,v rfl,_,t,x,y,hd,rfl,k,u⟩
theorem slA_nc(h:aQ H (slA e sz a n c cs*F)):n<=c:=by
 rcases (kr h).2 with ⟨d,j,f,i⟩|⟨b,pre,post,k,fr,d,j,f,m,i⟩ <;> omega
theorem y5(h:aQ H (slA e sz a n c cs*F)):aP H a cs:=by
 obtain⟨s,f⟩:=kr h;intro j v m;have d:=nT m
 rcases f with ⟨f,i,t,k⟩|⟨b,pre,post,u,fr,f,i,t,w,k⟩
 .subst i;simp[s]at d
 .subst f;refine⟨rfl,?_⟩;show aK H b (pre.length+j)=some v;rw[k.cellG];rw[Vj,List.getElem?_append_right (by omega),W7,List.getElem?_append_left d,<-fL];exact m
theorem nU:∀(vs cs:Os) (o:Nat),(cv cs o vs).length=cs.length
 | [],_,_=>rfl
 | v::r,cs,o=>by simp only[cv];rw[nU r];simp
theorem D4:∀(vs pre cs post:Os) (o:Nat),o+vs.length<=cs.length->cv (pre++cs++post) (pre.length+o) vs=pre++cv cs o vs++post
 | [],_,_,_,_,_=>rfl
 | v::r,pre,cs,post,o,h=>by
  simp only[Vf]at h;simp only[cv];have:=D4 r pre (cs.set o v) post (o+1) (by simp;omega);rw[<-VQ]at this;rw[<-this];congr 1;rw[Vj,Vj,List.set_append_right _ _ (by omega),W7,List.set_append_left _ _ (by omega)]
theorem rh:∀(vs pre post:Os),vs.length<=post.length->cv (pre++post) pre.length vs=pre++vs++post.drop vs.length
 | [],_,_,_=>by simp[cv]
 | v::r,pre,[],h=>by simp at h
 | v::r,pre,p::post,h=>by
  simp only[cv];have:=rh r (pre++[v]) post (by simpa using h);simp only[UZ,Vf,Vy,Vw,Vj,Wf,VB]at this;simp only[Vf,Ya,Vj,Wf];rw[<-this];congr 1;rw[List.set_append_right _ _ (by omega)];simp
theorem slA_set(h:aQ H (slA e sz a n c cs*F))(o:Nat)(vs:Os)(s:o+vs.length<=cs.length)(h0:vs≠[]) :
  a=some ⟨aV a,aS a,none⟩/\eQ H (aV a) (aS a+o) vs/\aQ (fJ H (aV a) (aS a+o) vs) (slA e sz a n c (cv cs o vs)*F):=by
 obtain⟨d,f⟩:=kr h
 rcases f with ⟨f,j,t,k⟩|⟨b,pre,post,w,fr,f,j,t,m,k⟩
 .subst j
  cases vs with
  | nil=>exact UY rfl h0
  | cons v r=>simp at s;omega
 .subst f;have y:n*sz<=c*sz:=VS _ j;refine⟨rfl,k.canG vs _ (by simp[aS];omega) (λi u x=>m i (by simp only[aS]at u;omega) (by simp only[aS]at x;omega)),?_⟩
  have:=aQ.setsG vs (pre.length+o) k;rw[D4 _ _ _ _ _ s]at this;exact this.frame λp A=>⟨by rw[nU];exact d,.inr ⟨b,pre,post,w,fr,rfl,j,t,λ_=>m,A⟩⟩
theorem iN(b o n:Nat):(⟨b,o,none⟩:Addr).add n=⟨b,o+n,none⟩:=by
 unfold Addr.add;split <;> simp_all
theorem td{P:Program}{w:World}{m:Nat}{a2:KQ}{c2:Nat}{ws:Os}(c:aP w.heap a2 ws)(e:ws.length=m*sz) :
  (Builtin.firstCells sz m (.slice a2 m c2)).run P w=.ok ws.toArray w:=by
 cases a2 with
 | none=>
  have:ws=[]:=by
   cases ws with
   | nil=>rfl
   | cons v r=>have:=(c 0 v rfl).1;simp at this
  subst this;exact run_firstCells_none w sz m m c2
 | some a=>
  refine run_firstCells_some w sz m a m c2 ws e λj v d=>?_
  have h:=c j v (by rw[fL];exact d);simp only[Option.some.injEq]at h;rw[h.1,iN];have b:=h.2;unfold World.cell?;unfold aK at b;simp only[Option.isSome_none,aV,aS]at b ⊢
  split at b
  .rename_i cc x1 x2 hb;rw[hb];exact b
  .cases b
theorem Nb{P:Program}{t bytes m c2 ty:Nat}(T:SlT P t e sz bytes){a2:KQ}{ws:Os}{K:KE}(h:aQ H (slA e sz a n c cs*F))(V:aP H a2 ws)(s:ws.length=m*sz)(v:cR ws=true)
  (hb:(n+m)*bytes<=140737488355328) (hn:n+m<=140737488355328)
  (k:∀R Q W,aQ W (slA e sz R (n+m) Q (cs++ws)*F)->K (.slice R (n+m) Q) W) :
  cA P (Builtin.append_ #[t,t] ty #[.slice a n c,.slice a2 m c2]) H K:=by
 obtain⟨D,h0,i,z,hi,hz,rfl,rfl,N⟩:=T;refine .mk λw M=>?_
 subst M;obtain⟨d,x⟩:=kr h;have E:¬(9223372036854775807<(n:Int)+(m:Int)):=by omega
 have A:=td (P:=P) (w:=w) (c2:=c2) V s;have C:=td (P:=P) (w:=w.drew) (c2:=c2) V s;have J:=td (P:=P) (w:=w.drew) (a2:=a) (m:=n) (c2:=c) (y5 h) d
 by_cases hroom:n+m<=c
 .rcases x with ⟨x,Z,O,u⟩|⟨b,pre,post,e',fr,x,Z,O,S,u⟩
  .subst x;subst Z;subst O;obtain rfl:m=0:=by omega
   obtain rfl:ws=[]:=Wn (by simpa using s);obtain rfl:cs=[]:=Wn (by simpa using d);refine⟨.slice none (0+0) 0,w,?_,bV.refl w,k _ _ _ (re u)⟩;simp[Builtin.append_,run_underlying D,sizeOf,typeInfo,hi,Builtin.lenOf,A]
  .subst x;have y:ws.length<=post.length:=by
    refine Vu ?_ O;rw[s];exact VS _ (by omega)
   have L:(n+m)*i.size<=c*i.size:=VS _ hroom;rw[VJ]at L;have f:eQ w.heap b (pre.length+n*i.size) ws:=u.canG ws _ (by simp[d];omega) λj B Y=>S j (by omega) (by omega)
   obtain⟨w',B,Y,h8⟩:=qM (P:=P) (b:=b) ws (pre.length+n*i.size) 0 w (by simpa using f) (by simpa using qN _ _ f) v;refine⟨.slice (some ⟨b,pre.length,none⟩) (n+m) c,w',?_,Y,k _ _ _ ?_⟩
   .simp [Builtin.append_,run_underlying D,sizeOf,typeInfo,hi,Builtin.lenOf,hroom,A,iN,B]
   .rw [h8];have U:=aQ.setsG ws (pre.length+n*i.size) u;have e1:pre.length+n*i.size=(pre++cs).length:=by simp[d]
    rw[e1,rh _ _ _ y]at U;rw[Wm,e1];refine U.frame λp v=>⟨by simp[d,s,VJ],.inr ⟨b,pre,post.drop ws.length,e',fr,rfl,hroom,?_,λ_=>S,by simpa using v⟩⟩
    rw[Vt,s];have:(c-(n+m))*i.size+m*i.size=(c-n)*i.size:=by rw[<-VJ];congr 1;omega
    omega
 .have I:¬(281474976710656<Builtin.nextslicecap (n+m) c*i.bytes):=by
   have:=growslice_fits (need:=n+m) (old:=c) (bytes:=i.bytes) (by omega) hb;omega
  refine⟨.slice (some ⟨w.heap.size,0,none⟩) (n+m) (grownCap w (n+m) c e),w.drew.alloc (.cells (cs.toArray++ws.toArray++Builtin.zeroCells z.cells (grownCap w (n+m) c e-(n+m))) e),?_,⟨rfl,rfl,rfl⟩,k _ _ _ ?_⟩
  .simp [Builtin.append_,run_underlying D,sizeOf,typeInfo,zeroValue,hi,hz,Builtin.lenOf,hroom,E,I,Question.forced,J,C,newRow,grownCap];congr 2;apply Array.ext';simp[Vj]
  .have u:aQ w.heap F:=h.drop';have B:=u.push (.cells (cs.toArray++ws.toArray++Builtin.zeroCells z.cells (grownCap w (n+m) c e-(n+m))) e);have G:=grownCap_ge w (n+m) c e;refine B.frame λp v=>⟨by simp[d,s,VJ],.inr ⟨w.heap.size,[],(Builtin.zeroCells z.cells (grownCap w (n+m) c e-(n+m))).toList,e,(0,0),rfl,G,?_,λ_ i _ _ hh=>by simp at hh,?_⟩⟩
   .rw [Wb,size_zeroCells,N];exact Vg _
   .have e2:(([]:Os)++(cs++ws)++(Builtin.zeroCells z.cells (grownCap w (n+m) c e-(n+m))).toList).toArray=cs.toArray++ws.toArray++Builtin.zeroCells z.cells (grownCap w (n+m) c e-(n+m)):=by
     apply Array.ext';simp
    rw[e2];exact v
end
section
variable {H:aC}{L:List aE}{e sz n c:Nat}{a:KQ}{cs:Os}
theorem aA.sl_rd(h:aA H L)(i:Nat)(b:aW i L=slA e sz a n c cs):aP H a cs:=y5 (F:=star (del i L)) (by have:=h.foc i;rw[b]at this;exact this)
theorem aA.sl_nc(h:aA H L)(i:Nat)(b:aW i L=slA e sz a n c cs):n<=c:=slA_nc (F:=star (del i L)) (by have:=h.foc i;rw[b]at this;exact this)
theorem aA.sl_nil(h:aA H L)(e sz:Nat):aA H (slA e sz none 0 0 []::L):=re h
theorem aA.sl_pt{b:Nat}(h:aA H (pt b (.cells cs.toArray e (0,0))::L))(sz n:Nat)(a:cs.length=n*sz):aA H (slA e sz (some ⟨b,0,none⟩) n n cs::L):=slA_pt h a
theorem aA.sl_set(h:aA H L)(i:Nat)(b:aW i L=slA e sz a n c cs)(o:Nat)(vs:Os)(d:o+vs.length<=cs.length)(h0:vs≠[]) :
  a=some ⟨aV a,aS a,none⟩/\eQ H (aV a) (aS a+o) vs/\aA (fJ H (aV a) (aS a+o) vs) (put i (slA e sz a n c (cv cs o vs)) L):=by
 have:=h.foc i;rw[b]at this;obtain⟨j,f,k⟩:=slA_set this o vs d h0;exact⟨j,f,aA.back k⟩
theorem aA.append{P:Program}{t bytes m c2 ty:Nat}(T:SlT P t e sz bytes){a2:KQ}{ws:Os}{K:KE}(h:aA H L)(i:Nat)(s:aW i L=slA e sz a n c cs)(v:aP H a2 ws)(u:ws.length=m*sz)(w:cR ws=true)
  (hb:(n+m)*bytes<=140737488355328) (x:n+m<=140737488355328)
  (k:∀d b f,aA f (put i (slA e sz d (n+m) b (cs++ws)) L)->K (.slice d (n+m) b) f) :
  cA P (Builtin.append_ #[t,t] ty #[.slice a n c,.slice a2 m c2]) H K:=by
 have j:=h.foc i;rw[s]at j;exact Nb T j v u w hb x λd b f y=>k d b f (aA.back y)
theorem aA.append1{P:Program}{t bytes ty e2:Nat}(T:SlT P t e sz bytes){ws:Os}{K:KE}(h:aA H L)(i:Nat)(s:aW i L=slA e sz a n c cs)(u:ws.length=sz)(w:cR ws=true)
  (hb:(n+1)*bytes<=140737488355328) (x:n+1<=140737488355328)
  (k:∀d b m,aA m (put i (slA e sz d (n+1) b (cs++ws)) L)->K (.slice d (n+1) b) m) :
  cA P (Builtin.append_ #[t,t] ty #[.slice a n c,.slice (some ⟨H.size,0,none⟩) 1 1]) (H.push (.cells ws.toArray e2 (0,0))) K:=by
 have g:=dC.push H (.cells ws.toArray e2 (0,0));refine aA.append T (h.grow g) i s (ws:=ws) (λj v f=>⟨rfl,?_⟩) (by simpa using u) w hb x k
 simp only[aV,aS,Vw];rw[fL]at f;simp[aK,f]
end
section
variable {α:Type}{enc:α->Os}{sz:Nat}{xs ys:List α}{H:aC}{a:KQ}
def flat(enc:α->Os)(xs:List α):Os:=xs.flatMap enc
@[simp] theorem flat_nil:flat enc ([]:List α)=[]:=rfl
theorem l7(x:α):flat enc (x::xs)=enc x++flat enc xs:=rfl
theorem dT:flat enc (xs++ys)=flat enc xs++flat enc ys:=by simp[flat]
theorem nq(x:α):flat enc [x]=enc x:=by simp[flat]
theorem eZ(a:∀x,(enc x).length=sz):∀xs:List α,(flat enc xs).length=xs.length*sz
 | []=>by simp
 | x::r=>by rw[l7,UZ,a,eZ a r,Vf,VJ];omega
theorem te(a:∀x,(enc x).length=sz):∀(k:Nat) (xs:List α),(flat enc xs).drop (k*sz)=flat enc (xs.drop k)
 | 0,xs=>by simp
 | k+1,[]=>by simp
 | k+1,x::r=>by
  rw[l7,Ya,<-te a k r,VJ,Nat.one_mul,W6];rw[<-a x,List.drop_append];simp
theorem D5(a:∀x,(enc x).length=sz):∀(k:Nat) (xs:List α),(flat enc xs).take (k*sz)=flat enc (xs.take k)
 | 0,xs=>by simp
 | k+1,[]=>by simp
 | k+1,x::r=>by
  rw[l7,Wo,l7,<-D5 a k r,VJ,Nat.one_mul,W6];rw[<-a x,List.take_append,V2 (by omega),W7]
theorem D6{β:Type}:∀{l r:List β} {j:Nat},j<l.length->aT (l++r) j=aT l j:=by
 intro l r j h;rw[fL,fL,List.getElem?_append_left h]
theorem y6{β:Type}{l r:List β}(j:Nat):aT (l++r) (l.length+j)=aT r j:=by
 rw[fL,fL,List.getElem?_append_right (by omega),W7]
theorem vz(a:∀x,(enc x).length=sz):∀{xs:List α} {k:Nat} (b:k<xs.length) (f:Nat),f<sz->aT (flat enc xs) (k*sz+f)=aT (enc xs[k]) f
 | x::r,0,_,f,hf=>by rw[W8,Vw,l7,D6 (by rw[a];exact hf)];rfl
 | x::r,k+1,b,f,hf=>by
  rw[l7,show (k+1)*sz+f=(enc x).length+(k*sz+f) by rw[a,VJ];omega,y6,vz a (by simpa using b) f hf];rfl
theorem aP.el(h:aP H a (flat enc xs))(b:∀x,(enc x).length=sz){k:Nat}(d:k<xs.length)(f:Nat){v:Value}(c:aT (enc xs[k]) f=some v) :
  aK H (aV a) (aS a+k*sz+f)=some v:=by
 have e:f<sz:=by rw[<-b xs[k]];exact nT c
 have:=(h (k*sz+f) v (by rw[vz b d f e];exact c)).2
 rwa[<-VQ]at this
theorem aP.el0(h:aP H a (flat enc xs))(d:∀x,(enc x).length=sz){k:Nat}(c:k<xs.length){v:Value}(b:aT (enc xs[k]) 0=some v) :
  aK H (aV a) (aS a+k*sz)=some v:=h.el d c 0 b
theorem aP.some(h:aP H a (flat enc xs))(b:∀x,(enc x).length=sz)(hs:0<sz){k:Nat}(c:k<xs.length):a=some ⟨aV a,aS a,none⟩:=by
 have h0:0<(flat enc xs).length:=by rw[eZ b];exact Nat.mul_pos (by omega) hs
 exact (h 0 _ (vy h0)).1
theorem tf:∀{vs:Os} {b o:Nat},(∀f v,aT vs f=some v->aK H b (o+f)=some v)->bD H b o vs
 | [],_,_,_=>trivial
 | [v],b,o,h=>h 0 v rfl
 | v::u::r,b,o,h=>⟨h 0 v rfl,tf λf w a=>by have:=h (f+1) w a;rwa[show o+(f+1)=o+1+f by omega]at this⟩
theorem aP.els(h:aP H a (flat enc xs))(d:∀x,(enc x).length=sz){k:Nat}(b:k<xs.length):bD H (aV a) (aS a+k*sz) (enc xs[k]):=
 tf λf v c=>h.el d b f c
theorem D7:∀(vs l r:Os) (o:Nat),o+vs.length<=l.length->cv (l++r) o vs=cv l o vs++r
 | [],_,_,_,_=>rfl
 | v::vs,l,r,o,h=>by
  simp only[Vf]at h;simp only[cv];rw[List.set_append_left _ _ (by omega),D7 vs _ r (o+1) (by simp;omega)]
theorem tg:∀(vs l r:Os) (o:Nat),cv (l++r) (l.length+o) vs=l++cv r o vs
 | [],_,_,_=>rfl
 | v::vs,l,r,o=>by
  simp only[cv];rw[List.set_append_right _ _ (by omega),W7,VQ,tg vs l _ (o+1)]
theorem vA:∀(vs l:Os),vs.length=l.length->cv l 0 vs=vs:=by
 intro vs l h;have:=rh vs [] l (by omega);simp only[VB,Vy]at this;rw[this,Yb (by omega),V4]
theorem y7(a:∀x,(enc x).length=sz)(y:α)(vs:Os)(f:Nat):∀{xs:List α} {k:Nat} (b:k<xs.length),f+vs.length<=sz->cv (enc xs[k]) f vs=enc y->cv (flat enc xs) (k*sz+f) vs=flat enc (xs.set k y)
 | x::r,0,_,hl,h=>by
  rw[W8,Vw,l7,WI,l7,D7 _ _ _ _ (by rw[a];omega)];exact congrArg (·++flat enc r) h
 | x::r,k+1,b,hl,h=>by
  rw[Yc,l7,l7,<-y7 a y vs f (xs:=r) (k:=k) (by simpa using b) hl h,show (k+1)*sz+f=(enc x).length+(k*sz+f) by rw[a,VJ];omega,tg]
theorem vB:∀{l r:Os},cR l=true->cR r=true->cR (l++r)=true
 | [],r,_,h=>h
 | v::l,r,h,h2=>by
  have:=yd h;have a:=vB this.2 h2
  cases v <;> simp[cR]at h ⊢ <;> exact a
theorem l8(a:∀x,cR (enc x)=true):∀xs:List α,cR (flat enc xs)=true
 | []=>rfl
 | x::r=>vB (a x) (l8 a r)
end
section
variable {H:aC}{L:List aE}{e sz n c:Nat}{a:KQ}{cs:Os}
theorem aA.sl_drop(h:aA H L)(i:Nat)(C:aW i L=slA e sz a n c cs)(k:Nat)(x:k<=n):aA H (put i (slA e sz (bZ a k c sz) (n-k) (c-k) (cs.drop (k*sz))) L):=by
 have u:=h.foc i;rw[C]at u;refine aA.back (i:=i) (L:=L) (u.frame λp m=>?_)
 obtain⟨w,m⟩:=m;refine⟨by rw[Vt,w,Nat.sub_mul],?_⟩
 rcases m with ⟨s,y,j,d⟩|⟨b,pre,post,t,fr,s,y,j,B,d⟩
 .left;subst s;subst y;subst j;exact⟨by simp[bZ],by omega,by omega,d⟩
 .right;subst s;unfold bZ
  by_cases e:c=k
  .rw [UX e];have:n=k:=by omega
   subst this;have hd:cs.drop (n*sz)=[]:=by rw[<-w];simp
   refine⟨b,pre,cs++post,t,fr,rfl,by omega,by rw[show c-n-(n-n)=0 by omega];omega,λ_ i v f=>by rw[show c-n=0 by omega]at f;omega,?_⟩
   rw[hd];simpa using d
  .rw [UW e];refine⟨b,pre++cs.take (k*sz),post,t,fr,?_,by omega,?_,λ_ i v f=>?_,?_⟩
   .have:k*sz<=n*sz:=VS _ x;simp only[V9,iN,UZ,Vx];rw[Ww (by omega)]
   .rw [show c-k-(n-k)=c-n by omega];exact j
   .have D:k*sz<=n*sz:=VS _ x;have A:(c-k)*sz+k*sz=c*sz:=by rw[<-VJ];congr 1;omega
    rw[UZ,Vx,Ww (by omega)]at v f;exact B rfl i (by omega) (by omega)
   .have:pre++cs.take (k*sz)++cs.drop (k*sz)++post=pre++cs++post:=by
     rw[Vj,Vj,<-Vj (cs.take _),VO,Vj]
    rw[this];exact d
theorem aA.sl_take(h:aA H L)(i:Nat)(w:aW i L=slA e sz a n c cs)(k:Nat)(y:k<=n):aA H (put i (slA e sz a k c (cs.take (k*sz))) L):=by
 have m:=h.foc i;rw[w]at m;refine aA.back (i:=i) (L:=L) (m.frame λp f=>?_)
 obtain⟨t,f⟩:=f;have x:k*sz<=n*sz:=VS _ y;refine⟨by rw[Vx,t];omega,?_⟩
 rcases f with ⟨j,A,s,d⟩|⟨b,pre,post,u,fr,j,A,s,v,d⟩
 .left;exact⟨j,by omega,s,d⟩
 .right;refine⟨b,pre,cs.drop (k*sz)++post,u,fr,j,by omega,?_,v,?_⟩
  .have:(c-k)*sz=(c-n)*sz+(n-k)*sz:=by rw[<-VJ];congr 1;omega
   rw[UZ,Vt,t,this,<-Nat.sub_mul];omega
  .have:pre++cs.take (k*sz)++(cs.drop (k*sz)++post)=pre++cs++post:=by
    rw[Vj,<-Vj (cs.take _),VO,<-Vj]
   rw[this];exact d
end
theorem vC{α β:Type}(f:α->β):∀(l:List α) (i:Nat),(l.eraseIdx i).map f=(l.map f).eraseIdx i
 | [],_=>rfl
 | a::r,0=>rfl
 | a::r,i+1=>by simp only[List.eraseIdx_cons_succ,V5];rw[vC f r i]
section
variable {κ α:Type}[DecidableEq κ]
def aL(x:κ):List (κ×α)->Option α
 | []=>none
 | (y,v)::r=>if x=y then some v else aL x r
def bT(x:κ)(m:List (κ×α)):List (κ×α):=m.filter λp=>decide (p.1≠x)
def mset(x:κ)(v:α)(m:List (κ×α)):List (κ×α):=(x,v)::bT x m
abbrev aG(m:List (κ×α)):List κ:=m.map Prod.fst
theorem gY{x:κ}{v:α}:∀{m:List (κ×α)},aL x m=some v->(x,v)∈m
 | [],h=>by simp[aL]at h
 | (y,u)::r,h=>by
  simp only[aL]at h
  split at h
  .rename_i e;subst e;cases h;simp
  .exact Vq _ (gY h)
theorem md{x:κ}{v:α}:∀{m:List (κ×α)},(aG m).Nodup->(x,v)∈m->aL x m=some v
 | [],_,h=>by simp at h
 | (y,u)::r,hn,h=>by
  simp only[aG,V5,Wv]at hn;simp only[aL]
  rcases Vm.1 h with a|a
  .cases a;simp
  .rw [UW]
   .exact md hn.2 a
   .intro e;exact hn.1 (Vh.2 ⟨(x,v),a,e⟩)
theorem fp{x:κ}:∀{m:List (κ×α)},aL x m=none↔x∉aG m
 | []=>by simp[aL]
 | (y,u)::r=>by
  simp only[aL,aG,V5,Vm,not_or]
  split
  .rename_i e;simp[e]
  .rename_i e;rw[fp (m:=r)];simp[e]
theorem qb{x:κ}{m m':List (κ×α)}(c:(aG m).Nodup)(b:m.Perm m'):aL x m=aL x m':=by
 have a:(aG m').Nodup:=(b.map Prod.fst).nodup_iff.1 c
 cases h:aL x m with
 | none=>
  rw[fp]at h;exact (fp.2 λd=>h ((b.map Prod.fst).mem_iff.2 d)).symm
 | some v=>exact (md a (b.mem_iff.1 (gY h))).symm
theorem D8{x:κ}{m m':List (κ×α)}(a:m.Perm m'):(bT x m).Perm (bT x m'):=a.filter _
theorem rj{x:κ}{p:κ×α}{m:List (κ×α)}:p∈bT x m↔p∈m/\p.1≠x:=by simp[bT]
theorem rk{x:κ}{m:List (κ×α)}(a:(aG m).Nodup):(aG (bT x m)).Nodup:=a.sublist (List.Sublist.map _ List.filter_sublist)
theorem oF{x:κ}{v:α}{m:List (κ×α)}(a:(aG m).Nodup):(aG (mset x v m)).Nodup:=by
 simp only[aG,mset,V5,Wv];refine⟨λh=>?_,rk a⟩
 obtain⟨p,b,e⟩:=Vh.1 h;exact (rj.1 b).2 e
theorem kG{x:κ}{m:List (κ×α)}(h:aL x m=none):bT x m=m:=by
 rw[fp]at h;unfold bT;rw[WQ];intro p a;simp only[Vc];intro e;subst e;exact h (Vh.2 ⟨p,a,rfl⟩)
theorem y8{x y:κ}(h:y≠x):∀{m:List (κ×α)},aL y (bT x m)=aL y m
 | []=>rfl
 | (z,u)::r=>by
  have a:=y8 h (m:=r);simp only[bT,VD]at a ⊢
  split
  .simp only[aL];split
   .rfl
   .exact a
  .rename_i b;simp only[Vc,ne_eq,Decidable.not_not]at b;simp only[aL];rw[UW (by rw[b];exact h)];exact a
theorem Nc{x:κ}{m:List (κ×α)}:aL x (bT x m)=none:=by
 rw[fp];intro h;obtain⟨p,a,e⟩:=Vh.1 h;exact (rj.1 a).2 e
theorem oG{x y:κ}{v:α}{m:List (κ×α)}:aL y (mset x v m)=if y=x then some v else aL y m:=by
 simp only[mset,aL]
 split
 .rfl
 .rename_i h;exact y8 h
theorem vD{x y:κ}{m:List (κ×α)}:aL y (bT x m)=if y=x then none else aL y m:=by
 split
 .rename_i h;subst h;exact Nc
 .rename_i h;exact y8 h
theorem Nd{x:κ}{v:α}{m m':List (κ×α)}(a:m.Perm m'):(mset x v m).Perm (mset x v m'):=(D8 a).cons _
theorem D9{x:κ}{v:α}{m:List (κ×α)}(h:aL x m=none):(mset x v m).length=m.length+1:=by simp[mset,kG h]
theorem DV{x:κ}{v:α}:∀{m:List (κ×α)},(aG m).Nodup->aL x m=some v->(bT x m).length+1=m.length
 | [],_,h=>by simp[aL]at h
 | (y,u)::r,hn,h=>by
  simp only[aG,V5,Wv]at hn;simp only[aL]at h
  by_cases e:x=y
  .subst e;have:aL x r=none:=fp.2 hn.1;have b:=kG this;have c:bT x ((x,u)::r)=bT x r:=by simp[bT,VD]
   rw[c,b];rfl
  .rw [UW e]at h;have a:=DV hn.2 h;simp only[bT,VD]at a ⊢;rw[UX (by simpa using λe2=>e e2.symm)]
   simp only[Vf];omega
theorem DW{x:κ}{v u:α}{m:List (κ×α)}(a:(aG m).Nodup)(h:aL x m=some u):(mset x v m).length=m.length:=by
 have:=DV a h;simp only[mset,Vf];omega
theorem getElem?_of_mlook{x:κ}{v:α}{m:List (κ×α)}(h:aL x m=some v):∃i:Nat,m[i]?=some (x,v)/\∀j,j<i->(aG m)[j]?≠some x:=by
 induction m with
 | nil=>simp[aL]at h
 | cons p r ih=>
  obtain⟨y,u⟩:=p;simp only[aL]at h
  split at h
  .rename_i e;subst e;cases h;exact⟨0,rfl,λj a=>UY a (by omega)⟩
  .rename_i e;obtain⟨i,c,b⟩:=ih h;refine⟨i+1,by simpa using c,λj a=>?_⟩
   cases j with
   | zero=>simp[aG];exact λe2=>e e2.symm
   | succ j=>simpa[aG] using b j (by omega)
theorem DX{x:κ}{v:α}{m:List (κ×α)}(a:(aG m).Nodup){i:Nat}(hi:m[i]?=some (x,v)):m.eraseIdx i=bT x m:=by
 induction m generalizing i with
 | nil=>simp at hi
 | cons p r b=>
  simp only[aG,V5,Wv]at a
  cases i with
  | zero=>
   simp at hi;subst hi;have:aL x r=none:=fp.2 a.1;have c:=kG this;have d:bT x ((x,v)::r)=bT x r:=by simp[bT,VD]
   rw[d,c];rfl
  | succ i=>
   simp only[List.getElem?_cons_succ]at hi;have b:=b a.2 hi;simp only[List.eraseIdx_cons_succ,b];simp only[bT,VD];rw[UX];simp only[Vc];intro e;exact a.1 (Vh.2 ⟨_,VA hi,e.symm⟩)
theorem DY{x:κ}{v u:α}{m:List (κ×α)}(b:(aG m).Nodup){i:Nat}(hi:m[i]?=some (x,v)):(m.set i (x,u)).Perm (mset x u m):=by
 have h:=DX b hi;have a:i<m.length:=(List.getElem?_eq_some_iff.1 hi).1;unfold mset;rw[<-h];rw[List.set_eq_take_append_cons_drop,UX a,List.eraseIdx_eq_take_drop_succ];exact List.perm_middle
end
structure nr{κ:Type}(P:Program)(k:TypeId)(kenc:κ->Value):Prop where
 inj:∀x y,kenc x=kenc y->x=y
 chk:∀(em:Bool) (x:κ) (w:World),(Instr.checkKey em 10000 k (kenc x)).run P w=.ok () w
 non:∀(x:κ) (ks:List κ) (es:List MapEntry) (w:World),es.map (·.key)=ks.map kenc->x∉ks->(Instr.findKey k (kenc x) es).run P w=.ok none w
 fnd:∀(x:κ) (ks:List κ) (es:List MapEntry) (w:World) (i:Nat) (e:MapEntry),es.map (·.key)=ks.map kenc->ks[i]?=some x->(∀j,j<i->ks[j]?≠some x)->es[i]?=some e->(Instr.findKey k (kenc x) es).run P w=.ok (some (i,e.val)) w
 stay:∀(x:κ) (w:World),(Instr.keyThatStays (kenc x) (kenc x)).run P w=.ok (kenc x) w
theorem y9{kk kd:IntKind}(x:Int):∀(a:List MapEntry) (ks:List Int) (i:Nat),a.map (·.key)=ks.map (Value.int kk)->
  (x∉ks->Instr.findNow (.int kd) (.int kk x) a i=some none)/\∀j e,ks[j]?=some x->(∀l,l<j->ks[l]?≠some x)->a[j]?=some e->Instr.findNow (.int kd) (.int kk x) a i=some (some (i+j,e.val))
 | [],[],i,_=>⟨λ_=>rfl,λj e h=>by simp at h⟩
 | [],_::_,i,h=>by simp at h
 | _::_,[],i,h=>by simp at h
 | e0::a,y::ks,i,h=>by
  simp only[V5,List.cons.injEq]at h;obtain⟨m,n⟩:=y9 (kd:=kd) x a ks (i+1) h.2
  by_cases e:x=y
  .subst e;refine⟨λb=>UY (by simp) b,λj e1 c k d=>?_⟩
   have:j=0:=by
    cases j with
    | zero=>rfl
    | succ j=>exact UY rfl (k 0 (by omega))
   subst this;simp at d;subst d;simp[Instr.findNow,Instr.sameNow,h.1]
  .refine⟨λb=>?_,λj e1 c k d=>?_⟩
   .simp only[Vm,not_or]at b;have f:(x == y)=false:=by simpa using e
    simp[Instr.findNow,Instr.sameNow,h.1,f,m b.2]
   .cases j with
    | zero=>simp at c;exact UY c.symm e
    | succ j=>
     have:=n j e1 (by simpa using c) (λl s=>by simpa using k (l+1) (by omega)) (by simpa using d)
     have f:(x == y)=false:=by simpa using e
     simp only[Instr.findNow,Instr.sameNow,h.1,f,this,if_true];rw[show i+1+j=i+(j+1) by omega]
theorem vE{P:Program}{k:TypeId}{kd:IntKind}(h:P.underlying k=some (.int kd)):nr P k (Value.int kd) where
 inj x y h:=by cases h;rfl
 chk em x w:=by
  show (Instr.checkKey em (9999+1) k (Value.int kd x)).run P w=.ok () w;generalize 9999=n;simp[Instr.checkKey,run_underlying h]
 non x ks es w hk hx:=by simp[Instr.findKey,run_underlying h,(y9 (kd:=kd) x es ks 0 hk).1 hx]
 fnd x ks es w i e hk h1 h2 h3:=by simp[Instr.findKey,run_underlying h,(y9 (kd:=kd) x es ks 0 hk).2 i e h1 h2 h3]
 stay x w:=by
  have:Instr.sameBits 10000 (Value.int kd x) (Value.int kd x)=true:=by
   generalize 10000=n;unfold Instr.sameBits;simp
  simp[Instr.keyThatStays,this]
structure l9{α:Type}(P:Program)(t k e:Nat)(venc:α->Value)(z:α):Prop where
 und:P.underlying t=some (.map k e)
 info:∃i,P.info? e=some i/\i.zero=some (venc z)
def mapA{κ α:Type}(kenc:κ->Value)(venc:α->Value)(r:Nat)(m:List (κ×α)):aE:=λh=>
 (aG m).Nodup/\∃es clock,(∃ml:List (κ×α),ml.Perm m/\es.toList.map (λe:MapEntry=>(e.key,e.val))=ml.map λp=>(kenc p.1,venc p.2))/\
  (es.toList.map (·.born)).Nodup/\(∀e∈es.toList,e.born<clock)/\pt r (.map es clock) h
section
variable {κ α:Type}{kenc:κ->Value}{venc:α->Value}{r:Nat}{m m':List (κ×α)}{H:aC}{F:aE}{P:Program}
theorem ns(e:m.Perm m'):mapA kenc venc r m=mapA kenc venc r m':=by
 funext h;apply propext;have key:∀{a b:List (κ×α)},a.Perm b->mapA kenc venc r a h->mapA kenc venc r b h:=by
  rintro a b d ⟨k,j,c,⟨u,n,f⟩,t,s,i⟩;exact⟨(d.map Prod.fst).nodup_iff.1 k,j,c,⟨u,n.trans d,f⟩,t,s,i⟩
 exact⟨key e,key e.symm⟩
theorem me(h:aQ H (mapA kenc venc r m*F)):(aG m).Nodup/\∃b a,(∃c:List (κ×α),c.Perm m/\b.toList.map (λe:MapEntry=>(e.key,e.val))=c.map λp=>(kenc p.1,venc p.2))/\
  (b.toList.map (·.born)).Nodup/\(∀e∈b.toList,e.born<a)/\aQ H (pt r (.map b a)*F):=by
 obtain⟨g,k,x,y,hd,rfl,⟨j,b,a,d,f,n,i⟩,s⟩:=h;exact⟨j,b,a,d,f,n,_,k,x,y,hd,rfl,i,s⟩
theorem mapA_new(h:aQ H (pt r (.map #[] 0)*F)):aQ H (mapA kenc venc r []*F):=
 h.frame λp a=>⟨by simp,#[],0,⟨[],.refl _,rfl⟩,by simp,by simp,a⟩
theorem tj{b:Array MapEntry}{c:List (κ×α)}(h:b.toList.map (λe:MapEntry=>(e.key,e.val))=c.map λp=>(kenc p.1,venc p.2)) :
  b.toList.map (·.key)=(aG c).map kenc/\∀(i:Nat) x v,c[i]?=some (x,v)->∃e:MapEntry,b.toList[i]?=some e/\e.key=kenc x/\e.val=venc v:=by
 constructor
 .have:=congrArg (List.map Prod.fst) h;simpa[aG,Function.comp_def] using this
 .intro i x v hi;have a:=congrArg (λl=>l[i]?) h
  simp only[List.getElem?_map,hi,V9]at a
  cases he:b.toList[i]? with
  | none=>rw[he]at a;cases a
  | some e=>rw[he]at a;simp at a;exact⟨e,rfl,a.1,a.2⟩
section
variable [DecidableEq κ]{t k e:Nat}{z:α}(T:l9 P t k e venc z)(KO:nr P k kenc)
include T KO
theorem map_look{x:κ}(h:aQ H (mapA kenc venc r m*F)) :
  (∀v,aL x m=some v->dj P (Instr.lookup t (.map (some r)) (kenc x) true) H (.tuple #[venc v,.bool true])/\dj P (Instr.lookup t (.map (some r)) (kenc x) false) H (venc v))/\
  (aL x m=none->dj P (Instr.lookup t (.map (some r)) (kenc x) true) H (.tuple #[venc z,.bool false])/\dj P (Instr.lookup t (.map (some r)) (kenc x) false) H (venc z)):=by
 obtain⟨E,u,s,⟨c,k,d⟩,_,_,D⟩:=me h;have hb:=D.get;obtain⟨A,G⟩:=tj d;have b:(aG c).Nodup:=(k.map Prod.fst).nodup_iff.2 E;obtain⟨i,hi,C⟩:=T.info
 constructor
 .intro v a;rw[<-qb b k]at a;obtain⟨j,y,n⟩:=getElem?_of_mlook a;obtain⟨B,I,_,e⟩:=G j x v y
  constructor <;> intro w f <;> subst f <;>
   simp[Instr.lookup,run_underlying T.und,Go.MapKept.run_getObj_map hb,KO.chk,KO.fnd x (aG c) u.toList w j B A (by simp[aG,y]) n I,e]
 .intro a;rw[<-qb b k,fp]at a
  constructor <;> intro w f <;> subst f <;>
   simp[Instr.lookup,run_underlying T.und,Go.MapKept.run_getObj_map hb,KO.chk,KO.non x (aG c) u.toList w A a,zeroValue,typeInfo,hi,C]
omit T KO [DecidableEq κ] in
theorem tk(w:World)(r:Nat)(o:Obj):bV w { w with heap:=w.heap.setIfInBounds r o }:=⟨rfl,rfl,rfl⟩
omit T KO [DecidableEq κ] in
theorem qd{H:aC}{o a:Obj}(h:aQ H (pt r o*F)):aQ (H.setIfInBounds r a) (pt r a*F):=by
 refine h.upd ?_ λi hi=>?_
 .rw [Array.getElem?_setIfInBounds,UX rfl,UX h.lt]
 .rw [Array.getElem?_setIfInBounds,UW (λe=>hi e.symm)]
def mapC(kenc:κ->Value)(venc:α->Value)(m:List (κ×α))(es:Array MapEntry)(clock:Nat):Prop:=
 (aG m).Nodup/\(∃ml:List (κ×α),ml.Perm m/\es.toList.map (λe:MapEntry=>(e.key,e.val))=ml.map λp=>(kenc p.1,venc p.2))/\
  (es.toList.map (·.born)).Nodup/\∀e∈es.toList,e.born<clock
omit T KO [DecidableEq κ] in
theorem DZ{c:Array MapEntry}{a:Nat}(b:mapC kenc venc m c a)(h:aQ H (pt r (.map c a)*F)):aQ H (mapA kenc venc r m*F):=
 h.frame λ_ d=>⟨b.1,c,a,b.2.1,b.2.2.1,b.2.2.2,d⟩
omit T KO in
theorem mapC_set{x:κ}{v:α}{h:List (κ×α)}{d:Array MapEntry}{b j:Nat}{u:α}{C:MapEntry}(A:(aG m).Nodup)(B:h.Perm m)(s:d.toList.map (λe:MapEntry=>(e.key,e.val))=h.map λp=>(kenc p.1,venc p.2))
  (f:(d.toList.map (·.born)).Nodup) (c:∀e∈d.toList,e.born<b) (y:h[j]?=some (x,u)) (D:d.toList[j]?=some C) :
  mapC kenc venc (mset x v m) (d.modify j λe=>{ e with key:=kenc x,val:=venc v }) b:=by
 have k:(aG h).Nodup:=(B.map Prod.fst).nodup_iff.2 A;refine⟨oF A,⟨h.set j (x,v),(DY k y).trans (Nd B),?_⟩,?_,?_⟩
 .apply Wu;intro i;have n:=congrArg (λl=>l[i]?) s
  simp only[List.getElem?_map]at n ⊢;simp only[Array.toList_modify,List.getElem?_modify,List.getElem?_set]
  by_cases hij:j=i
  .subst hij;have w:j<h.length:=(List.getElem?_eq_some_iff.1 y).1;simp[D,w]
  .simp only[UW hij,Option.map_map,Function.comp_def]at n ⊢;simpa using n
 .have:((d.modify j λe=>{ e with key:=kenc x,val:=venc v }).toList.map (·.born))=d.toList.map (·.born):=by
   apply Wu;intro i;simp only[List.getElem?_map,Array.toList_modify,List.getElem?_modify]
   cases d.toList[i]? with
   | none=>simp
   | some a=>simp;split <;> rfl
  rw[this];exact f
 .intro e2 t;obtain⟨i,hi⟩:=List.getElem?_of_mem t;simp only[Array.toList_modify,List.getElem?_modify]at hi
  cases h3:d.toList[i]? with
  | none=>simp[h3]at hi
  | some a=>
   have:=c a (VA h3);rw[h3]at hi;simp at hi;subst hi
   split <;> exact this
omit T KO in
theorem mapC_new{x:κ}{v:α}{n:List (κ×α)}{s:Array MapEntry}{c:Nat}(A:(aG m).Nodup)(y:n.Perm m)(u:s.toList.map (λe:MapEntry=>(e.key,e.val))=n.map λp=>(kenc p.1,venc p.2))
  (f:(s.toList.map (·.born)).Nodup) (d:∀e∈s.toList,e.born<c) (h:aL x n=none) :
  mapC kenc venc (mset x v m) (s.push { key:=kenc x,val:=venc v,born:=c }) (c+1):=by
 have t:(aG n).Nodup:=(y.map Prod.fst).nodup_iff.2 A;refine⟨oF A,⟨n++[(x,v)],?_,?_⟩,?_,?_⟩
 .unfold mset;rw[kG (by rw[<-qb t y];exact h)];exact (List.perm_append_singleton _ _).trans (y.cons _)
 .simp [u]
 .simp only[Array.toList_push,Vv,V5,W9];rw[List.nodup_append];refine⟨f,by simp,?_⟩;intro a B b i w;simp at i;subst i;subst w;obtain⟨e2,k,C⟩:=Vh.1 B;have:=d e2 k;omega
 .intro e2 j;simp at j
  rcases j with k|k
  .have:=d e2 (by simpa using k);omega
  .subst k;simp
theorem Nf{x:κ}{v:α}{K:Unit->aC->Prop}(h:aQ H (mapA kenc venc r m*F))(kk:∀J,aQ J (mapA kenc venc r (mset x v m)*F)->K () J) :
  cA P (Instr.mapUpdate t (.map (some r)) (kenc x) (venc v)) H K:=by
 obtain⟨G,f,a,⟨i,I,d⟩,c,b,k⟩:=me h;have hb:=k.get;obtain⟨E,N⟩:=tj d;refine .mk λw M=>?_
 subst M
 cases hlook:aL x i with
 | some u=>
  obtain⟨j,n,A⟩:=getElem?_of_mlook hlook;obtain⟨D,B,C,L⟩:=N j x u n;refine⟨(),_,?_,tk w r (.map (f.modify j λe=>{ e with key:=kenc x,val:=venc v }) a),kk _ (DZ (mapC_set G I d c b n B) (qd k))⟩
  have s:f[j]?=some D:=by simpa using B
  simp[Instr.mapUpdate,run_underlying T.und,Go.MapKept.run_getObj_map hb,KO.chk,KO.fnd x (aG i) f.toList w j D E (by simp[aG,n]) A B,s,C,KO.stay,Go.MapKept.run_setObj_map _ hb]
 | none=>
  have y:x∉aG i:=fp.1 hlook;refine⟨(),_,?_,tk w r (.map (f.push { key:=kenc x,val:=venc v,born:=a }) (a+1)),kk _ (DZ (mapC_new G I d c b hlook) (qd k))⟩;simp[Instr.mapUpdate,run_underlying T.und,Go.MapKept.run_getObj_map hb,KO.chk,KO.non x (aG i) f.toList w E y,Go.MapKept.run_setObj_map _ hb]
theorem Ng{x:κ}{ty:Nat}{K:KE}(h:aQ H (mapA kenc venc r m*F))(kk:∀L,aQ L (mapA kenc venc r (bT x m)*F)->K (.tuple #[]) L) :
  cA P (Builtin.delete_ #[t,k] ty #[.map (some r),kenc x]) H K:=by
 obtain⟨E,e,b,⟨f,A,i⟩,d,c,B⟩:=me h;have hb:=B.get;obtain⟨I,Q⟩:=tj i;have s:(aG f).Nodup:=(A.map Prod.fst).nodup_iff.2 E;refine .mk λw O=>?_
 subst O
 cases hlook:aL x f with
 | some u=>
  obtain⟨j,C,G⟩:=getElem?_of_mlook hlook;obtain⟨M,J,R,N⟩:=Q j x u C;have v:j<e.size:=by have:=(List.getElem?_eq_some_iff.1 J).1;simpa using this
  have a:(e.eraseIdxIfInBounds j).toList=e.toList.eraseIdx j:=by
   simp[Array.eraseIdxIfInBounds,v,Array.toList_eraseIdx]
  refine⟨.tuple #[],_,?_,tk w r (.map (e.eraseIdxIfInBounds j) b),kk _ ((qd B).frame λp n=>?_)⟩
  .simp [Builtin.delete_,run_underlying T.und,Go.MapKept.run_getObj_map hb,KO.chk,KO.fnd x (aG f) e.toList w j M I (by simp[aG,C]) G J,Go.MapKept.run_setObj_map _ hb]
  .refine⟨rk E,_,_,⟨f.eraseIdx j,?_,?_⟩,?_,?_,n⟩
   .rw [DX s C];exact D8 A
   .rw [a];rw[vC,vC,i]
   .rw [a,vC];exact d.sublist (List.eraseIdx_sublist _ _)
   .intro e2 y;rw[a]at y;exact c e2 (List.mem_of_mem_eraseIdx y)
 | none=>
  have D:x∉aG f:=fp.1 hlook;refine⟨.tuple #[],_,?_,tk w r (.map e b),kk _ ((qd B).frame λp n=>?_)⟩
  .simp [Builtin.delete_,run_underlying T.und,Go.MapKept.run_getObj_map hb,KO.chk,KO.non x (aG f) e.toList w I D,Go.MapKept.run_setObj_map _ hb]
  .refine⟨rk E,e,b,⟨f,?_,i⟩,d,c,n⟩;rw[kG (by rw[<-qb s A];exact hlook)];exact A
omit KO [DecidableEq κ] in
theorem Nh{ty:Nat}{K:KE}(h:aQ H (mapA kenc venc r m*F))(kk:∀f,aQ f (mapA kenc venc r []*F)->K (.tuple #[]) f) :
  cA P (Builtin.clear_ #[t] ty #[.map (some r)]) H K:=by
 obtain⟨s,n,a,⟨k,u,i⟩,c,b,e⟩:=me h;have hb:=e.get;refine .mk λw j=>?_
 subst j;refine⟨.tuple #[],_,?_,tk w r (.map #[] a),kk _ ((qd e).frame λp d=>?_)⟩
 .simp [Builtin.clear_,run_underlying T.und,Go.MapKept.run_getObj_map hb,Go.MapKept.run_setObj_map _ hb]
 .exact⟨by simp,#[],a,⟨[],.refl _,rfl⟩,by simp,by simp,d⟩
omit KO [DecidableEq κ] in
theorem map_len{ty:Nat}(h:aQ H (mapA kenc venc r m*F)):dj P (Builtin.len_ #[t] ty #[.map (some r)]) H (.int .i64 m.length):=by
 obtain⟨n,k,e,⟨s,i,d⟩,c,b,j⟩:=me h;have hb:=j.get;intro w f;subst f;have a:k.size=m.length:=by
  have:=congrArg List.length d;simp at this;rw[this,i.length_eq]
 simp[Builtin.len_,run_underlying T.und,Go.MapKept.run_getObj_map hb,a,goInt]
end
end
section
variable {κ α:Type}{kenc:κ->Value}{venc:α->Value}{r:Nat}{m m':List (κ×α)}{H:aC}{L:List aE}{P:Program}
theorem aA.mp_new(h:aA H (pt r (.map #[] 0)::L))(kenc:κ->Value)(venc:α->Value):aA H (mapA kenc venc r []::L):=mapA_new h
variable [DecidableEq κ]{t k e:Nat}{z:α}(T:l9 P t k e venc z)(KO:nr P k kenc)
include T KO
theorem aA.mp_look{x:κ}(h:aA H L)(i:Nat)(b:aW i L=mapA kenc venc r m) :
  (∀v,aL x m=some v->dj P (Instr.lookup t (.map (some r)) (kenc x) true) H (.tuple #[venc v,.bool true])/\dj P (Instr.lookup t (.map (some r)) (kenc x) false) H (venc v))/\
  (aL x m=none->dj P (Instr.lookup t (.map (some r)) (kenc x) true) H (.tuple #[venc z,.bool false])/\dj P (Instr.lookup t (.map (some r)) (kenc x) false) H (venc z)):=by
 have a:=h.foc i;rw[b]at a;exact map_look T KO a
theorem aA.mp_update{x:κ}{v:α}{K:Unit->aC->Prop}(h:aA H L)(i:Nat)(c:aW i L=mapA kenc venc r m)(kk:∀a,aA a (put i (mapA kenc venc r (mset x v m)) L)->K () a) :
  cA P (Instr.mapUpdate t (.map (some r)) (kenc x) (venc v)) H K:=by
 have b:=h.foc i;rw[c]at b;exact Nf T KO b λa d=>kk a (aA.back d)
theorem aA.mp_delete{x:κ}{ty:Nat}{K:KE}(h:aA H L)(i:Nat)(c:aW i L=mapA kenc venc r m)(kk:∀a,aA a (put i (mapA kenc venc r (bT x m)) L)->K (.tuple #[]) a) :
  cA P (Builtin.delete_ #[t,k] ty #[.map (some r),kenc x]) H K:=by
 have b:=h.foc i;rw[c]at b;exact Ng T KO b λa d=>kk a (aA.back d)
omit KO [DecidableEq κ] in
theorem aA.mp_clear{ty:Nat}{K:KE}(h:aA H L)(i:Nat)(c:aW i L=mapA kenc venc r m)(kk:∀a,aA a (put i (mapA kenc venc r []) L)->K (.tuple #[]) a) :
  cA P (Builtin.clear_ #[t] ty #[.map (some r)]) H K:=by
 have b:=h.foc i;rw[c]at b;exact Nh T b λa d=>kk a (aA.back d)
omit KO [DecidableEq κ] in
theorem aA.mp_len{ty:Nat}(h:aA H L)(i:Nat)(b:aW i L=mapA kenc venc r m):dj P (Builtin.len_ #[t] ty #[.map (some r)]) H (.int .i64 m.length):=by
 have a:=h.foc i;rw[b]at a;exact map_len T a
end
open Go Go.Maps Go.RowKit
def sortI(l:List Int):List Int:=l.mergeSort λx y=>decide (x<=y)
theorem vF{l a:List Int}(h:l.Perm a):sortI l=sortI a:=mergeSort_of_perm_i h
theorem qe(l:List Int):(sortI l).Perm l:=List.mergeSort_perm l _
theorem Ea(l:List Int):(sortI l).Pairwise (·<=·):=by
 have:=List.pairwise_mergeSort (le:=λx y:Int=>decide (x<=y)) (λa b c e d=>by simp only[Vc]at *;omega) (λa b=>by simp only[Vr,Vc];omega) l
 exact this.imp (by simp)
theorem yA{l:List Int}(h:l.Pairwise (·<=·)):sortI l=l:=by
 refine List.Perm.eq_of_pairwise (le:=(·<=·)) (λa b _ _ d c=>by omega) (Ea l) h (qe l)
theorem vG(l:List Int):(sortI l).length=l.length:=(qe l).length_eq
def aF(x:Int):Prop:=-9223372036854775808<=x/\x<=9223372036854775807
theorem wf64_lit{x:Int}(h:aF x):(Lit.int .i64 x).wf=true:=by
 unfold aF at h;simp[Lit.wf,IntKind.min,IntKind.max,IntKind.signed,IntKind.bits];omega
theorem rp{w a:World}(h:Below w.heap.size w a):dC w.heap a.heap:=λb hb=>h.block b hb
theorem tn{n:Nat}{w a:World}(h:Below n w a):bV w a:=⟨h.os,h.tape,h.output⟩
abbrev oH(H:Type):Value->Option (DataW H×List MemPlace):=λ_=>some (.lit (.bool true),[])
theorem yB{α:Type}{venc:α->Value}{P:Program}{k:TypeId}{w:World}{r:Nat}{m:List (Int×α)}{F:aE}(K:P.underlying k=some (.int .i64))
  (h:aQ w.heap (mapA (Value.int .i64) venc r m*F)) (L:∀x∈aG m,aF x) (O:m.length<=maxLen) :
  ∃I:DataW Unit,w.ownsMap P k (oH Unit) r m.length I/\(intKeys I).Perm (aG m)/\Maps.size I=m.length:=by
 obtain⟨N,c,j,⟨J,A,f⟩,i,d,H⟩:=me h;have y:c.size=m.length:=by
  have:=congrArg List.length f;simp at this;rw[this,A.length_eq]
 have s:∀x∈c.toList,∃a:Int,x.key=Value.int .i64 a/\Go.WideElems.rd P k (oH Unit) x=some (.int .i64 a,.lit (.bool true)):=by
  intro x t;have:(x.key,x.val)∈c.toList.map (λe:MapEntry=>(e.key,e.val)):=Vh.2 ⟨x,t,rfl⟩
  rw[f]at this;obtain⟨p,C,n⟩:=Vh.1 this;have G:p.1∈aG m:=Vh.2 ⟨p,A.mem_iff.1 C,rfl⟩;have M:=wf64_lit (L _ G);simp only[Prod.mk.injEq]at n;refine⟨p.1,n.1.symm,?_⟩;unfold Go.WideElems.rd;rw[<-n.1];simp[keyOf,K,mapKey,M,oH]
 have b:=Go.WideShapes.sorted_perm (c.toList.map (Go.WideElems.rg P k (oH Unit)));have B:c.toList.map (λx=>Go.intOf (Go.WideElems.rg P k (oH Unit) x).1)=aG J:=by
  have u:=(tj f).1;have R:c.toList.map (λx=>Go.intOf (Go.WideElems.rg P k (oH Unit) x).1)=(c.toList.map (·.key)).map λv=>match v with|.int _ a=>a|_=>0:=by
   rw[VM];apply Wp;intro x t;obtain⟨a,Q,H⟩:=s x t;simp[Go.WideElems.rg,H,Q,Go.intOf]
  rw[R,u,VM];simp[Function.comp_def]
 refine⟨_,⟨c,j,H.get,⟨by omega,⟨d,i,?_⟩,λx t=>?_⟩,by omega,rfl⟩,?_,?_⟩
 .have u:=(tj f).1;rw[u];have E:(aG J).Nodup:=(A.map Prod.fst).nodup_iff.2 N;exact WR.2 (E.imp λD e=>D (by cases e;rfl))
 .obtain⟨a,_,u⟩:=s x t;exact⟨_,u⟩
 .show ((c.toList.map (Go.WideElems.rg P k (oH Unit))).foldr DataW.insert [] |>.map λp=>Go.intOf p.1).Perm _
  refine (b.map _).trans ?_;rw[VM];simp only[Function.comp_def];rw[B];exact A.map Prod.fst
 .show ((c.toList.map (Go.WideElems.rg P k (oH Unit))).foldr DataW.insert []).length=_;rw[b.length_eq];simpa using y
theorem aA.of_row{w b:World}{L:List aE}(h:aA w.heap L)(hb:Below w.heap.size w b){e:TypeId}{v:Value}{n:Nat}{xs:Os}(y:b.ownsRow w.heap.size e 1 v n xs) :
  ∃a c,v=.slice a n c/\aA b.heap (slA e 1 a n c xs::L):=by
 obtain⟨d,j⟩:=y;have g:=rp hb
 rcases j with ⟨rfl,rfl⟩|⟨g1,cap,cur,rfl,t,k,u,hm,hs,m⟩
 .have:xs=[]:=Wn (by simpa using d);subst this;exact⟨none,0,rfl,(h.grow g).sl_nil e 1⟩
 .refine⟨_,_,rfl,?_⟩;have x:aA b.heap (cellsA g1 cur.toList e::L):=h.new g t (by simpa using k);refine x.mono λp s=>⟨d,.inr ⟨g1,[],cur.toList.drop n,e,(0,0),rfl,u,?_,λ_ i _ _ f=>by simp at f,?_⟩⟩
  .simp only[Vt,Wb,VT];omega
  .have:([]++xs++cur.toList.drop n)=cur.toList:=by
    rw[<-m];simp
   rw[this];exact s
def vH:Value->Value->Option Bool
 | .int k a,.int k' b=>if k=k' then some (a == b) else none
 | .bool a,.bool b=>some (a == b)
 | .string a,.string b=>some (a == b)
 | _,_=>none
def ju:Option TypeDesc->Value->Bool
 | some (.int _),.int _ _=>true
 | some .bool,.bool _=>true
 | some .string,.string _=>true
 | _,_=>false
def tp(P:Program)(xs ys:Os):List Field->Option Bool
 | []=>some true
 | f::fs=>if f.name= "_" then none else match aT xs f.offset,aT ys f.offset with
  | some a,some b=>if ju (P.underlying f.type) a&&ju (P.underlying f.type) b then
    match vH a b,tp P xs ys fs with
    | some r,some s=>some (r&&s)
    | _,_=>none
   else none
  | _,_=>none
def rq(P:Program)(t:TypeId)(xs ys:Os):Option Bool:=
 match P.underlying t with
 | some (.struct fs)=>if P.stoodInHeld t=false/\P.eqGuardType P.depth t=false then tp P xs ys fs.toList else none
 | _=>none
theorem Eb{P:Program}{w:World}{t:TypeId}{a b:Value}{r:Bool}(c:ju (P.underlying t) a=true)(hb:ju (P.underlying t) b=true)(h:vH a b=some r)(d:Nat) :
  (Op.equalIn (d+1) t a b).run P w=.ok r w:=by
 cases hu:P.underlying t with
 | none=>rw[hu]at c;simp[ju]at c
 | some k=>
  rw[hu]at c hb
  cases k <;> cases a <;> simp[ju]at c <;> cases b <;> simp[ju]at hb <;> simp[vH]at h
  .subst h;simp[Op.equalIn,run_underlying hu]
  .obtain⟨rfl,rfl⟩:=h;simp[Op.equalIn,run_underlying hu]
  .subst h;simp[Op.equalIn,run_underlying hu]
theorem tq{P:Program}{w:World}{t:TypeId}{xs:Os}{o:Nat}{a:Value}(b:ju (P.underlying t) a=true)(d:aT xs o=some a):(part t ⟨xs⟩ o).run P w=.ok a w:=by
 rw[fL]at d
 cases hu:P.underlying t with
 | none=>rw[hu]at b;simp[ju]at b
 | some k=>
  rw[hu]at b;have c:(⟨xs⟩:Array Value)[o]?=some a:=by simpa using d
  cases k <;> cases a <;> simp[ju]at b <;> simp[part,isAgg,run_underlying hu,c]
theorem yC{P:Program}{w:World}{xs ys:Os}(d:Nat):∀{fs:List Field} {r:Bool},tp P xs ys fs=some r->(Op.eqFields (d+1) ⟨xs⟩ ⟨ys⟩ fs).run P w=.ok r w
 | [],r,h=>by simp[tp]at h;subst h;simp[Op.eqFields]
 | f::fs,r,h=>by
  simp only[tp]at h
  split at h
  .cases h
  .rename_i j
   split at h
   .rename_i a b e k
    split at h
    .rename_i c;simp only[Vd]at c
     split at h
     .rename_i r1 s i hs
      cases h
      simp only[Op.eqFields,ne_eq,j,not_false_eq_true,if_true,Sem.run_bind,tq c.1 e,tq c.2 k,Result.andThen_ok,Eb c.1 c.2 i]
      cases r1
      .simp
      .simp [yC d hs]
     .cases h
    .cases h
   .cases h
theorem tr{P:Program}{t:TypeId}{xs ys:Os}{r:Bool}(h:rq P t xs ys=some r):iH P .eql t (.agg ⟨xs⟩) (.agg ⟨ys⟩) r/\iH P .neq t (.agg ⟨xs⟩) (.agg ⟨ys⟩) (!r):=by
 unfold rq at h
 split at h
 .rename_i j e
  split at h
  .rename_i b;have i:P.fieldsOf t=j:=by simp[Program.fieldsOf,e]
   have d:P.underlying t=some (.struct (P.fieldsOf t)):=by rw[i];exact e
   have f:∀w,(Op.equalIn 10000 t (.agg ⟨xs⟩) (.agg ⟨ys⟩)).run P w=.ok r w:=by
    intro w;show (Op.equalIn (9998+1+1) t (.agg ⟨xs⟩) (.agg ⟨ys⟩)).run P w=.ok r w;generalize 9998=n;rw[run_equalIn_struct w (n+1) t ⟨xs⟩ ⟨ys⟩ d b.1,i];exact yC n h
   constructor
   .intro c a w;simp only[Sem.run_bind,run_eqGuard_agg w .eql t c a ⟨xs⟩ ⟨ys⟩ b.2,Result.andThen_ok,run_eql_struct,f]
   .intro c a w;simp only[Sem.run_bind,run_eqGuard_agg w .neq t c a ⟨xs⟩ ⟨ys⟩ b.2,Result.andThen_ok,run_neq_struct,f]
  .cases h
 .cases h
theorem aJ{x:Int}(a:-9223372036854775808<=x:=by omega)(h2:x<=9223372036854775807:=by omega):i64.wrap x=x:=IntWalk.i64_in x (by omega)
def vI(P:Program)(e:TypeId):Option Value:=match P.info? e with|some i=>i.zero|none=>none
theorem qf{α:Type}{P:Program}{t k e:Nat}{venc:α->Value}{z:α}(b:P.underlying t=some (.map k e))(a:vI P e=some (venc z)):l9 P t k e venc z:=by
 refine⟨b,?_⟩;unfold vI at a
 split at a
 .rename_i i hi;exact⟨i,hi,a⟩
 .cases a
theorem Ec{α:Type}{enc:α->Value}:∀(xs:List α) (j:Nat),aT (xs.map enc) j=(aT xs j).map enc
 | [],_=>rfl
 | _::_,0=>rfl
 | _::r,j+1=>Ec r j
theorem aP.at{α:Type}{H:aC}{a:KQ}{enc:α->Value}{xs:List α}(h:aP H a (xs.map enc)){j:Nat}(b:j<xs.length) :
  a=Option.some ⟨aV a,aS a,none⟩/\aK H (aV a) (aS a+j)=Option.some (enc xs[j]):=h j _ (by rw[Ec,vy b];rfl)
theorem Ed(k:IntKind):∀(l:List Int),cR (l.map (Value.int k))=true
 | []=>rfl
 | a::r=>Ed k r
section
variable {H:aC}{L:List aE}
theorem aA.al{Q:Nat->aC->Prop}{cs:Os}{e:TypeId}(h:aA H L)(k:∀b a,aA a (cellsA b cs e::L)->Q b a):∀(b:Nat) (a:aC),b=H.size->a=H.push (.cells cs.toArray e)->Q b a:=by
 rintro b a rfl rfl;exact k _ _ (h.push _)
theorem aA.alm{κ α:Type}{Q:Nat->aC->Prop}(h:aA H L)(kenc:κ->Value)(venc:α->Value)(k:∀b a,aA a (mapA kenc venc b []::L)->Q b a):∀(b:Nat) (a:aC),b=H.size->a=H.push (.map #[] 0)->Q b a:=by
 rintro b a rfl rfl;exact k _ _ ((h.push _).mp_new kenc venc)
theorem aA.st{Q:aC->Prop}{b o e:Nat}{vs cs:Os}(h:aA H L)(i:Nat)(c:aW i L=cellsA b cs e)(d:Nat.ble (o+vs.length) cs.length=true)(k:∀a,aA a (put i (cellsA b (cv cs o vs) e) L)->Q a) :
  eQ H b o vs/\∀a,a=fJ H b o vs->Q a:=by
 refine⟨h.can i c o vs (WH d),?_⟩;rintro a rfl;exact k _ (h.set i c o vs)
theorem Ni{α:Type}:∀(l:List α) (o n f:Nat),f<n->aT ((l.drop o).take n) f=aT l (o+f):=by
 intro l o n f a;rw[fL,fL,List.getElem?_take_of_lt a,List.getElem?_drop]
theorem aA.rds{b o e:Nat}{vs cs:Os}(h:aA H L)(i:Nat)(c:aW i L=cellsA b cs e)(d:(cs.drop o).take vs.length=vs):bD H b o vs:=
 tf λf v a=>by
  rw[h.rd i c,<-Ni cs o vs.length f (nT a),d];exact a
theorem Ra1{b o:Nat}{v:Value}(a:aK H b o=some v:=by first|exact h.rd 0 rfl _):aK H b o=some v:=a
theorem Rs1{b o:Nat}{vs:Os}(a:bD H b o vs:=by first|exact h.rds 0 rfl rfl):bD H b o vs:=a
theorem St1{Q:aC->Prop}{b o e i:Nat}{vs cs:Os}(h:aA H L)(k:∀a,aA a (put i (cellsA b (cv cs o vs) e) L)->Q a)(c:aW i L=cellsA b cs e:=by first|exact (rfl:aW 0 _=_))(hl:Nat.ble (o+vs.length) cs.length=true:=by rfl):eQ H b o vs/\∀a,a=fJ H b o vs->Q a:=h.st i c hl k
theorem Ra2{b o:Nat}{v:Value}(a:aK H b o=some v:=by first|exact h.rd 0 rfl _|exact h.rd 1 rfl _):aK H b o=some v:=a
theorem Rs2{b o:Nat}{vs:Os}(a:bD H b o vs:=by first|exact h.rds 0 rfl rfl|exact h.rds 1 rfl rfl):bD H b o vs:=a
theorem St2{Q:aC->Prop}{b o e i:Nat}{vs cs:Os}(h:aA H L)(k:∀a,aA a (put i (cellsA b (cv cs o vs) e) L)->Q a)(c:aW i L=cellsA b cs e:=by first|exact (rfl:aW 0 _=_)|exact (rfl:aW 1 _=_))(hl:Nat.ble (o+vs.length) cs.length=true:=by rfl):eQ H b o vs/\∀a,a=fJ H b o vs->Q a:=h.st i c hl k
theorem Ra3{b o:Nat}{v:Value}(a:aK H b o=some v:=by first|exact h.rd 0 rfl _|exact h.rd 1 rfl _|exact h.rd 2 rfl _):aK H b o=some v:=a
theorem Rs3{b o:Nat}{vs:Os}(a:bD H b o vs:=by first|exact h.rds 0 rfl rfl|exact h.rds 1 rfl rfl|exact h.rds 2 rfl rfl):bD H b o vs:=a
theorem St3{Q:aC->Prop}{b o e i:Nat}{vs cs:Os}(h:aA H L)(k:∀a,aA a (put i (cellsA b (cv cs o vs) e) L)->Q a)(c:aW i L=cellsA b cs e:=by first|exact (rfl:aW 0 _=_)|exact (rfl:aW 1 _=_)|exact (rfl:aW 2 _=_))(hl:Nat.ble (o+vs.length) cs.length=true:=by rfl):eQ H b o vs/\∀a,a=fJ H b o vs->Q a:=h.st i c hl k
theorem Ra4{b o:Nat}{v:Value}(a:aK H b o=some v:=by first|exact h.rd 0 rfl _|exact h.rd 1 rfl _|exact h.rd 2 rfl _|exact h.rd 3 rfl _):aK H b o=some v:=a
theorem St4{Q:aC->Prop}{b o e i:Nat}{vs cs:Os}(h:aA H L)(k:∀a,aA a (put i (cellsA b (cv cs o vs) e) L)->Q a)(c:aW i L=cellsA b cs e:=by first|exact (rfl:aW 0 _=_)|exact (rfl:aW 1 _=_)|exact (rfl:aW 2 _=_)|exact (rfl:aW 3 _=_))(hl:Nat.ble (o+vs.length) cs.length=true:=by rfl):eQ H b o vs/\∀a,a=fJ H b o vs->Q a:=h.st i c hl k
theorem aA.q{b o e:Nat}{vs cs:Os}(h:aA H L)(i:Nat)(a:aW i L=cellsA b cs e:=by rfl)(hv:(cs.drop o).take vs.length=vs:=by rfl):bD H b o vs:=h.rds i a hv
theorem aA.getO{b:Nat}{o:Obj}(h:aA H L)(i:Nat)(a:aW i L=pt b o):H[b]?=some o:=by
 have:=h.foc i;rw[a]at this;exact this.get
theorem aA.setO{b:Nat}{o:Obj}(h:aA H L)(i:Nat)(c:aW i L=pt b o)(a:Obj):aA (H.setIfInBounds b a) (put i (pt b a) L):=by
 have:=h.foc i;rw[c]at this;exact aA.back (qd this)
theorem aA.stl{Q:aC->Prop}{b:Nat}{R c:Loop}(h:aA H L)(i:Nat)(d:aW i L=pt b (.loop R))(k:∀a,aA a (put i (pt b (.loop c)) L)->Q a):∀a,a=gF H b c->Q a:=by
 rintro a rfl;exact k _ (h.setO i d _)
theorem aA.rng(h:aA H L)(R:Loop):aA ((H.push (.deferred (some []))).push (.loop R)) (pt (H.size+1) (.loop R)::pt H.size (.deferred (some []))::L):=by
 have:=(h.push (.deferred (some []))).push (.loop R)
 rwa[Array.size_push]at this
theorem Ee{A:List aE}:aA H (star A::L)↔aA H (A++L):=by
 unfold aA;rw[sY];exact Iff.rfl
theorem aA.open{A:List aE}(h:aA H (star A::L)):aA H (A++L):=Ee.1 h
theorem aA.shut(A:List aE)(h:aA H (A++L)):aA H (star A::L):=Ee.2 h
theorem cJ{α:Type}{A:α->aE}:aA H (exS A::L)↔∃x,aA H (A x::L):=sat_exs
theorem cY{b o:Nat}{p:Prop}(h:p):NN (some ⟨b,o,none⟩) p:=h
end
section
variable {κ α:Type}{kenc:κ->Value}{venc:α->Value}{r:Nat}{m:List (κ×α)}{H:aC}{L:List aE}{P:Program}
variable [DecidableEq κ]{t k e:Nat}{z:α}(T:l9 P t k e venc z)(KO:nr P k kenc)
include T KO
theorem aA.mp_get{x:κ}(h:aA H L)(i:Nat)(a:aW i L=mapA kenc venc r m) :
  dj P (Instr.lookup t (.map (some r)) (kenc x) true) H (.tuple #[venc ((aL x m).getD z),.bool (aL x m).isSome]):=by
 have:=h.mp_look T KO i a (x:=x)
 cases hm:aL x m with
 | none=>exact (this.2 hm).1
 | some v=>exact (this.1 v hm).1
theorem aA.mp_get1{x:κ}(h:aA H L)(i:Nat)(a:aW i L=mapA kenc venc r m) :
  dj P (Instr.lookup t (.map (some r)) (kenc x) false) H (venc ((aL x m).getD z)):=by
 have:=h.mp_look T KO i a (x:=x)
 cases hm:aL x m with
 | none=>exact (this.2 hm).2
 | some v=>exact (this.1 v hm).2
end
theorem nt{R:Loop}(b:R.state=.ready)(a:R.pending=none):{ R with state:=.ready,pending:=none }=R:=by
 cases R;simp only at b a;subst b;subst a;rfl
theorem aA.old_rd{H H0:aC}{L:List aE}(h:aA H L)(i:Nat)(d:aW i L=old H0){a:KQ}{cs:Os}(c:aP H0 a cs):aP H a cs:=λj v b=>⟨(c j v b).1,h.cell0 i d (c j v b).2⟩
theorem aA.old_grow{H H0:aC}{L:List aE}(h:aA H L)(i:Nat)(a:aW i L=old H0):dC H0 H:=λb hb=>h.was i a hb
theorem aA.ce_rd{H:aC}{L:List aE}(h:aA H L)(i:Nat){b e:Nat}{cs:Os}(a:aW i L=cellsA b cs e):aP H (some ⟨b,0,none⟩) cs:=λj v c=>⟨rfl,by
 simp only[aV,aS,Vw];rw[h.rd i a];exact c⟩
theorem sat0(H:aC):aA H [old H]:=by unfold aA star;exact (Na H).eq (by rw[star,vw])
abbrev U8:=Value.int .u8
def KIn(Q:aE)(a:KQ)(cs:Os):Prop:=∀H F,aA H (Q::F)->aP H a cs
def aM(Q Q':aE):Prop:=∀H F,aA H (Q'::F)->∃F',aA H (Q::F')
def KG(H0:aC)(Q:aE):Prop:=∀H F,aA H (Q::F)->dC H0 H
theorem aM.refl(Q:aE):aM Q Q:=λH F h=>⟨F,h⟩
theorem aM.trans{Q Q' a:aE}(h:aM Q Q')(b:aM Q' a):aM Q a:=λH F hs=>by
 obtain⟨c,d⟩:=b H F hs;exact h H c d
theorem gp{H:aC}{A B:aE}{L:List aE}:aA H ((A*B)::L)↔aA H (A::B::L):=by
 unfold aA;simp only[star];rw[jt]
theorem aM.add(A Q:aE):aM Q (A*Q):=λH F h=>⟨A::F,(gp.1 h).ord [1,0] (by decide) |> λ_=>by
 have:=(gp.1 h).o [1,0] 2;exact this⟩
theorem KIn.sub{Q Q':aE}{a:KQ}{cs:Os}(h:KIn Q a cs)(hs:aM Q Q'):KIn Q' a cs:=λH F b=>by
 obtain⟨c,d⟩:=hs H F b;exact h H c d
theorem KG.sub{Q Q':aE}{H0:aC}(h:KG H0 Q)(hs:aM Q Q'):KG H0 Q':=λH F a=>by
 obtain⟨b,c⟩:=hs H F a;exact h H b c
theorem KG.old(H0:aC):KG H0 (old H0):=λH F h=>h.old_grow 0 rfl
theorem KIn.old{H0:aC}{a:KQ}{cs:Os}(h:aP H0 a cs):KIn (old H0) a cs:=λH F hs=>hs.old_rd 0 rfl h
theorem KIn.sl{Q:aE}{e sz n c:Nat}{a:KQ}{cs:Os}:KIn (slA e sz a n c cs*Q) a cs:=λH F h=>(gp.1 h).sl_rd 0 rfl
theorem KIn.nil(Q:aE)(a:KQ):KIn Q a []:=λH F h=>ip H a
theorem KIn.at{Q:aE}{a:KQ}{cs:Os}{H:aC}{L:List aE}(h:KIn Q a cs)(hs:aA H L)(i:Nat)(c:aW i L=Q):aP H a cs:=by
 have b:=hs.foc i;rw[c]at b;exact h H (del i L) b
theorem nV{H:aC}{cs:Os}(h:aP H none cs):cs=[]:=by
 cases cs with
 | nil=>rfl
 | cons v r=>have:=(h 0 v rfl).1;cases this
theorem nu{α:Type}{enc:α->Value}(b:∀x,cR [enc x]=true):∀l:List α,cR (l.map enc)=true
 | []=>rfl
 | a::r=>by
  have c:=b a;have d:=nu b r;have:cR (enc a::r.map enc)=cR ([enc a]++r.map enc):=rfl;rw[V5,this];exact vB c d
def kH{κ α:Type}(kenc:κ->Value)(venc:α->Value)(r mb:Nat)(m dn:List (κ×α)):aE:=λh=>
 ∃(es:Array MapEntry) (clock:Nat) (ml:List (κ×α)) (seen:Array Nat) (is:List Nat),
  ((aG m).Nodup/\ml.Perm m/\es.toList.map (λe:MapEntry=>(e.key,e.val))=ml.map (λp=>(kenc p.1,venc p.2))/\(es.toList.map (·.born)).Nodup/\(∀e∈es.toList,e.born<clock)/\
   is.Nodup/\dn.map some=is.map (λi=>ml[i]?)/\seen.toList.map some=is.map (λi=>(es.toList[i]?).map (·.born)))/\
  (pt r (.mapIter (some mb) clock seen clock)*pt mb (.map es clock)) h
section
variable {κ α:Type}{kenc:κ->Value}{venc:α->Value}{r mb:Nat}{m dn:List (κ×α)}{H:aC}{L:List aE}{P:Program}
theorem vJ{F:aE}(h:aQ H (kH kenc venc r mb m dn*F)):∃(c:Array MapEntry) (a:Nat) (d:List (κ×α)) (b:Array Nat) (is:List Nat),
  ((aG m).Nodup/\d.Perm m/\c.toList.map (λe:MapEntry=>(e.key,e.val))=d.map (λp=>(kenc p.1,venc p.2))/\(c.toList.map (·.born)).Nodup/\(∀e∈c.toList,e.born<a)/\
   is.Nodup/\dn.map some=is.map (λi=>d[i]?)/\b.toList.map some=is.map (λi=>(c.toList[i]?).map (·.born)))/\
  aQ H ((pt r (.mapIter (some mb) a b a)*pt mb (.map c a))*F):=by
 obtain⟨g,k,x,y,hd,rfl,⟨c,a,d,b,is,f,j⟩,n⟩:=h;exact⟨c,a,d,b,is,f,_,k,x,y,hd,rfl,j,n⟩
theorem aA.rg_map(h:aA H L)(i:Nat)(j:aW i L=kH kenc venc r mb m dn):aA H (put i (mapA kenc venc mb m) L):=by
 have b:=h.foc i;rw[j]at b;obtain⟨f,a,e,c,is,⟨f1,f2,f3,f4,f5,_⟩,d⟩:=vJ b;refine aA.back ?_;rw[jt]at d;exact d.drop'.frame λp k=>⟨f1,f,a,⟨e,f2,f3⟩,f4,f5,k⟩
theorem Nj{w:World}(o:Obj):(newObj o).run P w=.ok w.heap.size (w.alloc o):=rfl
theorem aA.rg_new{t k e:Nat}{z:α}(T:l9 P t k e venc z){K:KE}(h:aA H L)(i:Nat)(n:aW i L=mapA kenc venc mb m)
  (kk:∀r d,aA d (put i (kH kenc venc r mb m []) L)->K (.pointer (some ⟨r,0,none⟩)) d):cA P (Instr.range t (.map (some mb))) H K:=by
 refine .mk λw s=>?_
 subst s;have b:=h.foc i;rw[n]at b;obtain⟨u,j,a,⟨x,f2,f3⟩,f4,f5,f⟩:=me b;refine⟨.pointer (some ⟨w.heap.size,0,none⟩),w.alloc (.mapIter (some mb) a #[] a),?_,⟨rfl,rfl,rfl⟩,kk _ _ ?_⟩
 .simp [Instr.range,run_underlying T.und,Go.MapKept.run_getObj_map f.get,Nj]
 .refine aA.back ?_;have c:=f.push (.mapIter (some mb) a #[] a);rw[<-jt]at c;exact c.frame λp v=>⟨j,a,x,#[],[],⟨u,f2,f3,f4,f5,List.nodup_nil,rfl,rfl⟩,v⟩
theorem aA.rg_next{ty:Nat}{K:KE}(h:aA H L)(i:Nat)(hA:aW i L=kH kenc venc r mb m dn)
  (k0:dn.Perm m->K (.tuple #[.bool false]) H)
  (k1:∀p,p∈m->p.1∉aG dn->∀H',aA H' (put i (kH kenc venc r mb m (dn++[p])) L)->K (.tuple #[.bool true,kenc p.1,venc p.2]) H') :
  cA P (Instr.next (.pointer (some ⟨r,0,none⟩)) false ty) H K:=by
 refine .mk λw hw=>?_
 subst hw;have F:=h.foc i;rw[hA]at F;obtain⟨k,c,f,d,is,⟨f1,f2,f3,f4,f5,f6,f7,f8⟩,T⟩:=vJ F;rw[jt]at T;have h7:k.toList.length=f.length:=by have:=congrArg List.length f3;simpa using this
 have U:∀(i j:Nat) (a b:MapEntry),k.toList[i]?=some a->k.toList[j]?=some b->a.born=b.born->i=j:=by
  intro i j a b G hb E;have C:(k.toList.map (·.born))[i]?=some a.born:=by simp[List.getElem?_map,G]
  have F:(k.toList.map (·.born))[j]?=some a.born:=by simp[List.getElem?_map,hb,E]
  have hi:i<(k.toList.map (·.born)).length:=by
   rcases V0 i (k.toList.map (·.born)).length with h|h
   .exact h
   .rw [List.getElem?_eq_none h]at C;cases C
  exact (List.getElem?_inj hi f4).1 (C.trans F.symm)
 have t:∀b,b∈d.toList↔∃i∈is,∃a,k.toList[i]?=some a/\a.born=b:=by
  intro b;have:b∈d.toList↔some b∈d.toList.map some:=by simp
  rw[this,f8,Vh]
  constructor
  .rintro⟨i,hi,h⟩
   cases v:k.toList[i]? with
   | none=>rw[v]at h;cases h
   | some a=>rw[v]at h;simp at h;exact⟨i,hi,a,v,h⟩
  .rintro⟨i,hi,a,v,h⟩;exact⟨i,hi,by rw[v];simp[h]⟩
 rcases run_next_at (P:=P) w ty r mb c c d k c T.get T.drop'.get f5 (Vg _) with ⟨h0,u⟩|⟨e,v,w1,I,u⟩
 .refine⟨_,_,u,bV.refl _,k0 ?_⟩;have J:∀e∈k.toList,e.born∈d.toList:=by
   intro e v;have hz:leftOf k d=#[]:=Array.eq_empty_of_size_eq_zero h0;unfold leftOf at hz;rw[Array.filter_eq_empty_iff]at hz;have:=hz e (by simpa using v);simpa using this
  have Y:is.Perm (List.range f.length):=by
   refine (List.perm_ext_iff_of_nodup f6 List.nodup_range).2 λi=>?_
   rw[Wg]
   constructor
   .intro hi
    rcases V0 i f.length with h|h
    .exact h
    .exfalso;have C:(none:Option (κ×α))∈dn.map some:=by rw[f7];exact Vh.2 ⟨i,hi,by rw[List.getElem?_eq_none h]⟩
     simp at C
   .intro hi;have R:i<k.toList.length:=by omega
    obtain⟨j,A,a,G,E⟩:=(t _).1 (J k.toList[i] (Vk R));have:=U j i a k.toList[i] G (List.getElem?_eq_getElem R) E;rw[<-this];exact A
  have S:(dn.map some).Perm (f.map some):=by
   rw[f7];refine (Y.map _).trans ?_;have:(List.range f.length).map (λi=>f[i]?)=f.map some:=by
    apply Wu;intro j;simp only[List.getElem?_map]
    by_cases A:j<f.length
    .rw [List.getElem?_range A,List.getElem?_eq_getElem A];simp
    .rw [List.getElem?_eq_none (by simpa using A),List.getElem?_eq_none (by omega)];rfl
   rw[this]
  have V:=S.filterMap id;simp only[List.filterMap_map,Function.comp_def,id]at V;rw[List.filterMap_some,List.filterMap_some]at V;exact V.trans f2
 .unfold leftOf at v;have O:e∈k.toList/\e.born∉d.toList:=by simpa using v
  obtain⟨s,B,y⟩:=List.mem_iff_getElem.1 O.1;have x:s<f.length:=by omega
  have Q:(e.key,e.val)=(kenc f[s].1,venc f[s].2):=by
   have:=congrArg (λl=>l[s]?) f3
   simp only[List.getElem?_map,List.getElem?_eq_getElem B,List.getElem?_eq_getElem x,V9,y]at this;exact Option.some.inj this
  have N:s∉is:=λhi=>O.2 ((t _).2 ⟨s,hi,e,by rw[List.getElem?_eq_getElem B,y],rfl⟩)
  have W:(aG f).Nodup:=(f2.map Prod.fst).nodup_iff.2 f1;refine⟨_,_,u,?_,?_⟩
  .rcases I with rfl|rfl <;> exact⟨rfl,rfl,rfl⟩
  .have e1:e.key=kenc f[s].1:=congrArg Prod.fst Q;have e2:e.val=venc f[s].2:=congrArg Prod.snd Q;rw[e1,e2];refine k1 f[s] (f2.mem_iff.1 (Vk x)) (λM=>?_) _ (aA.back ?_)
   .obtain⟨q,hq,Z⟩:=Vh.1 M;have:some q∈dn.map some:=Vh.2 ⟨q,hq,rfl⟩;rw[f7]at this;obtain⟨j,A,n⟩:=Vh.1 this;have D:j<f.length:=by
     rcases V0 j f.length with h|h
     .exact h
     .rw [List.getElem?_eq_none h]at n;cases n
    rw[List.getElem?_eq_getElem D]at n;have n:=Option.some.inj n;have:j=s:=by
     have C:(aG f)[j]?=some q.1:=by simp[aG,List.getElem?_eq_getElem D,n]
     have F:(aG f)[s]?=some q.1:=by simp[aG,List.getElem?_eq_getElem x,Z]
     exact (List.getElem?_inj (by simpa[aG] using D) W).1 (C.trans F.symm)
    exact N (this▸A)
   .have h4:aQ (w.heap.setIfInBounds r (.mapIter (some mb) c (d.push e.born) c)) (pt r (.mapIter (some mb) c (d.push e.born) c)*(pt mb (.map k c)*star (del i L))):=qd T;have S:aQ (Go.ChangeMaps.setBlock w1 r (.mapIter (some mb) c (d.push e.born) c)).heap (pt r (.mapIter (some mb) c (d.push e.born) c)*(pt mb (.map k c)*star (del i L))):=by
     rcases I with rfl|rfl <;> exact h4
    rw[<-jt]at S;refine S.frame λp Y=>⟨k,c,f,d.push e.born,is++[s],⟨f1,f2,f3,f4,f5,?_,?_,?_⟩,Y⟩
    .exact List.nodup_append.2 ⟨f6,by simp,λa G b hb=>by simp at hb;subst hb;exact λe=>N (e▸G)⟩
    .rw [Vv,f7,Vv];simp[List.getElem?_eq_getElem x]
    .rw [Array.toList_push,Vv,f8,Vv];simp only[V5,W9,List.getElem?_eq_getElem B,y,V9]
theorem aA.rg_entry{p:κ×α}(h:aA H L)(i:Nat)(C:aW i L=kH kenc venc r mb m (dn++[p])):dj P (Instr.entry (.pointer (some ⟨r,0,none⟩))) H (.tuple #[kenc p.1,venc p.2]):=by
 intro w B;subst B;have x:=h.foc i;rw[C]at x;obtain⟨d,a,v,e,is,⟨f1,f2,f3,f4,f5,f6,f7,f8⟩,s⟩:=vJ x;rw[jt]at s;have k:=congrArg List.length f7;have j:=congrArg List.length f8;simp only[Vl,UZ,VN]at k j
 rcases List.eq_nil_or_concat is with t|⟨D,c,rfl⟩
 .subst t;simp at k
 rw[List.concat_eq_append]at *;rw[Vv,Vv]at f7;have e7:=(List.append_inj' f7 (by simp)).2;simp only[V5,W9,List.cons.injEq,and_true]at e7;have A:c<v.length:=by
  rcases V0 c v.length with h|h
  .exact h
  .rw [List.getElem?_eq_none h]at e7;cases e7
 have y:d.toList.length=v.length:=by have:=congrArg List.length f3;simpa using this
 have f:c<d.toList.length:=by omega
 rcases List.eq_nil_or_concat e.toList with t|⟨s0,b,hs⟩
 .rw [t]at j;simp at j
 rw[List.concat_eq_append]at hs;rw[hs,Vv,Vv]at f8;have e8:=(List.append_inj' f8 (by simp)).2;simp only[V5,W9,List.cons.injEq,and_true,List.getElem?_eq_getElem f,V9,Option.some.injEq]at e8;have u:e=(⟨s0⟩:Array Nat).push d.toList[c].born:=by apply Array.ext';rw[hs,e8];simp
 have n:(d.toList[c].key,d.toList[c].val)=(kenc p.1,venc p.2):=by
  have:=congrArg (λl=>l[c]?) f3
  simp only[List.getElem?_map,List.getElem?_eq_getElem f,<-e7,V9]at this;exact Option.some.inj this
 have e1:d.toList[c].key=kenc p.1:=congrArg Prod.fst n;have e2:d.toList[c].val=venc p.2:=congrArg Prod.snd n;rw[u]at s;have:=run_entry_at (P:=P) w r mb a ⟨s0⟩ d a d.toList[c] s.get s.drop'.get (Vk f) f4;rw[e1,e2]at this;exact this
end
def oI(H:aC)(r:Nat):Nat:=match H[r]? with|some (.mapIter _ _ seen _)=>seen.size|_=>0
theorem aA.rg_count{κ α:Type}{kenc:κ->Value}{venc:α->Value}{r mb:Nat}{m dn:List (κ×α)}{H:aC}{L:List aE}(h:aA H L)(i:Nat)(n:aW i L=kH kenc venc r mb m dn):oI H r=dn.length/\dn.length<=m.length:=by
 have e:=h.foc i;rw[n]at e;obtain⟨t,d,f,j,is,⟨f1,f2,f3,f4,f5,f6,f7,f8⟩,k⟩:=vJ e;rw[jt]at k;have a:=congrArg List.length f7;have c:=congrArg List.length f8;simp only[Vl]at a c;refine⟨?_,?_⟩
 .unfold oI;rw[k.get];simp only;rw[<-Wb,c,a]
 .rw [a,<-f2.length_eq];have b:is ⊆ List.range f.length:=by
   intro i hi;rw[Wg]
   rcases V0 i f.length with h|h
   .exact h
   .exfalso;have s:(none:Option (κ×α))∈dn.map some:=by rw[f7];exact Vh.2 ⟨i,hi,by rw[List.getElem?_eq_none h]⟩
    simp at s
  have:=f6.length_le_of_subset b;simpa using this
def fe(s:Fa):List Int:=s.data.toList.map λb=>(b.toNat:Int)
theorem tt(s:Fa):(fe s).length=s.size:=by
 rw[fe,Vl,Wb];rfl
theorem Nk(s:Fa):∀x∈fe s,0<=x/\x<256:=by
 intro x a;simp only[fe,Vh]at a;obtain⟨b,_,rfl⟩:=a;have:=b.toNat_lt;omega
section
variable {H:aC}{F:aE}{e sz n c:Nat}{a:KQ}{cs:Os}
theorem Ef{P:Program}(s:Fa)(size:Nat)(w:World):(Builtin.firstCells size s.size (.string s)).run P w=.ok (((fe s).map U8).toArray) w:=by
 have a:s.extract 0 s.size=s:=by simp
 have c:s.data.map (λb=>Value.int .u8 b.toNat)=((fe s).map U8).toArray:=by
  apply Array.ext';rw[Array.toList_map,List.toList_toArray,fe,VM];rfl
 simp only[Builtin.firstCells,a,c];rfl
theorem Nl{P:Program}{t ts bytes ty:Nat}(T:SlT P t e 1 bytes)(A:P.underlying ts=some .string){s:Fa}{K:KE}(h:aQ H (slA e 1 a n c cs*F))
  (hb:(n+s.size)*bytes<=140737488355328) (hn:n+s.size<=140737488355328)
  (k:∀Y W H',aQ H' (slA e 1 Y (n+s.size) W (cs++(fe s).map U8)*F)->K (.slice Y (n+s.size) W) H') :
  cA P (Builtin.append_ #[t,ts] ty #[.slice a n c,.string s]) H K:=by
 obtain⟨N,h1,i,z,hi,hz,v,rfl,y⟩:=T;refine .mk λw U=>?_
 subst U;obtain⟨d,B⟩:=kr h;have O:((fe s).map U8).length=s.size:=by rw[Vl,tt]
 have D:cR ((fe s).map U8)=true:=nu (λ_=>rfl) _
 have Q:¬(9223372036854775807<(n:Int)+(s.size:Int)):=by omega
 have x:=Ef (P:=P) s i.size w;have L:=Ef (P:=P) s i.size w.drew;have E:=td (P:=P) (w:=w.drew) (a2:=a) (m:=n) (c2:=c) (y5 h) d;generalize hws:(fe s).map U8=ws at *;rw[<-v]at d B y E
 by_cases hroom:n+s.size<=c
 .rcases B with ⟨B,h3,I,C⟩|⟨b,pre,post,e',fr,B,h3,I,M,C⟩
  .subst B;subst h3;subst I;have h0:s.size=0:=by omega
   obtain rfl:ws=[]:=Wn (by omega);obtain rfl:cs=[]:=Wn (by simpa using d);refine⟨.slice none (0+s.size) 0,w,?_,bV.refl w,k _ _ _ ?_⟩
   .rw [h0]at x;simp[Builtin.append_,run_underlying N,run_underlying A,sizeOf,typeInfo,hi,Builtin.lenOf,h0,x]
   .rw [h0];exact re C
  .subst B;have f:i.size=1:=v.symm▸rfl;have G:ws.length<=post.length:=by
    rw[f]at I;omega
   have u:eQ w.heap b (pre.length+n*i.size) ws:=C.canG ws _ (by rw[f]at d ⊢;simp[d];rw[f]at I;omega) λj J V=>M j (by omega) (by rw[f]at V ⊢;omega)
   obtain⟨w',J,V,h8⟩:=qM (P:=P) (b:=b) ws (pre.length+n*i.size) 0 w (by simpa using u) (by simpa using qN _ _ u) D;refine⟨.slice (some ⟨b,pre.length,none⟩) (n+s.size) c,w',?_,V,k _ _ _ ?_⟩
   .simp [Builtin.append_,run_underlying N,run_underlying A,sizeOf,typeInfo,hi,Builtin.lenOf,hroom,x,iN,J]
   .rw [h8];have Z:=aQ.setsG ws (pre.length+n*i.size) C;have e1:pre.length+n*i.size=(pre++cs).length:=by simp[d]
    rw[e1,rh _ _ _ G]at Z;rw[Wm,e1];rw[f]at d I;refine Z.frame λp D=>⟨by simp[d,O],.inr ⟨b,pre,post.drop ws.length,e',fr,rfl,hroom,?_,λh=>by rw[f]at M;exact M,by simpa using D⟩⟩
    rw[Vt,O];omega
 .have S:¬(281474976710656<Builtin.nextslicecap (n+s.size) c*i.bytes):=by
   have:=growslice_fits (need:=n+s.size) (old:=c) (bytes:=i.bytes) (by omega) hb;omega
  refine⟨.slice (some ⟨w.heap.size,0,none⟩) (n+s.size) (grownCap w (n+s.size) c e),w.drew.alloc (.cells (cs.toArray++ws.toArray++Builtin.zeroCells z.cells (grownCap w (n+s.size) c e-(n+s.size))) e),?_,⟨rfl,rfl,rfl⟩,k _ _ _ ?_⟩
  .simp [Builtin.append_,run_underlying N,run_underlying A,sizeOf,typeInfo,zeroValue,hi,hz,Builtin.lenOf,hroom,Q,S,Question.forced,E,L,newRow,grownCap];congr 2;apply Array.ext';simp[Vj]
  .have C:aQ w.heap F:=h.drop';have J:=C.push (.cells (cs.toArray++ws.toArray++Builtin.zeroCells z.cells (grownCap w (n+s.size) c e-(n+s.size))) e);have R:=grownCap_ge w (n+s.size) c e;have f:i.size=1:=v.symm▸rfl;rw[f]at d y;refine J.frame λp D=>⟨by simp[d,O],.inr ⟨w.heap.size,[],(Builtin.zeroCells z.cells (grownCap w (n+s.size) c e-(n+s.size))).toList,e,(0,0),rfl,R,?_,λ_ i _ _ hh=>by simp at hh,?_⟩⟩
   .rw [Wb,size_zeroCells,y];exact Vg _
   .have e2:(([]:Os)++(cs++ws)++(Builtin.zeroCells z.cells (grownCap w (n+s.size) c e-(n+s.size))).toList).toArray=cs.toArray++ws.toArray++Builtin.zeroCells z.cells (grownCap w (n+s.size) c e-(n+s.size)):=by
     apply Array.ext';simp
    rw[e2];exact D
end
theorem aA.appendS{P:Program}{t ts bytes ty e n c:Nat}{a:KQ}{cs:Os}{H:aC}{L:List aE}(T:SlT P t e 1 bytes)(j:P.underlying ts=some .string){s:Fa}{K:KE}(h:aA H L)(i:Nat)(u:aW i L=slA e 1 a n c cs)
  (hb:(n+s.size)*bytes<=140737488355328) (v:n+s.size<=140737488355328)
  (k:∀d b f,aA f (put i (slA e 1 d (n+s.size) b (cs++(fe s).map U8)) L)->K (.slice d (n+s.size) b) f) :
  cA P (Builtin.append_ #[t,ts] ty #[.slice a n c,.string s]) H K:=by
 have m:=h.foc i;rw[u]at m;exact Nl T j m hb v λd b f w=>k d b f (aA.back w)
end Go.Proofs.YtaaieblnikcndaaGreatDoor
