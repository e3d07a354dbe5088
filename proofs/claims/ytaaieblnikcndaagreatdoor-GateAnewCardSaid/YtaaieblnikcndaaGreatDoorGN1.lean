/-
  Lemmas for GateAnew: part 1 of what it rests on. Conditions: none.
-/
import Derived.Test.YtaaieblnikcndaaGreatDoorGN0
set_option linter.unusedVariables false
set_option linter.unusedSimpArgs false
set_option maxRecDepth 100000
set_option maxHeartbeats 16000000
open Go.IntKind (i64 u64 i8 u8 i32 u32 i16 u16)
namespace Go.Proofs.YtaaieblnikcndaaGreatDoor
open Go
def cU.fits:cU->Value->Bool
 | .int k,.int k' _=>k=k'
 | .bool,.bool _=>true
 | .str,.string _=>true
 | .ptr,.pointer _=>true
 | .slice,.slice _ _ _=>true
 | .map,.map _=>true
 | .raw,_=>true
 | .fnv,.func (.func _) ⟨[]⟩ _=>true
 | .adr,.pointer (some ⟨_,_,none⟩)=>true
 | _,_=>false
def nZ:List cU->Os->Bool
 | [],[]=>true
 | l::r,v::vs=>l.fits v&&nZ r vs
 | _,_=>false
def Sh.fits:Sh->Value->Bool
 | .one l,v=>l.fits v
 | .agg ls,.agg cs=>nZ ls cs.toList
 | .agg _,_=>false
def cU.lam:(l:cU)->{T:Type}->(Value->T)->l.fn T
 | .int k,_,f=>λn=>f (.int k n)
 | .bool,_,f=>λb=>f (.bool b)
 | .str,_,f=>λs=>f (.string s)
 | .ptr,_,f=>λa=>f (.pointer a)
 | .slice,_,f=>λa n c=>f (.slice a n c)
 | .map,_,f=>λr=>f (.map r)
 | .raw,_,f=>λv=>f v
 | .fnv,_,f=>λg cap=>f (.func (.func g) ⟨[]⟩ ⟨cap⟩)
 | .adr,_,f=>λb o=>f (.pointer (some ⟨b,o,none⟩))
 | .vec _ _,_,f=>f (.bool false)
def lamLs:(ls:List cU)->{T:Type}->(Os->T)->fnLs ls T
 | [],_,f=>f []
 | l::r,T,f=>l.lam (T:=fnLs r T) λv=>lamLs r λvs=>f (v::vs)
def Sh.lam:(s:Sh)->{T:Type}->(Value->T)->s.fn T
 | .one l,_,f=>l.lam f
 | .agg ls,_,f=>lamLs ls λvs=>f (.agg ⟨vs⟩)
def lamJ:(L:dr)->{T:Type}->(Os->T)->JT T L
 | [],_,f=>f []
 | (_,s)::r,T,f=>s.lam (T:=JT T r) λv=>lamJ r λvs=>f (v::vs)
theorem Dd{v:Value}(h:cU.fits .fnv v=true):∃g cap,v=.func (.func g) ⟨[]⟩ cap:=by
 cases v <;> (try cases h)
 rename_i fn first cap
 cases fn <;> (try cases h)
 rcases first with ⟨_|_⟩ <;> (try cases h);exact⟨_,_,rfl⟩
theorem De{v:Value}(h:cU.fits .adr v=true):∃b o,v=.pointer (some ⟨b,o,none⟩):=by
 cases v <;> (try cases h)
 rename_i a
 rcases a with _|⟨b,o,_|s⟩ <;> (try cases h);exact⟨_,_,rfl⟩
theorem Df(l:cU){T:Type}(f:Value->T)(v:Value)(h:l.fits v=true):l.app (l.lam f) v=some (f v):=by
 cases l
 case fnv=>obtain⟨g,⟨cap⟩,rfl⟩:=Dd h;rfl
 case adr=>obtain⟨b,o,rfl⟩:=De h;rfl
 all_goals (cases v <;> simp_all[cU.fits,cU.app,cU.lam])
theorem Dg(l:cU){T:Type}(f:l.fn T)(v:Value)(g:T)(h:l.app f v=some g):l.fits v=true:=by
 cases l
 case fnv=>
  cases v <;> (try cases h)
  rename_i fn first cap
  cases fn <;> (try cases h)
  rcases first with ⟨_|_⟩ <;> (try cases h);rfl
 case adr=>
  cases v <;> (try cases h)
  rename_i a
  rcases a with _|⟨b,o,_|s⟩ <;> (try cases h);rfl
 all_goals (cases v <;> simp_all[cU.fits,cU.app])
theorem Dh{l:cU}{K:Value->Prop}:l.all K↔∀v,l.fits v=true->K v:=by
 cases l
 case int k=>exact⟨λh v d=>by cases v <;> simp[cU.fits]at d;subst d;exact h _,λh n=>h _ (by simp[cU.fits])⟩
 case bool=>exact⟨λh v d=>by cases v <;> simp[cU.fits]at d;exact h _,λh n=>h _ rfl⟩
 case str=>exact⟨λh v d=>by cases v <;> simp[cU.fits]at d;exact h _,λh n=>h _ rfl⟩
 case ptr=>exact⟨λh v d=>by cases v <;> simp[cU.fits]at d;exact h _,λh n=>h _ rfl⟩
 case slice=>exact⟨λh v d=>by cases v <;> simp[cU.fits]at d;exact h _ _ _,λh a n c=>h _ rfl⟩
 case adr=>exact⟨λh v d=>by obtain⟨b,o,rfl⟩:=De d;exact h _ _,λh b o=>h _ rfl⟩
 case fnv=>exact⟨λh v d=>by obtain⟨g,⟨cap⟩,rfl⟩:=Dd d;exact h _ _,λh f cap=>h _ rfl⟩
 case map=>exact⟨λh v d=>by cases v <;> simp[cU.fits]at d;exact h _,λh n=>h _ rfl⟩
 case raw=>exact⟨λh v _=>h v,λh v=>h v rfl⟩
 case vec=>exact⟨λh v d=>(by cases v <;> cases d),λh=>trivial⟩
theorem Di:∀(ls:List cU) {T:Type} (f:Os->T) (vs:Os),nZ ls vs=true->qV ls (lamLs ls f) vs=some (f vs)
 | [],_,f,[],_=>rfl
 | [],_,f,_::_,h=>by cases h
 | l::r,_,f,[],h=>by cases h
 | l::r,T,f,v::vs,h=>by
  simp only[nZ,V7]at h;simp only[qV,lamLs];rw[Df l _ v h.1];exact Di r _ vs h.2
theorem Dj:∀(ls:List cU) {T:Type} (f:fnLs ls T) (vs:Os) (g:T),qV ls f vs=some g->nZ ls vs=true
 | [],_,f,[],_,_=>rfl
 | [],_,f,_::_,_,h=>by cases h
 | l::r,_,f,[],_,h=>by cases h
 | l::r,T,f,v::vs,g,h=>by
  simp only[qV]at h
  split at h
  .rename_i b a;simp only[nZ,V7];exact⟨Dg l _ v _ a,Dj r _ vs g h⟩
  .cases h
theorem ls_all:∀{ls:List cU} {K:Os->Prop},allLs ls K↔∀a,nZ ls a=true->K a
 | [],K=>⟨λh a b=>(by cases a with|nil=>exact h|cons=>cases b),λh=>h [] rfl⟩
 | l::r,K=>by
  simp only[allLs,Dh,ls_all];refine⟨λh a b=>?_,λh v b a c=>h _ (by simp[nZ,b,c])⟩
  cases a with
  | nil=>cases b
  | cons v a=>
   simp only[nZ,V7]at b;exact h v b.1 a b.2
theorem Nr(s:Sh){T:Type}(f:Value->T)(v:Value)(h:s.fits v=true):s.app (s.lam f) v=some (f v):=by
 cases s with
 | one l=>exact Df l f v h
 | agg ls=>
  cases v <;> try cases h
  rename_i cs;simp only[Sh.app,Sh.lam];rw[Di ls _ cs.toList h]
theorem Ns(s:Sh){T:Type}(f:s.fn T)(v:Value)(g:T)(h:s.app f v=some g):s.fits v=true:=by
 cases s with
 | one l=>exact Dg l f v g h
 | agg ls=>
  cases v <;> try cases h
  rename_i cs;exact Dj ls f cs.toList g h
theorem sh_all{s:Sh}{K:Value->Prop}:s.all K↔∀v,s.fits v=true->K v:=by
 cases s with
 | one l=>exact Dh
 | agg ls=>
  simp only[Sh.all,ls_all];refine⟨λh v b=>?_,λh c a=>h _ a⟩
  cases v <;> try cases b
  exact h _ b
def lA:dr->Os->Bool
 | [],[]=>true
 | (_,s)::r,v::vs=>s.fits v&&lA r vs
 | _,_=>false
def gH:dr->Fr->Os->Fr
 | (t,_)::r,fr,v::vs=>gH r (iq fr t (.p v)) vs
 | _,fr,_=>fr
def gI(fr:Fr):dr->Option (Os)
 | []=>some []
 | (t,_)::r=>match iK fr t,gI fr r with|some v,some vs=>some (v::vs)|_,_=>none
def appV:(L:dr)->{T:Type}->JT T L->Os->Option T
 | [],_,j,[]=>some j
 | (_,s)::r,T,j,v::vs=>match s.app (T:=JT T r) j v with|some j'=>appV r j' vs|none=>none
 | _,_,_,_=>none
theorem y4:∀{L:dr} {fr:Fr} {K:Fr->Prop},allJ L fr K↔∀a,lA L a=true->K (gH L fr a)
 | [],fr,K=>⟨λh a b=>(by cases a with|nil=>exact h|cons=>cases b),λh=>h [] rfl⟩
 | (t,s)::r,fr,K=>by
  simp only[allJ,lv,sh_all,y4];refine⟨λh a b=>?_,λh v b a c=>h (v::a) (by simp[lA,b,c])⟩
  cases a with
  | nil=>cases b
  | cons v a=>
   simp only[lA,V7]at b;exact h v b.1 a b.2
theorem y5:∀(L:dr) {T:Type} (j:JT T L) (fr:Fr) (g:T),lu L j fr=some g->∃a,gI fr L=some a/\appV L j a=some g/\lA L a=true
 | [],_,j,fr,g,h=>⟨[],rfl,h,rfl⟩
 | (t,s)::r,T,j,fr,g,h=>by
  simp only[lu]at h
  cases hg:iK fr t with
  | none=>simp[hg]at h
  | some v=>
   simp only[hg]at h
   cases ha:s.app (T:=JT T r) j v with
   | none=>simp[ha]at h
   | some j'=>
    simp only[ha]at h;obtain⟨a,c,b,d⟩:=y5 r j' fr g h;refine⟨v::a,?_,?_,?_⟩
    .simp only[gI,hg,c]
    .simp only[appV,ha,b]
    .simp only[lA,Ns s _ v _ ha,d,Bool.and_self]
theorem qe:∀(L:dr) {T:Type} (j:JT T L) (fr:Fr) (vs:Os),gI fr L=some vs->lu L j fr=appV L j vs
 | [],_,j,fr,vs,h=>by simp[gI]at h;subst h;rfl
 | (t,s)::r,T,j,fr,vs,h=>by
  simp only[gI]at h
  cases hg:iK fr t with
  | none=>simp[hg]at h
  | some v=>cases hr:gI fr r with
   | none=>simp[hg,hr]at h
   | some vs'=>
    simp only[hg,hr,Option.some.injEq]at h;subst h;simp only[lu,hg,appV]
    cases s.app (T:=JT T r) j v with
    | none=>rfl
    | some j'=>exact qe r j' fr vs' hr
theorem y6:∀(L:dr) {T:Type} (f:Os->T) (vs:Os),lA L vs=true->appV L (lamJ L f) vs=some (f vs)
 | [],_,f,[],_=>rfl
 | [],_,f,_::_,h=>by cases h
 | _::_,_,f,[],h=>by cases h
 | (t,s)::r,T,f,v::vs,h=>by
  simp only[lA,V7]at h;simp only[appV,lamJ];rw[Nr s _ v h.1];exact y6 r _ vs h.2
def nt:dr->Nat->Bool
 | [],_=>true
 | (t,_)::r,n=>Nat.blt t n&&r.all (λx=>!(Nat.beq x.1 t))&&nt r n
theorem Dk:∀(L:dr) (fr:Fr) (vs:Os),(gH L fr vs).length=fr.length
 | [],fr,vs=>by cases vs <;> rfl
 | (t,s)::r,fr,[]=>rfl
 | (t,s)::r,fr,v::vs=>by simp only[gH];rw[Dk,qd]
theorem Dl:∀(L:dr) (fr:Fr) (vs:Os) (t:Nat),(∀x∈L,x.1≠t)->aT (gH L fr vs) t=aT fr t
 | [],fr,vs,t,_=>by cases vs <;> rfl
 | (u,s)::r,fr,[],t,_=>rfl
 | (u,s)::r,fr,v::vs,t,h=>by
  simp only[gH];rw[Dl r _ vs t (λx a=>h x (VL _ a)),l9,V0 (λb=>h _ VM b.1)]
theorem Nt{t:Nat}{s:Sh}{r:dr}{n:Nat}(h:nt ((t,s)::r) n=true):t<n/\(∀x∈r,x.1≠t)/\nt r n=true:=by
 simp only[nt,V7,Wq]at h;refine⟨by have:=h.1.1;simpa[Nat.blt_eq] using this,λx b a=>?_,h.2⟩
 have:=h.1.2 x b;rw[a]at this;simp at this
theorem tj:∀(L:dr) (fr:Fr) (vs:Os),nt L fr.length=true->lA L vs=true->gI (gH L fr vs) L=some vs
 | [],fr,[],_,_=>rfl
 | [],fr,_::_,_,h=>by cases h
 | _::_,fr,[],_,h=>by cases h
 | (t,s)::r,fr,v::vs,hok,h=>by
  obtain⟨a,c,d⟩:=Nt hok;simp only[lA,V7]at h;have b:=tj r (iq fr t (.p v)) vs (by rw[qd];exact d) h.2;simp only[gH,gI,b];have:iK (gH r (iq fr t (.p v)) vs) t=some v:=by
   unfold iK;rw[Dl r _ vs t c,l9,V1 ⟨rfl,a⟩]
  rw[this]
theorem Dm:∀{L:dr} {fr:Fr} {vs:Os},gI fr L=some vs->∀a,(∀t v,aT fr t=some (.p v)->t<a.length)->∀t v,aT (gH L a vs) t=some (.p v)->aT fr t=some (.p v)\/(aT a t=some (.p v)/\∀x∈L,x.1≠t)
 | [],fr,vs,h,a,_,t,v,hl=>by simp[gI]at h;subst h;exact .inr ⟨hl,λx b=>by cases b⟩
 | (u,s)::r,fr,vs,h,a,hlen,t,v,hl=>by
  simp only[gI]at h
  cases hg:iK fr u with
  | none=>simp[hg]at h
  | some v'=>cases hr:gI fr r with
   | none=>simp[hg,hr]at h
   | some vs'=>
    simp only[hg,hr,Option.some.injEq]at h;subst h;have c:aT fr u=some (.p v'):=by
     unfold iK at hg
     split at hg
     .rename_i w e;cases hg;exact e
     .cases hg
    simp only[gH]at hl
    rcases Dm hr (iq a u (.p v')) (λt v h=>by rw[qd];exact hlen t v h) t v hl with h1|⟨h1,h2⟩
    .exact .inl h1
    .rw [l9]at h1
     split at h1
     .rename_i d
      cases h1
      left;rw[<-d.1];exact c
     .rename_i d;refine .inr ⟨h1,λx b=>?_⟩
      rcases VJ.1 b with rfl|b
      .exact λf=>d ⟨f,by have:=hlen u v' c;exact this⟩
      .exact h2 x b
def hZ:List Oper->List Nat
 | []=>[]
 | o::r=>match o.dst with|some d=>d::hZ r|none=>hZ r
def fW:Code->List Nat
 | .region _ ops _=>hZ ops.toList
 | .seq a b=>fW a++fW b
 | .cond _ a b=>fW a++fW b
 | .block _ a=>fW a
 | .loop a=>fW a
 | _=>[]
inductive Ann where
 | no
 | reg
 | regJ (live:dr)
 | seq (a b:Ann)
 | cond (a b:Ann)
 | condJ (live:dr) (a b:Ann)
 | blk (a:Ann)
 | blkJ (live:dr) (a:Ann)
 | loop (live:dr) (a:Ann)
 | rng (shs:List Sh) (jumps:List (Option Code)) (x y:Ann)
def natJ(L:dr)(μ:JT (aD->Nat) L)(fr:Fr)(H:aD):Nat:=match lu L μ fr with|some m=>m H|none=>0
def qf(L:dr)(ds:List Nat)(fr:Fr)(rest:Fr->aD->Prop)(body:(Fr->aD->Prop)->Prop):Prop:=
 if nt L fr.length=false then False else
 ∀J:JT (aD->Prop) L,(ir (lw ds 0 fr) λfr0=>allJ L fr0 λfr'=>∀H',rest fr' H'->jI L J fr' H')->body (jI L J)
def ru(X:Ctx)(rd:Bool)(ops:Array Oper)(draw:Bool)(K:Fr->List DM->aD->Prop)(fr:Fr)(H:aD):Prop:=
 match draw with
 | false=>l7 X ops rd K ops.toList [] [] fr H
 | true=>rh X ops (jK ops.toList []) (λfr' H'=>K fr' [] H') ops.size (Array.replicate ops.size false) [] [] [] fr H
def pan1(v:Value):Exit:=.panic [{ v,recovered:=false }]
abbrev QT:=Exit->Fr->List DM->aD->Prop
def gJ(H:aD)(l:Nat)(R:Loop):aD:=H.setIfInBounds l (.loop R)
def vz:Fr->List Tmp->Os->Fr
 | fr,t::ts,v::vs=>vz (iq fr t (.p v)) ts vs
 | fr,_,_=>fr
def roundEnd(l:Nat)(R:Loop)(K:KE):Exit->aD->Prop
 | .normal,H=>K (.bool true) (gJ H l R)
 | .ret,H=>K (.bool false) (gJ H l { R with state:=.done,pending:=some .ret })
 | .exit i,H=>K (.bool false) (gJ H l { R with state:=.done,pending:=some (.exit i) })
 | _,_=>False
def jumpQ(Q:Exit->Prop):Option Code->Prop
 | none=>Q .normal
 | some .ret=>Q .ret
 | some (.exit i)=>Q (.exit i)
 | some _=>False
def jumpK(Q:Exit->Prop):List (Option Code)->Option Code->Prop
 | [],_=>False
 | [c],pd=>pd=c/\jumpQ Q c
 | c::d::r,pd=>(pd=c/\jumpQ Q c)\/jumpK Q (d::r) pd
def ky:List DM->Prop->Prop
 | [],q=>q
 | _::_,_=>False
def Ctx.kq(X:Ctx)(ds:List Nat)(fr:Fr)(Q:QT):Ctx:={ X with kp:=λv H=>Q (pan1 v) (gp ds fr) [] H }
def Ctx.np(X:Ctx):Ctx:={ X with kp:=λ_ _=>False }
def seqQ(C:QT->Fr->aD->Prop)(Q:QT):QT:=λe fr M H=>match e with|.normal=>C (λe' fr' M' H'=>Q e' fr' (M'++M) H') fr H|e=>Q e fr M H
def seqN(C:QT->Fr->aD->Prop)(Q:QT):QT:=λe fr M H=>match e with|.normal=>(match M with|[]=>C Q fr H|M=>C (λe' fr' M' H'=>Q e' fr' (M'++M) H') fr H)|e=>Q e fr M H
theorem seqN_eq(C:QT->Fr->aD->Prop)(Q:QT):seqN C Q=seqQ C Q:=by
 funext e fr M H;unfold seqN seqQ
 cases e <;> try rfl
 cases M
 .simp only[Wc]
 .rfl
def joinQ(J:Fr->aD->Prop)(Q:QT):QT:=λe fr M H=>match e with|.normal=>ky M (J fr H)|e=>Q e fr M H
def blkQ(id:Nat)(Q:QT):QT:=λe fr M H=>match e with|.exit i=>if i=id then Q .normal fr M H else Q (.exit i) fr M H|e=>Q e fr M H
def blkJQ(id:Nat)(J:Fr->aD->Prop)(Q:QT):QT:=λe fr M H=>match e with|.exit i=>if i=id then ky M (J fr H) else Q (.exit i) fr M H|.normal=>ky M (J fr H)|e=>Q e fr M H
def endJ(L:dr)(I:JT (aD->Prop) L)(μ:JT (aD->Nat) L)(fr0:Fr)(H0:aD)(fr:Fr)(H:aD):Prop:=match lu L I fr,lu L μ fr,lu L μ fr0 with
 | some p,some m,some m0=>p H/\m H<m0 H0
 | _,_,_=>False
theorem Nu{L:dr}{I:JT (aD->Prop) L}{μ:JT (aD->Nat) L}{a:Fr}{H0:aD}{fr:Fr}{H:aD}(h:endJ L I μ a H0 fr H):jI L I fr H/\natJ L μ fr H<natJ L μ a H0:=by
 unfold endJ at h;unfold jI natJ
 split at h
 .rename_i e1 e2 e3;rw[e1,e2,e3];exact h
 .exact h.elim
def loopQ(L:dr)(I:JT (aD->Prop) L)(μ:JT (aD->Nat) L)(fr0:Fr)(H0:aD)(Q:QT):QT:=λe fr M H=>match e with|.normal=>ky M (endJ L I μ fr0 H0 fr H)|e=>Q e fr M H
def regQ(X:Ctx)(ds:List Nat)(fr:Fr)(Q:QT)(C:Ctx->Prop):Prop:=match X.nop with|true=>C X.np|false=>C (X.kq ds fr Q)
def norQ(Q:QT):Fr->List DM->aD->Prop:=λfr M H=>Q .normal fr M H
def fu(X:Ctx):Option Nat->Code->Ann->QT->Fr->aD->Prop
 | _,.skip,_,Q,fr,H=>Q .normal fr [] H
 | ro,.region _ ops d,.reg,Q,fr,H=>regQ X (hZ ops.toList) fr Q λY=>ru Y ro.isNone ops d (norQ Q) fr H
 | ro,.region _ ops d,.regJ L,Q,fr,H=>qf L (hZ ops.toList) fr (λfr' H'=>Q .normal fr' [] H') λJ=>regQ X (hZ ops.toList) fr Q λY=>ru Y ro.isNone ops d (λfr' M H'=>ky M (J fr' H')) fr H
 | ro,.seq a b,.seq x y,Q,fr,H=>fu X ro a x (seqN (λQ' fr' H'=>fu X ro b y Q' fr' H') Q) fr H
 | ro,.cond c a b,.cond x y,Q,fr,H=>(match evG #[] fr [] none c with
  | some (.bool t)=>(t=true->fu X ro a x Q fr H)/\(t=false->fu X ro b y Q fr H)
  | _=>False)
 | ro,.cond c a b,.condJ L x y,Q,fr,H=>(match evG #[] fr [] none c with
  | some (.bool t)=>qf L (fW a++fW b) fr (λfr' H'=>Q .normal fr' [] H') λJ=>
    (t=true->fu X ro a x (joinQ J Q) fr H)/\(t=false->fu X ro b y (joinQ J Q) fr H)
  | _=>False)
 | ro,.block id a,.blk x,Q,fr,H=>fu X ro a x (blkQ id Q) fr H
 | ro,.block id a,.blkJ L x,Q,fr,H=>qf L (fW a) fr (λfr' H'=>Q .normal fr' [] H') λJ=>fu X ro a x (blkJQ id J Q) fr H
 | ro,.loop a,.loop L x,Q,fr,H=>if nt L fr.length=false then False else ∃I:JT (aD->Prop) L,∃μ:JT (aD->Nat) L,jI L I fr H/\
   ir (lw (fW a) 0 fr) λfr0=>allJ L fr0 λfr'=>∀H',jI L I fr' H'->fu X ro a x (loopQ L I μ fr' H' Q) fr' H'
 | none,.rangeFunc g ps a b,.rng shs js x y,Q,fr,H=>(match evG #[] fr [] none g with
  | some (.func (.func gf) ⟨[]⟩ ⟨cap⟩)=>if Nat.beq shs.length ps.toList.length=false then False else
    bJ gf X.calls=true/\∀R:Loop,R.state=.ready->R.pending=none->
     (∀(vs:Os) (H1:aD) (K1:KE),
      (pI shs λus=>vs=us/\H1[H.size+1]?=some (.loop R)/\fu X (some (H.size+1)) a x (λe f1 M H2=>match e with
       | .normal=>ky M (H2[H.size+1]?=some (.loop R)/\∀H2':aD,H2'=gJ H2 (H.size+1) { R with state:=.busy }->fu X (some (H.size+1)) b y (λe' _ M2 H3=>ky M2 (H3[H.size+1]?=some (.loop { R with state:=.busy })/\roundEnd (H.size+1) R K1 e' H3)) f1 H2')
       | _=>False) (vz fr ps.toList us) H1)->fL X.P (H.size+1) vs H1 K1)->
     iL X.P gf ⟨.func (.yield (H.size+1)) #[] #[]::cap⟩ ((H.push (.deferred (some []))).push (.loop R)) λ_ H2=>∃(st:LoopState) (pd:Option Code),st≠.busy/\H2[H.size+1]?=some (.loop { R with state:=st,pending:=pd })/\
      ∀H2':aD,H2'=gJ H2 (H.size+1) { R with state:=.exhausted,pending:=pd }->jumpK (λe=>Q e fr [.mark H.size] H2') js pd
  | _=>False)
 | _,.exit id,_,Q,fr,H=>Q (.exit id) fr [] H
 | _,.ret,_,Q,fr,H=>Q .ret fr [] H
 | _,_,_,_,_,_=>False
theorem mi{M:List DM}{q:Prop}:ky M q↔M=[]/\q:=by cases M <;> simp[ky]
theorem Dn:∀(l:List Oper) (o:Oper) (d:Tmp),o∈l->o.dst=some d->d∈hZ l
 | [],_,_,h,_=>by cases h
 | x::r,o,d,h,hd=>by
  simp only[hZ]
  rcases VJ.1 h with rfl|h
  .rw [hd];exact VM
  .have:=Dn r o d h hd
   split
   .exact VL _ this
   .exact this
structure eJ(ds:List Nat)(a a':Act):Prop where
 defers:a'.defers=a.defers
 size:a'.tmps.size=a.tmps.size
 same:∀t,t∉ds->a'.tmps[t]?=a.tmps[t]?
theorem eJ.refl(ds:List Nat)(a:Act):eJ ds a a:=⟨rfl,rfl,λ_ _=>rfl⟩
theorem eJ.trans{ds:List Nat}{a b c:Act}(h:eJ ds a b)(k:eJ ds b c):eJ ds a c:=
 ⟨k.defers.trans h.defers,k.size.trans h.size,λt d=>(k.same t d).trans (h.same t d)⟩
theorem eJ.put{ds:List Nat}{a b:Act}(h:eJ ds a b){d:Option Tmp}(hd:∀t,d=some t->t∈ds)(v:Value):eJ ds a (b.put d v):=by
 cases d with
 | none=>exact h
 | some t=>
  refine⟨h.defers,?_,λu c=>?_⟩
  .rw [rj,Array.size_setIfInBounds];exact h.size
  .rw [rj,Array.getElem?_setIfInBounds,V0 (λe=>c (by rw[<-e];exact hd t rfl))];exact h.same u c
theorem tk(ds:List Nat)(fr:Fr):(gp ds fr).length=fr.length:=by
 unfold gp
 induction ds generalizing fr with
 | nil=>rfl
 | cons d r ih=>simp only[List.foldl_cons];rw[ih,qd]
theorem vA{ds:List Nat}:∀{fr:Fr} {t:Nat} {s:SV},aT (gp ds fr) t=some s->s=.x\/(aT fr t=some s/\t∉ds):=by
 unfold gp
 induction ds with
 | nil=>intro fr t s h;exact .inr ⟨h,by simp⟩
 | cons d r ih=>
  intro fr t s h;simp only[List.foldl_cons]at h
  rcases ih h with a|⟨a,c⟩
  .exact .inl a
  .rw [l9]at a
   split at a
   .cases a;exact .inl rfl
   .rename_i f
    by_cases hd:d=t
    .left;have b:¬d<fr.length:=λh=>f ⟨hd,h⟩
     rw[eI,List.getElem?_eq_none (by omega)]at a
     cases a
    .exact .inr ⟨a,by simp[c];exact λe=>hd e.symm⟩
theorem Do(n:Nat):∀a,lw.memD n a=true↔n∈a
 | []=>by simp[lw.memD]
 | m::r=>by
  unfold lw.memD;rw[VJ,<-Do n r]
  cases h:Nat.beq n m with
  | true=>simp[WI h]
  | false=>
   have:n≠m:=λe=>by subst e;rw[Nat.beq_refl]at h;cases h
   simp[this]
theorem Dp(ds:List Nat):∀(fr:Fr) (i t:Nat),aT (lw ds i fr) t=(aT fr t).map λs=>if i+t∈ds then .x else s
 | [],_,_=>rfl
 | s::r,i,0=>by
  simp only[lw,aT,We,WJ];have:=Do i ds
  cases h:lw.memD i ds with
  | true=>rw[V1 (this.1 h)]
  | false=>rw[V0 (λhm=>by rw[this.2 hm]at h;cases h)]
 | s::r,i,t+1=>by
  simp only[lw,aT];rw[Dp ds r (i+1) t,Ws,Ye 1 t]
theorem Dq:∀(ds:List Nat) (fr:Fr) (t:Nat),aT (gp ds fr) t=(aT fr t).map λs=>if t∈ds then .x else s
 | [],fr,t=>by simp[gp]
 | d::r,fr,t=>by
  have:gp (d::r) fr=gp r (iq fr d .x):=rfl;rw[this,Dq r,l9]
  by_cases h:d=t
  .subst h
   by_cases hl:d<fr.length
   .rw [V1 ⟨rfl,hl⟩,eI,List.getElem?_eq_getElem hl];simp
   .rw [V0 (λx=>hl x.2),eI,List.getElem?_eq_none (by omega)];rfl
  .rw [V0 (λx=>h x.1)]
   have e:(t∈d::r)=(t∈r):=by rw[VJ,eq_iff_iff];exact⟨λx=>x.resolve_left λe=>h e.symm,.inr⟩
   simp only[e]
theorem Dr(ds:List Nat)(fr:Fr):lw ds 0 fr=gp ds fr:=by
 apply WO;intro t;rw[<-eI,<-eI,Dp,Dq,VQ]
theorem ry{fr b:Fr}{a i:Act}{ds:List Nat}{L:dr}{vs:Os}(R:Rel fr a)(K:eJ ds a i)(k:Rel b i)(m:gI b L=some vs):Rel (gH L (gp ds fr) vs) i:=by
 have d:b.length=fr.length:=by rw[<-k.size,K.size,R.size]
 refine⟨by rw[Dk,tk,K.size];exact R.size,λt v h=>?_,λt j w v h=>?_⟩
 .rcases Dm m (gp ds fr) (λt v h=>by
    rw[tk,<-d];rw[eI]at h;exact (List.getElem?_eq_some_iff.1 h).1) t v h with h1|⟨h1,_⟩
  .exact k.pv _ _ h1
  .rcases vA h1 with c|⟨c,n⟩
   .cases c
   .rw [K.same t n];exact R.pv _ _ c
 .have key:∀(L:dr) (f:Fr) (vs:Os),(∀t j w v,aT f t≠some (.g j w v))->∀t j w v,aT (gH L f vs) t≠some (.g j w v):=by
   intro L
   induction L with
   | nil=>intro f vs e t j w v;cases vs <;> exact e t j w v
   | cons x r ih=>
    intro f vs e t j w v;obtain⟨u,s⟩:=x
    cases vs with
    | nil=>exact e t j w v
    | cons v' vs=>
     simp only[gH];refine ih _ vs (λt j w v h=>?_) t j w v
     rw[l9]at h
     split at h
     .cases h
     .exact e t j w v h
  refine key L _ vs (λt j w v h=>?_) t j w v h
  rcases vA h with c|⟨c,_⟩
  .cases c
  .exact R.ng _ _ _ _ c
def DM.dfr:DM->Deferred
 | .mark r=>{ target:=.collected r,args:=#[] }
 | .fn g cap=>{ target:=.fn (.func g) ⟨cap⟩,args:=#[] }
def nu(M:List DM):List Deferred:=M.map DM.dfr
structure iO(ds:List Nat)(M:List DM)(a a':Act):Prop where
 defers:a'.defers=nu M++a.defers
 size:a'.tmps.size=a.tmps.size
 same:∀t,t∉ds->a'.tmps[t]?=a.tmps[t]?
theorem iO.of{ds:List Nat}{a b:Act}(h:eJ ds a b):iO ds [] a b:=⟨h.defers,h.size,h.same⟩
theorem iO.keep{ds:List Nat}{a b:Act}(h:iO ds [] a b):eJ ds a b:=⟨h.defers,h.size,h.same⟩
theorem iO.trans{ds:List Nat}{M N:List DM}{a b c:Act}(h:iO ds M a b)(k:iO ds N b c):iO ds (N++M) a c:=
 ⟨by rw[k.defers,h.defers];simp[nu],k.size.trans h.size,λt d=>(k.same t d).trans (h.same t d)⟩
theorem iO.mono{ds c:List Nat}{M:List DM}{a b:Act}(h:iO ds M a b)(hs:∀t∈ds,t∈c):iO c M a b:=
 ⟨h.defers,h.size,λt d=>h.same t (λhm=>d (hs t hm))⟩
def Out(w0:World)(a0:Act)(ds:List Nat)(Q:QT):Exit->Act->World->Prop
 | e,a,w=>bW w0 w/\∃M,iO ds M a0 a/\match e with
  | .normal=>∃fr,Rel fr a/\Q .normal fr M w.heap
  | .exit i=>∃fr,Rel fr a/\Q (.exit i) fr M w.heap
  | .ret=>∃fr,Rel fr a/\Q .ret fr M w.heap
  | .panic ch=>∃fr,Rel fr a/\Q (.panic ch) fr M w.heap
  | _=>False
theorem rel_kill{fr:Fr}{a c:Act}{ds:List Nat}(R:Rel fr a)(K:eJ ds a c):Rel (gp ds fr) c:=by
 refine⟨by rw[tk,K.size];exact R.size,λt v h=>?_,λt j w v h=>?_⟩
 .rcases vA h with b|⟨b,d⟩
  .cases b
  .rw [K.same t d];exact R.pv _ _ b
 .rcases vA h with b|⟨b,_⟩
  .cases b
  .exact R.ng _ _ _ _ b
theorem Ds{X:Ctx}(hm:X.P.follows .mixedOrders=true)(G:∀f,bJ f X.calls=true->gG X.P f){id:Nat}{ops:Array Oper}{d:Bool}{K:Fr->List DM->aD->Prop}{fr:Fr}{w0 w:World}{a:Act}{ro:Option Nat}
  (R:Rel fr a) (F:bW w0 w) (y:oL X ops d=true) (h:ru X ro.isNone ops d K fr w.heap):(Code.region id ops d).wpIn (FR ro) 0 X.P (λe k s=>bW w0 s/\match e with
   | .normal=>∃M,iO (hZ ops.toList) M a k/\∃c,Rel c k/\K c M s.heap
   | .panic ch=>∃v,ch=[{ v,recovered:=false }]/\eJ (hZ ops.toList) a k/\X.kp v s.heap
   | _=>False) a w:=by
 have m:∀(b:Act) (o:Oper) (v:Value),o∈ops.toList->eJ (hZ ops.toList) a b->eJ (hZ ops.toList) a (b.put o.dst v):=
  λb o v I J=>J.put (λt O=>Dn _ o t I O) v
 cases d with
 | false=>
  refine wpIn_region_list ?_;refine rr (Inv:=eJ (hZ ops.toList) a) G m (λc k s n i u A=>⟨n,[],.of A,c,i,u⟩) (λc k s g cap _ n i u A=>⟨n,_,⟨?_,A.size,A.same⟩,c,⟨i.size,i.pv,i.ng⟩,u⟩)
   (λv k s n i u=>⟨n,v,rfl,i,u⟩) ops.toList [] [] fr a w (λ_ h=>h) (eJ.refl _ _) (rq R) F h
  simp[nu,DM.dfr,A.defers]
 | true=>
  simp only[ru]at h;simp only[oL,V7]at y;obtain⟨hs,B,C⟩:=y;refine wpIn_region_any hm ?_;have D:bW w0 { heap:=w.heap,tape:=w.tape,drawn:=w.drawn+1,os:=w.os,output:=w.output }:=F.trans ⟨rfl,rfl,rfl⟩;refine vo (w0:=w0) (KP:=X.kp) (isW:=isWB X ops) (bf:=bfB (jK ops.toList [])) (Q:=λk H=>(∃c,Rel c k/\K c [] H)/\eJ (hZ ops.toList) a k) (λk s n i=>?_)
   (Cx B) (Inv:=eJ (hZ ops.toList) a) m (λv k s n i u=>⟨n,v,rfl,i,u⟩) _ [] _ _ _ D (eJ.refl _ _) ?_
  .exact⟨n,[],.of i.2,i.1⟩
  .refine vy G hs m _ _ [] [] [] fr _ a ?_ (λx S=>by cases S) (rq R) (eJ.refl _ _) C h
   intro j T L N;exfalso
   rcases VV j ops.size with E|E
   .simp [E]at N
   .simp [Array.getElem?_eq_none E]at L
theorem y7{L:dr}{ds:List Nat}{fr:Fr}{rest:Fr->aD->Prop}{body:(Fr->aD->Prop)->Prop}(h:qf L ds fr rest body) :
  ∃J:Fr->aD->Prop,body J/\∀b H,J b H->∃a,gI b L=some a/\rest (gH L (gp ds fr) a) H:=by
 unfold qf at h;obtain⟨i,h⟩:=rp h;have d:nt L (gp ds fr).length=true:=by rw[tk];simpa using i
 refine⟨_,h (lamJ L λa=>rest (gH L (gp ds fr) a)) ?_,λb H e=>?_⟩
 .rw [lv,Dr,y4];intro a f n c;unfold jI;rw[qe L _ _ a (tj L _ a d f),y6 L _ a f];exact c
 .unfold jI at e
  cases ha:lu L (lamJ L λa=>rest (gH L (gp ds fr) a)) b with
  | none=>rw[ha]at e;exact e.elim
  | some p=>
   rw[ha]at e;obtain⟨a,k,j,m⟩:=y5 L _ b p ha;rw[y6 L _ a m]at j
   cases j
   exact⟨a,k,e⟩
def frOf(a:Act):Fr:=a.tmps.toList.map .p
theorem Dt:∀{L:dr} {fr:Fr} {a:Act} {vs:Os},Rel fr a->gI fr L=some vs->gI (frOf a) L=some vs
 | [],_,_,_,_,h=>h
 | (t,s)::r,fr,a,vs,R,h=>by
  simp only[gI]at h ⊢
  cases hg:iK fr t with
  | none=>simp[hg]at h
  | some v=>cases hr:gI fr r with
   | none=>simp[hg,hr]at h
   | some vs'=>
    simp only[hg,hr,Option.some.injEq]at h;subst h;have b:aT fr t=some (.p v):=by
     unfold iK at hg
     split at hg
     .rename_i w c;cases hg;exact c
     .cases hg
    have d:=R.pv _ _ b;have:iK (frOf a) t=some v:=by
     unfold iK frOf;rw[yx,eI,Array.getElem?_toList,d];rfl
    rw[this,Dt R hr]
theorem Du:∀{ss:List Sh} {Q:Os->Prop},pI ss Q->∃a,a.length=ss.length/\Q a
 | [],_,h=>⟨[],rfl,h⟩
 | s::r,Q,h=>by
  simp only[pI]at h;obtain⟨v,c⟩:=oJ h;obtain⟨a,b,d⟩:=Du (ss:=r) c;exact⟨v::a,by simp[b],d⟩
theorem Dv:∀(ps:List Tmp) (vs:Os) (fr:Fr) (a:Act),Rel fr a->Rel (vz fr ps vs) { tmps:=(ps.zip vs).foldl (λt p=>t.setIfInBounds p.1 p.2) a.tmps,defers:=[] }
 | [],vs,fr,a,R=>⟨R.size,R.pv,R.ng⟩
 | t::ps,[],fr,a,R=>⟨R.size,R.pv,R.ng⟩
 | t::ps,v::vs,fr,a,R=>by
  simp only[vz,List.zip_cons_cons,List.foldl_cons];refine Dv ps vs (iq fr t (.p v)) { tmps:=a.tmps.setIfInBounds t v,defers:=[] } ⟨by simp[qd,R.size],λu x h=>?_,λu j w x h=>?_⟩
  .rw [l9]at h
   split at h
   .rename_i c;obtain⟨rfl,b⟩:=c
    cases h
    rw[Array.getElem?_setIfInBounds,V1 rfl,V1 (by rw[R.size];exact b)]
   .rename_i c;have d:=R.pv u x h
    by_cases e:t=u
    .subst e;exfalso;exact c ⟨rfl,by rw[eI]at h;exact (List.getElem?_eq_some_iff.1 h).1⟩
    .rw [Array.getElem?_setIfInBounds,V0 e];exact d
  .rw [l9]at h
   split at h
   .cases h
   .exact R.ng _ _ _ _ h
theorem Dw{X:Ctx}{ops:Array Oper}{ds:List Nat}{fr:Fr}{Q:QT}:∀l,l8 (X.kq ds fr Q) ops l=l8 X ops l
 | []=>rfl
 | i::r=>by
  unfold l8;rw[Dw r];rfl
theorem Dx{X:Ctx}{ops:Array Oper}{ds:List Nat}{fr:Fr}{Q:QT}:∀n l,oK (X.kq ds fr Q) ops n l=oK X ops n l
 | 0,_=>rfl
 | n+1,l=>by
  unfold oK;simp only[Dw,Dx n]
theorem Dy{X:Ctx}{ops:Array Oper}{d:Bool}{ds:List Nat}{fr:Fr}{Q:QT}(h:oL X ops d=true):oL (X.kq ds fr Q) ops d=true:=by
 unfold oL at h ⊢;simp only[Dx];exact h
theorem Dz{X:Ctx}{ops:Array Oper}{d:Bool}{ds:List Nat}{fr:Fr}{Q:QT}{C:Ctx->Prop}(h:regQ X ds fr Q C)(a:oL X ops d=true) :
  ∃Y:Ctx,Y.P=X.P/\Y.calls=X.calls/\oL Y ops d=true/\(∀v H,Y.kp v H->(X.kq ds fr Q).kp v H)/\C Y:=by
 unfold regQ at h
 split at h
 .exact⟨X.np,rfl,rfl,Dy (X:=X) (ds:=[]) (fr:=[]) (Q:=λ_ _ _ _=>False) a,λ_ _ h=>h.elim,h⟩
 .exact⟨X.kq ds fr Q,rfl,rfl,Dy a,λ_ _ h=>h,h⟩
theorem and_l{a b:Bool}(h:(a&&b)=true):a=true:=by cases a <;> simp_all
theorem and_r{a b:Bool}(h:(a&&b)=true):b=true:=by cases a <;> simp_all
theorem D1{X:Ctx}(hm:X.P.follows .mixedOrders=true)(hX:∀f,bJ f X.calls=true->gG X.P f):∀(c:Code) (w0:World) (ro:Option Nat) (an:Ann) (Q:QT) (fr:Fr) (a:Act) (w:World),okC X c=true->
  Rel fr a->bW w0 w->fu X ro c an Q fr w.heap->c.wpIn (FR ro) 0 X.P (Out w0 a (fW c) Q) a w:=by
 intro c
 induction c with
 | skip=>intro w0 ro an Q fr a w m R E h;cases an <;> exact wpIn_skip ⟨E,[],.of (eJ.refl _ _),fr,R,h⟩
 | exit id=>intro w0 ro an Q fr a w m R E h;cases an <;> cases ro <;> exact wpIn_exit ⟨E,[],.of (eJ.refl _ _),fr,R,h⟩
 | ret=>intro w0 ro an Q fr a w m R E h;cases an <;> cases ro <;> exact wpIn_ret ⟨E,[],.of (eJ.refl _ _),fr,R,h⟩
 | region id ops d=>
  intro w0 ro an Q fr a w m R E h;have u8:∀(ch:List PanicEntry) (D:Act) (G:World),bW w0 G->(∃v,ch=[{ v,recovered:=false }]/\eJ (hZ ops.toList) a D/\(X.kq (hZ ops.toList) fr Q).kp v G.heap)->Out w0 a (fW (.region id ops d)) Q (.panic ch) D G:=by
   rintro ch D G A ⟨v,rfl,u,k⟩;exact⟨A,[],.of u,_,rel_kill R u,k⟩
  cases an with
  | reg=>
   have h:regQ X (hZ ops.toList) fr Q λY=>ru Y ro.isNone ops d (norQ Q) fr w.heap:=by cases ro <;> exact h
   obtain⟨Y,eP,eC,l6,y3,h⟩:=Dz h m;rw[<-eP]at hm hX ⊢;rw[<-eC]at hX;refine wpIn_mono (Ds (X:=Y) (ro:=ro) hm hX R E l6 (K:=norQ Q) h) (λe D G O=>?_)
   obtain⟨A,u⟩:=O
   cases e with
   | normal=>obtain⟨M,u,k⟩:=u;exact⟨A,M,u,k⟩
   | panic ch=>obtain⟨v,q1,q2,q3⟩:=u;exact u8 ch D G A ⟨v,q1,q2,y3 _ _ q3⟩
   | _=>exact u.elim
  | regJ L=>
   have h:qf L (hZ ops.toList) fr (λj Z=>Q .normal j [] Z) λJ=>regQ X (hZ ops.toList) fr Q λY=>ru Y ro.isNone ops d (λj M Z=>ky M (J j Z)) fr w.heap:=by cases ro <;> exact h
   obtain⟨J,A,u⟩:=y7 h;obtain⟨Y,eP,eC,l6,y3,A⟩:=Dz A m;rw[<-eP]at hm hX ⊢;rw[<-eC]at hX;refine wpIn_mono (Ds (X:=Y) (ro:=ro) hm hX R E l6 A) (λe D G O=>?_)
   obtain⟨k,n⟩:=O
   cases e with
   | normal=>
    obtain⟨M,n,j,B,U⟩:=n;obtain⟨rfl,U⟩:=mi.1 U;obtain⟨C,T,h8⟩:=u _ _ U;exact⟨k,[],n,_,ry R n.keep B T,h8⟩
   | panic ch=>obtain⟨v,q1,q2,q3⟩:=n;exact u8 ch D G k ⟨v,q1,q2,y3 _ _ q3⟩
   | _=>exact n.elim
  | _=>cases ro <;> exact h.elim
 | seq x y ihx ihy=>
  intro w0 ro an Q fr a w m R E h
  cases an with
  | seq N W=>
   have h:fu X ro x N (seqN (λQ' j Z=>fu X ro y W Q' j Z) Q) fr w.heap:=by cases ro <;> exact h
   rw[seqN_eq]at h;refine wpIn_seq (wpIn_mono (ihx w0 ro N _ fr a w (and_l m) R E h) (λe D G O=>?_))
   obtain⟨A,M,u,k⟩:=O;have k1:iO (fW (.seq x y)) M a D:=u.mono (λt ht=>WP _ ht)
   cases e with
   | normal=>
    obtain⟨j,n,B⟩:=k;refine wpIn_mono (ihy w0 ro W _ j D G (and_r m) n A B) (λe' a'' w'' hq'=>?_)
    obtain⟨U,M',T,h8⟩:=hq';exact⟨U,M'++M,k1.trans (T.mono (λt ht=>Yf _ ht)),h8⟩
   | exit i=>exact⟨A,M,k1,k⟩
   | ret=>exact⟨A,M,k1,k⟩
   | panic ch=>exact⟨A,M,k1,k⟩
   | _=>exact k.elim
  | _=>cases ro <;> exact h.elim
 | cond c x y ihx ihy=>
  intro w0 ro an Q fr a w m R E h;have split:∀(V:QT) (N W:Ann) (t:Bool),evG #[] fr [] none c=some (.bool t)->(t=true->fu X ro x N V fr w.heap)->(t=false->fu X ro y W V fr w.heap)->
    (Code.cond c x y).wpIn (FR ro) 0 X.P (Out w0 a (fW (.cond c x y)) V) a w:=by
   intro V N W t ht A u;have hc:a.eval c=.bool t:=oM (rq (ops:=#[]) R) c _ ht trivial;refine wpIn_cond_split hc (λhb=>?_) (λhb=>?_)
   .refine wpIn_mono (ihx w0 ro N V fr a w (and_l m) R E (A hb)) (λe D G O=>?_)
    obtain⟨q1,M,q2,q3⟩:=O;exact⟨q1,M,q2.mono (λt ht=>WP _ ht),q3⟩
   .refine wpIn_mono (ihy w0 ro W V fr a w (and_r m) R E (u hb)) (λe D G O=>?_)
    obtain⟨q1,M,q2,q3⟩:=O;exact⟨q1,M,q2.mono (λt ht=>Yf _ ht),q3⟩
  cases an with
  | cond N W=>
   simp only[fu]at h
   cases he:evG #[] fr [] none c with
   | none=>simp[he]at h
   | some v=>
    cases v <;> simp only[he]at h <;> try exact h.elim
    exact split Q N W _ he h.1 h.2
  | condJ L N W=>
   simp only[fu]at h
   cases he:evG #[] fr [] none c with
   | none=>simp[he]at h
   | some v=>
    cases v <;> simp only[he]at h <;> try exact h.elim
    obtain⟨J,A,u⟩:=y7 h;refine wpIn_mono (split _ N W _ he A.1 A.2) (λe D G O=>?_)
    obtain⟨k,M,n,B⟩:=O
    cases e <;> simp only[joinQ]at B
    case normal=>
     obtain⟨j,U,T⟩:=B;obtain⟨rfl,T⟩:=mi.1 T;obtain⟨C,h8,h9⟩:=u _ _ T;exact⟨k,[],n,_,ry R n.keep U h8,h9⟩
    case exit i=>exact⟨k,M,n,B⟩
    case ret=>exact⟨k,M,n,B⟩
    case panic ch=>exact⟨k,M,n,B⟩
  | _=>cases ro <;> exact h.elim
 | block id x ih=>
  intro w0 ro an Q fr a w m R E h
  cases an with
  | blk N=>
   have h:fu X ro x N (blkQ id Q) fr w.heap:=by cases ro <;> exact h
   refine wpIn_block (wpIn_mono (ih w0 ro N _ fr a w m R E h) (λe D G O=>?_))
   obtain⟨A,M,u,k⟩:=O
   cases e with
   | normal=>exact⟨A,M,u,k⟩
   | exit i=>
    obtain⟨j,n,B⟩:=k;simp only[Exit.inBlock,blkQ,blkJQ]at B ⊢
    by_cases hi:i=id
    .simp only[hi,if_true]at B ⊢;exact⟨A,M,u,j,n,B⟩
    .simp only[hi,if_false]at B ⊢;exact⟨A,M,u,j,n,B⟩
   | ret=>exact⟨A,M,u,k⟩
   | panic ch=>exact⟨A,M,u,k⟩
   | _=>exact k.elim
  | blkJ L N=>
   have h:qf L (fW x) fr (λj Z=>Q .normal j [] Z) λJ=>fu X ro x N (blkJQ id J Q) fr w.heap:=by cases ro <;> exact h
   obtain⟨J,hb,hj⟩:=y7 h;refine wpIn_block (wpIn_mono (ih w0 ro N _ fr a w m R E hb) (λe D G O=>?_))
   obtain⟨A,M,u,k⟩:=O
   cases e with
   | normal=>
    obtain⟨j,n,B⟩:=k;obtain⟨rfl,B⟩:=mi.1 B;obtain⟨C,U,T⟩:=hj _ _ B;exact⟨A,[],u,_,ry R u.keep n U,T⟩
   | exit i=>
    obtain⟨j,n,B⟩:=k;simp only[Exit.inBlock,blkQ,blkJQ]at B ⊢
    by_cases hi:i=id
    .simp only[hi,if_true]at B ⊢;obtain⟨rfl,B⟩:=mi.1 B;obtain⟨C,U,T⟩:=hj _ _ B;exact⟨A,[],u,_,ry R u.keep n U,T⟩
    .simp only[hi,if_false]at B ⊢;exact⟨A,M,u,j,n,B⟩
   | ret=>exact⟨A,M,u,k⟩
   | panic ch=>exact⟨A,M,u,k⟩
   | _=>exact k.elim
  | _=>cases ro <;> exact h.elim
 | loop x ih=>
  intro w0 ro an Q fr a w m R E h
  cases an with
  | loop L N=>
   have h:(if nt L fr.length=false then False else ∃I:JT (aD->Prop) L,∃μ:JT (aD->Nat) L,jI L I fr w.heap/\
    ir (lw (fW x) 0 fr) λfr0=>allJ L fr0 λj=>∀Z,jI L I j Z->fu X ro x N (loopQ L I μ j Z Q) j Z):=by cases ro <;> exact h
   obtain⟨l6,I,μ,h0,F⟩:=rp h;have j1:nt L (gp (fW x) fr).length=true:=by rw[tk];simpa using l6
   rw[lv,Dr,y4]at F;have hfr:∀(j:Fr) (H:aD),jI L I j H->∃C,gI j L=some C/\lA L C=true/\jI L I (gH L (gp (fW x) fr) C) H/\∀H'',natJ L μ (gH L (gp (fW x) fr) C) H''=natJ L μ j H'':=by
    intro j H hh;have hh0:=hh;unfold jI at hh
    cases ha:lu L I j with
    | none=>rw[ha]at hh;exact hh.elim
    | some p=>
     obtain⟨C,A,u,k⟩:=y5 L _ j p ha;refine⟨C,A,k,?_,λH''=>?_⟩
     .unfold jI;rw[qe L _ _ C (tj L _ C j1 k),u];rw[ha]at hh;exact hh
     .unfold natJ;rw[qe L _ _ C (tj L _ C j1 k),qe L _ _ C A]
   have hmu:∀(j:Fr) (D:Act) (C:Os) (H:aD),Rel j D->gI j L=some C->natJ L μ (frOf D) H=natJ L μ j H:=by
    intro j D C H R' hg;unfold natJ;rw[qe L _ _ C (Dt R' hg),qe L _ _ C hg]
   refine wpIn_loop (λD G=>bW w0 G/\eJ (fW x) a D/\∃C,lA L C=true/\Rel (gH L (gp (fW x) fr) C) D/\jI L I (gH L (gp (fW x) fr) C) G.heap)
    (λD G=>natJ L μ (frOf D) G.heap) ?_ ?_
   .obtain⟨C,A,u,k,_⟩:=hfr _ _ h0;exact⟨E,eJ.refl _ _,C,u,ry R (eJ.refl _ _) R A,k⟩
   .rintro D G ⟨A,u,C,k,n,B⟩;refine wpIn_mono (ih w0 ro N _ _ D G m n A (F C k G.heap B)) (λe a'' w'' O=>?_)
    obtain⟨U,M,T,h8⟩:=O
    cases e with
    | normal=>
     obtain⟨fr'',h9,l5⟩:=h8;obtain⟨rfl,l5⟩:=mi.1 l5;obtain⟨l5,h11⟩:=Nu l5;have k2:=u.trans T.keep;obtain⟨vs',h12,h13,h14,h15⟩:=hfr _ _ l5;have h16:=ry R k2 h9 h12;refine⟨⟨U,k2,vs',h13,h16,h14⟩,?_⟩;rw[hmu _ _ _ _ h9 h12,hmu _ _ _ _ n (tj L _ C j1 k)];exact h11
    | exit i=>exact⟨U,M,by have:=(iO.of u).trans T;rwa[Wc]at this,h8⟩
    | ret=>exact⟨U,M,by have:=(iO.of u).trans T;rwa[Wc]at this,h8⟩
    | panic ch=>exact⟨U,M,by have:=(iO.of u).trans T;rwa[Wc]at this,h8⟩
    | _=>exact h8.elim
  | _=>cases ro <;> exact h.elim
 | rangeFunc g ps x y ihx ihy=>
  intro w0 ro an Q fr a w m R E h
  cases ro with
  | some l0=>cases an <;> exact h.elim
  | none=>
   cases an with
   | rng shs js N W=>
    simp only[fu]at h
    split at h
    case h_2=>exact h.elim
    rename_i gf cap hg;obtain⟨j3,hmem,h⟩:=rp h;have j3:shs.length=ps.size:=by
     have:Nat.beq shs.length ps.toList.length=true:=by simpa using j3
     have:=WI this;simpa using this
    have hge:a.eval g=.func (.func gf) #[] ⟨cap⟩:=oM (rq (ops:=#[]) R) g _ hg trivial;show (Code.rangeFunc g ps x y).wpIn Fence.wide 0 X.P _ a w;refine wpIn_rangeFunc ?_;intro fn _;have hcall:=h { state:=.ready,pending:=none,fn:=fn,tmps:=a.tmps,params:=ps,assign:=x,body:=y,defers:=w.heap.size } rfl rfl ?_
    .refine⟨w.heap.size+1,nu [.mark w.heap.size],(w.alloc (.deferred (some []))).alloc (.loop { state:=.ready,pending:=none,fn:=fn,tmps:=a.tmps,params:=ps,assign:=x,body:=y,defers:=w.heap.size }),
      { target:=.fn (.func gf) ⟨cap⟩,args:=#[.func (.yield (w.heap.size+1)) #[] #[]] },((w.alloc (.deferred (some []))).alloc (.loop { state:=.ready,pending:=none,fn:=fn,tmps:=a.tmps,params:=ps,assign:=x,body:=y,defers:=w.heap.size })),gf,#[.func (.yield (w.heap.size+1)) #[] #[]]++⟨cap⟩,((w.alloc (.deferred (some []))).alloc (.loop { state:=.ready,pending:=none,fn:=fn,tmps:=a.tmps,params:=ps,assign:=x,body:=y,defers:=w.heap.size })),run_enterLoop_outer _ _ _ _ _,?_,λ_ _=>trivial,?_,λhd=>(by cases hd),?_⟩
     .simp only[resolve,hge];simp[go_sem]
     .simp only[invoke];rw[tg (hX gf hmem)]
     .refine callsIn_wide.2 ?_;have e1:(#[.func (.yield (w.heap.size+1)) #[] #[]]++⟨cap⟩:Array Value)=⟨.func (.yield (w.heap.size+1)) #[] #[]::cap⟩:=by apply Array.ext';simp
      rw[e1];refine (hcall.at ((w.alloc (.deferred (some []))).alloc (.loop { state:=.ready,pending:=none,fn:=fn,tmps:=a.tmps,params:=ps,assign:=x,body:=y,defers:=w.heap.size })) rfl).mono λe w3 he=>?_
      cases e <;> simp only[Fin]at he
      obtain⟨j2,st,pd,hst,S,hj⟩:=he;refine⟨pd,_,run_endLoop S hst,?_⟩;have hr4:bW w0 (w3.putObj (w.heap.size+1) (.loop { state:=.exhausted,pending:=pd,fn:=fn,tmps:=a.tmps,params:=ps,assign:=x,body:=y,defers:=w.heap.size })):=
       (E.trans (bW.trans (b:=(w.alloc (.deferred (some []))).alloc (.loop { state:=.ready,pending:=none,fn:=fn,tmps:=a.tmps,params:=ps,assign:=x,body:=y,defers:=w.heap.size })) ⟨rfl,rfl,rfl⟩ j2)).trans ⟨rfl,rfl,rfl⟩
      have hk:iO (fW (.rangeFunc g ps x y)) [.mark w.heap.size] a { a with defers:=nu [.mark w.heap.size]++a.defers }:=⟨rfl,rfl,λ_ _=>rfl⟩
      have hR:Rel fr { a with defers:=nu [.mark w.heap.size]++a.defers }:=⟨R.size,R.pv,R.ng⟩;have hjq:∀(js:List (Option Code)) (pd:Option Code) (V:Exit->Prop),jumpK V js pd->jumpQ V pd:=by
       intro js
       induction js with
       | nil=>intro pd V h;exact h.elim
       | cons c r ih=>
        intro pd V h
        cases r with
        | nil=>obtain⟨rfl,h⟩:=h;exact h
        | cons d r=>
         rcases h with ⟨rfl,h⟩|h
         .exact h
         .exact ih pd V h
      have r9:=hjq _ _ _ (hj _ rfl)
      cases pd with
      | none=>exact⟨hr4,[.mark w.heap.size],hk,fr,hR,r9⟩
      | some c=>
       cases c <;> simp only[jumpQ]at r9
       .rename_i i;exact wpIn_exit ⟨hr4,[.mark w.heap.size],hk,fr,hR,r9⟩
       .exact wpIn_ret ⟨hr4,[.mark w.heap.size],hk,fr,hR,r9⟩
    .intro C H1 K1 F;refine .mk λw1 hw1=>?_
     subst hw1;obtain⟨us,hul,rfl,hl1,hx⟩:=Du F;refine⟨fn,_,x,y,run_yield hl1 (by simp[hul,j3]),roundIn_of_wpIn trivial ?_⟩;have hz:(ps.zip ⟨C⟩).foldl (λtmps (t,a)=>tmps.setIfInBounds t a) a.tmps=(ps.toList.zip C).foldl (λt p=>t.setIfInBounds p.1 p.2) a.tmps:=by
      rw[<-Array.foldl_toList,Array.toList_zip]
     refine wpIn_mono (ihx w1 (some (w.heap.size+1)) N _ _ _ w1 (and_l m) (by have:=Dv ps.toList C fr a R;rw[<-hz]at this;exact this) (bW.refl w1) hx) (λe a1 w2 O=>?_)
     obtain⟨hr2,M,hk2,k⟩:=O
     cases e with
     | normal=>
      obtain⟨r0,r8,k⟩:=k;obtain⟨rfl,hl2,hy⟩:=mi.1 k;refine⟨_,run_beginRound hl2 rfl,?_⟩;have hd1:a1.defers=[]:=hk2.defers;refine wpIn_mono (ihy w1 (some (w.heap.size+1)) W _ r0 a1 _ (and_r m) r8 (hr2.trans ⟨rfl,rfl,rfl⟩) (hy _ rfl)) (λe' a2 w3 O=>?_)
      obtain⟨j2,M2,hk3,n⟩:=O
      cases e' with
      | normal=>
       obtain⟨y2,hR2,n⟩:=n;obtain⟨rfl,S,B⟩:=mi.1 n;exact⟨_,_,run_endRound none S,j2.trans ⟨rfl,rfl,rfl⟩,B⟩
      | exit i=>
       obtain⟨y2,hR2,n⟩:=n;obtain⟨rfl,S,B⟩:=mi.1 n;exact⟨_,_,run_endRound (some (.exit i)) S,j2.trans ⟨rfl,rfl,rfl⟩,B⟩
      | ret=>
       obtain⟨y2,hR2,n⟩:=n;obtain⟨rfl,S,B⟩:=mi.1 n;exact⟨_,_,run_endRound (some .ret) S,j2.trans ⟨rfl,rfl,rfl⟩,B⟩
      | panic ch=>
       obtain⟨y2,hR2,n⟩:=n;obtain⟨rfl,S,B⟩:=mi.1 n;exact B.elim
      | _=>exact n.elim
     | exit i=>obtain⟨r0,r8,k⟩:=k;exact k.elim
     | ret=>obtain⟨r0,r8,k⟩:=k;exact k.elim
     | panic ch=>obtain⟨r0,r8,k⟩:=k;exact k.elim
     | _=>exact k.elim
   | _=>exact h.elim
 | scope x=>intro w0 ro an Q fr a w m R E h;cases ro <;> exact h.elim
 | label l=>intro w0 ro an Q fr a w m R E h;cases ro <;> exact h.elim
 | goto l=>intro w0 ro an Q fr a w m R E h;cases ro <;> exact h.elim
 | refuse s=>intro w0 ro an Q fr a w m R E h;cases ro <;> exact h.elim
def oN(args:Os)(n:Nat):Fr:=args.map .p++List.replicate (n-args.length) .x
def kO(X:Ctx)(fr:Fr)(H:aD):List ResultVar->(Os->Prop)->Prop
 | [],k=>k []
 | .tmp t::r,k=>(match iK fr t with|some v=>kO X fr H r λvs=>k (v::vs)|none=>False)
 | .cell a t::r,k=>(match iK fr a with
  | some (.pointer (some ⟨b,off,none⟩))=>(match aggT X.P t with
   | true=>uW X.P t λus=>(if us.length=X.P.cellsOf t then bE H b off us/\kO X fr H r λvs=>k (.agg ⟨us⟩::vs) else False)
   | false=>exT X.P t λu=>aL H b off=some u/\kO X fr H r λvs=>k (u::vs))
  | _=>False)
def qg:Os->Value
 | [v]=>v
 | vs=>.tuple ⟨vs⟩
def cC(P:Program)(g:FuncId)(cap:Os)(u:FrameMode)(H:aD)(K:FrameMode->aD->Prop):Prop:=
 ∀w,w.heap=H->CallsDIn Fence.wide 0 P g ⟨cap⟩ u w λe u' w'=>match e with
  | .returned _=>bW w w'/\K u' w'.heap
  | _=>False
def bi(v:Value)(r:Bool):FrameMode:=.panicking [{ v,recovered:=r }]
def qh(X:Ctx):List DM->aD->(aD->Prop)->Prop
 | [],H,k=>k H
 | .mark D::r,H,k=>H[D]?=some (.deferred (some []))/\qh X r (H.setIfInBounds D (.deferred none)) k
 | .fn g cap::r,H,k=>bJ g X.calls=true/\cC X.P g cap .returning H λu H'=>u=.returning/\qh X r H' k
def panQ(X:Ctx)(v:Value):List DM->aD->(aD->Prop)->(aD->Prop)->Prop
 | [],H,_,kp=>kp H
 | .mark D::r,H,k,kp=>H[D]?=some (.deferred (some []))/\panQ X v r (H.setIfInBounds D (.deferred none)) k kp
 | .fn g cap::r,H,k,_=>bJ g X.calls=true/\cC X.P g cap (bi v false) H λu H'=>u=bi v true/\qh X r H' k
def finQ(X:Ctx)(rs:List ResultVar)(K KP:KE):QT
 | .normal,fr,M,H=>qh X M H λH'=>kO X fr H' rs λvs=>K (qg vs) H'
 | .ret,fr,M,H=>qh X M H λH'=>kO X fr H' rs λvs=>K (qg vs) H'
 | .panic [⟨v,false,false⟩],fr,M,H=>panQ X v M H (λH'=>kO X fr H' rs λvs=>K (qg vs) H') (KP v)
 | _,_,_,_=>False
def tn(X:Ctx)(fn:Func)(an:Ann)(args:Os)(H:aD)(K KP:KE):Prop:=
 match fn.body with
 | some c=>ir (oN args fn.ntmps) λfr=>fu X none c an (finQ X fn.results.toList K KP) fr H
 | none=>False
def vcFun(X:Ctx)(fn:Func)(an:Ann)(args:Os)(H:aD)(K:KE):Prop:=tn X fn an args H K λ_ _=>False
section
variable {X:Ctx}
def rvOf(a:Act):ResultVar->Sem Value
 | .tmp t=>pure (a.tmps.getD t undef)
 | .cell c t=>do loadVar t (<-asAddr (a.tmps.getD c undef))
theorem D2{fr:Fr}{t:Nat}{v:Value}(a:iK fr t=some v):aT fr t=some (.p v):=by
 unfold iK at a
 split at a
 .rename_i w b;cases a;exact b
 .cases a
theorem y8{a:Act}{x:ResultVar}{r:List ResultVar}{v:Value}{vs:Os}{w:World}(c:(rvOf a x).run X.P w=.ok v w)(b:(r.mapM (rvOf a)).run X.P w=.ok vs w) :
  ((x::r).mapM (rvOf a)).run X.P w=.ok (v::vs) w:=by
 simp only[List.mapM_cons,Sem.run_bind,c,b,Result.andThen_ok,Sem.run_pure]
theorem vB{fr:Fr}{a:Act}{w:World}(R:Rel fr a):∀(rs:List ResultVar) (k:Os->Prop),kO X fr w.heap rs k->
  ∃e,k e/\(rs.mapM (rvOf a)).run X.P w=.ok e w
 | [],k,h=>⟨[],h,by simp⟩
 | .tmp t::r,k,h=>by
  simp only[kO]at h
  cases hg:iK fr t with
  | none=>simp[hg]at h
  | some v=>
   simp only[hg]at h;obtain⟨e,f,i⟩:=vB R r _ h;have n:=R.pv _ _ (D2 hg);exact⟨_,f,y8 (by simp[rvOf,n]) i⟩
 | .cell c t::r,k,h=>by
  simp only[kO]at h
  cases hg:iK fr c with
  | none=>simp[hg]at h
  | some v=>
   have n:=R.pv _ _ (D2 hg);simp only[hg]at h
   split at h
   .rename_i b off y
    cases y
    have s:(asAddr (a.tmps.getD c undef)).run X.P w=.ok ⟨b,off,none⟩ w:=by
     rw[Y3,n];rfl
    split at h
    .rename_i d;unfold uW at h
     split at h
     .rename_i x _;obtain⟨D,h⟩:=td (ls:=x) h
      split at h
      .rename_i j;obtain⟨e,f,i⟩:=vB R r _ h.2;have m:=Cp (P:=X.P) d j h.1;simp only[Instr.loadAt,Instr.sureAddr,Sem.run_bind,Sem.run_pure,Result.andThen_ok]at m;exact⟨_,f,y8 (by simp only[rvOf,Sem.run_bind,s,Result.andThen_ok,m]) i⟩
      .exact h.elim
     .exact h.elim
    .rename_i d;have C:=Co h;obtain⟨u,B,A⟩:=pS h;obtain⟨e,f,i⟩:=vB R r _ A;have m:=Cq (P:=X.P) C d B;simp only[Instr.loadAt,Instr.sureAddr,Sem.run_bind,Sem.run_pure,Result.andThen_ok]at m;exact⟨_,f,y8 (by simp only[rvOf,Sem.run_bind,s,Result.andThen_ok,m]) i⟩
   .exact h.elim
theorem D3{fr:Fr}{a:Act}{w:World}(R:Rel fr a)(fn:Func)(k:Value->Prop)(h:kO X fr w.heap fn.results.toList λb=>k (qg b)) :
  ∃v,k v/\(results fn a.tmps).run X.P w=.ok v w:=by
 obtain⟨b,d,c⟩:=vB R _ _ h;refine⟨_,d,?_⟩;have e:results fn a.tmps=(do let l <-fn.results.mapM (rvOf a);pure (if h:l.size=1 then l[0] else .tuple l)):=by
  rfl
 rw[e,Array.mapM_eq_mapM_toList];simp only[Sem.run_bind,Sem.run_map,c,Result.andThen_ok,Sem.run_pure];congr 1
 match b with
 | []=>rfl
 | [v]=>rfl
 | v::u::r=>rfl
theorem D4(args:Os)(n:Nat):Rel (oN args n) { tmps:=(⟨args⟩:Array Value)++Array.replicate (n-(⟨args⟩:Array Value).size) undef,defers:=[] }:=by
 refine⟨by simp[oN],λt v h=>?_,λt j w v h=>?_⟩
 .unfold oN at h;rw[eI]at h
  rcases VV t args.length with a|a
  .rw [List.getElem?_append_left (by simpa using a)]at h;simp[a]at h;subst h;simp[Array.getElem?_append,a]
  .rw [List.getElem?_append_right (by simpa using a)]at h;rw[List.getElem?_replicate]at h
   split at h <;> cases h
 .unfold oN at h;rw[eI]at h
  rcases VV t args.length with a|a
  .rw [List.getElem?_append_left (by simpa using a)]at h;simp[a]at h
  .rw [List.getElem?_append_right (by simpa using a)]at h;rw[List.getElem?_replicate]at h
   split at h <;> cases h
theorem D5{X:Ctx}(a:∀f,bJ f X.calls=true->gG X.P f){g:FuncId}(b:bJ g X.calls=true)(cap:Os)(w:World) :
  (invoke (.fn (.func g) ⟨cap⟩) #[]).run X.P w=.ok (.enter g ⟨cap⟩) w:=by
 simp only[invoke];rw[tg (a g b)];simp
theorem vC{fn:Func}{tmps:Array Value}{R:Ending->World->Prop}{w0:World}{k:aD->Prop}(c:∀f,bJ f X.calls=true->gG X.P f):∀(M:List DM) (w:World),bW w0 w->qh X M w.heap k->
  (∀a,bW w0 a->k a.heap->∃v,(results fn tmps).run X.P a=.ok v a/\R (.returned v) a)->LeavesInM Fence.wide 0 X.P fn tmps R (nu M) .returning w
 | [],w,hr,h,hk=>hk w hr h
 | .mark D::r,w,hr,h,hk=>by
  obtain⟨i,m⟩:=h;refine⟨by simp,.inl ⟨D,_,rfl,run_takeDeferred i,?_⟩⟩;exact vC c r (w.putObj D (.deferred none)) (hr.trans ⟨rfl,rfl,rfl⟩) m hk
 | .fn g cap::r,w,hr,h,hk=>by
  obtain⟨j,h⟩:=h;refine⟨by simp,.inr ⟨λhd=>(by cases hd),.func g,⟨cap⟩,g,⟨cap⟩,rfl,D5 c j cap w,λ_ _=>trivial,?_⟩⟩
  refine (h w rfl).mono λe n a d=>?_
  cases e <;> simp only at d ⊢
  obtain⟨b,rfl,h⟩:=d;exact vC c r a (hr.trans b) h hk
theorem D6{fn:Func}{tmps:Array Value}{R:Ending->World->Prop}{w0:World}{v:Value}{k kp:aD->Prop}(c:∀f,bJ f X.calls=true->gG X.P f):∀(M:List DM) (w:World),bW w0 w->panQ X v M w.heap k kp->
  (∀a,bW w0 a->k a.heap->∃v,(results fn tmps).run X.P a=.ok v a/\R (.returned v) a)->(∀a,bW w0 a->kp a.heap->R (.panicked [{ v,recovered:=false }]) a)->
  LeavesInM Fence.wide 0 X.P fn tmps R (nu M) (.panicking [{ v,recovered:=false }]) w
 | [],w,hr,h,_,hp=>hp w hr h
 | .mark D::r,w,hr,h,hk,hp=>by
  obtain⟨i,m⟩:=h;refine⟨by simp,.inl ⟨D,_,rfl,run_takeDeferred i,?_⟩⟩;exact D6 c r (w.putObj D (.deferred none)) (hr.trans ⟨rfl,rfl,rfl⟩) m hk hp
 | .fn g cap::r,w,hr,h,hk,hp=>by
  obtain⟨j,h⟩:=h;refine⟨by simp,.inr ⟨λhd=>(by cases hd),.func g,⟨cap⟩,g,⟨cap⟩,rfl,D5 c j cap w,λ_ _=>trivial,?_⟩⟩
  refine (h w rfl).mono λe n a d=>?_
  cases e <;> simp only at d ⊢
  obtain⟨b,rfl,h⟩:=d;exact vC c r a (hr.trans b) h hk
theorem finQ_pan{rs:List ResultVar}{K KP:KE}{ch:List PanicEntry}{fr:Fr}{M:List DM}{H:aD}(h:finQ X rs K KP (.panic ch) fr M H) :
  ∃v,ch=[{ v,recovered:=false }]/\panQ X v M H (λa=>kO X fr a rs λb=>K (qg b) a) (KP v):=by
 rcases ch with _|⟨⟨v,r,g⟩,_|⟨_,_⟩⟩
 .exact h.elim
 .cases r <;> cases g <;> first|exact h.elim|exact⟨v,rfl,h⟩
 .cases r <;> cases g <;> exact h.elim
def okF(X:Ctx)(fn:Func):Bool:=match fn.body with|some c=>okC X c|none=>true
theorem D7(hm:X.P.follows .mixedOrders=true)(y:∀f,bJ f X.calls=true->gG X.P f){f:FuncId}{fn:Func}(E:X.P.funcs[f]?=some fn)(an:Ann){args:Os}{H:aD}{K KP:KE}(C:okF X fn=true)
  (h:tn X fn an args H K KP):ni X.P f ⟨args⟩ H K KP:=by
 refine .mk λw I=>?_
 unfold tn at h
 cases hb:fn.body with
 | none=>simp[hb]at h
 | some c=>
  simp only[hb,lv]at h;simp only[okF,hb]at C;subst I;refine callsIn_wide.1 (callsIn_of_wp_marks (F:=Fence.wide) (n:=0) E hb trivial (wpIn_mono (D1 hm y c w none an _ _ _ w C (D4 args fn.ntmps) (bW.refl w) h) (λe j m J=>?_)))
  obtain⟨B,M,G,t⟩:=J;have hd:j.defers=nu M:=by rw[G.defers];simp
  have s:∀a,Rel a j->∀w2,bW w w2->(kO X a w2.heap fn.results.toList λu=>K (qg u) w2.heap)->∃v,(results fn j.tmps).run X.P w2=.ok v w2/\iM w K KP (.returned v) w2:=by
   intro a d w2 k x;obtain⟨v,D,L⟩:=D3 (w:=w2) d fn (λv=>K v w2.heap) x
   exact⟨v,L,k,D⟩
  have fin:∀a,Rel a j->(qh X M m.heap λA=>kO X a A fn.results.toList λu=>K (qg u) A)->LeavesInM Fence.wide 0 X.P fn j.tmps (iM w K KP) j.defers .returning m:=by
   intro a d b;rw[hd];exact vC y M m B b (s a d)
  cases e with
  | normal=>obtain⟨a,d,b⟩:=t;exact fin a d b
  | ret=>obtain⟨a,d,b⟩:=t;exact fin a d b
  | exit i=>obtain⟨a,d,b⟩:=t;exact b.elim
  | panic ch=>
   obtain⟨a,d,b⟩:=t;obtain⟨v,rfl,b⟩:=finQ_pan b
   .show LeavesInM Fence.wide 0 X.P fn j.tmps (iM w K KP) j.defers (.panicking [{ v,recovered:=false }]) m;rw[hd];exact D6 y M m B b (s a d) (λw2 k x=>⟨v,rfl,k,x⟩)
  | _=>exact t.elim
theorem Nv(hm:X.P.follows .mixedOrders=true)(e:∀f,bJ f X.calls=true->gG X.P f){f:FuncId}{fn:Func}(a:X.P.funcs[f]?=some fn)(an:Ann){args:Os}{H:aD}{K:KE}(c:okF X fn=true)
  (h:vcFun X fn an args H K):iL X.P f ⟨args⟩ H K:=
 .mk λw b=>((D7 hm e a an c h).at w b).mono λ_ _ d=>d.fin
theorem D8{P:Program}(c:X.P=P)(hm:X.P.follows .mixedOrders=true)(e:∀f,bJ f X.calls=true->gG X.P f){f:FuncId}{fn:Func}(a:P.funcs[f]?=some fn){an:Ann}{args:Os}{H:aD}{K:KE}{C:Prop}(b:okF X fn=true)
  (d:vcFun X fn an args H K=C) (h:C):iL P f args.toArray H K:=by
 subst c;exact Nv hm e a an b (d▸h)
theorem Nw{P:Program}(c:X.P=P)(hm:X.P.follows .mixedOrders=true)(e:∀f,bJ f X.calls=true->gG X.P f){f:FuncId}{fn:Func}(a:P.funcs[f]?=some fn){an:Ann}{args:Os}{H:aD}{K KP:KE}{C:Prop}(b:okF X fn=true)
  (d:tn X fn an args H K KP=C) (h:C):ni P f args.toArray H K KP:=by
 subst c;exact D7 hm e a an b (d▸h)
def vD(P:Program)(f:FuncId):Bool:=match P.funcs[f]? with|some fn=>!fn.body.isNone && !(fn.name == "runtime.NumGoroutine")|none=>false
theorem Nx{P:Program}{f:FuncId}(h:vD P f=true):gG P f:=by
 unfold vD at h
 split at h
 .rename_i fn a;simp only[V7,VY]at h;exact⟨fn,a,h.1,h.2⟩
 .cases h
theorem memN_all{l:List Nat}{p:Nat->Bool}(h:l.all p=true):∀f,bJ f l=true->p f=true:=by
 induction l with
 | nil=>intro f a;cases a
 | cons m r ih=>
  intro f a;simp only[List.all_cons,V7]at h;simp only[bJ,VN]at a
  rcases a with a|a
  .rw [WI a];exact h.1
  .exact ih h.2 f a
theorem Ny{P:Program}{l:List Nat}(h:l.all (vD P)=true):∀f,bJ f l=true->gG P f:=λf a=>Nx (memN_all h f a)
theorem iL.mono{P:Program}{f:FuncId}{args:Array Value}{H:aD}{K b:KE}(h:iL P f args H K)(i:∀v c,K v c->b v c):iL P f args H b:=
 .mk λw d=>(h.at w d).mono λe j a=>by
  cases e <;> simp only[Fin]at a ⊢
  exact⟨a.1,i _ _ a.2⟩
end
def vE(op:Op):Bool:=match op with|.call cl=>(match cl.callee with|.builtin .recover=>true|_=>false)|_=>false
def defK(K:aD->Prop):QT
 | .normal,_,M,H=>ky M (K H)
 | .ret,_,M,H=>ky M (K H)
 | _,_,_,_=>False
def vcDef(X:Ctx)(fn:Func)(an:Ann)(args:Os)(rv:Value)(H:aD)(K:aD->Prop):Prop:=
 match fn.body with
 | some (.seq (.region _ ops false) b)=>(match ops.toList,an,fn.results.toList with
  | o::r,.seq .reg y,[]=>(match o.guard,o.dst with
   | none,some t=>if vE o.op=false then False else
     l7 (X.kq [] [] λ_ _ _ _=>False) ops true (λfr' M H'=>ky M (fu X none b y (defK K) fr' H')) r [] [] (iq (oN args fn.ntmps) t (.p rv)) H
   | _,_=>False)
  | _,_,_=>False)
 | _=>False
section
variable {X:Ctx}
theorem Nz{P:Program}{o:Oper}{ρ:Operand->Value}{w:World}(h:vE o.op=true):(execOp ρ o).run P w=.ok .recover w:=by
 unfold vE at h
 split at h
 .rename_i cl a
  split at h
  .rename_i b;simp[execOp,a,resolve,b,invoke,builtin]
  .cases h
 .cases h
theorem N0(hm:X.P.follows .mixedOrders=true)(hX:∀f,bJ f X.calls=true->gG X.P f){f:FuncId}{fn:Func}(hf:X.P.funcs[f]?=some fn)(an:Ann){args:Os}{x:Value}{u J:FrameMode}{H:aD}{K:aD->Prop}
  (hu:(u=.returning/\x=.nilIface/\J=.returning)\/(u=bi x false/\J=bi x true))
  (n:okF X fn=true) (h:vcDef X fn an args x H K):cC X.P f args u H λL H'=>L=J/\K H':=by
 intro w hw;subst hw;unfold vcDef at h
 split at h
 case h_2=>exact h.elim
 rename_i id ops b hb;have l0:okC X b=true:=by simp only[okF,hb,okC]at n;exact and_r n
 split at h
 case h_2=>exact h.elim
 rename_i o r y D h8
 split at h
 case h_2=>exact h.elim
 rename_i t hg hd;obtain⟨I,h⟩:=rp h;have I:vE o.op=true:=by simpa using I
 refine callsDIn_of_wpSIn hf hb trivial λC cs U=>wpSIn_seq ?_
 intro bf k u8 Y hF A;have h0:ops[0]?=some o:=by
  have:ops.toList[0]?=some o:=by rw[D];rfl
  simpa using this
 have j3:ops.size=r.length+1:=by rw[<-W5,D];rfl
 have N:List.range ops.size=0::List.range' 1 r.length:=by rw[j3,List.range_eq_range',List.range'_succ]
 have l6:∀a:Act,Region.wanted o (yielded ops a.tmps)=true:=λa=>by simp[Region.wanted,hg]
 generalize ha:({ tmps:=(⟨args⟩:Array Value)++Array.replicate (fn.ntmps-(⟨args⟩:Array Value).size) undef,defers:=[] }:Act)=a at *;have R0:Rel (oN args fn.ntmps) a:=by rw[<-ha];exact D4 args fn.ntmps
 have l5:a.defers=[]:=by rw[<-ha]
 have Q:(a.put o.dst x).tmps=a.tmps.setIfInBounds t x:=by rw[hd,rj]
 have R1:Rel (iq (oN args fn.ntmps) t (.p x)) (a.put o.dst x):=by
  refine⟨by rw[Q,qd,Array.size_setIfInBounds];exact R0.size,λm v F=>?_,λm j E v F=>?_⟩
  .rw [l9]at F;rw[Q,Array.getElem?_setIfInBounds,R0.size]
   split at F
   .rename_i hc;cases F;rw[V1 hc.1,V1 hc.2]
   .rename_i hc
    by_cases e:t=m
    .subst e;exfalso;exact hc ⟨rfl,by rw[eI]at F;exact (List.getElem?_eq_some_iff.1 F).1⟩
    .rw [V0 e];exact R0.pv _ _ F
  .rw [l9]at F
   split at F
   .cases F
   .exact R0.ng _ _ _ _ F
 have W:wpListIn (FR none) 0 X.P ops (λe s E=>e=.normal/\bW w E/\s.defers=[]/\∃c,Rel c s/\fu X none b y (defK K) c E.heap) r (a.put o.dst x) w:=by
  refine rr (X:=X.kq [] [] λ_ _ _ _=>False) (ro:=none) (w0:=w) (Inv:=λs=>s.defers=[]) hX (λs o' v _ j1=>?_) (λc s E h1 h2 h3 h4=>?_) (λc s E g cap _ h1 h2 h3 h4=>h3.elim) (λv s E _ _ n=>n.elim)
   r [] [] _ _ w (λo' h9=>by rw[D];exact VL _ h9) ?_ (rq R1) (bW.refl w) h
  .cases o'.dst <;> exact j1
  .exact⟨rfl,h1,h4,c,h2,h3⟩
  .rw [hd];exact l5
 have O:wpOpsIn Fence.wide 0 X.P ops (λe s E=>e=.normal/\bW w E/\s.defers=[]/\∃c,Rel c s/\fu X none b y (defK K) c E.heap) (List.range' 1 r.length) (a.put o.dst x) w:=by
  rw[wpOpsIn_eq_wpListIn r 1 (λj=>by rw[<-Array.getElem?_toList,D,Ye];rfl)]
  exact W
 obtain⟨T,Z,R⟩:∃T,T={ C with mode:=J }::cs/\step X.P (lone (bf.atR a (.inRegion ops (0::List.range' 1 r.length)::k)) (C::cs) w)=.next (lone (bf.atR (a.put o.dst x) (.inRegion ops (List.range' 1 r.length)::k)) T w):=by
  refine⟨_,rfl,step_lone_go ?_⟩;have h5:=stepGR_op (P:=X.P) (b:=bf) (k:=k) (cs:=C::cs) (w:=w) (rest:=List.range' 1 r.length) h0 (l6 a);rw[Y,Oper.semAt_none]at h5;have h7:(bf.atR a (.inRegion ops (0::List.range' 1 r.length)::k)).finish x=bf.atR (a.put o.dst x) (.inRegion ops (List.range' 1 r.length)::k):=by
   rw[Frame.finish_atR,h0];rfl
  have hr:=Nz (P:=X.P) (ρ:=a.eval) (w:=w) I;have G:=tryRecover_deferred (fr:=bf.atR a (.inRegion ops (0::List.range' 1 r.length)::k)) u8 (C::cs);rw[h5,<-h7];simp only[Frame.atR,Y]at G ⊢
  rcases hu with ⟨rfl,rfl,rfl⟩|⟨rfl,rfl⟩
  .have V:recoverD (C::cs)=none:=by simp[recoverD,U]
   rw[V]at G;have r8:({ C with mode:=FrameMode.returning }:Frame)=C:=by rw[<-U]
   simp[stepG.apply,hr,G,r8]
  .have V:recoverD (C::cs)=some (x,{ C with mode:=bi x true }::cs):=by simp[recoverD,U,bi]
   rw[V]at G;simp[stepG.apply,hr,G]
 subst Z;obtain⟨e,s,E,⟨rfl,r9,j2,c,r0,S⟩,h6⟩:=wp_opsIn _ _ _ O bf k ({ C with mode:=J }::cs) Y hF A;refine⟨.normal,s,{ C with mode:=J }::cs,E,rfl,?_,?_⟩
 .show b.wpSIn Fence.wide 0 X.P _ s ({ C with mode:=J }::cs) E;refine wpSIn_of_wpIn rfl (wpIn_mono (D1 hm hX b w none y _ c s E l0 r0 r9 S) λe a2 w2 hq=>?_)
  obtain⟨q1,M,q2,q3⟩:=hq;have fin:∀d,Rel d a2->ky M (K w2.heap)->a2.defers=[]/\∃L,({ C with mode:=J }::cs:List Frame)={ C with mode:=L }::cs/\∃v,(results fn a2.tmps).run X.P w2=.ok v w2/\(bW w w2/\L=J/\K w2.heap):=by
   intro d B n;obtain⟨rfl,n⟩:=mi.1 n;refine⟨by rw[q2.defers];simpa[nu] using j2,J,rfl,?_⟩;obtain⟨v,_,F⟩:=D3 (X:=X) (w:=w2) B fn (λ_=>True) (by rw[h8];trivial)
   exact⟨v,F,q1,rfl,n⟩
  cases e with
  | normal=>obtain⟨d,B,n⟩:=q3;exact fin d B n
  | ret=>obtain⟨d,B,n⟩:=q3;exact fin d B n
  | exit i=>obtain⟨d,B,n⟩:=q3;exact n.elim
  | panic ch=>obtain⟨d,B,n⟩:=q3;exact n.elim
  | _=>exact q3.elim
 .refine .of_steps (.one (fenced_calm hF A rfl) stepR_region) ?_;rw[N];refine .of_steps (.one ?_ R) h6;exact fenced_oper hF A h0 (λ_ _=>trivial)
theorem y9{P:Program}(k:X.P=P)(hm:X.P.follows .mixedOrders=true)(n:∀f,bJ f X.calls=true->gG X.P f){f:FuncId}{fn:Func}(e:P.funcs[f]?=some fn){an:Ann}{args:Os}{a:Value}{u b:FrameMode}{H:aD}{K:aD->Prop}{C:Prop}
  (j:(u=.returning/\a=.nilIface/\b=.returning)\/(u=bi a false/\b=bi a true))
  (m:vcDef X fn an args a H K=C) (h:C) (i:okF X fn=true:=by kernel_rfl):cC P f args u H λc d=>c=b/\K d:=by
 subst k;exact N0 hm n e an j i (m▸h)
end
structure LOut where
 n:Nat
 ret:Nat
 ex:List (Nat×Nat)
def nv:Code->List Oper
 | .region _ ops _=>ops.toList
 | .seq a b=>nv a++nv b
 | .cond _ a b=>nv a++nv b
 | .block _ a=>nv a
 | .loop a=>nv a
 | .rangeFunc _ _ a b=>nv a++nv b
 | _=>[]
def extSh(P:Program)(d i:Nat):List Oper->Sh
 | []=>.one .raw
 | o::r=>match o.op with
  | .extract (.tmp t) j=>(match Nat.beq t d&&Nat.beq i j with|true=>(match pL P o.type with|some s=>s|none=>.one .raw)|false=>extSh P d i r)
  | _=>extSh P d i r
def yA(P:Program)(all:List Oper):List Oper->List (Nat×Sh×Sh)
 | []=>[]
 | o::r=>match o.op,o.dst with
  | .entry _,some d=>(d,extSh P d 0 all,extSh P d 1 all)::yA P all r
  | _,_=>yA P all r
def nxF(X:Ctx)(fn:Func):Ctx:=X.nx (match fn.body with|some c=>yA X.P (nv c) (nv c)|none=>[])
def okAt(X:Ctx)(f:FuncId):Bool:=match X.P.funcs[f]? with|some fn=>okF (nxF X fn) fn|none=>true
theorem D9{X:Ctx}{f:FuncId}(h:okAt X f=true){fn:Func}(a:X.P.funcs[f]?=some fn):okF (nxF X fn) fn=true:=by
 unfold okAt at h;rw[a]at h;exact h
abbrev PH:=Nat->Option Obj
def aE:=PH->Prop
def eW(a b:PH):PH:=λi=>match a i with|some o=>some o|none=>b i
def phDisj(a b:PH):Prop:=∀i,a i=none\/b i=none
def aE.sep(A B:aE):aE:=λh=>∃a b,phDisj a b/\h=eW a b/\A a/\B b
instance:Mul aE:=⟨aE.sep⟩
def qi:PH:=λ_=>none
def emp:aE:=λh=>h=qi
def pt(b:Nat)(o:Obj):aE:=λh=>h=λi=>if i=b then some o else none
def pur(p:Prop):aE:=λh=>p/\h=qi
def exS{α:Type}(A:α->aE):aE:=λh=>∃x,A x h
def old(H0:aD):aE:=λh=>h=λi=>H0[i]?
def aQ(H:aD)(A:aE):Prop:=∃h:PH,(∀i o,h i=some o->H[i]?=some o)/\A h
theorem DV{a b:PH}(h:phDisj a b):eW a b=eW b a:=by
 funext i;simp only[eW]
 rcases h i with h|h <;> simp only[h] <;> split <;> simp_all
theorem rz(A B:aE):A*B=B*A:=by
 funext h;apply propext
 constructor
 .rintro⟨a,b,hd,rfl,ha,hb⟩;exact⟨b,a,λi=>(hd i).symm,DV hd,hb,ha⟩
 .rintro⟨a,b,hd,rfl,ha,hb⟩;exact⟨b,a,λi=>(hd i).symm,DV hd,hb,ha⟩
theorem DW(a b c:PH):eW (eW a b) c=eW a (eW b c):=by
 funext i;simp only[eW]
 cases a i <;> simp
theorem ju(A B C:aE):A*B*C=A*(B*C):=by
 funext h;apply propext
 constructor
 .rintro⟨ab,c,hd,rfl,⟨a,b,hd',rfl,ha,hb⟩,hc⟩;refine⟨a,eW b c,λi=>?_,DW a b c,ha,b,c,λi=>?_,rfl,hb,hc⟩
  .simp only[eW]
   rcases hd' i with h|h
   .exact .inl h
   .rcases hd i with d|d
    .simp only[eW]at d
     cases ha:a i with
     | none=>exact .inl rfl
     | some o=>simp[ha]at d
    .right;simp[h,d]
  .rcases hd i with d|d
   .simp only[eW]at d
    cases ha:a i with
    | none=>simp[ha]at d;exact .inl d
    | some o=>simp[ha]at d
   .exact .inr d
 .rintro⟨a,bc,hd,rfl,ha,b,c,hd',rfl,hb,hc⟩;refine⟨eW a b,c,λi=>?_,(DW a b c).symm,⟨a,b,λi=>?_,rfl,ha,hb⟩,hc⟩
  .rcases hd i with d|d
   .simp only[eW,d];exact hd' i
   .simp only[eW]at d
    cases hb:b i with
    | none=>simp[hb]at d;exact .inr d
    | some o=>simp[hb]at d
  .rcases hd i with d|d
   .exact .inl d
   .simp only[eW]at d
    cases hb:b i with
    | none=>exact .inr rfl
    | some o=>simp[hb]at d
instance:Std.Commutative (α:=aE) (·*·):=⟨rz⟩
instance:Std.Associative (α:=aE) (·*·):=⟨ju⟩
theorem vF(A B C:aE):A*(B*C)=B*(A*C):=by rw[<-ju,rz A B,ju]
theorem tp(h:PH):eW qi h=h:=by funext i;rfl
theorem oO(A:aE):emp*A=A:=by
 funext h;apply propext
 constructor
 .rintro⟨a,b,hd,rfl,ha,hb⟩;have:a=qi:=ha;subst this;rw[tp];exact hb
 .intro c;exact⟨qi,h,λi=>.inl rfl,(tp h).symm,rfl,c⟩
theorem vG(A:aE):A*emp=A:=by rw[rz,oO]
theorem yB(p:Prop)(A:aE)(h:PH):(pur p*A) h↔p/\A h:=by
 constructor
 .rintro⟨a,b,hd,rfl,⟨hp,rfl⟩,hb⟩;rw[tp];exact⟨hp,hb⟩
 .rintro⟨hp,hA⟩;exact⟨qi,h,λi=>.inl rfl,(tp h).symm,⟨hp,rfl⟩,hA⟩
theorem exS_sep{α:Type}(A:α->aE)(B:aE):exS A*B=exS λx=>A x*B:=by
 funext h;apply propext
 constructor
 .rintro⟨a,b,hd,rfl,⟨x,ha⟩,hb⟩;exact⟨x,a,b,hd,rfl,ha,hb⟩
 .rintro⟨x,a,b,hd,rfl,ha,hb⟩;exact⟨a,b,hd,rfl,⟨x,ha⟩,hb⟩
section
variable {H:aD}{A B F:aE}
theorem aQ.eq(h:aQ H A)(a:A=B):aQ H B:=a▸h
theorem aQ.drop(h:aQ H (A*B)):aQ H A:=by
 obtain⟨g,c,a,b,hd,rfl,d,hb⟩:=h;exact⟨a,λi o e=>c i o (by simp[eW,e]),d⟩
theorem aQ.drop'(h:aQ H (A*B)):aQ H B:=by rw[rz]at h;exact h.drop
theorem aQ.frame(h:aQ H (A*F))(c:∀h,A h->B h):aQ H (B*F):=by
 obtain⟨g,d,a,b,hd,f,e,hb⟩:=h;exact⟨g,d,a,b,hd,f,c _ e,hb⟩
theorem sat_ex{α:Type}{A:α->aE}:aQ H (exS A)↔∃x,aQ H (A x):=
 ⟨λ⟨g,a,x,b⟩=>⟨x,g,a,b⟩,λ⟨x,g,a,b⟩=>⟨g,a,x,b⟩⟩
theorem sat_exs{α:Type}{A:α->aE}:aQ H (exS A*F)↔∃x,aQ H (A x*F):=by rw[exS_sep,sat_ex]
theorem vH{p:Prop}:aQ H (pur p*A)↔p/\aQ H A:=
 ⟨λ⟨g,b,a⟩=>⟨((yB p A g).1 a).1,g,b,((yB p A g).1 a).2⟩,λ⟨c,g,b,a⟩=>⟨g,b,(yB p A g).2 ⟨c,a⟩⟩⟩
theorem aQ.get{b:Nat}{o:Obj}(h:aQ H (pt b o*F)):H[b]?=some o:=by
 obtain⟨g,d,a,c,hd,rfl,e,f⟩:=h;refine d b o ?_;have:a=_:=e;subst this;simp[eW]
theorem aQ.upd{b:Nat}{o j:Obj}{e:aD}(h:aQ H (pt b o*F))(hb:e[b]?=some j)(n:∀i,i≠b->e[i]?=H[i]?):aQ e (pt b j*F):=by
 obtain⟨g,k,a,c,hd,rfl,m,s⟩:=h;have:a=_:=m;subst this;have f:c b=none:=by
  rcases hd b with h|h
  .simp at h
  .exact h
 refine⟨eW (λi=>if i=b then some j else none) c,λi o1 d=>?_,_,c,λi=>?_,rfl,rfl,s⟩
 .simp only[eW]at d
  by_cases hi:i=b
  .subst hi;simp at d;subst d;exact hb
  .rw [n i hi];refine k i o1 ?_;simp only[eW,V0 hi]at d ⊢;exact d
 .by_cases hi:i=b
  .subst hi;exact .inr f
  .left;simp[hi]
theorem aQ.push(h:aQ H F)(o:Obj):aQ (H.push o) (pt H.size o*F):=by
 obtain⟨g,d,e⟩:=h;have b:∀i c,g i=some c->i<H.size:=λi c hi=>(Array.getElem?_eq_some_iff.1 (d i c hi)).1
 refine⟨eW (λi=>if i=H.size then some o else none) g,λi o1 a=>?_,_,g,λi=>?_,rfl,rfl,e⟩
 .simp only[eW]at a
  by_cases hi:i=H.size
  .subst hi;simp at a;subst a;simp
  .simp only[V0 hi]at a;have:=b i o1 a;rw[Array.getElem?_push,V0 hi];exact d i o1 a
 .by_cases hi:i=H.size
  .subst hi;right
   cases hg:g H.size with
   | none=>rfl
   | some c=>have:=b _ _ hg;omega
  .left;simp[hi]
theorem aQ.lt{b:Nat}{o:Obj}(h:aQ H (pt b o*F)):b<H.size:=(Array.getElem?_eq_some_iff.1 h.get).1
theorem N1(H:aD):aQ H (old H):=⟨λi=>H[i]?,λ_ _ h=>h,rfl⟩
theorem aQ.was{H0:aD}(h:aQ H (old H0*F)){i:Nat}(hi:i<H0.size):H[i]?=H0[i]?:=by
 obtain⟨g,d,a,c,hd,rfl,e,f⟩:=h;have:a=_:=e;subst this;have b:H0[i]?=some H0[i]:=by simp[hi]
 rw[b];refine d i _ ?_;simp[eW,b]
end
def cellsA(b:Nat)(cs:Os)(e:TypeId):aE:=pt b (.cells cs.toArray e (0,0))
theorem aQ.cell{H:aD}{F:aE}{b:Nat}{cs:Os}{e:TypeId}(h:aQ H (cellsA b cs e*F))(o:Nat):aL H b o=cs[o]?:=by
 have:=h.get;simp[aL,this]
theorem aQ.cell_old{H H0:aD}{F:aE}(h:aQ H (old H0*F)){b o:Nat}{v:Value}(d:aL H0 b o=some v):aL H b o=some v:=by
 have hb:b<H0.size:=by
  unfold aL at d
  rcases VV b H0.size with a|c
  .exact a
  .simp [Array.getElem?_eq_none c]at d
 simp only[aL,h.was hb];exact d
theorem DX{H:aD}{b o:Nat}{v:Value}{cs:Os}{e:TypeId}(h:H[b]?=some (.cells cs.toArray e (0,0))) :
  (iJ H b o v)[b]?=some (.cells (cs.set o v).toArray e (0,0))/\∀i,i≠b->(iJ H b o v)[i]?=H[i]?:=by
 refine⟨?_,λi hi=>?_⟩
 .simp only[iJ,Array.getElem?_modify,if_true,h,We];simp
 .simp only[iJ,Array.getElem?_modify];rw[V0 (λe=>hi e.symm)]
def cv(cs:Os):Nat->Os->Os
 | _,[]=>cs
 | o,v::r=>cv (cs.set o v) (o+1) r
theorem aQ.set1{H:aD}{F:aE}{b:Nat}{cs:Os}{e:TypeId}(h:aQ H (cellsA b cs e*F))(o:Nat)(v:Value):aQ (iJ H b o v) (cellsA b (cs.set o v) e*F):=
 h.upd (DX h.get).1 (DX h.get).2
theorem aQ.sets{H:aD}{F:aE}{b:Nat}{e:TypeId}:∀(vs:Os) {cs:Os} (o:Nat),aQ H (cellsA b cs e*F)->aQ (fM H b o vs) (cellsA b (cv cs o vs) e*F)
 | [],cs,o,h=>h
 | v::r,cs,o,h=>by
  have:=aQ.set1 h o v;simp only[fM,cv];exact aQ.sets r (o+1) this
theorem aQ.can{H:aD}{F:aE}{b:Nat}{cs:Os}{e:TypeId}(h:aQ H (cellsA b cs e*F)):∀(vs:Os) (o:Nat),o+vs.length<=cs.length->eV H b o vs
 | [],_,_=>trivial
 | v::r,o,hl=>by
  simp only[V9]at hl;refine⟨⟨?_,?_⟩,aQ.can h r (o+1) (by omega)⟩
  .rw [h.cell];simp;omega
  .have:=h.get;simp only[lZ,this];simp
def star:List aE->aE
 | []=>emp
 | A::r=>A*star r
def aA(H:aD)(L:List aE):Prop:=aQ H (star L)
def aW:Nat->List aE->aE
 | _,[]=>emp
 | 0,a::_=>a
 | n+1,_::r=>aW n r
def del:Nat->List aE->List aE
 | _,[]=>[]
 | 0,_::r=>r
 | n+1,a::r=>a::del n r
def put:Nat->aE->List aE->List aE
 | _,A,[]=>[A]
 | 0,A,_::r=>A::r
 | n+1,A,a::r=>a::put n A r
def rA:Nat->List aE->List aE
 | 0,L=>L
 | _,[]=>[]
 | n+1,_::r=>rA n r
def ordL(is:List Nat)(L:List aE):List aE:=match is with
 | []=>[]
 | i::r=>aW i L::ordL r L
def ordT(is:List Nat)(n:Nat)(L:List aE):List aE:=match is with
 | []=>rA n L
 | i::r=>aW i L::ordT r n L
theorem vI:∀(i:Nat) (L:List aE),star L=aW i L*star (del i L)
 | _,[]=>by simp[aW,del,star,oO]
 | 0,a::r=>rfl
 | n+1,a::r=>by
  have:=vI n r;simp only[aW,del,star];rw[this,vF]
theorem yC:∀(i:Nat) (A:aE) (L:List aE),star (put i A L)=A*star (del i L)
 | _,A,[]=>by simp[put,del,star]
 | 0,A,a::r=>rfl
 | n+1,A,a::r=>by
  have:=yC n A r;simp only[put,del,star];rw[this,vF]
theorem DY:∀{i j:Nat} (L:List aE),j≠i->aW j (put i emp L)=aW j L
 | i,j,[],h=>by
  cases j with
  | zero=>simp[put,aW]
  | succ n=>simp[put,aW]
 | 0,0,a::r,h=>V2 rfl h
 | 0,j+1,a::r,h=>rfl
 | i+1,0,a::r,h=>rfl
 | i+1,j+1,a::r,h=>by
  simp only[put,aW];exact DY r (by omega)
theorem yD{L L':List aE}:∀{is:List Nat},(∀j∈is,aW j L=aW j L')->ordL is L=ordL is L'
 | [],_=>rfl
 | i::r,h=>by
  simp only[ordL];rw[h i (by simp),yD (is:=r) λj a=>h j (by simp[a])]
theorem yE{H:aD}:∀(is:List Nat) (L:List aE) (F:aE),is.Nodup->aQ H (star L*F)->aQ H (star (ordL is L)*F)
 | [],L,F,_,h=>by
  simp only[ordL,star,oO];exact h.drop'
 | i::is,L,F,hn,h=>by
  rw[WQ]at hn;have e:star L*F=star (put i emp L)*(aW i L*F):=by
   rw[yC,oO,vI i L];rw[rz (aW i L),ju]
  rw[e]at h;have a:=yE is _ _ hn.2 h;rw[yD (L:=put i emp L) (L':=L) (λj b=>DY L (λ(e:j=i)=>hn.1 (by rw[<-e];exact b)))]at a
  simp only[ordL,star];rw[ju,vF];exact a
theorem tq:∀(a b:List aE),star (a++b)=star a*star b
 | [],b=>by simp[star,oO]
 | x::r,b=>by simp only[W7,star];rw[tq r b,ju]
def tr:Nat->List aE->List aE
 | 0,_=>[]
 | _,[]=>[]
 | n+1,a::r=>a::tr n r
theorem DZ:∀(n:Nat) (L:List aE),L=tr n L++rA n L
 | 0,L=>rfl
 | n+1,[]=>rfl
 | n+1,a::r=>by simp only[tr,rA,W7];rw[<-DZ n r]
theorem Ea:∀{n j:Nat} (L:List aE),j<n->aW j (tr n L)=aW j L
 | 0,_,_,h=>V2 h (by omega)
 | n+1,j,[],h=>rfl
 | n+1,0,a::r,h=>rfl
 | n+1,j+1,a::r,h=>by simp only[tr,aW];exact Ea r (by omega)
theorem Eb(n:Nat)(L:List aE):∀(is:List Nat),ordT is n L=ordL is L++rA n L
 | []=>rfl
 | i::r=>by simp only[ordT,ordL,W7];rw[Eb n L r]
section
variable {H:aD}{L:List aE}
theorem aA.foc(h:aA H L)(i:Nat):aQ H (aW i L*star (del i L)):=by unfold aA at h;rw[vI i L]at h;exact h
theorem aA.back{i:Nat}{A:aE}(h:aQ H (A*star (del i L))):aA H (put i A L):=by unfold aA;rw[yC];exact h
theorem aA.ord(h:aA H L)(is:List Nat)(b:is.Nodup):aA H (ordL is L):=by
 have a:=yE is L emp b (by rw[vG];exact h);rw[vG]at a;exact a
theorem aA.ordt(h:aA H L)(is:List Nat)(n:Nat)(b:is.Nodup)(d:∀i∈is,i<n):aA H (ordT is n L):=by
 unfold aA at *;rw[DZ n L,tq]at h;have a:=yE is _ _ b h;rw[Eb,tq];rw[yD (L':=L) λj c=>Ea L (d j c)]at a
 exact a
theorem aA.o{H:aD}{L:List aE}(h:aA H L)(is:List Nat)(n:Nat)(a:is.Nodup:=by decide)(h2:∀i∈is,i<n:=by decide):aA H (ordT is n L):=h.ordt is n a h2
theorem aA.tl{A:aE}(h:aA H (A::L)):aA H L:=aQ.drop' h
theorem aA.consP{p:Prop}(h:aA H (pur p::L)):p/\aA H L:=vH.1 h
theorem aA.pur{p:Prop}(h:aA H L)(a:p):aA H (pur p::L):=vH.2 ⟨a,h⟩
theorem aA.mono{A B:aE}(h:aA H (A::L))(a:∀h,A h->B h):aA H (B::L):=aQ.frame h a
theorem aA.push(h:aA H L)(o:Obj):aA (H.push o) (pt H.size o::L):=aQ.push h o
def dB(H H':aD):Prop:=∀b,b<H.size->H'[b]?=H[b]?
theorem dB.size{H b:aD}(h:dB H b):H.size<=b.size:=by
 rcases VV b.size H.size with a|c
 .have:=h b.size a;simp[a]at this
 .exact c
theorem dB.trans{H c a:aD}(h:dB H c)(d:dB c a):dB H a:=λb hb=>(d b (Nat.lt_of_lt_of_le hb h.size)).trans (h b hb)
theorem dB.push(H:aD)(o:Obj):dB H (H.push o):=λb hb=>by rw[Array.getElem?_push,nO]
theorem aQ.grow{H a:aD}{F:aE}(h:aQ H F)(g:dB H a):aQ a F:=by
 obtain⟨p,b,c⟩:=h;exact⟨p,λi o hi=>(g i (Array.getElem?_eq_some_iff.1 (b i o hi)).1).trans (b i o hi),c⟩
theorem aQ.add{H:aD}{F:aE}{o:Obj}{b n:Nat}(hb:H[b]?=some o)(f:∃H0:aD,H0.size=n/\aQ H0 F/\dB H0 H/\n<=b):aQ H (pt b o*F):=by
 obtain⟨H0,rfl,⟨p,e,j⟩,g,h⟩:=f;have c:∀i d,p i=some d->i<H0.size:=λi d hi=>(Array.getElem?_eq_some_iff.1 (e i d hi)).1
 refine⟨eW (λi=>if i=b then some o else none) p,λi o1 a=>?_,_,p,λi=>?_,rfl,rfl,j⟩
 .simp only[eW]at a
  by_cases hi:i=b
  .subst hi;simp at a;subst a;exact hb
  .simp only[V0 hi]at a;exact (g i (c i o1 a)).trans (e i o1 a)
 .by_cases hi:i=b
  .subst hi;right
   cases hp:p i with
   | none=>rfl
   | some d=>have:=c _ _ hp;omega
  .left;simp[hi]
theorem aA.grow{H a:aD}(h:aA H L)(g:dB H a):aA a L:=aQ.grow h g
theorem aA.new{H a:aD}{b:Nat}{o:Obj}(h:aA H L)(g:dB H a)(hb:H.size<=b)(c:a[b]?=some o):aA a (pt b o::L):=
 aQ.add c ⟨H,rfl,h,g,hb⟩
theorem fO{α:Type}(l:List α)(n:Nat):aT l n=l[n]?:=by
 induction l generalizing n with
 | nil=>simp[aT]
 | cons a r ih=>cases n <;> simp[aT,ih]
theorem aQ.rdc{H:aD}{A F:aE}(h:aQ H (A*F)){b e:Nat}{cs:Os}(a:A=cellsA b cs e)(o:Nat):aL H b o=aT cs o:=by
 subst a;rw[h.cell,fO]
theorem aA.rd(h:aA H L)(i:Nat){b e:Nat}{cs:Os}(a:aW i L=cellsA b cs e)(o:Nat):aL H b o=aT cs o:=(h.foc i).rdc a o
theorem aA.r{H:aD}{L:List aE}(h:aA H L)(i:Nat){b e o:Nat}{cs:Os}(a:aW i L=cellsA b cs e:=by rfl):aL H b o=aT cs o:=h.rd i a o
theorem aA.can(h:aA H L)(i:Nat){b e:Nat}{cs:Os}(a:aW i L=cellsA b cs e)(o:Nat)(vs:Os)(c:o+vs.length<=cs.length):eV H b o vs:=by
 have:=h.foc i;rw[a]at this;exact this.can vs o c
theorem aA.set(h:aA H L)(i:Nat){b e:Nat}{cs:Os}(a:aW i L=cellsA b cs e)(o:Nat)(vs:Os):aA (fM H b o vs) (put i (cellsA b (cv cs o vs) e) L):=by
 have:=h.foc i;rw[a]at this;exact aA.back (aQ.sets vs o this)
theorem aA.was(h:aA H L)(i:Nat){H0:aD}(a:aW i L=old H0){b:Nat}(hb:b<H0.size):H[b]?=H0[b]?:=by
 have:=h.foc i;rw[a]at this;exact this.was hb
theorem aA.cell0(h:aA H L)(i:Nat){H0:aD}(a:aW i L=old H0){b o:Nat}{v:Value}(c:aL H0 b o=some v):aL H b o=some v:=by
 have:=h.foc i;rw[a]at this;exact this.cell_old c
end
structure SlT(P:Program)(t e sz bytes:Nat):Prop where
 und:P.underlying t=some (.slice e)
 pos:0<sz
 info:∃i z,P.info? e=some i/\i.zero=some z/\i.size=sz/\i.bytes=bytes/\z.cells.size=sz
def slTB(P:Program)(t e sz bytes:Nat):Bool:=
 match P.underlying t,P.info? e with
 | some (.slice e'),some i=>(match i.zero with
  | some z=>Nat.beq e' e&&Nat.blt 0 sz&&Nat.beq i.size sz&&Nat.beq i.bytes bytes&&Nat.beq z.cells.size sz
  | none=>false)
 | _,_=>false
theorem iP{P:Program}{t e sz bytes:Nat}(h:slTB P t e sz bytes=true):SlT P t e sz bytes:=by
 unfold slTB at h
 split at h
 .rename_i m i j hi
  split at h
  .rename_i z b;simp only[V7]at h;obtain⟨⟨⟨⟨a,d⟩,f⟩,k⟩,c⟩:=h;have a:=WI a;subst a;exact⟨j,Yo d,i,z,hi,b,WI f,WI k,WI c⟩
  .cases h
 .cases h
def aP(H:aD)(a:KQ)(cs:Os):Prop:=∀j v,aT cs j=some v->a=some ⟨aU a,aS a,none⟩/\aL H (aU a) (aS a+j)=some v
theorem od{α:Type}{l:List α}{j:Nat}{v:α}(h:aT l j=some v):j<l.length:=by
 rw[fO]at h;exact (List.getElem?_eq_some_iff.1 h).1
theorem vJ{α:Type}{l:List α}{j:Nat}(h:j<l.length):aT l j=some l[j]:=by rw[fO,List.getElem?_eq_getElem h]
theorem iu(H:aD)(a:KQ):aP H a []:=λj v h=>by simp[aT]at h
theorem aP.take{H:aD}{a:KQ}{cs:Os}(h:aP H a cs)(n:Nat):aP H a (cs.take n):=λj v b=>h j v (by
 rw[fO]at b ⊢;rw[List.getElem?_take]at b
 split at b
 .exact b
 .cases b)
theorem aQ.cellG{H:aD}{F:aE}{b e:Nat}{cs:Os}{fr:Nat×Nat}(h:aQ H (pt b (.cells cs.toArray e fr)*F))(o:Nat):aL H b o=cs[o]?:=by
 have:=h.get;simp[aL,this]
theorem Ec{H:aD}{b o e:Nat}{v:Value}{cs:Os}{fr:Nat×Nat}(h:H[b]?=some (.cells cs.toArray e fr)) :
  (iJ H b o v)[b]?=some (.cells (cs.set o v).toArray e fr)/\∀i,i≠b->(iJ H b o v)[i]?=H[i]?:=by
 refine⟨?_,λi hi=>?_⟩
 .simp only[iJ,Array.getElem?_modify,if_true,h,We];simp
 .simp only[iJ,Array.getElem?_modify];rw[V0 (λe=>hi e.symm)]
theorem aQ.setsG{H:aD}{F:aE}{b e:Nat}{fr:Nat×Nat}:∀(vs:Os) {cs:Os} (o:Nat),aQ H (pt b (.cells cs.toArray e fr)*F)->aQ (fM H b o vs) (pt b (.cells (cv cs o vs).toArray e fr)*F)
 | [],cs,o,h=>h
 | v::r,cs,o,h=>by
  have:=h.upd (Ec (o:=o) (v:=v) h.get).1 (Ec h.get).2;simp only[fM,cv];exact aQ.setsG r (o+1) this
theorem aQ.canG{H:aD}{F:aE}{b e:Nat}{cs:Os}{fr:Nat×Nat}(h:aQ H (pt b (.cells cs.toArray e fr)*F)):∀(vs:Os) (o:Nat),o+vs.length<=cs.length->(∀i,o<=i->i<o+vs.length->¬(fr.1<=i/\i<fr.2))->eV H b o vs
 | [],_,_,_=>trivial
 | v::r,o,hl,hf=>by
  simp only[V9]at hl hf;refine⟨⟨?_,?_⟩,aQ.canG h r (o+1) (by omega) λi d c=>hf i (by omega) (by omega)⟩
  .rw [h.cellG];simp;omega
  .have:=h.get;have a:=hf o (VA _) (by omega);simp only[lZ,this];simp only[Wl,V8];omega
def slA(e sz:Nat)(a:KQ)(n c:Nat)(cs:Os):aE:=λh=>
 cs.length=n*sz/\((a=none/\n=0/\c=0/\h=qi)\/
  ∃b pre post e' fr,a=some ⟨b,pre.length,none⟩/\n<=c/\(c-n)*sz<=post.length/\(e=e->∀i,pre.length<=i->i<pre.length+c*sz->¬(fr.1<=i/\i<fr.2))/\pt b (.cells (pre++cs++post).toArray e' fr) h)
section
variable {H:aD}{F:aE}{e sz n c:Nat}{a:KQ}{cs:Os}
theorem rB(h:aQ H F):aQ H (slA e sz none 0 0 []*F):=by
 have:aQ H (emp*F):=by rw[oO];exact h
 exact this.frame λp a=>⟨by simp,.inl ⟨rfl,rfl,rfl,a⟩⟩
theorem slA_pt{b:Nat}(h:aQ H (cellsA b cs e*F))(a:cs.length=n*sz):aQ H (slA e sz (some ⟨b,0,none⟩) n n cs*F):=
 h.frame λp c=>⟨a,.inr ⟨b,[],[],e,(0,0),rfl,VA _,by simp,λ_ i _ _ d=>by simp at d,by simpa[cellsA] using c⟩⟩
theorem kz(h:aQ H (slA e sz a n c cs*F)):cs.length=n*sz/\((a=none/\n=0/\c=0/\aQ H F)\/
  ∃b pre post k fr,a=some ⟨b,pre.length,none⟩/\n<=c/\(c-n)*sz<=post.length/\(∀i,pre.length<=i->i<pre.length+c*sz->¬(fr.1<=i/\i<fr.2))/\aQ H (pt b (.cells (pre++cs++post).toArray k fr)*F)):=by
 obtain⟨g,s,x,y,hd,rfl,t,u⟩:=h;refine⟨t.1,?_⟩
 rcases t.2 with ⟨m,j,f,d⟩|⟨b,pre,post,k,fr,m,j,f,v,d⟩
 .left;refine⟨m,j,f,_,s,?_⟩;rw[d,tp];exact u
 .right;exact⟨b,pre,post,k,fr,m,j,f,v rfl,_,s,x,y,hd,rfl,d,u⟩
theorem slA_nc(h:aQ H (slA e sz a n c cs*F)):n<=c:=by
 rcases (kz h).2 with ⟨f,j,i,d⟩|⟨b,pre,post,m,fr,f,j,i,k,d⟩ <;> omega
theorem yF(h:aQ H (slA e sz a n c cs*F)):aP H a cs:=by
 obtain⟨t,f⟩:=kz h;intro j v m;have d:=od m
 rcases f with ⟨f,k,s,i⟩|⟨b,pre,post,w,fr,f,k,s,u,i⟩
 .subst k;simp[t]at d
 .subst f;refine⟨rfl,?_⟩;show aL H b (pre.length+j)=some v;rw[i.cellG];rw[VI,List.getElem?_append_right (by omega),Ya,List.getElem?_append_left d,<-fO];exact m
theorem oe:∀(vs cs:Os) (o:Nat),(cv cs o vs).length=cs.length
 | [],_,_=>rfl
 | v::r,cs,o=>by simp only[cv];rw[oe r];simp
theorem Ed:∀(vs pre cs post:Os) (o:Nat),o+vs.length<=cs.length->cv (pre++cs++post) (pre.length+o) vs=pre++cv cs o vs++post
 | [],_,_,_,_,_=>rfl
 | v::r,pre,cs,post,o,h=>by
  simp only[V9]at h;simp only[cv];have:=Ed r pre (cs.set o v) post (o+1) (by simp;omega);rw[<-Ws]at this;rw[<-this];congr 1;rw[VI,VI,List.set_append_right _ _ (by omega),Ya,List.set_append_left _ _ (by omega)]
theorem rC:∀(vs pre post:Os),vs.length<=post.length->cv (pre++post) pre.length vs=pre++vs++post.drop vs.length
 | [],_,_,_=>by simp[cv]
 | v::r,pre,[],h=>by simp at h
 | v::r,pre,p::post,h=>by
  simp only[cv];have:=rC r (pre++[v]) post (by simpa using h);simp only[V3,V9,VW,VQ,VI,W7,Wh]at this;simp only[V9,Y4,VI,W7];rw[<-this];congr 1;rw[List.set_append_right _ _ (by omega)];simp
theorem slA_set(h:aQ H (slA e sz a n c cs*F))(o:Nat)(vs:Os)(t:o+vs.length<=cs.length)(h0:vs≠[]) :
  a=some ⟨aU a,aS a,none⟩/\eV H (aU a) (aS a+o) vs/\aQ (fM H (aU a) (aS a+o) vs) (slA e sz a n c (cv cs o vs)*F):=by
 obtain⟨d,j⟩:=kz h
 rcases j with ⟨j,f,m,k⟩|⟨b,pre,post,x,fr,j,f,m,s,k⟩
 .subst f
  cases vs with
  | nil=>exact V2 rfl h0
  | cons v r=>simp at t;omega
 .subst j;have y:n*sz<=c*sz:=Wy _ f;refine⟨rfl,k.canG vs _ (by simp[aS];omega) (λi A w=>s i (by simp only[aS]at A;omega) (by simp only[aS]at w;omega)),?_⟩
  have:=aQ.setsG vs (pre.length+o) k;rw[Ed _ _ _ _ _ t]at this;exact this.frame λp u=>⟨by rw[oe];exact d,.inr ⟨b,pre,post,x,fr,rfl,f,m,λ_=>s,u⟩⟩
theorem iQ(b o n:Nat):(⟨b,o,none⟩:Addr).add n=⟨b,o+n,none⟩:=by
 unfold Addr.add;split <;> simp_all
theorem tt{P:Program}{w:World}{m:Nat}{a2:KQ}{c2:Nat}{ws:Os}(c:aP w.heap a2 ws)(e:ws.length=m*sz) :
  (Builtin.firstCells sz m (.slice a2 m c2)).run P w=.ok ws.toArray w:=by
 cases a2 with
 | none=>
  have:ws=[]:=by
   cases ws with
   | nil=>rfl
   | cons v r=>have:=(c 0 v rfl).1;simp at this
  subst this;exact run_firstCells_none w sz m m c2
 | some a=>
  refine run_firstCells_some w sz m a m c2 ws e λj v d=>?_
  have h:=c j v (by rw[fO];exact d);simp only[Option.some.injEq]at h;rw[h.1,iQ];have b:=h.2;unfold World.cell?;unfold aL at b;simp only[Option.isSome_none,aU,aS]at b ⊢
  split at b
  .rename_i cc x1 x2 hb;rw[hb];exact b
  .cases b
theorem N2{P:Program}{t bytes m c2 ty:Nat}(T:SlT P t e sz bytes){a2:KQ}{ws:Os}{K:KE}(h:aQ H (slA e sz a n c cs*F))(V:aP H a2 ws)(s:ws.length=m*sz)(A:cT ws=true)
  (hb:(n+m)*bytes<=140737488355328) (hn:n+m<=140737488355328)
  (k:∀U W Q,aQ Q (slA e sz U (n+m) W (cs++ws)*F)->K (.slice U (n+m) W) Q) :
  cB P (Builtin.append_ #[t,t] ty #[.slice a n c,.slice a2 m c2]) H K:=by
 obtain⟨O,h0,i,z,hi,hz,rfl,rfl,C⟩:=T;refine .mk λw M=>?_
 subst M;obtain⟨d,x⟩:=kz h;have E:¬(9223372036854775807<(n:Int)+(m:Int)):=by omega
 have v:=tt (P:=P) (w:=w) (c2:=c2) V s;have G:=tt (P:=P) (w:=w.drew) (c2:=c2) V s;have I:=tt (P:=P) (w:=w.drew) (a2:=a) (m:=n) (c2:=c) (yF h) d
 by_cases hroom:n+m<=c
 .rcases x with ⟨x,Y,D,u⟩|⟨b,pre,post,e',fr,x,Y,D,S,u⟩
  .subst x;subst Y;subst D;obtain rfl:m=0:=by omega
   obtain rfl:ws=[]:=WK (by simpa using s);obtain rfl:cs=[]:=WK (by simpa using d);refine⟨.slice none (0+0) 0,w,?_,bW.refl w,k _ _ _ (rB u)⟩;simp[Builtin.append_,run_underlying O,sizeOf,typeInfo,hi,Builtin.lenOf,v]
  .subst x;have y:ws.length<=post.length:=by
    refine VO ?_ D;rw[s];exact Wy _ (by omega)
   have N:(n+m)*i.size<=c*i.size:=Wy _ hroom;rw[Wn]at N;have f:eV w.heap b (pre.length+n*i.size) ws:=u.canG ws _ (by simp[d];omega) λj B R=>S j (by omega) (by omega)
   obtain⟨w',B,R,h8⟩:=qX (P:=P) (b:=b) ws (pre.length+n*i.size) 0 w (by simpa using f) (by simpa using qY _ _ f) A;refine⟨.slice (some ⟨b,pre.length,none⟩) (n+m) c,w',?_,R,k _ _ _ ?_⟩
   .simp [Builtin.append_,run_underlying O,sizeOf,typeInfo,hi,Builtin.lenOf,hroom,v,iQ,B]
   .rw [h8];have Z:=aQ.setsG ws (pre.length+n*i.size) u;have e1:pre.length+n*i.size=(pre++cs).length:=by simp[d]
    rw[e1,rC _ _ _ y]at Z;rw[WJ,e1];refine Z.frame λp A=>⟨by simp[d,s,Wn],.inr ⟨b,pre,post.drop ws.length,e',fr,rfl,hroom,?_,λ_=>S,by simpa using A⟩⟩
    rw[VP,s];have:(c-(n+m))*i.size+m*i.size=(c-n)*i.size:=by rw[<-Wn];congr 1;omega
    omega
 .have L:¬(281474976710656<Builtin.nextslicecap (n+m) c*i.bytes):=by
   have:=growslice_fits (need:=n+m) (old:=c) (bytes:=i.bytes) (by omega) hb;omega
  refine⟨.slice (some ⟨w.heap.size,0,none⟩) (n+m) (grownCap w (n+m) c e),w.drew.alloc (.cells (cs.toArray++ws.toArray++Builtin.zeroCells z.cells (grownCap w (n+m) c e-(n+m))) e),?_,⟨rfl,rfl,rfl⟩,k _ _ _ ?_⟩
  .simp [Builtin.append_,run_underlying O,sizeOf,typeInfo,zeroValue,hi,hz,Builtin.lenOf,hroom,E,L,Question.forced,I,G,newRow,grownCap];congr 2;apply Array.ext';simp[VI]
  .have u:aQ w.heap F:=h.drop';have B:=u.push (.cells (cs.toArray++ws.toArray++Builtin.zeroCells z.cells (grownCap w (n+m) c e-(n+m))) e);have J:=grownCap_ge w (n+m) c e;refine B.frame λp A=>⟨by simp[d,s,Wn],.inr ⟨w.heap.size,[],(Builtin.zeroCells z.cells (grownCap w (n+m) c e-(n+m))).toList,e,(0,0),rfl,J,?_,λ_ i _ _ hh=>by simp at hh,?_⟩⟩
   .rw [W5,size_zeroCells,C];exact VA _
   .have e2:(([]:Os)++(cs++ws)++(Builtin.zeroCells z.cells (grownCap w (n+m) c e-(n+m))).toList).toArray=cs.toArray++ws.toArray++Builtin.zeroCells z.cells (grownCap w (n+m) c e-(n+m)):=by
     apply Array.ext';simp
    rw[e2];exact A
end
section
variable {H:aD}{L:List aE}{e sz n c:Nat}{a:KQ}{cs:Os}
theorem aA.sl_rd(h:aA H L)(i:Nat)(b:aW i L=slA e sz a n c cs):aP H a cs:=yF (F:=star (del i L)) (by have:=h.foc i;rw[b]at this;exact this)
theorem aA.sl_nc(h:aA H L)(i:Nat)(b:aW i L=slA e sz a n c cs):n<=c:=slA_nc (F:=star (del i L)) (by have:=h.foc i;rw[b]at this;exact this)
theorem aA.sl_nil(h:aA H L)(e sz:Nat):aA H (slA e sz none 0 0 []::L):=rB h
theorem aA.sl_pt{b:Nat}(h:aA H (pt b (.cells cs.toArray e (0,0))::L))(sz n:Nat)(a:cs.length=n*sz):aA H (slA e sz (some ⟨b,0,none⟩) n n cs::L):=slA_pt h a
theorem aA.sl_set(h:aA H L)(i:Nat)(d:aW i L=slA e sz a n c cs)(o:Nat)(vs:Os)(j:o+vs.length<=cs.length)(h0:vs≠[]) :
  a=some ⟨aU a,aS a,none⟩/\eV H (aU a) (aS a+o) vs/\aA (fM H (aU a) (aS a+o) vs) (put i (slA e sz a n c (cv cs o vs)) L):=by
 have:=h.foc i;rw[d]at this;obtain⟨f,b,k⟩:=slA_set this o vs j h0;exact⟨f,b,aA.back k⟩
theorem aA.append{P:Program}{t bytes m c2 ty:Nat}(T:SlT P t e sz bytes){a2:KQ}{ws:Os}{K:KE}(h:aA H L)(i:Nat)(u:aW i L=slA e sz a n c cs)(x:aP H a2 ws)(y:ws.length=m*sz)(v:cT ws=true)
  (hb:(n+m)*bytes<=140737488355328) (s:n+m<=140737488355328)
  (k:∀d f b,aA b (put i (slA e sz d (n+m) f (cs++ws)) L)->K (.slice d (n+m) f) b) :
  cB P (Builtin.append_ #[t,t] ty #[.slice a n c,.slice a2 m c2]) H K:=by
 have j:=h.foc i;rw[u]at j;exact N2 T j x y v hb s λd f b w=>k d f b (aA.back w)
theorem aA.append1{P:Program}{t bytes ty e2:Nat}(T:SlT P t e sz bytes){ws:Os}{K:KE}(h:aA H L)(i:Nat)(u:aW i L=slA e sz a n c cs)(x:ws.length=sz)(w:cT ws=true)
  (hb:(n+1)*bytes<=140737488355328) (s:n+1<=140737488355328)
  (k:∀d m b,aA b (put i (slA e sz d (n+1) m (cs++ws)) L)->K (.slice d (n+1) m) b) :
  cB P (Builtin.append_ #[t,t] ty #[.slice a n c,.slice (some ⟨H.size,0,none⟩) 1 1]) (H.push (.cells ws.toArray e2 (0,0))) K:=by
 have g:=dB.push H (.cells ws.toArray e2 (0,0));refine aA.append T (h.grow g) i u (ws:=ws) (λj v f=>⟨rfl,?_⟩) (by simpa using x) w hb s k
 simp only[aU,aS,VQ];rw[fO]at f;simp[aL,f]
end
section
variable {α:Type}{enc:α->Os}{sz:Nat}{xs ys:List α}{H:aD}{a:KQ}
def flat(enc:α->Os)(xs:List α):Os:=xs.flatMap enc
@[simp] theorem flat_nil:flat enc ([]:List α)=[]:=rfl
theorem lB(x:α):flat enc (x::xs)=enc x++flat enc xs:=rfl
theorem dR:flat enc (xs++ys)=flat enc xs++flat enc ys:=by simp[flat]
theorem ny(x:α):flat enc [x]=enc x:=by simp[flat]
theorem fi(a:∀x,(enc x).length=sz):∀xs:List α,(flat enc xs).length=xs.length*sz
 | []=>by simp
 | x::r=>by rw[lB,V3,a,fi a r,V9,Wn];omega
theorem tu(a:∀x,(enc x).length=sz):∀(k:Nat) (xs:List α),(flat enc xs).drop (k*sz)=flat enc (xs.drop k)
 | 0,xs=>by simp
 | k+1,[]=>by simp
 | k+1,x::r=>by
  rw[lB,Y4,<-tu a k r,Wn,Nat.one_mul,Ye];rw[<-a x,List.drop_append];simp
theorem Ee(a:∀x,(enc x).length=sz):∀(k:Nat) (xs:List α),(flat enc xs).take (k*sz)=flat enc (xs.take k)
 | 0,xs=>by simp
 | k+1,[]=>by simp
 | k+1,x::r=>by
  rw[lB,WL,lB,<-Ee a k r,Wn,Nat.one_mul,Ye];rw[<-a x,List.take_append,VZ (by omega),Ya]
theorem Ef{β:Type}:∀{l r:List β} {j:Nat},j<l.length->aT (l++r) j=aT l j:=by
 intro l r j h;rw[fO,fO,List.getElem?_append_left h]
theorem yG{β:Type}{l r:List β}(j:Nat):aT (l++r) (l.length+j)=aT r j:=by
 rw[fO,fO,List.getElem?_append_right (by omega),Ya]
theorem vK(a:∀x,(enc x).length=sz):∀{xs:List α} {k:Nat} (b:k<xs.length) (f:Nat),f<sz->aT (flat enc xs) (k*sz+f)=aT (enc xs[k]) f
 | x::r,0,_,f,hf=>by rw[Yg,VQ,lB,Ef (by rw[a];exact hf)];rfl
 | x::r,k+1,b,f,hf=>by
  rw[lB,show (k+1)*sz+f=(enc x).length+(k*sz+f) by rw[a,Wn];omega,yG,vK a (by simpa using b) f hf];rfl
theorem aP.el(h:aP H a (flat enc xs))(c:∀x,(enc x).length=sz){k:Nat}(e:k<xs.length)(f:Nat){v:Value}(b:aT (enc xs[k]) f=some v) :
  aL H (aU a) (aS a+k*sz+f)=some v:=by
 have d:f<sz:=by rw[<-c xs[k]];exact od b
 have:=(h (k*sz+f) v (by rw[vK c e f d];exact b)).2
 rwa[<-Ws]at this
theorem aP.el0(h:aP H a (flat enc xs))(c:∀x,(enc x).length=sz){k:Nat}(b:k<xs.length){v:Value}(d:aT (enc xs[k]) 0=some v) :
  aL H (aU a) (aS a+k*sz)=some v:=h.el c b 0 d
theorem aP.some(h:aP H a (flat enc xs))(b:∀x,(enc x).length=sz)(hs:0<sz){k:Nat}(c:k<xs.length):a=some ⟨aU a,aS a,none⟩:=by
 have h0:0<(flat enc xs).length:=by rw[fi b];exact Nat.mul_pos (by omega) hs
 exact (h 0 _ (vJ h0)).1
theorem tv:∀{vs:Os} {b o:Nat},(∀f v,aT vs f=some v->aL H b (o+f)=some v)->bE H b o vs
 | [],_,_,_=>trivial
 | [v],b,o,h=>h 0 v rfl
 | v::u::r,b,o,h=>⟨h 0 v rfl,tv λf w a=>by have:=h (f+1) w a;rwa[show o+(f+1)=o+1+f by omega]at this⟩
theorem aP.els(h:aP H a (flat enc xs))(d:∀x,(enc x).length=sz){k:Nat}(b:k<xs.length):bE H (aU a) (aS a+k*sz) (enc xs[k]):=
 tv λf v c=>h.el d b f c
theorem Eg:∀(vs l r:Os) (o:Nat),o+vs.length<=l.length->cv (l++r) o vs=cv l o vs++r
 | [],_,_,_,_=>rfl
 | v::vs,l,r,o,h=>by
  simp only[V9]at h;simp only[cv];rw[List.set_append_left _ _ (by omega),Eg vs _ r (o+1) (by simp;omega)]
theorem tw:∀(vs l r:Os) (o:Nat),cv (l++r) (l.length+o) vs=l++cv r o vs
 | [],_,_,_=>rfl
 | v::vs,l,r,o=>by
  simp only[cv];rw[List.set_append_right _ _ (by omega),Ya,Ws,tw vs l _ (o+1)]
theorem vL:∀(vs l:Os),vs.length=l.length->cv l 0 vs=vs:=by
 intro vs l h;have:=rC vs [] l (by omega);simp only[Wh,VW]at this;rw[this,Y5 (by omega),Wc]
theorem yH(a:∀x,(enc x).length=sz)(y:α)(vs:Os)(f:Nat):∀{xs:List α} {k:Nat} (b:k<xs.length),f+vs.length<=sz->cv (enc xs[k]) f vs=enc y->cv (flat enc xs) (k*sz+f) vs=flat enc (xs.set k y)
 | x::r,0,_,hl,h=>by
  rw[Yg,VQ,lB,Yp,lB,Eg _ _ _ _ (by rw[a];omega)];exact congrArg (·++flat enc r) h
 | x::r,k+1,b,hl,h=>by
  rw[Y6,lB,lB,<-yH a y vs f (xs:=r) (k:=k) (by simpa using b) hl h,show (k+1)*sz+f=(enc x).length+(k*sz+f) by rw[a,Wn];omega,tw]
theorem vM:∀{l r:Os},cT l=true->cT r=true->cT (l++r)=true
 | [],r,_,h=>h
 | v::l,r,h,h2=>by
  have:=yo h;have a:=vM this.2 h2
  cases v <;> simp[cT]at h ⊢ <;> exact a
theorem lC(a:∀x,cT (enc x)=true):∀xs:List α,cT (flat enc xs)=true
 | []=>rfl
 | x::r=>vM (a x) (lC a r)
end
section
variable {H:aD}{L:List aE}{e sz n c:Nat}{a:KQ}{cs:Os}
theorem aA.sl_drop(h:aA H L)(i:Nat)(A:aW i L=slA e sz a n c cs)(k:Nat)(x:k<=n):aA H (put i (slA e sz (cq a k c sz) (n-k) (c-k) (cs.drop (k*sz))) L):=by
 have w:=h.foc i;rw[A]at w;refine aA.back (i:=i) (L:=L) (w.frame λp j=>?_)
 obtain⟨y,j⟩:=j;refine⟨by rw[VP,y,Nat.sub_mul],?_⟩
 rcases j with ⟨m,t,f,d⟩|⟨b,pre,post,v,fr,m,t,f,C,d⟩
 .left;subst m;subst t;subst f;exact⟨by simp[cq],by omega,by omega,d⟩
 .right;subst m;unfold cq
  by_cases e:c=k
  .rw [V1 e];have:n=k:=by omega
   subst this;have hd:cs.drop (n*sz)=[]:=by rw[<-y];simp
   refine⟨b,pre,cs++post,v,fr,rfl,by omega,by rw[show c-n-(n-n)=0 by omega];omega,λ_ i u s=>by rw[show c-n=0 by omega]at s;omega,?_⟩
   rw[hd];simpa using d
  .rw [V0 e];refine⟨b,pre++cs.take (k*sz),post,v,fr,?_,by omega,?_,λ_ i u s=>?_,?_⟩
   .have:k*sz<=n*sz:=Wy _ x;simp only[We,iQ,V3,VU];rw[WR (by omega)]
   .rw [show c-k-(n-k)=c-n by omega];exact f
   .have D:k*sz<=n*sz:=Wy _ x;have B:(c-k)*sz+k*sz=c*sz:=by rw[<-Wn];congr 1;omega
    rw[V3,VU,WR (by omega)]at u s;exact C rfl i (by omega) (by omega)
   .have:pre++cs.take (k*sz)++cs.drop (k*sz)++post=pre++cs++post:=by
     rw[VI,VI,<-VI (cs.take _),Wt,VI]
    rw[this];exact d
theorem aA.sl_take(h:aA H L)(i:Nat)(u:aW i L=slA e sz a n c cs)(k:Nat)(A:k<=n):aA H (put i (slA e sz a k c (cs.take (k*sz))) L):=by
 have s:=h.foc i;rw[u]at s;refine aA.back (i:=i) (L:=L) (s.frame λp d=>?_)
 obtain⟨t,d⟩:=d;have v:k*sz<=n*sz:=Wy _ A;refine⟨by rw[VU,t];omega,?_⟩
 rcases d with ⟨f,w,m,j⟩|⟨b,pre,post,y,fr,f,w,m,x,j⟩
 .left;exact⟨f,by omega,m,j⟩
 .right;refine⟨b,pre,cs.drop (k*sz)++post,y,fr,f,by omega,?_,x,?_⟩
  .have:(c-k)*sz=(c-n)*sz+(n-k)*sz:=by rw[<-Wn];congr 1;omega
   rw[V3,VP,t,this,<-Nat.sub_mul];omega
  .have:pre++cs.take (k*sz)++(cs.drop (k*sz)++post)=pre++cs++post:=by
    rw[VI,<-VI (cs.take _),Wt,<-VI]
   rw[this];exact j
end
theorem vN{α β:Type}(f:α->β):∀(l:List α) (i:Nat),(l.eraseIdx i).map f=(l.map f).eraseIdx i
 | [],_=>rfl
 | a::r,0=>rfl
 | a::r,i+1=>by simp only[List.eraseIdx_cons_succ,Wa];rw[vN f r i]
section
variable {κ α:Type}[DecidableEq κ]
def aJ(x:κ):List (κ×α)->Option α
 | []=>none
 | (y,v)::r=>if x=y then some v else aJ x r
def bT(x:κ)(m:List (κ×α)):List (κ×α):=m.filter λp=>decide (p.1≠x)
def mset(x:κ)(v:α)(m:List (κ×α)):List (κ×α):=(x,v)::bT x m
abbrev aG(m:List (κ×α)):List κ:=m.map Prod.fst
theorem iv{x:κ}{v:α}:∀{m:List (κ×α)},aJ x m=some v->(x,v)∈m
 | [],h=>by simp[aJ]at h
 | (y,u)::r,h=>by
  simp only[aJ]at h
  split at h
  .rename_i e;subst e;cases h;simp
  .exact VL _ (iv h)
theorem nA{x:κ}{v:α}:∀{m:List (κ×α)},(aG m).Nodup->(x,v)∈m->aJ x m=some v
 | [],_,h=>by simp at h
 | (y,u)::r,hn,h=>by
  simp only[aG,Wa,WQ]at hn;simp only[aJ]
  rcases VJ.1 h with a|a
  .cases a;simp
  .rw [V0]
   .exact nA hn.2 a
   .intro e;exact hn.1 (VB.2 ⟨(x,v),a,e⟩)
theorem fw{x:κ}:∀{m:List (κ×α)},aJ x m=none↔x∉aG m
 | []=>by simp[aJ]
 | (y,u)::r=>by
  simp only[aJ,aG,Wa,VJ,not_or]
  split
  .rename_i e;simp[e]
  .rename_i e;rw[fw (m:=r)];simp[e]
theorem qj{x:κ}{m m':List (κ×α)}(c:(aG m).Nodup)(b:m.Perm m'):aJ x m=aJ x m':=by
 have a:(aG m').Nodup:=(b.map Prod.fst).nodup_iff.1 c
 cases h:aJ x m with
 | none=>
  rw[fw]at h;exact (fw.2 λd=>h ((b.map Prod.fst).mem_iff.2 d)).symm
 | some v=>exact (nA a (b.mem_iff.1 (iv h))).symm
theorem Eh{x:κ}{m m':List (κ×α)}(a:m.Perm m'):(bT x m).Perm (bT x m'):=a.filter _
theorem rD{x:κ}{p:κ×α}{m:List (κ×α)}:p∈bT x m↔p∈m/\p.1≠x:=by simp[bT]
theorem rE{x:κ}{m:List (κ×α)}(a:(aG m).Nodup):(aG (bT x m)).Nodup:=a.sublist (List.Sublist.map _ List.filter_sublist)
theorem oP{x:κ}{v:α}{m:List (κ×α)}(a:(aG m).Nodup):(aG (mset x v m)).Nodup:=by
 simp only[aG,mset,Wa,WQ];refine⟨λh=>?_,rE a⟩
 obtain⟨p,b,e⟩:=VB.1 h;exact (rD.1 b).2 e
theorem kP{x:κ}{m:List (κ×α)}(h:aJ x m=none):bT x m=m:=by
 rw[fw]at h;unfold bT;rw[Yv];intro p a;simp only[V6];intro e;subst e;exact h (VB.2 ⟨p,a,rfl⟩)
theorem yI{x y:κ}(h:y≠x):∀{m:List (κ×α)},aJ y (bT x m)=aJ y m
 | []=>rfl
 | (z,u)::r=>by
  have a:=yI h (m:=r);simp only[bT,Wk]at a ⊢
  split
  .simp only[aJ];split
   .rfl
   .exact a
  .rename_i b;simp only[V6,ne_eq,Decidable.not_not]at b;simp only[aJ];rw[V0 (by rw[b];exact h)];exact a
theorem N3{x:κ}{m:List (κ×α)}:aJ x (bT x m)=none:=by
 rw[fw];intro h;obtain⟨p,a,e⟩:=VB.1 h;exact (rD.1 a).2 e
theorem lD{x y:κ}{v:α}{m:List (κ×α)}:aJ y (mset x v m)=if y=x then some v else aJ y m:=by
 simp only[mset,aJ]
 split
 .rfl
 .rename_i h;exact yI h
theorem vO{x y:κ}{m:List (κ×α)}:aJ y (bT x m)=if y=x then none else aJ y m:=by
 split
 .rename_i h;subst h;exact N3
 .rename_i h;exact yI h
theorem N4{x:κ}{v:α}{m m':List (κ×α)}(a:m.Perm m'):(mset x v m).Perm (mset x v m'):=(Eh a).cons _
theorem Ei{x:κ}{v:α}{m:List (κ×α)}(h:aJ x m=none):(mset x v m).length=m.length+1:=by simp[mset,kP h]
theorem Ej{x:κ}{v:α}:∀{m:List (κ×α)},(aG m).Nodup->aJ x m=some v->(bT x m).length+1=m.length
 | [],_,h=>by simp[aJ]at h
 | (y,u)::r,hn,h=>by
  simp only[aG,Wa,WQ]at hn;simp only[aJ]at h
  by_cases e:x=y
  .subst e;have:aJ x r=none:=fw.2 hn.1;have b:=kP this;have c:bT x ((x,u)::r)=bT x r:=by simp[bT,Wk]
   rw[c,b];rfl
  .rw [V0 e]at h;have a:=Ej hn.2 h;simp only[bT,Wk]at a ⊢;rw[V1 (by simpa using λe2=>e e2.symm)]
   simp only[V9];omega
theorem El{x:κ}{v u:α}{m:List (κ×α)}(a:(aG m).Nodup)(h:aJ x m=some u):(mset x v m).length=m.length:=by
 have:=Ej a h;simp only[mset,V9];omega
theorem getElem?_of_mlook{x:κ}{v:α}{m:List (κ×α)}(h:aJ x m=some v):∃i:Nat,m[i]?=some (x,v)/\∀j,j<i->(aG m)[j]?≠some x:=by
 induction m with
 | nil=>simp[aJ]at h
 | cons p r ih=>
  obtain⟨y,u⟩:=p;simp only[aJ]at h
  split at h
  .rename_i e;subst e;cases h;exact⟨0,rfl,λj a=>V2 a (by omega)⟩
  .rename_i e;obtain⟨i,c,b⟩:=ih h;refine⟨i+1,by simpa using c,λj a=>?_⟩
   cases j with
   | zero=>simp[aG];exact λe2=>e e2.symm
   | succ j=>simpa[aG] using b j (by omega)
theorem Em{x:κ}{v:α}{m:List (κ×α)}(a:(aG m).Nodup){i:Nat}(hi:m[i]?=some (x,v)):m.eraseIdx i=bT x m:=by
 induction m generalizing i with
 | nil=>simp at hi
 | cons p r b=>
  simp only[aG,Wa,WQ]at a
  cases i with
  | zero=>
   simp at hi;subst hi;have:aJ x r=none:=fw.2 a.1;have c:=kP this;have d:bT x ((x,v)::r)=bT x r:=by simp[bT,Wk]
   rw[d,c];rfl
  | succ i=>
   simp only[List.getElem?_cons_succ]at hi;have b:=b a.2 hi;simp only[List.eraseIdx_cons_succ,b];simp only[bT,Wk];rw[V1];simp only[V6];intro e;exact a.1 (VB.2 ⟨_,Wg hi,e.symm⟩)
theorem Eo{x:κ}{v u:α}{m:List (κ×α)}(b:(aG m).Nodup){i:Nat}(hi:m[i]?=some (x,v)):(m.set i (x,u)).Perm (mset x u m):=by
 have h:=Em b hi;have a:i<m.length:=(List.getElem?_eq_some_iff.1 hi).1;unfold mset;rw[<-h];rw[List.set_eq_take_append_cons_drop,V1 a,List.eraseIdx_eq_take_drop_succ];exact List.perm_middle
end
structure mj{κ:Type}(P:Program)(k:TypeId)(kenc:κ->Value):Prop where
 inj:∀x y,kenc x=kenc y->x=y
 chk:∀(em:Bool) (x:κ) (w:World),(Instr.checkKey em 10000 k (kenc x)).run P w=.ok () w
 non:∀(x:κ) (ks:List κ) (es:List MapEntry) (w:World),es.map (·.key)=ks.map kenc->x∉ks->(Instr.findKey k (kenc x) es).run P w=.ok none w
 fnd:∀(x:κ) (ks:List κ) (es:List MapEntry) (w:World) (i:Nat) (e:MapEntry),es.map (·.key)=ks.map kenc->ks[i]?=some x->(∀j,j<i->ks[j]?≠some x)->es[i]?=some e->(Instr.findKey k (kenc x) es).run P w=.ok (some (i,e.val)) w
 stay:∀(x:κ) (w:World),(Instr.keyThatStays (kenc x) (kenc x)).run P w=.ok (kenc x) w
theorem yJ{kk kd:IntKind}(x:Int):∀(a:List MapEntry) (ks:List Int) (i:Nat),a.map (·.key)=ks.map (Value.int kk)->
  (x∉ks->Instr.findNow (.int kd) (.int kk x) a i=some none)/\∀j e,ks[j]?=some x->(∀l,l<j->ks[l]?≠some x)->a[j]?=some e->Instr.findNow (.int kd) (.int kk x) a i=some (some (i+j,e.val))
 | [],[],i,_=>⟨λ_=>rfl,λj e h=>by simp at h⟩
 | [],_::_,i,h=>by simp at h
 | _::_,[],i,h=>by simp at h
 | e0::a,y::ks,i,h=>by
  simp only[Wa,List.cons.injEq]at h;obtain⟨m,f⟩:=yJ (kd:=kd) x a ks (i+1) h.2
  by_cases e:x=y
  .subst e;refine⟨λd=>V2 (by simp) d,λj e1 b n c=>?_⟩
   have:j=0:=by
    cases j with
    | zero=>rfl
    | succ j=>exact V2 rfl (n 0 (by omega))
   subst this;simp at c;subst c;simp[Instr.findNow,Instr.sameNow,h.1]
  .refine⟨λd=>?_,λj e1 b n c=>?_⟩
   .simp only[VJ,not_or]at d;have k:(x == y)=false:=by simpa using e
    simp[Instr.findNow,Instr.sameNow,h.1,k,m d.2]
   .cases j with
    | zero=>simp at b;exact V2 b.symm e
    | succ j=>
     have:=f j e1 (by simpa using b) (λl s=>by simpa using n (l+1) (by omega)) (by simpa using c)
     have k:(x == y)=false:=by simpa using e
     simp only[Instr.findNow,Instr.sameNow,h.1,k,this,if_true];rw[show i+1+j=i+(j+1) by omega]
theorem vP{P:Program}{k:TypeId}{kd:IntKind}(h:P.underlying k=some (.int kd)):mj P k (Value.int kd) where
 inj x y h:=by cases h;rfl
 chk em x w:=by
  show (Instr.checkKey em (9999+1) k (Value.int kd x)).run P w=.ok () w;generalize 9999=n;simp[Instr.checkKey,run_underlying h]
 non x ks es w hk hx:=by simp[Instr.findKey,run_underlying h,(yJ (kd:=kd) x es ks 0 hk).1 hx]
 fnd x ks es w i e hk h1 h2 h3:=by simp[Instr.findKey,run_underlying h,(yJ (kd:=kd) x es ks 0 hk).2 i e h1 h2 h3]
 stay x w:=by
  have:Instr.sameBits 10000 (Value.int kd x) (Value.int kd x)=true:=by
   generalize 10000=n;unfold Instr.sameBits;simp
  simp[Instr.keyThatStays,this]
structure kA{α:Type}(P:Program)(t k e:Nat)(venc:α->Value)(z:α):Prop where
 und:P.underlying t=some (.map k e)
 info:∃i,P.info? e=some i/\i.zero=some (venc z)
def mapA{κ α:Type}(kenc:κ->Value)(venc:α->Value)(r:Nat)(m:List (κ×α)):aE:=λh=>
 (aG m).Nodup/\∃es clock,(∃ml:List (κ×α),ml.Perm m/\es.toList.map (λe:MapEntry=>(e.key,e.val))=ml.map λp=>(kenc p.1,venc p.2))/\
  (es.toList.map (·.born)).Nodup/\(∀e∈es.toList,e.born<clock)/\pt r (.map es clock) h
section
variable {κ α:Type}{kenc:κ->Value}{venc:α->Value}{r:Nat}{m m':List (κ×α)}{H:aD}{F:aE}{P:Program}
theorem nB(e:m.Perm m'):mapA kenc venc r m=mapA kenc venc r m':=by
 funext h;apply propext;have key:∀{a b:List (κ×α)},a.Perm b->mapA kenc venc r a h->mapA kenc venc r b h:=by
  rintro a b d ⟨f,s,c,⟨t,j,u⟩,n,k,i⟩;exact⟨(d.map Prod.fst).nodup_iff.1 f,s,c,⟨t,j.trans d,u⟩,n,k,i⟩
 exact⟨key e,key e.symm⟩
theorem mo(h:aQ H (mapA kenc venc r m*F)):(aG m).Nodup/\∃b a,(∃c:List (κ×α),c.Perm m/\b.toList.map (λe:MapEntry=>(e.key,e.val))=c.map λp=>(kenc p.1,venc p.2))/\
  (b.toList.map (·.born)).Nodup/\(∀e∈b.toList,e.born<a)/\aQ H (pt r (.map b a)*F):=by
 obtain⟨g,i,x,y,hd,rfl,⟨d,b,a,n,k,j,f⟩,s⟩:=h;exact⟨d,b,a,n,k,j,_,i,x,y,hd,rfl,f,s⟩
theorem mapA_new(h:aQ H (pt r (.map #[] 0)*F)):aQ H (mapA kenc venc r []*F):=
 h.frame λp a=>⟨by simp,#[],0,⟨[],.refl _,rfl⟩,by simp,by simp,a⟩
theorem tx{b:Array MapEntry}{c:List (κ×α)}(h:b.toList.map (λe:MapEntry=>(e.key,e.val))=c.map λp=>(kenc p.1,venc p.2)) :
  b.toList.map (·.key)=(aG c).map kenc/\∀(i:Nat) x v,c[i]?=some (x,v)->∃e:MapEntry,b.toList[i]?=some e/\e.key=kenc x/\e.val=venc v:=by
 constructor
 .have:=congrArg (List.map Prod.fst) h;simpa[aG,Function.comp_def] using this
 .intro i x v hi;have a:=congrArg (λl=>l[i]?) h
  simp only[List.getElem?_map,hi,We]at a
  cases he:b.toList[i]? with
  | none=>rw[he]at a;cases a
  | some e=>rw[he]at a;simp at a;exact⟨e,rfl,a.1,a.2⟩
section
variable [DecidableEq κ]{t k e:Nat}{z:α}(T:kA P t k e venc z)(KO:mj P k kenc)
include T KO
theorem map_look{x:κ}(h:aQ H (mapA kenc venc r m*F)) :
  (∀v,aJ x m=some v->dj P (Instr.lookup t (.map (some r)) (kenc x) true) H (.tuple #[venc v,.bool true])/\dj P (Instr.lookup t (.map (some r)) (kenc x) false) H (venc v))/\
  (aJ x m=none->dj P (Instr.lookup t (.map (some r)) (kenc x) true) H (.tuple #[venc z,.bool false])/\dj P (Instr.lookup t (.map (some r)) (kenc x) false) H (venc z)):=by
 obtain⟨B,u,n,⟨e,d,k⟩,_,_,C⟩:=mo h;have hb:=C.get;obtain⟨y,D⟩:=tx k;have b:(aG e).Nodup:=(d.map Prod.fst).nodup_iff.2 B;obtain⟨i,hi,E⟩:=T.info
 constructor
 .intro v a;rw[<-qj b d]at a;obtain⟨j,A,f⟩:=getElem?_of_mlook a;obtain⟨G,I,_,c⟩:=D j x v A
  constructor <;> intro w s <;> subst s <;>
   simp[Instr.lookup,run_underlying T.und,Go.MapKept.run_getObj_map hb,KO.chk,KO.fnd x (aG e) u.toList w j G y (by simp[aG,A]) f I,c]
 .intro a;rw[<-qj b d,fw]at a
  constructor <;> intro w s <;> subst s <;>
   simp[Instr.lookup,run_underlying T.und,Go.MapKept.run_getObj_map hb,KO.chk,KO.non x (aG e) u.toList w y a,zeroValue,typeInfo,hi,E]
omit T KO [DecidableEq κ] in
theorem tz(w:World)(r:Nat)(o:Obj):bW w { w with heap:=w.heap.setIfInBounds r o }:=⟨rfl,rfl,rfl⟩
omit T KO [DecidableEq κ] in
theorem qk{H:aD}{o a:Obj}(h:aQ H (pt r o*F)):aQ (H.setIfInBounds r a) (pt r a*F):=by
 refine h.upd ?_ λi hi=>?_
 .rw [Array.getElem?_setIfInBounds,V1 rfl,V1 h.lt]
 .rw [Array.getElem?_setIfInBounds,V0 (λe=>hi e.symm)]
def mapC(kenc:κ->Value)(venc:α->Value)(m:List (κ×α))(es:Array MapEntry)(clock:Nat):Prop:=
 (aG m).Nodup/\(∃ml:List (κ×α),ml.Perm m/\es.toList.map (λe:MapEntry=>(e.key,e.val))=ml.map λp=>(kenc p.1,venc p.2))/\
  (es.toList.map (·.born)).Nodup/\∀e∈es.toList,e.born<clock
omit T KO [DecidableEq κ] in
theorem Ep{c:Array MapEntry}{a:Nat}(b:mapC kenc venc m c a)(h:aQ H (pt r (.map c a)*F)):aQ H (mapA kenc venc r m*F):=
 h.frame λ_ d=>⟨b.1,c,a,b.2.1,b.2.2.1,b.2.2.2,d⟩
omit T KO in
theorem mapC_set{x:κ}{v:α}{h:List (κ×α)}{d:Array MapEntry}{b j:Nat}{u:α}{C:MapEntry}(y:(aG m).Nodup)(A:h.Perm m)(w:d.toList.map (λe:MapEntry=>(e.key,e.val))=h.map λp=>(kenc p.1,venc p.2))
  (f:(d.toList.map (·.born)).Nodup) (c:∀e∈d.toList,e.born<b) (B:h[j]?=some (x,u)) (D:d.toList[j]?=some C) :
  mapC kenc venc (mset x v m) (d.modify j λe=>{ e with key:=kenc x,val:=venc v }) b:=by
 have s:(aG h).Nodup:=(A.map Prod.fst).nodup_iff.2 y;refine⟨oP y,⟨h.set j (x,v),(Eo s B).trans (N4 A),?_⟩,?_,?_⟩
 .apply WO;intro i;have t:=congrArg (λl=>l[i]?) w
  simp only[List.getElem?_map]at t ⊢;simp only[Array.toList_modify,List.getElem?_modify,List.getElem?_set]
  by_cases hij:j=i
  .subst hij;have n:j<h.length:=(List.getElem?_eq_some_iff.1 B).1;simp[D,n]
  .simp only[V0 hij,Option.map_map,Function.comp_def]at t ⊢;simpa using t
 .have:((d.modify j λe=>{ e with key:=kenc x,val:=venc v }).toList.map (·.born))=d.toList.map (·.born):=by
   apply WO;intro i;simp only[List.getElem?_map,Array.toList_modify,List.getElem?_modify]
   cases d.toList[i]? with
   | none=>simp
   | some a=>simp;split <;> rfl
  rw[this];exact f
 .intro e2 k;obtain⟨i,hi⟩:=List.getElem?_of_mem k;simp only[Array.toList_modify,List.getElem?_modify]at hi
  cases h3:d.toList[i]? with
  | none=>simp[h3]at hi
  | some a=>
   have:=c a (Wg h3);rw[h3]at hi;simp at hi;subst hi
   split <;> exact this
omit T KO in
theorem mapC_new{x:κ}{v:α}{n:List (κ×α)}{s:Array MapEntry}{c:Nat}(A:(aG m).Nodup)(t:n.Perm m)(y:s.toList.map (λe:MapEntry=>(e.key,e.val))=n.map λp=>(kenc p.1,venc p.2))
  (h:(s.toList.map (·.born)).Nodup) (d:∀e∈s.toList,e.born<c) (f:aJ x n=none) :
  mapC kenc venc (mset x v m) (s.push { key:=kenc x,val:=venc v,born:=c }) (c+1):=by
 have w:(aG n).Nodup:=(t.map Prod.fst).nodup_iff.2 A;refine⟨oP A,⟨n++[(x,v)],?_,?_⟩,?_,?_⟩
 .unfold mset;rw[kP (by rw[<-qj w t];exact f)];exact (List.perm_append_singleton _ _).trans (t.cons _)
 .simp [y]
 .simp only[Array.toList_push,VT,Wa,Yh];rw[List.nodup_append];refine⟨h,by simp,?_⟩;intro a B b i u;simp at i;subst i;subst u;obtain⟨e2,k,C⟩:=VB.1 B;have:=d e2 k;omega
 .intro e2 j;simp at j
  rcases j with k|k
  .have:=d e2 (by simpa using k);omega
  .subst k;simp
theorem N5{x:κ}{v:α}{K:Unit->aD->Prop}(h:aQ H (mapA kenc venc r m*F))(kk:∀E,aQ E (mapA kenc venc r (mset x v m)*F)->K () E) :
  cB P (Instr.mapUpdate t (.map (some r)) (kenc x) (venc v)) H K:=by
 obtain⟨D,f,a,⟨i,G,d⟩,c,b,k⟩:=mo h;have hb:=k.get;obtain⟨J,M⟩:=tx d;refine .mk λw N=>?_
 subst N
 cases hlook:aJ x i with
 | some u=>
  obtain⟨j,A,y⟩:=getElem?_of_mlook hlook;obtain⟨I,C,B,L⟩:=M j x u A;refine⟨(),_,?_,tz w r (.map (f.modify j λe=>{ e with key:=kenc x,val:=venc v }) a),kk _ (Ep (mapC_set D G d c b A C) (qk k))⟩
  have s:f[j]?=some I:=by simpa using C
  simp[Instr.mapUpdate,run_underlying T.und,Go.MapKept.run_getObj_map hb,KO.chk,KO.fnd x (aG i) f.toList w j I J (by simp[aG,A]) y C,s,B,KO.stay,Go.MapKept.run_setObj_map _ hb]
 | none=>
  have n:x∉aG i:=fw.1 hlook;refine⟨(),_,?_,tz w r (.map (f.push { key:=kenc x,val:=venc v,born:=a }) (a+1)),kk _ (Ep (mapC_new D G d c b hlook) (qk k))⟩;simp[Instr.mapUpdate,run_underlying T.und,Go.MapKept.run_getObj_map hb,KO.chk,KO.non x (aG i) f.toList w J n,Go.MapKept.run_setObj_map _ hb]
theorem N6{x:κ}{ty:Nat}{K:KE}(h:aQ H (mapA kenc venc r m*F))(kk:∀I,aQ I (mapA kenc venc r (bT x m)*F)->K (.tuple #[]) I) :
  cB P (Builtin.delete_ #[t,k] ty #[.map (some r),kenc x]) H K:=by
 obtain⟨B,e,b,⟨f,A,i⟩,d,c,C⟩:=mo h;have hb:=C.get;obtain⟨J,N⟩:=tx i;have y:(aG f).Nodup:=(A.map Prod.fst).nodup_iff.2 B;refine .mk λw Q=>?_
 subst Q
 cases hlook:aJ x f with
 | some u=>
  obtain⟨j,G,E⟩:=getElem?_of_mlook hlook;obtain⟨O,L,R,M⟩:=N j x u G;have v:j<e.size:=by have:=(List.getElem?_eq_some_iff.1 L).1;simpa using this
  have a:(e.eraseIdxIfInBounds j).toList=e.toList.eraseIdx j:=by
   simp[Array.eraseIdxIfInBounds,v,Array.toList_eraseIdx]
  refine⟨.tuple #[],_,?_,tz w r (.map (e.eraseIdxIfInBounds j) b),kk _ ((qk C).frame λp n=>?_)⟩
  .simp [Builtin.delete_,run_underlying T.und,Go.MapKept.run_getObj_map hb,KO.chk,KO.fnd x (aG f) e.toList w j O J (by simp[aG,G]) E L,Go.MapKept.run_setObj_map _ hb]
  .refine⟨rE B,_,_,⟨f.eraseIdx j,?_,?_⟩,?_,?_,n⟩
   .rw [Em y G];exact Eh A
   .rw [a];rw[vN,vN,i]
   .rw [a,vN];exact d.sublist (List.eraseIdx_sublist _ _)
   .intro e2 s;rw[a]at s;exact c e2 (List.mem_of_mem_eraseIdx s)
 | none=>
  have D:x∉aG f:=fw.1 hlook;refine⟨.tuple #[],_,?_,tz w r (.map e b),kk _ ((qk C).frame λp n=>?_)⟩
  .simp [Builtin.delete_,run_underlying T.und,Go.MapKept.run_getObj_map hb,KO.chk,KO.non x (aG f) e.toList w J D,Go.MapKept.run_setObj_map _ hb]
  .refine⟨rE B,e,b,⟨f,?_,i⟩,d,c,n⟩;rw[kP (by rw[<-qj y A];exact hlook)];exact A
omit KO [DecidableEq κ] in
theorem N7{ty:Nat}{K:KE}(h:aQ H (mapA kenc venc r m*F))(kk:∀f,aQ f (mapA kenc venc r []*F)->K (.tuple #[]) f) :
  cB P (Builtin.clear_ #[t] ty #[.map (some r)]) H K:=by
 obtain⟨k,s,a,⟨u,n,i⟩,c,b,e⟩:=mo h;have hb:=e.get;refine .mk λw j=>?_
 subst j;refine⟨.tuple #[],_,?_,tz w r (.map #[] a),kk _ ((qk e).frame λp d=>?_)⟩
 .simp [Builtin.clear_,run_underlying T.und,Go.MapKept.run_getObj_map hb,Go.MapKept.run_setObj_map _ hb]
 .exact⟨by simp,#[],a,⟨[],.refl _,rfl⟩,by simp,by simp,d⟩
omit KO [DecidableEq κ] in
theorem map_len{ty:Nat}(h:aQ H (mapA kenc venc r m*F)):dj P (Builtin.len_ #[t] ty #[.map (some r)]) H (.int .i64 m.length):=by
 obtain⟨n,f,d,⟨s,k,c⟩,e,b,i⟩:=mo h;have hb:=i.get;intro w j;subst j;have a:f.size=m.length:=by
  have:=congrArg List.length c;simp at this;rw[this,k.length_eq]
 simp[Builtin.len_,run_underlying T.und,Go.MapKept.run_getObj_map hb,a,goInt]
end
end
section
variable {κ α:Type}{kenc:κ->Value}{venc:α->Value}{r:Nat}{m m':List (κ×α)}{H:aD}{L:List aE}{P:Program}
theorem aA.mp_new(h:aA H (pt r (.map #[] 0)::L))(kenc:κ->Value)(venc:α->Value):aA H (mapA kenc venc r []::L):=mapA_new h
variable [DecidableEq κ]{t k e:Nat}{z:α}(T:kA P t k e venc z)(KO:mj P k kenc)
include T KO
theorem aA.mp_look{x:κ}(h:aA H L)(i:Nat)(b:aW i L=mapA kenc venc r m) :
  (∀v,aJ x m=some v->dj P (Instr.lookup t (.map (some r)) (kenc x) true) H (.tuple #[venc v,.bool true])/\dj P (Instr.lookup t (.map (some r)) (kenc x) false) H (venc v))/\
  (aJ x m=none->dj P (Instr.lookup t (.map (some r)) (kenc x) true) H (.tuple #[venc z,.bool false])/\dj P (Instr.lookup t (.map (some r)) (kenc x) false) H (venc z)):=by
 have a:=h.foc i;rw[b]at a;exact map_look T KO a
theorem aA.mp_update{x:κ}{v:α}{K:Unit->aD->Prop}(h:aA H L)(i:Nat)(c:aW i L=mapA kenc venc r m)(kk:∀a,aA a (put i (mapA kenc venc r (mset x v m)) L)->K () a) :
  cB P (Instr.mapUpdate t (.map (some r)) (kenc x) (venc v)) H K:=by
 have b:=h.foc i;rw[c]at b;exact N5 T KO b λa d=>kk a (aA.back d)
theorem aA.mp_delete{x:κ}{ty:Nat}{K:KE}(h:aA H L)(i:Nat)(c:aW i L=mapA kenc venc r m)(kk:∀a,aA a (put i (mapA kenc venc r (bT x m)) L)->K (.tuple #[]) a) :
  cB P (Builtin.delete_ #[t,k] ty #[.map (some r),kenc x]) H K:=by
 have b:=h.foc i;rw[c]at b;exact N6 T KO b λa d=>kk a (aA.back d)
omit KO [DecidableEq κ] in
theorem aA.mp_clear{ty:Nat}{K:KE}(h:aA H L)(i:Nat)(c:aW i L=mapA kenc venc r m)(kk:∀a,aA a (put i (mapA kenc venc r []) L)->K (.tuple #[]) a) :
  cB P (Builtin.clear_ #[t] ty #[.map (some r)]) H K:=by
 have b:=h.foc i;rw[c]at b;exact N7 T b λa d=>kk a (aA.back d)
omit KO [DecidableEq κ] in
theorem aA.mp_len{ty:Nat}(h:aA H L)(i:Nat)(b:aW i L=mapA kenc venc r m):dj P (Builtin.len_ #[t] ty #[.map (some r)]) H (.int .i64 m.length):=by
 have a:=h.foc i;rw[b]at a;exact map_len T a
end
open Go Go.Maps Go.RowKit
def sortI(l:List Int):List Int:=l.mergeSort λx y=>decide (x<=y)
theorem vQ{l a:List Int}(h:l.Perm a):sortI l=sortI a:=mergeSort_of_perm_i h
theorem ql(l:List Int):(sortI l).Perm l:=List.mergeSort_perm l _
theorem Er(l:List Int):(sortI l).Pairwise (·<=·):=by
 have:=List.pairwise_mergeSort (le:=λx y:Int=>decide (x<=y)) (λa b c e d=>by simp only[V6]at *;omega) (λa b=>by simp only[VN,V6];omega) l
 exact this.imp (by simp)
theorem yK{l:List Int}(h:l.Pairwise (·<=·)):sortI l=l:=by
 refine List.Perm.eq_of_pairwise (le:=(·<=·)) (λa b _ _ d c=>by omega) (Er l) h (ql l)
theorem vR(l:List Int):(sortI l).length=l.length:=(ql l).length_eq
def aF(x:Int):Prop:=-9223372036854775808<=x/\x<=9223372036854775807
theorem wf64_lit{x:Int}(h:aF x):(Lit.int .i64 x).wf=true:=by
 unfold aF at h;simp[Lit.wf,IntKind.min,IntKind.max,IntKind.signed,IntKind.bits];omega
theorem rF{w a:World}(h:Below w.heap.size w a):dB w.heap a.heap:=λb hb=>h.block b hb
theorem tA{n:Nat}{w a:World}(h:Below n w a):bW w a:=⟨h.os,h.tape,h.output⟩
abbrev oQ(H:Type):Value->Option (DataW H×List MemPlace):=λ_=>some (.lit (.bool true),[])
theorem yL{α:Type}{venc:α->Value}{P:Program}{k:TypeId}{w:World}{r:Nat}{m:List (Int×α)}{F:aE}(N:P.underlying k=some (.int .i64))
  (h:aQ w.heap (mapA (Value.int .i64) venc r m*F)) (Q:∀x∈aG m,aF x) (O:m.length<=maxLen) :
  ∃B:DataW Unit,w.ownsMap P k (oQ Unit) r m.length B/\(intKeys B).Perm (aG m)/\Maps.size B=m.length:=by
 obtain⟨K,c,i,⟨J,A,f⟩,n,d,G⟩:=mo h;have u:c.size=m.length:=by
  have:=congrArg List.length f;simp at this;rw[this,A.length_eq]
 have s:∀x∈c.toList,∃a:Int,x.key=Value.int .i64 a/\Go.WideElems.rd P k (oQ Unit) x=some (.int .i64 a,.lit (.bool true)):=by
  intro x y;have:(x.key,x.val)∈c.toList.map (λe:MapEntry=>(e.key,e.val)):=VB.2 ⟨x,y,rfl⟩
  rw[f]at this;obtain⟨p,E,j⟩:=VB.1 this;have D:p.1∈aG m:=VB.2 ⟨p,A.mem_iff.1 E,rfl⟩;have M:=wf64_lit (Q _ D);simp only[Prod.mk.injEq]at j;refine⟨p.1,j.1.symm,?_⟩;unfold Go.WideElems.rd;rw[<-j.1];simp[keyOf,N,mapKey,M,oQ]
 have b:=Go.WideShapes.sorted_perm (c.toList.map (Go.WideElems.rg P k (oQ Unit)));have I:c.toList.map (λx=>Go.intOf (Go.WideElems.rg P k (oQ Unit) x).1)=aG J:=by
  have t:=(tx f).1;have R:c.toList.map (λx=>Go.intOf (Go.WideElems.rg P k (oQ Unit) x).1)=(c.toList.map (·.key)).map λv=>match v with|.int _ a=>a|_=>0:=by
   rw[Wr];apply WS;intro x y;obtain⟨a,L,G⟩:=s x y;simp[Go.WideElems.rg,G,L,Go.intOf]
  rw[R,t,Wr];simp[Function.comp_def]
 refine⟨_,⟨c,i,G.get,⟨by omega,⟨d,n,?_⟩,λx y=>?_⟩,by omega,rfl⟩,?_,?_⟩
 .have t:=(tx f).1;rw[t];have H:(aG J).Nodup:=(A.map Prod.fst).nodup_iff.2 K;exact Yw.2 (H.imp λC e=>C (by cases e;rfl))
 .obtain⟨a,_,t⟩:=s x y;exact⟨_,t⟩
 .show ((c.toList.map (Go.WideElems.rg P k (oQ Unit))).foldr DataW.insert [] |>.map λp=>Go.intOf p.1).Perm _
  refine (b.map _).trans ?_;rw[Wr];simp only[Function.comp_def];rw[I];exact A.map Prod.fst
 .show ((c.toList.map (Go.WideElems.rg P k (oQ Unit))).foldr DataW.insert []).length=_;rw[b.length_eq];simpa using u
theorem aA.of_row{w b:World}{L:List aE}(h:aA w.heap L)(hb:Below w.heap.size w b){e:TypeId}{v:Value}{n:Nat}{xs:Os}(k:b.ownsRow w.heap.size e 1 v n xs) :
  ∃a c,v=.slice a n c/\aA b.heap (slA e 1 a n c xs::L):=by
 obtain⟨d,u⟩:=k;have g:=rF hb
 rcases u with ⟨rfl,rfl⟩|⟨g1,cap,cur,rfl,s,y,f,hm,hs,x⟩
 .have:xs=[]:=WK (by simpa using d);subst this;exact⟨none,0,rfl,(h.grow g).sl_nil e 1⟩
 .refine⟨_,_,rfl,?_⟩;have t:aA b.heap (cellsA g1 cur.toList e::L):=h.new g s (by simpa using y);refine t.mono λp m=>⟨d,.inr ⟨g1,[],cur.toList.drop n,e,(0,0),rfl,f,?_,λ_ i _ _ j=>by simp at j,?_⟩⟩
  .simp only[VP,W5,Wz];omega
  .have:([]++xs++cur.toList.drop n)=cur.toList:=by
    rw[<-x];simp
   rw[this];exact m
def vS:Value->Value->Option Bool
 | .int k a,.int k' b=>if k=k' then some (a == b) else none
 | .bool a,.bool b=>some (a == b)
 | .string a,.string b=>some (a == b)
 | _,_=>none
def jv:Option TypeDesc->Value->Bool
 | some (.int _),.int _ _=>true
 | some .bool,.bool _=>true
 | some .string,.string _=>true
 | _,_=>false
def tB(P:Program)(xs ys:Os):List Field->Option Bool
 | []=>some true
 | f::fs=>if f.name= "_" then none else match aT xs f.offset,aT ys f.offset with
  | some a,some b=>if jv (P.underlying f.type) a&&jv (P.underlying f.type) b then
    match vS a b,tB P xs ys fs with
    | some r,some s=>some (r&&s)
    | _,_=>none
   else none
  | _,_=>none
def qm(P:Program)(t:TypeId)(xs ys:Os):Option Bool:=
 match P.underlying t with
 | some (.struct fs)=>if P.stoodInHeld t=false/\P.eqGuardType P.depth t=false then tB P xs ys fs.toList else none
 | _=>none
theorem Es{P:Program}{w:World}{t:TypeId}{a b:Value}{r:Bool}(c:jv (P.underlying t) a=true)(hb:jv (P.underlying t) b=true)(h:vS a b=some r)(d:Nat) :
  (Op.equalIn (d+1) t a b).run P w=.ok r w:=by
 cases hu:P.underlying t with
 | none=>rw[hu]at c;simp[jv]at c
 | some k=>
  rw[hu]at c hb
  cases k <;> cases a <;> simp[jv]at c <;> cases b <;> simp[jv]at hb <;> simp[vS]at h
  .subst h;simp[Op.equalIn,run_underlying hu]
  .obtain⟨rfl,rfl⟩:=h;simp[Op.equalIn,run_underlying hu]
  .subst h;simp[Op.equalIn,run_underlying hu]
theorem tC{P:Program}{w:World}{t:TypeId}{xs:Os}{o:Nat}{a:Value}(b:jv (P.underlying t) a=true)(d:aT xs o=some a):(part t ⟨xs⟩ o).run P w=.ok a w:=by
 rw[fO]at d
 cases hu:P.underlying t with
 | none=>rw[hu]at b;simp[jv]at b
 | some k=>
  rw[hu]at b;have c:(⟨xs⟩:Array Value)[o]?=some a:=by simpa using d
  cases k <;> cases a <;> simp[jv]at b <;> simp[part,isAgg,run_underlying hu,c]
theorem yM{P:Program}{w:World}{xs ys:Os}(d:Nat):∀{fs:List Field} {r:Bool},tB P xs ys fs=some r->(Op.eqFields (d+1) ⟨xs⟩ ⟨ys⟩ fs).run P w=.ok r w
 | [],r,h=>by simp[tB]at h;subst h;simp[Op.eqFields]
 | f::fs,r,h=>by
  simp only[tB]at h
  split at h
  .cases h
  .rename_i e
   split at h
   .rename_i a b k j
    split at h
    .rename_i c;simp only[V7]at c
     split at h
     .rename_i r1 s i hs
      cases h
      simp only[Op.eqFields,ne_eq,e,not_false_eq_true,if_true,Sem.run_bind,tC c.1 k,tC c.2 j,Result.andThen_ok,Es c.1 c.2 i]
      cases r1
      .simp
      .simp [yM d hs]
     .cases h
    .cases h
   .cases h
theorem qn{P:Program}{t:TypeId}{xs ys:Os}{r:Bool}(h:qm P t xs ys=some r):gZ P .eql t (.agg ⟨xs⟩) (.agg ⟨ys⟩) r/\gZ P .neq t (.agg ⟨xs⟩) (.agg ⟨ys⟩) (!r):=by
 unfold qm at h
 split at h
 .rename_i j f
  split at h
  .rename_i c;have e:P.fieldsOf t=j:=by simp[Program.fieldsOf,f]
   have d:P.underlying t=some (.struct (P.fieldsOf t)):=by rw[e];exact f
   have i:∀w,(Op.equalIn 10000 t (.agg ⟨xs⟩) (.agg ⟨ys⟩)).run P w=.ok r w:=by
    intro w;show (Op.equalIn (9998+1+1) t (.agg ⟨xs⟩) (.agg ⟨ys⟩)).run P w=.ok r w;generalize 9998=n;rw[run_equalIn_struct w (n+1) t ⟨xs⟩ ⟨ys⟩ d c.1,e];exact yM n h
   constructor
   .intro b a w;simp only[Sem.run_bind,run_eqGuard_agg w .eql t b a ⟨xs⟩ ⟨ys⟩ c.2,Result.andThen_ok,run_eql_struct,i]
   .intro b a w;simp only[Sem.run_bind,run_eqGuard_agg w .neq t b a ⟨xs⟩ ⟨ys⟩ c.2,Result.andThen_ok,run_neq_struct,i]
  .cases h
 .cases h
theorem aK{x:Int}(a:-9223372036854775808<=x:=by omega)(h2:x<=9223372036854775807:=by omega):i64.wrap x=x:=IntWalk.i64_in x (by omega)
def vT(P:Program)(e:TypeId):Option Value:=match P.info? e with|some i=>i.zero|none=>none
theorem og{α:Type}{P:Program}{t k e:Nat}{venc:α->Value}{z:α}(b:P.underlying t=some (.map k e))(a:vT P e=some (venc z)):kA P t k e venc z:=by
 refine⟨b,?_⟩;unfold vT at a
 split at a
 .rename_i i hi;exact⟨i,hi,a⟩
 .cases a
theorem Et{α:Type}{enc:α->Value}:∀(xs:List α) (j:Nat),aT (xs.map enc) j=(aT xs j).map enc
 | [],_=>rfl
 | _::_,0=>rfl
 | _::r,j+1=>Et r j
theorem aP.at{α:Type}{H:aD}{a:KQ}{enc:α->Value}{xs:List α}(h:aP H a (xs.map enc)){j:Nat}(b:j<xs.length) :
  a=Option.some ⟨aU a,aS a,none⟩/\aL H (aU a) (aS a+j)=Option.some (enc xs[j]):=h j _ (by rw[Et,vJ b];rfl)
theorem Eu(k:IntKind):∀(l:List Int),cT (l.map (Value.int k))=true
 | []=>rfl
 | a::r=>Eu k r
section
variable {H:aD}{L:List aE}
theorem aA.al{Q:Nat->aD->Prop}{cs:Os}{e:TypeId}(h:aA H L)(k:∀b a,aA a (cellsA b cs e::L)->Q b a):∀(b:Nat) (a:aD),b=H.size->a=H.push (.cells cs.toArray e)->Q b a:=by
 rintro b a rfl rfl;exact k _ _ (h.push _)
theorem aA.alm{κ α:Type}{Q:Nat->aD->Prop}(h:aA H L)(kenc:κ->Value)(venc:α->Value)(k:∀b a,aA a (mapA kenc venc b []::L)->Q b a):∀(b:Nat) (a:aD),b=H.size->a=H.push (.map #[] 0)->Q b a:=by
 rintro b a rfl rfl;exact k _ _ ((h.push _).mp_new kenc venc)
theorem aA.st{Q:aD->Prop}{b o e:Nat}{vs cs:Os}(h:aA H L)(i:Nat)(c:aW i L=cellsA b cs e)(d:Nat.ble (o+vs.length) cs.length=true)(k:∀a,aA a (put i (cellsA b (cv cs o vs) e) L)->Q a) :
  eV H b o vs/\∀a,a=fM H b o vs->Q a:=by
 refine⟨h.can i c o vs (Yo d),?_⟩;rintro a rfl;exact k _ (h.set i c o vs)
theorem N8{α:Type}:∀(l:List α) (o n f:Nat),f<n->aT ((l.drop o).take n) f=aT l (o+f):=by
 intro l o n f a;rw[fO,fO,List.getElem?_take_of_lt a,List.getElem?_drop]
theorem aA.rds{b o e:Nat}{vs cs:Os}(h:aA H L)(i:Nat)(c:aW i L=cellsA b cs e)(d:(cs.drop o).take vs.length=vs):bE H b o vs:=
 tv λf v a=>by
  rw[h.rd i c,<-N8 cs o vs.length f (od a),d];exact a
theorem Ra1{b o:Nat}{v:Value}(a:aL H b o=some v:=by first|exact h.rd 0 rfl _):aL H b o=some v:=a
theorem Rs1{b o:Nat}{vs:Os}(a:bE H b o vs:=by first|exact h.rds 0 rfl rfl):bE H b o vs:=a
theorem St1{Q:aD->Prop}{b o e i:Nat}{vs cs:Os}(h:aA H L)(k:∀a,aA a (put i (cellsA b (cv cs o vs) e) L)->Q a)(c:aW i L=cellsA b cs e:=by first|exact (rfl:aW 0 _=_))(hl:Nat.ble (o+vs.length) cs.length=true:=by rfl):eV H b o vs/\∀a,a=fM H b o vs->Q a:=h.st i c hl k
theorem Ra2{b o:Nat}{v:Value}(a:aL H b o=some v:=by first|exact h.rd 0 rfl _|exact h.rd 1 rfl _):aL H b o=some v:=a
theorem Rs2{b o:Nat}{vs:Os}(a:bE H b o vs:=by first|exact h.rds 0 rfl rfl|exact h.rds 1 rfl rfl):bE H b o vs:=a
theorem St2{Q:aD->Prop}{b o e i:Nat}{vs cs:Os}(h:aA H L)(k:∀a,aA a (put i (cellsA b (cv cs o vs) e) L)->Q a)(c:aW i L=cellsA b cs e:=by first|exact (rfl:aW 0 _=_)|exact (rfl:aW 1 _=_))(hl:Nat.ble (o+vs.length) cs.length=true:=by rfl):eV H b o vs/\∀a,a=fM H b o vs->Q a:=h.st i c hl k
theorem Ra3{b o:Nat}{v:Value}(a:aL H b o=some v:=by first|exact h.rd 0 rfl _|exact h.rd 1 rfl _|exact h.rd 2 rfl _):aL H b o=some v:=a
theorem Rs3{b o:Nat}{vs:Os}(a:bE H b o vs:=by first|exact h.rds 0 rfl rfl|exact h.rds 1 rfl rfl|exact h.rds 2 rfl rfl):bE H b o vs:=a
theorem St3{Q:aD->Prop}{b o e i:Nat}{vs cs:Os}(h:aA H L)(k:∀a,aA a (put i (cellsA b (cv cs o vs) e) L)->Q a)(c:aW i L=cellsA b cs e:=by first|exact (rfl:aW 0 _=_)|exact (rfl:aW 1 _=_)|exact (rfl:aW 2 _=_))(hl:Nat.ble (o+vs.length) cs.length=true:=by rfl):eV H b o vs/\∀a,a=fM H b o vs->Q a:=h.st i c hl k
theorem Ra4{b o:Nat}{v:Value}(a:aL H b o=some v:=by first|exact h.rd 0 rfl _|exact h.rd 1 rfl _|exact h.rd 2 rfl _|exact h.rd 3 rfl _):aL H b o=some v:=a
theorem St4{Q:aD->Prop}{b o e i:Nat}{vs cs:Os}(h:aA H L)(k:∀a,aA a (put i (cellsA b (cv cs o vs) e) L)->Q a)(c:aW i L=cellsA b cs e:=by first|exact (rfl:aW 0 _=_)|exact (rfl:aW 1 _=_)|exact (rfl:aW 2 _=_)|exact (rfl:aW 3 _=_))(hl:Nat.ble (o+vs.length) cs.length=true:=by rfl):eV H b o vs/\∀a,a=fM H b o vs->Q a:=h.st i c hl k
theorem aA.q{b o e:Nat}{vs cs:Os}(h:aA H L)(i:Nat)(a:aW i L=cellsA b cs e:=by rfl)(hv:(cs.drop o).take vs.length=vs:=by rfl):bE H b o vs:=h.rds i a hv
theorem aA.getO{b:Nat}{o:Obj}(h:aA H L)(i:Nat)(a:aW i L=pt b o):H[b]?=some o:=by
 have:=h.foc i;rw[a]at this;exact this.get
theorem aA.setO{b:Nat}{o:Obj}(h:aA H L)(i:Nat)(c:aW i L=pt b o)(a:Obj):aA (H.setIfInBounds b a) (put i (pt b a) L):=by
 have:=h.foc i;rw[c]at this;exact aA.back (qk this)
theorem aA.stl{Q:aD->Prop}{b:Nat}{R c:Loop}(h:aA H L)(i:Nat)(d:aW i L=pt b (.loop R))(k:∀a,aA a (put i (pt b (.loop c)) L)->Q a):∀a,a=gJ H b c->Q a:=by
 rintro a rfl;exact k _ (h.setO i d _)
theorem aA.rng(h:aA H L)(R:Loop):aA ((H.push (.deferred (some []))).push (.loop R)) (pt (H.size+1) (.loop R)::pt H.size (.deferred (some []))::L):=by
 have:=(h.push (.deferred (some []))).push (.loop R)
 rwa[Array.size_push]at this
theorem Ew{A:List aE}:aA H (star A::L)↔aA H (A++L):=by
 unfold aA;rw[tq];exact Iff.rfl
theorem aA.open{A:List aE}(h:aA H (star A::L)):aA H (A++L):=Ew.1 h
theorem aA.shut(A:List aE)(h:aA H (A++L)):aA H (star A::L):=Ew.2 h
theorem cJ{α:Type}{A:α->aE}:aA H (exS A::L)↔∃x,aA H (A x::L):=sat_exs
theorem cZ{b o:Nat}{p:Prop}(h:p):NN (some ⟨b,o,none⟩) p:=h
end
section
variable {κ α:Type}{kenc:κ->Value}{venc:α->Value}{r:Nat}{m:List (κ×α)}{H:aD}{L:List aE}{P:Program}
variable [DecidableEq κ]{t k e:Nat}{z:α}(T:kA P t k e venc z)(KO:mj P k kenc)
include T KO
theorem aA.mp_get{x:κ}(h:aA H L)(i:Nat)(a:aW i L=mapA kenc venc r m) :
  dj P (Instr.lookup t (.map (some r)) (kenc x) true) H (.tuple #[venc ((aJ x m).getD z),.bool (aJ x m).isSome]):=by
 have:=h.mp_look T KO i a (x:=x)
 cases hm:aJ x m with
 | none=>exact (this.2 hm).1
 | some v=>exact (this.1 v hm).1
theorem aA.mp_get1{x:κ}(h:aA H L)(i:Nat)(a:aW i L=mapA kenc venc r m) :
  dj P (Instr.lookup t (.map (some r)) (kenc x) false) H (venc ((aJ x m).getD z)):=by
 have:=h.mp_look T KO i a (x:=x)
 cases hm:aJ x m with
 | none=>exact (this.2 hm).2
 | some v=>exact (this.1 v hm).2
end
theorem nC{R:Loop}(a:R.state=.ready)(b:R.pending=none):{ R with state:=.ready,pending:=none }=R:=by
 cases R;simp only at a b;subst a;subst b;rfl
theorem aA.old_rd{H H0:aD}{L:List aE}(h:aA H L)(i:Nat)(d:aW i L=old H0){a:KQ}{cs:Os}(c:aP H0 a cs):aP H a cs:=λj v b=>⟨(c j v b).1,h.cell0 i d (c j v b).2⟩
theorem aA.old_grow{H H0:aD}{L:List aE}(h:aA H L)(i:Nat)(a:aW i L=old H0):dB H0 H:=λb hb=>h.was i a hb
theorem aA.ce_rd{H:aD}{L:List aE}(h:aA H L)(i:Nat){b e:Nat}{cs:Os}(a:aW i L=cellsA b cs e):aP H (some ⟨b,0,none⟩) cs:=λj v c=>⟨rfl,by
 simp only[aU,aS,VQ];rw[h.rd i a];exact c⟩
theorem sat0(H:aD):aA H [old H]:=by unfold aA star;exact (N1 H).eq (by rw[star,vG])
abbrev U8:=Value.int .u8
def KIn(Q:aE)(a:KQ)(cs:Os):Prop:=∀H F,aA H (Q::F)->aP H a cs
def aM(Q Q':aE):Prop:=∀H F,aA H (Q'::F)->∃F',aA H (Q::F')
def KG(H0:aD)(Q:aE):Prop:=∀H F,aA H (Q::F)->dB H0 H
theorem aM.refl(Q:aE):aM Q Q:=λH F h=>⟨F,h⟩
theorem aM.trans{Q Q' a:aE}(h:aM Q Q')(b:aM Q' a):aM Q a:=λH F hs=>by
 obtain⟨d,c⟩:=b H F hs;exact h H d c
theorem gu{H:aD}{A B:aE}{L:List aE}:aA H ((A*B)::L)↔aA H (A::B::L):=by
 unfold aA;simp only[star];rw[ju]
theorem aM.add(A Q:aE):aM Q (A*Q):=λH F h=>⟨A::F,(gu.1 h).ord [1,0] (by decide) |> λ_=>by
 have:=(gu.1 h).o [1,0] 2;exact this⟩
theorem KIn.sub{Q Q':aE}{a:KQ}{cs:Os}(h:KIn Q a cs)(hs:aM Q Q'):KIn Q' a cs:=λH F b=>by
 obtain⟨d,c⟩:=hs H F b;exact h H d c
theorem KG.sub{Q Q':aE}{H0:aD}(h:KG H0 Q)(hs:aM Q Q'):KG H0 Q':=λH F a=>by
 obtain⟨c,b⟩:=hs H F a;exact h H c b
theorem KG.old(H0:aD):KG H0 (old H0):=λH F h=>h.old_grow 0 rfl
theorem KIn.old{H0:aD}{a:KQ}{cs:Os}(h:aP H0 a cs):KIn (old H0) a cs:=λH F hs=>hs.old_rd 0 rfl h
theorem KIn.sl{Q:aE}{e sz n c:Nat}{a:KQ}{cs:Os}:KIn (slA e sz a n c cs*Q) a cs:=λH F h=>(gu.1 h).sl_rd 0 rfl
theorem KIn.nil(Q:aE)(a:KQ):KIn Q a []:=λH F h=>iu H a
theorem KIn.at{Q:aE}{a:KQ}{cs:Os}{H:aD}{L:List aE}(h:KIn Q a cs)(hs:aA H L)(i:Nat)(c:aW i L=Q):aP H a cs:=by
 have b:=hs.foc i;rw[c]at b;exact h H (del i L) b
theorem oh{H:aD}{cs:Os}(h:aP H none cs):cs=[]:=by
 cases cs with
 | nil=>rfl
 | cons v r=>have:=(h 0 v rfl).1;cases this
theorem nD{α:Type}{enc:α->Value}(b:∀x,cT [enc x]=true):∀l:List α,cT (l.map enc)=true
 | []=>rfl
 | a::r=>by
  have c:=b a;have d:=nD b r;have:cT (enc a::r.map enc)=cT ([enc a]++r.map enc):=rfl;rw[Wa,this];exact vM c d
def kQ{κ α:Type}(kenc:κ->Value)(venc:α->Value)(r mb:Nat)(m dn:List (κ×α)):aE:=λh=>
 ∃(es:Array MapEntry) (clock:Nat) (ml:List (κ×α)) (seen:Array Nat) (is:List Nat),
  ((aG m).Nodup/\ml.Perm m/\es.toList.map (λe:MapEntry=>(e.key,e.val))=ml.map (λp=>(kenc p.1,venc p.2))/\(es.toList.map (·.born)).Nodup/\(∀e∈es.toList,e.born<clock)/\
   is.Nodup/\dn.map some=is.map (λi=>ml[i]?)/\seen.toList.map some=is.map (λi=>(es.toList[i]?).map (·.born)))/\
  (pt r (.mapIter (some mb) clock seen clock)*pt mb (.map es clock)) h
section
variable {κ α:Type}{kenc:κ->Value}{venc:α->Value}{r mb:Nat}{m dn:List (κ×α)}{H:aD}{L:List aE}{P:Program}
theorem vU{F:aE}(h:aQ H (kQ kenc venc r mb m dn*F)):∃(c:Array MapEntry) (a:Nat) (d:List (κ×α)) (b:Array Nat) (is:List Nat),
  ((aG m).Nodup/\d.Perm m/\c.toList.map (λe:MapEntry=>(e.key,e.val))=d.map (λp=>(kenc p.1,venc p.2))/\(c.toList.map (·.born)).Nodup/\(∀e∈c.toList,e.born<a)/\
   is.Nodup/\dn.map some=is.map (λi=>d[i]?)/\b.toList.map some=is.map (λi=>(c.toList[i]?).map (·.born)))/\
  aQ H ((pt r (.mapIter (some mb) a b a)*pt mb (.map c a))*F):=by
 obtain⟨g,f,x,y,hd,rfl,⟨c,a,d,b,is,k,j⟩,n⟩:=h;exact⟨c,a,d,b,is,k,_,f,x,y,hd,rfl,j,n⟩
theorem aA.rg_map(h:aA H L)(i:Nat)(e:aW i L=kQ kenc venc r mb m dn):aA H (put i (mapA kenc venc mb m) L):=by
 have d:=h.foc i;rw[e]at d;obtain⟨j,a,k,b,is,⟨f1,f2,f3,f4,f5,_⟩,c⟩:=vU d;refine aA.back ?_;rw[ju]at c;exact c.drop'.frame λp f=>⟨f1,j,a,⟨k,f2,f3⟩,f4,f5,f⟩
theorem N9{w:World}(o:Obj):(newObj o).run P w=.ok w.heap.size (w.alloc o):=rfl
theorem aA.rg_new{t k e:Nat}{z:α}(T:kA P t k e venc z){K:KE}(h:aA H L)(i:Nat)(n:aW i L=mapA kenc venc mb m)
  (kk:∀r b,aA b (put i (kQ kenc venc r mb m []) L)->K (.pointer (some ⟨r,0,none⟩)) b):cB P (Instr.range t (.map (some mb))) H K:=by
 refine .mk λw x=>?_
 subst x;have f:=h.foc i;rw[n]at f;obtain⟨j,u,a,⟨v,f2,f3⟩,f4,f5,d⟩:=mo f;refine⟨.pointer (some ⟨w.heap.size,0,none⟩),w.alloc (.mapIter (some mb) a #[] a),?_,⟨rfl,rfl,rfl⟩,kk _ _ ?_⟩
 .simp [Instr.range,run_underlying T.und,Go.MapKept.run_getObj_map d.get,N9]
 .refine aA.back ?_;have c:=d.push (.mapIter (some mb) a #[] a);rw[<-ju]at c;exact c.frame λp s=>⟨u,a,v,#[],[],⟨j,f2,f3,f4,f5,List.nodup_nil,rfl,rfl⟩,s⟩
theorem aA.rg_next{ty:Nat}{K:KE}(h:aA H L)(i:Nat)(hA:aW i L=kQ kenc venc r mb m dn)
  (k0:dn.Perm m->K (.tuple #[.bool false]) H)
  (k1:∀p,p∈m->p.1∉aG dn->∀H',aA H' (put i (kQ kenc venc r mb m (dn++[p])) L)->K (.tuple #[.bool true,kenc p.1,venc p.2]) H') :
  cB P (Instr.next (.pointer (some ⟨r,0,none⟩)) false ty) H K:=by
 refine .mk λw hw=>?_
 subst hw;have F:=h.foc i;rw[hA]at F;obtain⟨k,c,f,d,is,⟨f1,f2,f3,f4,f5,f6,f7,f8⟩,T⟩:=vU F;rw[ju]at T;have h7:k.toList.length=f.length:=by have:=congrArg List.length f3;simpa using this
 have W:∀(i j:Nat) (a b:MapEntry),k.toList[i]?=some a->k.toList[j]?=some b->a.born=b.born->i=j:=by
  intro i j a b N hb D;have A:(k.toList.map (·.born))[i]?=some a.born:=by simp[List.getElem?_map,N]
  have F:(k.toList.map (·.born))[j]?=some a.born:=by simp[List.getElem?_map,hb,D]
  have hi:i<(k.toList.map (·.born)).length:=by
   rcases VV i (k.toList.map (·.born)).length with h|h
   .exact h
   .rw [List.getElem?_eq_none h]at A;cases A
  exact (List.getElem?_inj hi f4).1 (A.trans F.symm)
 have t:∀b,b∈d.toList↔∃i∈is,∃a,k.toList[i]?=some a/\a.born=b:=by
  intro b;have:b∈d.toList↔some b∈d.toList.map some:=by simp
  rw[this,f8,VB]
  constructor
  .rintro⟨i,hi,h⟩
   cases v:k.toList[i]? with
   | none=>rw[v]at h;cases h
   | some a=>rw[v]at h;simp at h;exact⟨i,hi,a,v,h⟩
  .rintro⟨i,hi,a,v,h⟩;exact⟨i,hi,by rw[v];simp[h]⟩
 rcases run_next_at (P:=P) w ty r mb c c d k c T.get T.drop'.get f5 (VA _) with ⟨h0,u⟩|⟨e,v,w1,I,u⟩
 .refine⟨_,_,u,bW.refl _,k0 ?_⟩;have M:∀e∈k.toList,e.born∈d.toList:=by
   intro e v;have V:leftOf k d=#[]:=Array.eq_empty_of_size_eq_zero h0;unfold leftOf at V;rw[Array.filter_eq_empty_iff]at V;have:=V e (by simpa using v);simpa using this
  have Y:is.Perm (List.range f.length):=by
   refine (List.perm_ext_iff_of_nodup f6 List.nodup_range).2 λi=>?_
   rw[WB]
   constructor
   .intro hi
    rcases VV i f.length with h|h
    .exact h
    .exfalso;have A:(none:Option (κ×α))∈dn.map some:=by rw[f7];exact VB.2 ⟨i,hi,by rw[List.getElem?_eq_none h]⟩
     simp at A
   .intro hi;have O:i<k.toList.length:=by omega
    obtain⟨j,B,a,N,D⟩:=(t _).1 (M k.toList[i] (VF O));have:=W j i a k.toList[i] N (List.getElem?_eq_getElem O) D;rw[<-this];exact B
  have S:(dn.map some).Perm (f.map some):=by
   rw[f7];refine (Y.map _).trans ?_;have:(List.range f.length).map (λi=>f[i]?)=f.map some:=by
    apply WO;intro j;simp only[List.getElem?_map]
    by_cases B:j<f.length
    .rw [List.getElem?_range B,List.getElem?_eq_getElem B];simp
    .rw [List.getElem?_eq_none (by simpa using B),List.getElem?_eq_none (by omega)];rfl
   rw[this]
  have h6:=S.filterMap id;simp only[List.filterMap_map,Function.comp_def,id]at h6;rw[List.filterMap_some,List.filterMap_some]at h6;exact h6.trans f2
 .unfold leftOf at v;have J:e∈k.toList/\e.born∉d.toList:=by simpa using v
  obtain⟨s,C,y⟩:=List.mem_iff_getElem.1 J.1;have x:s<f.length:=by omega
  have G:(e.key,e.val)=(kenc f[s].1,venc f[s].2):=by
   have:=congrArg (λl=>l[s]?) f3
   simp only[List.getElem?_map,List.getElem?_eq_getElem C,List.getElem?_eq_getElem x,We,y]at this;exact Option.some.inj this
  have Q:s∉is:=λhi=>J.2 ((t _).2 ⟨s,hi,e,by rw[List.getElem?_eq_getElem C,y],rfl⟩)
  have Z:(aG f).Nodup:=(f2.map Prod.fst).nodup_iff.2 f1;refine⟨_,_,u,?_,?_⟩
  .rcases I with rfl|rfl <;> exact⟨rfl,rfl,rfl⟩
  .have e1:e.key=kenc f[s].1:=congrArg Prod.fst G;have e2:e.val=venc f[s].2:=congrArg Prod.snd G;rw[e1,e2];refine k1 f[s] (f2.mem_iff.1 (VF x)) (λR=>?_) _ (aA.back ?_)
   .obtain⟨q,hq,U⟩:=VB.1 R;have:some q∈dn.map some:=VB.2 ⟨q,hq,rfl⟩;rw[f7]at this;obtain⟨j,B,n⟩:=VB.1 this;have E:j<f.length:=by
     rcases VV j f.length with h|h
     .exact h
     .rw [List.getElem?_eq_none h]at n;cases n
    rw[List.getElem?_eq_getElem E]at n;have n:=Option.some.inj n;have:j=s:=by
     have A:(aG f)[j]?=some q.1:=by simp[aG,List.getElem?_eq_getElem E,n]
     have F:(aG f)[s]?=some q.1:=by simp[aG,List.getElem?_eq_getElem x,U]
     exact (List.getElem?_inj (by simpa[aG] using E) Z).1 (A.trans F.symm)
    exact Q (this▸B)
   .have h4:aQ (w.heap.setIfInBounds r (.mapIter (some mb) c (d.push e.born) c)) (pt r (.mapIter (some mb) c (d.push e.born) c)*(pt mb (.map k c)*star (del i L))):=qk T;have S:aQ (Go.ChangeMaps.setBlock w1 r (.mapIter (some mb) c (d.push e.born) c)).heap (pt r (.mapIter (some mb) c (d.push e.born) c)*(pt mb (.map k c)*star (del i L))):=by
     rcases I with rfl|rfl <;> exact h4
    rw[<-ju]at S;refine S.frame λp Y=>⟨k,c,f,d.push e.born,is++[s],⟨f1,f2,f3,f4,f5,?_,?_,?_⟩,Y⟩
    .exact List.nodup_append.2 ⟨f6,by simp,λa N b hb=>by simp at hb;subst hb;exact λe=>Q (e▸N)⟩
    .rw [VT,f7,VT];simp[List.getElem?_eq_getElem x]
    .rw [Array.toList_push,VT,f8,VT];simp only[Wa,Yh,List.getElem?_eq_getElem C,y,We]
theorem aA.rg_entry{p:κ×α}(h:aA H L)(i:Nat)(D:aW i L=kQ kenc venc r mb m (dn++[p])):dj P (Instr.entry (.pointer (some ⟨r,0,none⟩))) H (.tuple #[kenc p.1,venc p.2]):=by
 intro w B;subst B;have x:=h.foc i;rw[D]at x;obtain⟨d,a,u,e,is,⟨f1,f2,f3,f4,f5,f6,f7,f8⟩,s⟩:=vU x;rw[ju]at s;have n:=congrArg List.length f7;have f:=congrArg List.length f8;simp only[VH,V3,Wo]at n f
 rcases Y7 is with t|⟨A,c,rfl⟩
 .subst t;simp at n
 rw[Y8]at *;rw[VT,VT]at f7;have e7:=(List.append_inj' f7 (by simp)).2;simp only[Wa,Yh,List.cons.injEq,and_true]at e7;have C:c<u.length:=by
  rcases VV c u.length with h|h
  .exact h
  .rw [List.getElem?_eq_none h]at e7;cases e7
 have y:d.toList.length=u.length:=by have:=congrArg List.length f3;simpa using this
 have j:c<d.toList.length:=by omega
 rcases Y7 e.toList with t|⟨s0,b,hs⟩
 .rw [t]at f;simp at f
 rw[Y8]at hs;rw[hs,VT,VT]at f8;have e8:=(List.append_inj' f8 (by simp)).2;simp only[Wa,Yh,List.cons.injEq,and_true,List.getElem?_eq_getElem j,We,Option.some.injEq]at e8;have v:e=(⟨s0⟩:Array Nat).push d.toList[c].born:=by apply Array.ext';rw[hs,e8];simp
 have k:(d.toList[c].key,d.toList[c].val)=(kenc p.1,venc p.2):=by
  have:=congrArg (λl=>l[c]?) f3
  simp only[List.getElem?_map,List.getElem?_eq_getElem j,<-e7,We]at this;exact Option.some.inj this
 have e1:d.toList[c].key=kenc p.1:=congrArg Prod.fst k;have e2:d.toList[c].val=venc p.2:=congrArg Prod.snd k;rw[v]at s;have:=run_entry_at (P:=P) w r mb a ⟨s0⟩ d a d.toList[c] s.get s.drop'.get (VF j) f4;rw[e1,e2]at this;exact this
end
def oR(H:aD)(r:Nat):Nat:=match H[r]? with|some (.mapIter _ _ seen _)=>seen.size|_=>0
theorem aA.rg_count{κ α:Type}{kenc:κ->Value}{venc:α->Value}{r mb:Nat}{m dn:List (κ×α)}{H:aD}{L:List aE}(h:aA H L)(i:Nat)(s:aW i L=kQ kenc venc r mb m dn):oR H r=dn.length/\dn.length<=m.length:=by
 have k:=h.foc i;rw[s]at k;obtain⟨t,d,j,e,is,⟨f1,f2,f3,f4,f5,f6,f7,f8⟩,f⟩:=vU k;rw[ju]at f;have a:=congrArg List.length f7;have b:=congrArg List.length f8;simp only[VH]at a b;refine⟨?_,?_⟩
 .unfold oR;rw[f.get];simp only;rw[<-W5,b,a]
 .rw [a,<-f2.length_eq];have c:is ⊆ List.range j.length:=by
   intro i hi;rw[WB]
   rcases VV i j.length with h|h
   .exact h
   .exfalso;have n:(none:Option (κ×α))∈dn.map some:=by rw[f7];exact VB.2 ⟨i,hi,by rw[List.getElem?_eq_none h]⟩
    simp at n
  have:=f6.length_le_of_subset c;simpa using this
def fj(s:Fa):List Int:=s.data.toList.map λb=>(b.toNat:Int)
theorem tD(s:Fa):(fj s).length=s.size:=by
 rw[fj,VH,W5];rfl
theorem NH(s:Fa):∀x∈fj s,0<=x/\x<256:=by
 intro x a;simp only[fj,VB]at a;obtain⟨b,_,rfl⟩:=a;have:=b.toNat_lt;omega
section
variable {H:aD}{F:aE}{e sz n c:Nat}{a:KQ}{cs:Os}
theorem Ex{P:Program}(s:Fa)(size:Nat)(w:World):(Builtin.firstCells size s.size (.string s)).run P w=.ok (((fj s).map U8).toArray) w:=by
 have a:s.extract 0 s.size=s:=by simp
 have c:s.data.map (λb=>Value.int .u8 b.toNat)=((fj s).map U8).toArray:=by
  apply Array.ext';rw[Array.toList_map,List.toList_toArray,fj,Wr];rfl
 simp only[Builtin.firstCells,a,c];rfl
theorem NI{P:Program}{t ts bytes ty:Nat}(T:SlT P t e 1 bytes)(A:P.underlying ts=some .string){s:Fa}{K:KE}(h:aQ H (slA e 1 a n c cs*F))
  (hb:(n+s.size)*bytes<=140737488355328) (hn:n+s.size<=140737488355328)
  (k:∀Y Z W,aQ W (slA e 1 Y (n+s.size) Z (cs++(fj s).map U8)*F)->K (.slice Y (n+s.size) Z) W) :
  cB P (Builtin.append_ #[t,ts] ty #[.slice a n c,.string s]) H K:=by
 obtain⟨V,h1,i,z,hi,hz,x,rfl,v⟩:=T;refine .mk λw U=>?_
 subst U;obtain⟨d,B⟩:=kz h;have O:((fj s).map U8).length=s.size:=by rw[VH,tD]
 have I:cT ((fj s).map U8)=true:=nD (λ_=>rfl) _
 have M:¬(9223372036854775807<(n:Int)+(s.size:Int)):=by omega
 have y:=Ex (P:=P) s i.size w;have Q:=Ex (P:=P) s i.size w.drew;have E:=tt (P:=P) (w:=w.drew) (a2:=a) (m:=n) (c2:=c) (yF h) d;generalize hws:(fj s).map U8=ws at *;rw[<-x]at d B v E
 by_cases hroom:n+s.size<=c
 .rcases B with ⟨B,h3,D,C⟩|⟨b,pre,post,e',fr,B,h3,D,N,C⟩
  .subst B;subst h3;subst D;have h0:s.size=0:=by omega
   obtain rfl:ws=[]:=WK (by omega);obtain rfl:cs=[]:=WK (by simpa using d);refine⟨.slice none (0+s.size) 0,w,?_,bW.refl w,k _ _ _ ?_⟩
   .rw [h0]at y;simp[Builtin.append_,run_underlying V,run_underlying A,sizeOf,typeInfo,hi,Builtin.lenOf,h0,y]
   .rw [h0];exact rB C
  .subst B;have f:i.size=1:=x.symm▸rfl;have G:ws.length<=post.length:=by
    rw[f]at D;omega
   have u:eV w.heap b (pre.length+n*i.size) ws:=C.canG ws _ (by rw[f]at d ⊢;simp[d];rw[f]at D;omega) λj J L=>N j (by omega) (by rw[f]at L ⊢;omega)
   obtain⟨w',J,L,h8⟩:=qX (P:=P) (b:=b) ws (pre.length+n*i.size) 0 w (by simpa using u) (by simpa using qY _ _ u) I;refine⟨.slice (some ⟨b,pre.length,none⟩) (n+s.size) c,w',?_,L,k _ _ _ ?_⟩
   .simp [Builtin.append_,run_underlying V,run_underlying A,sizeOf,typeInfo,hi,Builtin.lenOf,hroom,y,iQ,J]
   .rw [h8];have h9:=aQ.setsG ws (pre.length+n*i.size) C;have e1:pre.length+n*i.size=(pre++cs).length:=by simp[d]
    rw[e1,rC _ _ _ G]at h9;rw[WJ,e1];rw[f]at d D;refine h9.frame λp I=>⟨by simp[d,O],.inr ⟨b,pre,post.drop ws.length,e',fr,rfl,hroom,?_,λh=>by rw[f]at N;exact N,by simpa using I⟩⟩
    rw[VP,O];omega
 .have S:¬(281474976710656<Builtin.nextslicecap (n+s.size) c*i.bytes):=by
   have:=growslice_fits (need:=n+s.size) (old:=c) (bytes:=i.bytes) (by omega) hb;omega
  refine⟨.slice (some ⟨w.heap.size,0,none⟩) (n+s.size) (grownCap w (n+s.size) c e),w.drew.alloc (.cells (cs.toArray++ws.toArray++Builtin.zeroCells z.cells (grownCap w (n+s.size) c e-(n+s.size))) e),?_,⟨rfl,rfl,rfl⟩,k _ _ _ ?_⟩
  .simp [Builtin.append_,run_underlying V,run_underlying A,sizeOf,typeInfo,zeroValue,hi,hz,Builtin.lenOf,hroom,M,S,Question.forced,E,Q,newRow,grownCap];congr 2;apply Array.ext';simp[VI]
  .have C:aQ w.heap F:=h.drop';have J:=C.push (.cells (cs.toArray++ws.toArray++Builtin.zeroCells z.cells (grownCap w (n+s.size) c e-(n+s.size))) e);have R:=grownCap_ge w (n+s.size) c e;have f:i.size=1:=x.symm▸rfl;rw[f]at d v;refine J.frame λp I=>⟨by simp[d,O],.inr ⟨w.heap.size,[],(Builtin.zeroCells z.cells (grownCap w (n+s.size) c e-(n+s.size))).toList,e,(0,0),rfl,R,?_,λ_ i _ _ hh=>by simp at hh,?_⟩⟩
   .rw [W5,size_zeroCells,v];exact VA _
   .have e2:(([]:Os)++(cs++ws)++(Builtin.zeroCells z.cells (grownCap w (n+s.size) c e-(n+s.size))).toList).toArray=cs.toArray++ws.toArray++Builtin.zeroCells z.cells (grownCap w (n+s.size) c e-(n+s.size)):=by
     apply Array.ext';simp
    rw[e2];exact I
end
theorem aA.appendS{P:Program}{t ts bytes ty e n c:Nat}{a:KQ}{cs:Os}{H:aD}{L:List aE}(T:SlT P t e 1 bytes)(j:P.underlying ts=some .string){s:Fa}{K:KE}(h:aA H L)(i:Nat)(v:aW i L=slA e 1 a n c cs)
  (hb:(n+s.size)*bytes<=140737488355328) (u:n+s.size<=140737488355328)
  (k:∀d f b,aA b (put i (slA e 1 d (n+s.size) f (cs++(fj s).map U8)) L)->K (.slice d (n+s.size) f) b) :
  cB P (Builtin.append_ #[t,ts] ty #[.slice a n c,.string s]) H K:=by
 have m:=h.foc i;rw[v]at m;exact NI T j m hb u λd f b w=>k d f b (aA.back w)
end Go.Proofs.YtaaieblnikcndaaGreatDoor
