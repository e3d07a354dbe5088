/-
  Lemmas for GateKept: part 1 of what it rests on. Conditions: none.
-/
import Derived.Test.YtaaieblnikcndaaGreatDoorGK0
set_option linter.unusedVariables false
set_option linter.unusedSimpArgs false
set_option maxRecDepth 100000
set_option maxHeartbeats 16000000
open Go.IntKind (i64 u64 i8 u8 i32 u32 i16 u16)
namespace Go.Proofs.YtaaieblnikcndaaGreatDoor
open Go
def cU.fits:cU->Value->Bool
 | .int k,.int k' _=>k=k'
 | .bool,.bool _=>true
 | .str,.string _=>true
 | .ptr,.pointer _=>true
 | .slice,.slice _ _ _=>true
 | .map,.map _=>true
 | .raw,_=>true
 | .fnv,.func (.func _) ⟨[]⟩ _=>true
 | .adr,.pointer (some ⟨_,_,none⟩)=>true
 | _,_=>false
def nZ:List cU->Os->Bool
 | [],[]=>true
 | l::r,v::vs=>l.fits v&&nZ r vs
 | _,_=>false
def Sh.fits:Sh->Value->Bool
 | .one l,v=>l.fits v
 | .agg ls,.agg cs=>nZ ls cs.toList
 | .agg _,_=>false
def cU.lam:(l:cU)->{T:Type}->(Value->T)->l.fn T
 | .int k,_,f=>λn=>f (.int k n)
 | .bool,_,f=>λb=>f (.bool b)
 | .str,_,f=>λs=>f (.string s)
 | .ptr,_,f=>λa=>f (.pointer a)
 | .slice,_,f=>λa n c=>f (.slice a n c)
 | .map,_,f=>λr=>f (.map r)
 | .raw,_,f=>λv=>f v
 | .fnv,_,f=>λg cap=>f (.func (.func g) ⟨[]⟩ ⟨cap⟩)
 | .adr,_,f=>λb o=>f (.pointer (some ⟨b,o,none⟩))
 | .vec _ _,_,f=>f (.bool false)
def lamLs:(ls:List cU)->{T:Type}->(Os->T)->fnLs ls T
 | [],_,f=>f []
 | l::r,T,f=>l.lam (T:=fnLs r T) λv=>lamLs r λvs=>f (v::vs)
def Sh.lam:(s:Sh)->{T:Type}->(Value->T)->s.fn T
 | .one l,_,f=>l.lam f
 | .agg ls,_,f=>lamLs ls λvs=>f (.agg ⟨vs⟩)
def lamJ:(L:du)->{T:Type}->(Os->T)->JT T L
 | [],_,f=>f []
 | (_,s)::r,T,f=>s.lam (T:=JT T r) λv=>lamJ r λvs=>f (v::vs)
theorem CK{v:Value}(h:cU.fits .fnv v=true):∃g cap,v=.func (.func g) ⟨[]⟩ cap:=by
 cases v <;> (try cases h)
 rename_i fn first cap
 cases fn <;> (try cases h)
 rcases first with ⟨_|_⟩ <;> (try cases h);exact⟨_,_,rfl⟩
theorem CN{v:Value}(h:cU.fits .adr v=true):∃b o,v=.pointer (some ⟨b,o,none⟩):=by
 cases v <;> (try cases h)
 rename_i a
 rcases a with _|⟨b,o,_|s⟩ <;> (try cases h);exact⟨_,_,rfl⟩
theorem CR(l:cU){T:Type}(f:Value->T)(v:Value)(h:l.fits v=true):l.app (l.lam f) v=some (f v):=by
 cases l
 case fnv=>obtain⟨g,⟨cap⟩,rfl⟩:=CK h;rfl
 case adr=>obtain⟨b,o,rfl⟩:=CN h;rfl
 all_goals (cases v <;> simp_all[cU.fits,cU.app,cU.lam])
theorem CZ(l:cU){T:Type}(f:l.fn T)(v:Value)(g:T)(h:l.app f v=some g):l.fits v=true:=by
 cases l
 case fnv=>
  cases v <;> (try cases h)
  rename_i fn first cap
  cases fn <;> (try cases h)
  rcases first with ⟨_|_⟩ <;> (try cases h);rfl
 case adr=>
  cases v <;> (try cases h)
  rename_i a
  rcases a with _|⟨b,o,_|s⟩ <;> (try cases h);rfl
 all_goals (cases v <;> simp_all[cU.fits,cU.app])
theorem Da{l:cU}{K:Value->Prop}:l.all K↔∀v,l.fits v=true->K v:=by
 cases l
 case int k=>exact⟨λh v d=>by cases v <;> simp[cU.fits]at d;subst d;exact h _,λh n=>h _ (by simp[cU.fits])⟩
 case bool=>exact⟨λh v d=>by cases v <;> simp[cU.fits]at d;exact h _,λh n=>h _ rfl⟩
 case str=>exact⟨λh v d=>by cases v <;> simp[cU.fits]at d;exact h _,λh n=>h _ rfl⟩
 case ptr=>exact⟨λh v d=>by cases v <;> simp[cU.fits]at d;exact h _,λh n=>h _ rfl⟩
 case slice=>exact⟨λh v d=>by cases v <;> simp[cU.fits]at d;exact h _ _ _,λh a n c=>h _ rfl⟩
 case adr=>exact⟨λh v d=>by obtain⟨b,o,rfl⟩:=CN d;exact h _ _,λh b o=>h _ rfl⟩
 case fnv=>exact⟨λh v d=>by obtain⟨g,⟨cap⟩,rfl⟩:=CK d;exact h _ _,λh f cap=>h _ rfl⟩
 case map=>exact⟨λh v d=>by cases v <;> simp[cU.fits]at d;exact h _,λh n=>h _ rfl⟩
 case raw=>exact⟨λh v _=>h v,λh v=>h v rfl⟩
 case vec=>exact⟨λh v d=>(by cases v <;> cases d),λh=>trivial⟩
theorem Db:∀(ls:List cU) {T:Type} (f:Os->T) (vs:Os),nZ ls vs=true->qS ls (lamLs ls f) vs=some (f vs)
 | [],_,f,[],_=>rfl
 | [],_,f,_::_,h=>by cases h
 | l::r,_,f,[],h=>by cases h
 | l::r,T,f,v::vs,h=>by
  simp only[nZ,Vz]at h;simp only[qS,lamLs];rw[CR l _ v h.1];exact Db r _ vs h.2
theorem Dc:∀(ls:List cU) {T:Type} (f:fnLs ls T) (vs:Os) (g:T),qS ls f vs=some g->nZ ls vs=true
 | [],_,f,[],_,_=>rfl
 | [],_,f,_::_,_,h=>by cases h
 | l::r,_,f,[],_,h=>by cases h
 | l::r,T,f,v::vs,g,h=>by
  simp only[qS]at h
  split at h
  .rename_i b a;simp only[nZ,Vz];exact⟨CZ l _ v _ a,Dc r _ vs g h⟩
  .cases h
theorem ls_all:∀{ls:List cU} {K:Os->Prop},allLs ls K↔∀a,nZ ls a=true->K a
 | [],K=>⟨λh a b=>(by cases a with|nil=>exact h|cons=>cases b),λh=>h [] rfl⟩
 | l::r,K=>by
  simp only[allLs,Da,ls_all];refine⟨λh a b=>?_,λh v b a c=>h _ (by simp[nZ,b,c])⟩
  cases a with
  | nil=>cases b
  | cons v a=>
   simp only[nZ,Vz]at b;exact h v b.1 a b.2
theorem Nj(s:Sh){T:Type}(f:Value->T)(v:Value)(h:s.fits v=true):s.app (s.lam f) v=some (f v):=by
 cases s with
 | one l=>exact CR l f v h
 | agg ls=>
  cases v <;> try cases h
  rename_i cs;simp only[Sh.app,Sh.lam];rw[Db ls _ cs.toList h]
theorem Nk(s:Sh){T:Type}(f:s.fn T)(v:Value)(g:T)(h:s.app f v=some g):s.fits v=true:=by
 cases s with
 | one l=>exact CZ l f v g h
 | agg ls=>
  cases v <;> try cases h
  rename_i cs;exact Dc ls f cs.toList g h
theorem sh_all{s:Sh}{K:Value->Prop}:s.all K↔∀v,s.fits v=true->K v:=by
 cases s with
 | one l=>exact Da
 | agg ls=>
  simp only[Sh.all,ls_all];refine⟨λh v b=>?_,λh c a=>h _ a⟩
  cases v <;> try cases b
  exact h _ b
def lA:du->Os->Bool
 | [],[]=>true
 | (_,s)::r,v::vs=>s.fits v&&lA r vs
 | _,_=>false
def gG:du->Fr->Os->Fr
 | (t,_)::r,fr,v::vs=>gG r (ir fr t (.p v)) vs
 | _,fr,_=>fr
def gH(fr:Fr):du->Option (Os)
 | []=>some []
 | (t,_)::r=>match iJ fr t,gH fr r with|some v,some vs=>some (v::vs)|_,_=>none
def appV:(L:du)->{T:Type}->JT T L->Os->Option T
 | [],_,j,[]=>some j
 | (_,s)::r,T,j,v::vs=>match s.app (T:=JT T r) j v with|some j'=>appV r j' vs|none=>none
 | _,_,_,_=>none
theorem yw:∀{L:du} {fr:Fr} {K:Fr->Prop},allJ L fr K↔∀a,lA L a=true->K (gG L fr a)
 | [],fr,K=>⟨λh a b=>(by cases a with|nil=>exact h|cons=>cases b),λh=>h [] rfl⟩
 | (t,s)::r,fr,K=>by
  simp only[allJ,lv,sh_all,yw];refine⟨λh a b=>?_,λh v b a c=>h (v::a) (by simp[lA,b,c])⟩
  cases a with
  | nil=>cases b
  | cons v a=>
   simp only[lA,Vz]at b;exact h v b.1 a b.2
theorem yx:∀(L:du) {T:Type} (j:JT T L) (fr:Fr) (g:T),lu L j fr=some g->∃a,gH fr L=some a/\appV L j a=some g/\lA L a=true
 | [],_,j,fr,g,h=>⟨[],rfl,h,rfl⟩
 | (t,s)::r,T,j,fr,g,h=>by
  simp only[lu]at h
  cases hg:iJ fr t with
  | none=>simp[hg]at h
  | some v=>
   simp only[hg]at h
   cases ha:s.app (T:=JT T r) j v with
   | none=>simp[ha]at h
   | some j'=>
    simp only[ha]at h;obtain⟨a,b,d,c⟩:=yx r j' fr g h;refine⟨v::a,?_,?_,?_⟩
    .simp only[gH,hg,b]
    .simp only[appV,ha,d]
    .simp only[lA,Nk s _ v _ ha,c,Bool.and_self]
theorem qe:∀(L:du) {T:Type} (j:JT T L) (fr:Fr) (vs:Os),gH fr L=some vs->lu L j fr=appV L j vs
 | [],_,j,fr,vs,h=>by simp[gH]at h;subst h;rfl
 | (t,s)::r,T,j,fr,vs,h=>by
  simp only[gH]at h
  cases hg:iJ fr t with
  | none=>simp[hg]at h
  | some v=>cases hr:gH fr r with
   | none=>simp[hg,hr]at h
   | some vs'=>
    simp only[hg,hr,Option.some.injEq]at h;subst h;simp only[lu,hg,appV]
    cases s.app (T:=JT T r) j v with
    | none=>rfl
    | some j'=>exact qe r j' fr vs' hr
theorem yy:∀(L:du) {T:Type} (f:Os->T) (vs:Os),lA L vs=true->appV L (lamJ L f) vs=some (f vs)
 | [],_,f,[],_=>rfl
 | [],_,f,_::_,h=>by cases h
 | _::_,_,f,[],h=>by cases h
 | (t,s)::r,T,f,v::vs,h=>by
  simp only[lA,Vz]at h;simp only[appV,lamJ];rw[Nj s _ v h.1];exact yy r _ vs h.2
def nv:du->Nat->Bool
 | [],_=>true
 | (t,_)::r,n=>Nat.blt t n&&r.all (λx=>!(Nat.beq x.1 t))&&nv r n
theorem Dd:∀(L:du) (fr:Fr) (vs:Os),(gG L fr vs).length=fr.length
 | [],fr,vs=>by cases vs <;> rfl
 | (t,s)::r,fr,[]=>rfl
 | (t,s)::r,fr,v::vs=>by simp only[gG];rw[Dd,qd]
theorem De:∀(L:du) (fr:Fr) (vs:Os) (t:Nat),(∀x∈L,x.1≠t)->aT (gG L fr vs) t=aT fr t
 | [],fr,vs,t,_=>by cases vs <;> rfl
 | (u,s)::r,fr,[],t,_=>rfl
 | (u,s)::r,fr,v::vs,t,h=>by
  simp only[gG];rw[De r _ vs t (λx b=>h x (VD _ b)),l9,Vs (λa=>h _ VA a.1)]
theorem Nl{t:Nat}{s:Sh}{r:du}{n:Nat}(h:nv ((t,s)::r) n=true):t<n/\(∀x∈r,x.1≠t)/\nv r n=true:=by
 simp only[nv,Vz,Wg]at h;refine⟨by have:=h.1.1;simpa[Nat.blt_eq] using this,λx b a=>?_,h.2⟩
 have:=h.1.2 x b;rw[a]at this;simp at this
theorem tg:∀(L:du) (fr:Fr) (vs:Os),nv L fr.length=true->lA L vs=true->gH (gG L fr vs) L=some vs
 | [],fr,[],_,_=>rfl
 | [],fr,_::_,_,h=>by cases h
 | _::_,fr,[],_,h=>by cases h
 | (t,s)::r,fr,v::vs,hok,h=>by
  obtain⟨b,d,c⟩:=Nl hok;simp only[lA,Vz]at h;have a:=tg r (ir fr t (.p v)) vs (by rw[qd];exact c) h.2;simp only[gG,gH,a];have:iJ (gG r (ir fr t (.p v)) vs) t=some v:=by
   unfold iJ;rw[De r _ vs t d,l9,Vt ⟨rfl,b⟩]
  rw[this]
theorem Df:∀{L:du} {fr:Fr} {vs:Os},gH fr L=some vs->∀a,(∀t v,aT fr t=some (.p v)->t<a.length)->∀t v,aT (gG L a vs) t=some (.p v)->aT fr t=some (.p v)\/(aT a t=some (.p v)/\∀x∈L,x.1≠t)
 | [],fr,vs,h,a,_,t,v,hl=>by simp[gH]at h;subst h;exact .inr ⟨hl,λx c=>by cases c⟩
 | (u,s)::r,fr,vs,h,a,hlen,t,v,hl=>by
  simp only[gH]at h
  cases hg:iJ fr u with
  | none=>simp[hg]at h
  | some v'=>cases hr:gH fr r with
   | none=>simp[hg,hr]at h
   | some vs'=>
    simp only[hg,hr,Option.some.injEq]at h;subst h;have b:aT fr u=some (.p v'):=by
     unfold iJ at hg
     split at hg
     .rename_i w e;cases hg;exact e
     .cases hg
    simp only[gG]at hl
    rcases Df hr (ir a u (.p v')) (λt v h=>by rw[qd];exact hlen t v h) t v hl with h1|⟨h1,h2⟩
    .exact .inl h1
    .rw [l9]at h1
     split at h1
     .rename_i d
      cases h1
      left;rw[<-d.1];exact b
     .rename_i d;refine .inr ⟨h1,λx c=>?_⟩
      rcases V9.1 c with rfl|c
      .exact λf=>d ⟨f,by have:=hlen u v' b;exact this⟩
      .exact h2 x c
def hI:List Oper->List Nat
 | []=>[]
 | o::r=>match o.dst with|some d=>d::hI r|none=>hI r
def fT:Code->List Nat
 | .region _ ops _=>hI ops.toList
 | .seq a b=>fT a++fT b
 | .cond _ a b=>fT a++fT b
 | .block _ a=>fT a
 | .loop a=>fT a
 | _=>[]
inductive Ann where
 | no
 | reg
 | regJ (live:du)
 | seq (a b:Ann)
 | cond (a b:Ann)
 | condJ (live:du) (a b:Ann)
 | blk (a:Ann)
 | blkJ (live:du) (a:Ann)
 | loop (live:du) (a:Ann)
 | rng (shs:List Sh) (jumps:List (Option Code)) (x y:Ann)
def natJ(L:du)(μ:JT (aD->Nat) L)(fr:Fr)(H:aD):Nat:=match lu L μ fr with|some m=>m H|none=>0
def qf(L:du)(ds:List Nat)(fr:Fr)(rest:Fr->aD->Prop)(body:(Fr->aD->Prop)->Prop):Prop:=
 if nv L fr.length=false then False else
 ∀J:JT (aD->Prop) L,(iu (lw ds 0 fr) λfr0=>allJ L fr0 λfr'=>∀H',rest fr' H'->jJ L J fr' H')->body (jJ L J)
def rp(X:Ctx)(rd:Bool)(ops:Array Oper)(draw:Bool)(K:Fr->List DM->aD->Prop)(fr:Fr)(H:aD):Prop:=
 match draw with
 | false=>l7 X ops rd K ops.toList [] [] fr H
 | true=>qY X ops (jL ops.toList []) (λfr' H'=>K fr' [] H') ops.size (Array.replicate ops.size false) [] [] [] fr H
def pan1(v:Value):Exit:=.panic [{ v,recovered:=false }]
abbrev QT:=Exit->Fr->List DM->aD->Prop
def gI(H:aD)(l:Nat)(R:Loop):aD:=H.setIfInBounds l (.loop R)
def vy:Fr->List Tmp->Os->Fr
 | fr,t::ts,v::vs=>vy (ir fr t (.p v)) ts vs
 | fr,_,_=>fr
def roundEnd(l:Nat)(R:Loop)(K:KE):Exit->aD->Prop
 | .normal,H=>K (.bool true) (gI H l R)
 | .ret,H=>K (.bool false) (gI H l { R with state:=.done,pending:=some .ret })
 | .exit i,H=>K (.bool false) (gI H l { R with state:=.done,pending:=some (.exit i) })
 | _,_=>False
def jumpQ(Q:Exit->Prop):Option Code->Prop
 | none=>Q .normal
 | some .ret=>Q .ret
 | some (.exit i)=>Q (.exit i)
 | some _=>False
def jumpK(Q:Exit->Prop):List (Option Code)->Option Code->Prop
 | [],_=>False
 | [c],pd=>pd=c/\jumpQ Q c
 | c::d::r,pd=>(pd=c/\jumpQ Q c)\/jumpK Q (d::r) pd
def ky:List DM->Prop->Prop
 | [],q=>q
 | _::_,_=>False
def Ctx.kq(X:Ctx)(ds:List Nat)(fr:Fr)(Q:QT):Ctx:={ X with kp:=λv H=>Q (pan1 v) (gu ds fr) [] H }
def Ctx.np(X:Ctx):Ctx:={ X with kp:=λ_ _=>False }
def seqQ(C:QT->Fr->aD->Prop)(Q:QT):QT:=λe fr M H=>match e with|.normal=>C (λe' fr' M' H'=>Q e' fr' (M'++M) H') fr H|e=>Q e fr M H
def seqN(C:QT->Fr->aD->Prop)(Q:QT):QT:=λe fr M H=>match e with|.normal=>(match M with|[]=>C Q fr H|M=>C (λe' fr' M' H'=>Q e' fr' (M'++M) H') fr H)|e=>Q e fr M H
theorem seqN_eq(C:QT->Fr->aD->Prop)(Q:QT):seqN C Q=seqQ C Q:=by
 funext e fr M H;unfold seqN seqQ
 cases e <;> try rfl
 cases M
 .simp only[VT]
 .rfl
def joinQ(J:Fr->aD->Prop)(Q:QT):QT:=λe fr M H=>match e with|.normal=>ky M (J fr H)|e=>Q e fr M H
def blkQ(id:Nat)(Q:QT):QT:=λe fr M H=>match e with|.exit i=>if i=id then Q .normal fr M H else Q (.exit i) fr M H|e=>Q e fr M H
def blkJQ(id:Nat)(J:Fr->aD->Prop)(Q:QT):QT:=λe fr M H=>match e with|.exit i=>if i=id then ky M (J fr H) else Q (.exit i) fr M H|.normal=>ky M (J fr H)|e=>Q e fr M H
def endJ(L:du)(I:JT (aD->Prop) L)(μ:JT (aD->Nat) L)(fr0:Fr)(H0:aD)(fr:Fr)(H:aD):Prop:=match lu L I fr,lu L μ fr,lu L μ fr0 with
 | some p,some m,some m0=>p H/\m H<m0 H0
 | _,_,_=>False
theorem Nn{L:du}{I:JT (aD->Prop) L}{μ:JT (aD->Nat) L}{a:Fr}{H0:aD}{fr:Fr}{H:aD}(h:endJ L I μ a H0 fr H):jJ L I fr H/\natJ L μ fr H<natJ L μ a H0:=by
 unfold endJ at h;unfold jJ natJ
 split at h
 .rename_i e1 e2 e3;rw[e1,e2,e3];exact h
 .exact h.elim
def loopQ(L:du)(I:JT (aD->Prop) L)(μ:JT (aD->Nat) L)(fr0:Fr)(H0:aD)(Q:QT):QT:=λe fr M H=>match e with|.normal=>ky M (endJ L I μ fr0 H0 fr H)|e=>Q e fr M H
def regQ(X:Ctx)(ds:List Nat)(fr:Fr)(Q:QT)(C:Ctx->Prop):Prop:=match X.nop with|true=>C X.np|false=>C (X.kq ds fr Q)
def norQ(Q:QT):Fr->List DM->aD->Prop:=λfr M H=>Q .normal fr M H
def ft(X:Ctx):Option Nat->Code->Ann->QT->Fr->aD->Prop
 | _,.skip,_,Q,fr,H=>Q .normal fr [] H
 | ro,.region _ ops d,.reg,Q,fr,H=>regQ X (hI ops.toList) fr Q λY=>rp Y ro.isNone ops d (norQ Q) fr H
 | ro,.region _ ops d,.regJ L,Q,fr,H=>qf L (hI ops.toList) fr (λfr' H'=>Q .normal fr' [] H') λJ=>regQ X (hI ops.toList) fr Q λY=>rp Y ro.isNone ops d (λfr' M H'=>ky M (J fr' H')) fr H
 | ro,.seq a b,.seq x y,Q,fr,H=>ft X ro a x (seqN (λQ' fr' H'=>ft X ro b y Q' fr' H') Q) fr H
 | ro,.cond c a b,.cond x y,Q,fr,H=>(match evG #[] fr [] none c with
  | some (.bool t)=>(t=true->ft X ro a x Q fr H)/\(t=false->ft X ro b y Q fr H)
  | _=>False)
 | ro,.cond c a b,.condJ L x y,Q,fr,H=>(match evG #[] fr [] none c with
  | some (.bool t)=>qf L (fT a++fT b) fr (λfr' H'=>Q .normal fr' [] H') λJ=>
    (t=true->ft X ro a x (joinQ J Q) fr H)/\(t=false->ft X ro b y (joinQ J Q) fr H)
  | _=>False)
 | ro,.block id a,.blk x,Q,fr,H=>ft X ro a x (blkQ id Q) fr H
 | ro,.block id a,.blkJ L x,Q,fr,H=>qf L (fT a) fr (λfr' H'=>Q .normal fr' [] H') λJ=>ft X ro a x (blkJQ id J Q) fr H
 | ro,.loop a,.loop L x,Q,fr,H=>if nv L fr.length=false then False else ∃I:JT (aD->Prop) L,∃μ:JT (aD->Nat) L,jJ L I fr H/\
   iu (lw (fT a) 0 fr) λfr0=>allJ L fr0 λfr'=>∀H',jJ L I fr' H'->ft X ro a x (loopQ L I μ fr' H' Q) fr' H'
 | none,.rangeFunc g ps a b,.rng shs js x y,Q,fr,H=>(match evG #[] fr [] none g with
  | some (.func (.func gf) ⟨[]⟩ ⟨cap⟩)=>if Nat.beq shs.length ps.toList.length=false then False else
    bJ gf X.calls=true/\∀R:Loop,R.state=.ready->R.pending=none->
     (∀(vs:Os) (H1:aD) (K1:KE),
      (pI shs λus=>vs=us/\H1[H.size+1]?=some (.loop R)/\ft X (some (H.size+1)) a x (λe f1 M H2=>match e with
       | .normal=>ky M (H2[H.size+1]?=some (.loop R)/\∀H2':aD,H2'=gI H2 (H.size+1) { R with state:=.busy }->ft X (some (H.size+1)) b y (λe' _ M2 H3=>ky M2 (H3[H.size+1]?=some (.loop { R with state:=.busy })/\roundEnd (H.size+1) R K1 e' H3)) f1 H2')
       | _=>False) (vy fr ps.toList us) H1)->fJ X.P (H.size+1) vs H1 K1)->
     iK X.P gf ⟨.func (.yield (H.size+1)) #[] #[]::cap⟩ ((H.push (.deferred (some []))).push (.loop R)) λ_ H2=>∃(st:LoopState) (pd:Option Code),st≠.busy/\H2[H.size+1]?=some (.loop { R with state:=st,pending:=pd })/\
      ∀H2':aD,H2'=gI H2 (H.size+1) { R with state:=.exhausted,pending:=pd }->jumpK (λe=>Q e fr [.mark H.size] H2') js pd
  | _=>False)
 | _,.exit id,_,Q,fr,H=>Q (.exit id) fr [] H
 | _,.ret,_,Q,fr,H=>Q .ret fr [] H
 | _,_,_,_,_,_=>False
theorem mh{M:List DM}{q:Prop}:ky M q↔M=[]/\q:=by cases M <;> simp[ky]
theorem Dg:∀(l:List Oper) (o:Oper) (d:Tmp),o∈l->o.dst=some d->d∈hI l
 | [],_,_,h,_=>by cases h
 | x::r,o,d,h,hd=>by
  simp only[hI]
  rcases V9.1 h with rfl|h
  .rw [hd];exact VA
  .have:=Dg r o d h hd
   split
   .exact VD _ this
   .exact this
structure eI(ds:List Nat)(a a':Act):Prop where
 defers:a'.defers=a.defers
 size:a'.tmps.size=a.tmps.size
 same:∀t,t∉ds->a'.tmps[t]?=a.tmps[t]?
theorem eI.refl(ds:List Nat)(a:Act):eI ds a a:=⟨rfl,rfl,λ_ _=>rfl⟩
theorem eI.trans{ds:List Nat}{a b c:Act}(h:eI ds a b)(k:eI ds b c):eI ds a c:=
 ⟨k.defers.trans h.defers,k.size.trans h.size,λt d=>(k.same t d).trans (h.same t d)⟩
theorem eI.put{ds:List Nat}{a b:Act}(h:eI ds a b){d:Option Tmp}(hd:∀t,d=some t->t∈ds)(v:Value):eI ds a (b.put d v):=by
 cases d with
 | none=>exact h
 | some t=>
  refine⟨h.defers,?_,λu c=>?_⟩
  .rw [qZ,Array.size_setIfInBounds];exact h.size
  .rw [qZ,Array.getElem?_setIfInBounds,Vs (λe=>c (by rw[<-e];exact hd t rfl))];exact h.same u c
theorem tj(ds:List Nat)(fr:Fr):(gu ds fr).length=fr.length:=by
 unfold gu
 induction ds generalizing fr with
 | nil=>rfl
 | cons d r ih=>simp only[List.foldl_cons];rw[ih,qd]
theorem vz{ds:List Nat}:∀{fr:Fr} {t:Nat} {s:SV},aT (gu ds fr) t=some s->s=.x\/(aT fr t=some s/\t∉ds):=by
 unfold gu
 induction ds with
 | nil=>intro fr t s h;exact .inr ⟨h,by simp⟩
 | cons d r ih=>
  intro fr t s h;simp only[List.foldl_cons]at h
  rcases ih h with a|⟨a,f⟩
  .exact .inl a
  .rw [l9]at a
   split at a
   .cases a;exact .inl rfl
   .rename_i b
    by_cases hd:d=t
    .left;have c:¬d<fr.length:=λh=>b ⟨hd,h⟩
     rw[eH,List.getElem?_eq_none (by omega)]at a
     cases a
    .exact .inr ⟨a,by simp[f];exact λe=>hd e.symm⟩
theorem Dh(n:Nat):∀a,lw.memD n a=true↔n∈a
 | []=>by simp[lw.memD]
 | m::r=>by
  unfold lw.memD;rw[V9,<-Dh n r]
  cases h:Nat.beq n m with
  | true=>simp[W7 h]
  | false=>
   have:n≠m:=λe=>by subst e;rw[Nat.beq_refl]at h;cases h
   simp[this]
theorem Di(ds:List Nat):∀(fr:Fr) (i t:Nat),aT (lw ds i fr) t=(aT fr t).map λs=>if i+t∈ds then .x else s
 | [],_,_=>rfl
 | s::r,i,0=>by
  simp only[lw,aT,VX,W8];have:=Dh i ds
  cases h:lw.memD i ds with
  | true=>rw[Vt (this.1 h)]
  | false=>rw[Vs (λhm=>by rw[this.2 hm]at h;cases h)]
 | s::r,i,t+1=>by
  simp only[lw,aT];rw[Di ds r (i+1) t,Wk,WW 1 t]
theorem Dj:∀(ds:List Nat) (fr:Fr) (t:Nat),aT (gu ds fr) t=(aT fr t).map λs=>if t∈ds then .x else s
 | [],fr,t=>by simp[gu]
 | d::r,fr,t=>by
  have:gu (d::r) fr=gu r (ir fr d .x):=rfl;rw[this,Dj r,l9]
  by_cases h:d=t
  .subst h
   by_cases hl:d<fr.length
   .rw [Vt ⟨rfl,hl⟩,eH,List.getElem?_eq_getElem hl];simp
   .rw [Vs (λx=>hl x.2),eH,List.getElem?_eq_none (by omega)];rfl
  .rw [Vs (λx=>h x.1)]
   have e:(t∈d::r)=(t∈r):=by rw[V9,eq_iff_iff];exact⟨λx=>x.resolve_left λe=>h e.symm,.inr⟩
   simp only[e]
theorem Dk(ds:List Nat)(fr:Fr):lw ds 0 fr=gu ds fr:=by
 apply WI;intro t;rw[<-eH,<-eH,Di,Dj,VL]
theorem rq{fr b:Fr}{a i:Act}{ds:List Nat}{L:du}{vs:Os}(R:Rel fr a)(K:eI ds a i)(k:Rel b i)(m:gH b L=some vs):Rel (gG L (gu ds fr) vs) i:=by
 have d:b.length=fr.length:=by rw[<-k.size,K.size,R.size]
 refine⟨by rw[Dd,tj,K.size];exact R.size,λt v h=>?_,λt j w v h=>?_⟩
 .rcases Df m (gu ds fr) (λt v h=>by
    rw[tj,<-d];rw[eH]at h;exact (List.getElem?_eq_some_iff.1 h).1) t v h with h1|⟨h1,_⟩
  .exact k.pv _ _ h1
  .rcases vz h1 with c|⟨c,n⟩
   .cases c
   .rw [K.same t n];exact R.pv _ _ c
 .have key:∀(L:du) (f:Fr) (vs:Os),(∀t j w v,aT f t≠some (.g j w v))->∀t j w v,aT (gG L f vs) t≠some (.g j w v):=by
   intro L
   induction L with
   | nil=>intro f vs e t j w v;cases vs <;> exact e t j w v
   | cons x r ih=>
    intro f vs e t j w v;obtain⟨u,s⟩:=x
    cases vs with
    | nil=>exact e t j w v
    | cons v' vs=>
     simp only[gG];refine ih _ vs (λt j w v h=>?_) t j w v
     rw[l9]at h
     split at h
     .cases h
     .exact e t j w v h
  refine key L _ vs (λt j w v h=>?_) t j w v h
  rcases vz h with c|⟨c,_⟩
  .cases c
  .exact R.ng _ _ _ _ c
def DM.dfr:DM->Deferred
 | .mark r=>{ target:=.collected r,args:=#[] }
 | .fn g cap=>{ target:=.fn (.func g) ⟨cap⟩,args:=#[] }
def ny(M:List DM):List Deferred:=M.map DM.dfr
structure iN(ds:List Nat)(M:List DM)(a a':Act):Prop where
 defers:a'.defers=ny M++a.defers
 size:a'.tmps.size=a.tmps.size
 same:∀t,t∉ds->a'.tmps[t]?=a.tmps[t]?
theorem iN.of{ds:List Nat}{a b:Act}(h:eI ds a b):iN ds [] a b:=⟨h.defers,h.size,h.same⟩
theorem iN.keep{ds:List Nat}{a b:Act}(h:iN ds [] a b):eI ds a b:=⟨h.defers,h.size,h.same⟩
theorem iN.trans{ds:List Nat}{M N:List DM}{a b c:Act}(h:iN ds M a b)(k:iN ds N b c):iN ds (N++M) a c:=
 ⟨by rw[k.defers,h.defers];simp[ny],k.size.trans h.size,λt d=>(k.same t d).trans (h.same t d)⟩
theorem iN.mono{ds c:List Nat}{M:List DM}{a b:Act}(h:iN ds M a b)(hs:∀t∈ds,t∈c):iN c M a b:=
 ⟨h.defers,h.size,λt d=>h.same t (λhm=>d (hs t hm))⟩
def Out(w0:World)(a0:Act)(ds:List Nat)(Q:QT):Exit->Act->World->Prop
 | e,a,w=>bV w0 w/\∃M,iN ds M a0 a/\match e with
  | .normal=>∃fr,Rel fr a/\Q .normal fr M w.heap
  | .exit i=>∃fr,Rel fr a/\Q (.exit i) fr M w.heap
  | .ret=>∃fr,Rel fr a/\Q .ret fr M w.heap
  | .panic ch=>∃fr,Rel fr a/\Q (.panic ch) fr M w.heap
  | _=>False
theorem rel_kill{fr:Fr}{a c:Act}{ds:List Nat}(R:Rel fr a)(K:eI ds a c):Rel (gu ds fr) c:=by
 refine⟨by rw[tj,K.size];exact R.size,λt v h=>?_,λt j w v h=>?_⟩
 .rcases vz h with b|⟨b,d⟩
  .cases b
  .rw [K.same t d];exact R.pv _ _ b
 .rcases vz h with b|⟨b,_⟩
  .cases b
  .exact R.ng _ _ _ _ b
theorem Dl{X:Ctx}(hm:X.P.follows .mixedOrders=true)(F:∀f,bJ f X.calls=true->gF X.P f){id:Nat}{ops:Array Oper}{d:Bool}{K:Fr->List DM->aD->Prop}{fr:Fr}{w0 w:World}{a:Act}{ro:Option Nat}
  (R:Rel fr a) (G:bV w0 w) (y:oJ X ops d=true) (h:rp X ro.isNone ops d K fr w.heap):(Code.region id ops d).wpIn (FR ro) 0 X.P (λe m s=>bV w0 s/\match e with
   | .normal=>∃M,iN (hI ops.toList) M a m/\∃c,Rel c m/\K c M s.heap
   | .panic ch=>∃v,ch=[{ v,recovered:=false }]/\eI (hI ops.toList) a m/\X.kp v s.heap
   | _=>False) a w:=by
 have k:∀(b:Act) (o:Oper) (v:Value),o∈ops.toList->eI (hI ops.toList) a b->eI (hI ops.toList) a (b.put o.dst v):=
  λb o v N I=>I.put (λt L=>Dg _ o t N L) v
 cases d with
 | false=>
  refine wpIn_region_list ?_;refine rk (Inv:=eI (hI ops.toList) a) F k (λc m s n i u A=>⟨n,[],.of A,c,i,u⟩) (λc m s g cap _ n i u A=>⟨n,_,⟨?_,A.size,A.same⟩,c,⟨i.size,i.pv,i.ng⟩,u⟩)
   (λv m s n i u=>⟨n,v,rfl,i,u⟩) ops.toList [] [] fr a w (λ_ h=>h) (eI.refl _ _) (rj R) G h
  simp[ny,DM.dfr,A.defers]
 | true=>
  simp only[rp]at h;simp only[oJ,Vz]at y;obtain⟨hs,E,D⟩:=y;refine wpIn_region_any hm ?_;have B:bV w0 { heap:=w.heap,tape:=w.tape,drawn:=w.drawn+1,os:=w.os,output:=w.output }:=G.trans ⟨rfl,rfl,rfl⟩;refine vm (w0:=w0) (KP:=X.kp) (isW:=isWB X ops) (bf:=bfB (jL ops.toList [])) (Q:=λm O=>(∃c,Rel c m/\K c [] O)/\eI (hI ops.toList) a m) (λm s n i=>?_)
   (Cq E) (Inv:=eI (hI ops.toList) a) k (λv m s n i u=>⟨n,v,rfl,i,u⟩) _ [] _ _ _ B (eI.refl _ _) ?_
  .exact⟨n,[],.of i.2,i.1⟩
  .refine vx F hs k _ _ [] [] [] fr _ a ?_ (λx S=>by cases S) (rj R) (eI.refl _ _) D h
   intro j T H J;exfalso
   rcases VO j ops.size with C|C
   .simp [C]at J
   .simp [Array.getElem?_eq_none C]at H
theorem yz{L:du}{ds:List Nat}{fr:Fr}{rest:Fr->aD->Prop}{body:(Fr->aD->Prop)->Prop}(h:qf L ds fr rest body) :
  ∃J:Fr->aD->Prop,body J/\∀b H,J b H->∃a,gH b L=some a/\rest (gG L (gu ds fr) a) H:=by
 unfold qf at h;obtain⟨i,h⟩:=rh h;have e:nv L (gu ds fr).length=true:=by rw[tj];simpa using i
 refine⟨_,h (lamJ L λa=>rest (gG L (gu ds fr) a)) ?_,λb H d=>?_⟩
 .rw [lv,Dk,yw];intro a f n c;unfold jJ;rw[qe L _ _ a (tg L _ a e f),yy L _ a f];exact c
 .unfold jJ at d
  cases ha:lu L (lamJ L λa=>rest (gG L (gu ds fr) a)) b with
  | none=>rw[ha]at d;exact d.elim
  | some p=>
   rw[ha]at d;obtain⟨a,k,j,m⟩:=yx L _ b p ha;rw[yy L _ a m]at j
   cases j
   exact⟨a,k,d⟩
def frOf(a:Act):Fr:=a.tmps.toList.map .p
theorem Dm:∀{L:du} {fr:Fr} {a:Act} {vs:Os},Rel fr a->gH fr L=some vs->gH (frOf a) L=some vs
 | [],_,_,_,_,h=>h
 | (t,s)::r,fr,a,vs,R,h=>by
  simp only[gH]at h ⊢
  cases hg:iJ fr t with
  | none=>simp[hg]at h
  | some v=>cases hr:gH fr r with
   | none=>simp[hg,hr]at h
   | some vs'=>
    simp only[hg,hr,Option.some.injEq]at h;subst h;have b:aT fr t=some (.p v):=by
     unfold iJ at hg
     split at hg
     .rename_i w c;cases hg;exact c
     .cases hg
    have d:=R.pv _ _ b;have:iJ (frOf a) t=some v:=by
     unfold iJ frOf;rw[yr,eH,Array.getElem?_toList,d];rfl
    rw[this,Dm R hr]
theorem Dn:∀{ss:List Sh} {Q:Os->Prop},pI ss Q->∃a,a.length=ss.length/\Q a
 | [],_,h=>⟨[],rfl,h⟩
 | s::r,Q,h=>by
  simp only[pI]at h;obtain⟨v,d⟩:=oH h;obtain⟨a,b,c⟩:=Dn (ss:=r) d;exact⟨v::a,by simp[b],c⟩
theorem Do:∀(ps:List Tmp) (vs:Os) (fr:Fr) (a:Act),Rel fr a->Rel (vy fr ps vs) { tmps:=(ps.zip vs).foldl (λt p=>t.setIfInBounds p.1 p.2) a.tmps,defers:=[] }
 | [],vs,fr,a,R=>⟨R.size,R.pv,R.ng⟩
 | t::ps,[],fr,a,R=>⟨R.size,R.pv,R.ng⟩
 | t::ps,v::vs,fr,a,R=>by
  simp only[vy,List.zip_cons_cons,List.foldl_cons];refine Do ps vs (ir fr t (.p v)) { tmps:=a.tmps.setIfInBounds t v,defers:=[] } ⟨by simp[qd,R.size],λu x h=>?_,λu j w x h=>?_⟩
  .rw [l9]at h
   split at h
   .rename_i b;obtain⟨rfl,c⟩:=b
    cases h
    rw[Array.getElem?_setIfInBounds,Vt rfl,Vt (by rw[R.size];exact c)]
   .rename_i b;have d:=R.pv u x h
    by_cases e:t=u
    .subst e;exfalso;exact b ⟨rfl,by rw[eH]at h;exact (List.getElem?_eq_some_iff.1 h).1⟩
    .rw [Array.getElem?_setIfInBounds,Vs e];exact d
  .rw [l9]at h
   split at h
   .cases h
   .exact R.ng _ _ _ _ h
theorem Dp{X:Ctx}{ops:Array Oper}{ds:List Nat}{fr:Fr}{Q:QT}:∀l,l8 (X.kq ds fr Q) ops l=l8 X ops l
 | []=>rfl
 | i::r=>by
  unfold l8;rw[Dp r];rfl
theorem Dq{X:Ctx}{ops:Array Oper}{ds:List Nat}{fr:Fr}{Q:QT}:∀n l,oI (X.kq ds fr Q) ops n l=oI X ops n l
 | 0,_=>rfl
 | n+1,l=>by
  unfold oI;simp only[Dp,Dq n]
theorem Dr{X:Ctx}{ops:Array Oper}{d:Bool}{ds:List Nat}{fr:Fr}{Q:QT}(h:oJ X ops d=true):oJ (X.kq ds fr Q) ops d=true:=by
 unfold oJ at h ⊢;simp only[Dq];exact h
theorem Ds{X:Ctx}{ops:Array Oper}{d:Bool}{ds:List Nat}{fr:Fr}{Q:QT}{C:Ctx->Prop}(h:regQ X ds fr Q C)(a:oJ X ops d=true) :
  ∃Y:Ctx,Y.P=X.P/\Y.calls=X.calls/\oJ Y ops d=true/\(∀v H,Y.kp v H->(X.kq ds fr Q).kp v H)/\C Y:=by
 unfold regQ at h
 split at h
 .exact⟨X.np,rfl,rfl,Dr (X:=X) (ds:=[]) (fr:=[]) (Q:=λ_ _ _ _=>False) a,λ_ _ h=>h.elim,h⟩
 .exact⟨X.kq ds fr Q,rfl,rfl,Dr a,λ_ _ h=>h,h⟩
theorem and_l{a b:Bool}(h:(a&&b)=true):a=true:=by cases a <;> simp_all
theorem and_r{a b:Bool}(h:(a&&b)=true):b=true:=by cases a <;> simp_all
theorem Dt{X:Ctx}(hm:X.P.follows .mixedOrders=true)(hX:∀f,bJ f X.calls=true->gF X.P f):∀(c:Code) (w0:World) (ro:Option Nat) (an:Ann) (Q:QT) (fr:Fr) (a:Act) (w:World),okC X c=true->
  Rel fr a->bV w0 w->ft X ro c an Q fr w.heap->c.wpIn (FR ro) 0 X.P (Out w0 a (fT c) Q) a w:=by
 intro c
 induction c with
 | skip=>intro w0 ro an Q fr a w m R E h;cases an <;> exact wpIn_skip ⟨E,[],.of (eI.refl _ _),fr,R,h⟩
 | exit id=>intro w0 ro an Q fr a w m R E h;cases an <;> cases ro <;> exact wpIn_exit ⟨E,[],.of (eI.refl _ _),fr,R,h⟩
 | ret=>intro w0 ro an Q fr a w m R E h;cases an <;> cases ro <;> exact wpIn_ret ⟨E,[],.of (eI.refl _ _),fr,R,h⟩
 | region id ops d=>
  intro w0 ro an Q fr a w m R E h;have r9:∀(ch:List PanicEntry) (D:Act) (G:World),bV w0 G->(∃v,ch=[{ v,recovered:=false }]/\eI (hI ops.toList) a D/\(X.kq (hI ops.toList) fr Q).kp v G.heap)->Out w0 a (fT (.region id ops d)) Q (.panic ch) D G:=by
   rintro ch D G B ⟨v,rfl,n,k⟩;exact⟨B,[],.of n,_,rel_kill R n,k⟩
  cases an with
  | reg=>
   have h:regQ X (hI ops.toList) fr Q λY=>rp Y ro.isNone ops d (norQ Q) fr w.heap:=by cases ro <;> exact h
   obtain⟨Y,eP,eC,j2,y2,h⟩:=Ds h m;rw[<-eP]at hm hX ⊢;rw[<-eC]at hX;refine wpIn_mono (Dl (X:=Y) (ro:=ro) hm hX R E j2 (K:=norQ Q) h) (λe D G O=>?_)
   obtain⟨B,n⟩:=O
   cases e with
   | normal=>obtain⟨M,n,k⟩:=n;exact⟨B,M,n,k⟩
   | panic ch=>obtain⟨v,q1,q2,q3⟩:=n;exact r9 ch D G B ⟨v,q1,q2,y2 _ _ q3⟩
   | _=>exact n.elim
  | regJ L=>
   have h:qf L (hI ops.toList) fr (λj H'=>Q .normal j [] H') λJ=>regQ X (hI ops.toList) fr Q λY=>rp Y ro.isNone ops d (λj M H'=>ky M (J j H')) fr w.heap:=by cases ro <;> exact h
   obtain⟨J,B,n⟩:=yz h;obtain⟨Y,eP,eC,j2,y2,B⟩:=Ds B m;rw[<-eP]at hm hX ⊢;rw[<-eC]at hX;refine wpIn_mono (Dl (X:=Y) (ro:=ro) hm hX R E j2 B) (λe D G O=>?_)
   obtain⟨k,u⟩:=O
   cases e with
   | normal=>
    obtain⟨M,u,j,A,T⟩:=u;obtain⟨rfl,T⟩:=mh.1 T;obtain⟨C,U,h8⟩:=n _ _ T;exact⟨k,[],u,_,rq R u.keep A U,h8⟩
   | panic ch=>obtain⟨v,q1,q2,q3⟩:=u;exact r9 ch D G k ⟨v,q1,q2,y2 _ _ q3⟩
   | _=>exact u.elim
  | _=>cases ro <;> exact h.elim
 | seq x y ihx ihy=>
  intro w0 ro an Q fr a w m R E h
  cases an with
  | seq N W=>
   have h:ft X ro x N (seqN (λQ' j H'=>ft X ro y W Q' j H') Q) fr w.heap:=by cases ro <;> exact h
   rw[seqN_eq]at h;refine wpIn_seq (wpIn_mono (ihx w0 ro N _ fr a w (and_l m) R E h) (λe D G O=>?_))
   obtain⟨B,M,n,k⟩:=O;have k1:iN (fT (.seq x y)) M a D:=n.mono (λt ht=>WJ _ ht)
   cases e with
   | normal=>
    obtain⟨j,u,A⟩:=k;refine wpIn_mono (ihy w0 ro W _ j D G (and_r m) u B A) (λe' a'' w'' hq'=>?_)
    obtain⟨T,M',U,h8⟩:=hq';exact⟨T,M'++M,k1.trans (U.mono (λt ht=>WX _ ht)),h8⟩
   | exit i=>exact⟨B,M,k1,k⟩
   | ret=>exact⟨B,M,k1,k⟩
   | panic ch=>exact⟨B,M,k1,k⟩
   | _=>exact k.elim
  | _=>cases ro <;> exact h.elim
 | cond c x y ihx ihy=>
  intro w0 ro an Q fr a w m R E h;have split:∀(V:QT) (N W:Ann) (t:Bool),evG #[] fr [] none c=some (.bool t)->(t=true->ft X ro x N V fr w.heap)->(t=false->ft X ro y W V fr w.heap)->
    (Code.cond c x y).wpIn (FR ro) 0 X.P (Out w0 a (fT (.cond c x y)) V) a w:=by
   intro V N W t ht B n;have hc:a.eval c=.bool t:=oK (rj (ops:=#[]) R) c _ ht trivial;refine wpIn_cond_split hc (λhb=>?_) (λhb=>?_)
   .refine wpIn_mono (ihx w0 ro N V fr a w (and_l m) R E (B hb)) (λe D G O=>?_)
    obtain⟨q1,M,q2,q3⟩:=O;exact⟨q1,M,q2.mono (λt ht=>WJ _ ht),q3⟩
   .refine wpIn_mono (ihy w0 ro W V fr a w (and_r m) R E (n hb)) (λe D G O=>?_)
    obtain⟨q1,M,q2,q3⟩:=O;exact⟨q1,M,q2.mono (λt ht=>WX _ ht),q3⟩
  cases an with
  | cond N W=>
   simp only[ft]at h
   cases he:evG #[] fr [] none c with
   | none=>simp[he]at h
   | some v=>
    cases v <;> simp only[he]at h <;> try exact h.elim
    exact split Q N W _ he h.1 h.2
  | condJ L N W=>
   simp only[ft]at h
   cases he:evG #[] fr [] none c with
   | none=>simp[he]at h
   | some v=>
    cases v <;> simp only[he]at h <;> try exact h.elim
    obtain⟨J,B,n⟩:=yz h;refine wpIn_mono (split _ N W _ he B.1 B.2) (λe D G O=>?_)
    obtain⟨k,M,u,A⟩:=O
    cases e <;> simp only[joinQ]at A
    case normal=>
     obtain⟨j,T,U⟩:=A;obtain⟨rfl,U⟩:=mh.1 U;obtain⟨C,h8,h9⟩:=n _ _ U;exact⟨k,[],u,_,rq R u.keep T h8,h9⟩
    case exit i=>exact⟨k,M,u,A⟩
    case ret=>exact⟨k,M,u,A⟩
    case panic ch=>exact⟨k,M,u,A⟩
  | _=>cases ro <;> exact h.elim
 | block id x ih=>
  intro w0 ro an Q fr a w m R E h
  cases an with
  | blk N=>
   have h:ft X ro x N (blkQ id Q) fr w.heap:=by cases ro <;> exact h
   refine wpIn_block (wpIn_mono (ih w0 ro N _ fr a w m R E h) (λe D G O=>?_))
   obtain⟨B,M,n,k⟩:=O
   cases e with
   | normal=>exact⟨B,M,n,k⟩
   | exit i=>
    obtain⟨j,u,A⟩:=k;simp only[Exit.inBlock,blkQ,blkJQ]at A ⊢
    by_cases hi:i=id
    .simp only[hi,if_true]at A ⊢;exact⟨B,M,n,j,u,A⟩
    .simp only[hi,if_false]at A ⊢;exact⟨B,M,n,j,u,A⟩
   | ret=>exact⟨B,M,n,k⟩
   | panic ch=>exact⟨B,M,n,k⟩
   | _=>exact k.elim
  | blkJ L N=>
   have h:qf L (fT x) fr (λj H'=>Q .normal j [] H') λJ=>ft X ro x N (blkJQ id J Q) fr w.heap:=by cases ro <;> exact h
   obtain⟨J,hb,hj⟩:=yz h;refine wpIn_block (wpIn_mono (ih w0 ro N _ fr a w m R E hb) (λe D G O=>?_))
   obtain⟨B,M,n,k⟩:=O
   cases e with
   | normal=>
    obtain⟨j,u,A⟩:=k;obtain⟨rfl,A⟩:=mh.1 A;obtain⟨C,T,U⟩:=hj _ _ A;exact⟨B,[],n,_,rq R n.keep u T,U⟩
   | exit i=>
    obtain⟨j,u,A⟩:=k;simp only[Exit.inBlock,blkQ,blkJQ]at A ⊢
    by_cases hi:i=id
    .simp only[hi,if_true]at A ⊢;obtain⟨rfl,A⟩:=mh.1 A;obtain⟨C,T,U⟩:=hj _ _ A;exact⟨B,[],n,_,rq R n.keep u T,U⟩
    .simp only[hi,if_false]at A ⊢;exact⟨B,M,n,j,u,A⟩
   | ret=>exact⟨B,M,n,k⟩
   | panic ch=>exact⟨B,M,n,k⟩
   | _=>exact k.elim
  | _=>cases ro <;> exact h.elim
 | loop x ih=>
  intro w0 ro an Q fr a w m R E h
  cases an with
  | loop L N=>
   have h:(if nv L fr.length=false then False else ∃I:JT (aD->Prop) L,∃μ:JT (aD->Nat) L,jJ L I fr w.heap/\
    iu (lw (fT x) 0 fr) λfr0=>allJ L fr0 λj=>∀H',jJ L I j H'->ft X ro x N (loopQ L I μ j H' Q) j H'):=by cases ro <;> exact h
   obtain⟨j2,I,μ,h0,F⟩:=rh h;have j1:nv L (gu (fT x) fr).length=true:=by rw[tj];simpa using j2
   rw[lv,Dk,yw]at F;have hfr:∀(j:Fr) (H:aD),jJ L I j H->∃C,gH j L=some C/\lA L C=true/\jJ L I (gG L (gu (fT x) fr) C) H/\∀H'',natJ L μ (gG L (gu (fT x) fr) C) H''=natJ L μ j H'':=by
    intro j H hh;have hh0:=hh;unfold jJ at hh
    cases ha:lu L I j with
    | none=>rw[ha]at hh;exact hh.elim
    | some p=>
     obtain⟨C,B,n,k⟩:=yx L _ j p ha;refine⟨C,B,k,?_,λH''=>?_⟩
     .unfold jJ;rw[qe L _ _ C (tg L _ C j1 k),n];rw[ha]at hh;exact hh
     .unfold natJ;rw[qe L _ _ C (tg L _ C j1 k),qe L _ _ C B]
   have hmu:∀(j:Fr) (D:Act) (C:Os) (H:aD),Rel j D->gH j L=some C->natJ L μ (frOf D) H=natJ L μ j H:=by
    intro j D C H R' hg;unfold natJ;rw[qe L _ _ C (Dm R' hg),qe L _ _ C hg]
   refine wpIn_loop (λD G=>bV w0 G/\eI (fT x) a D/\∃C,lA L C=true/\Rel (gG L (gu (fT x) fr) C) D/\jJ L I (gG L (gu (fT x) fr) C) G.heap)
    (λD G=>natJ L μ (frOf D) G.heap) ?_ ?_
   .obtain⟨C,B,n,k,_⟩:=hfr _ _ h0;exact⟨E,eI.refl _ _,C,n,rq R (eI.refl _ _) R B,k⟩
   .rintro D G ⟨B,n,C,k,u,A⟩;refine wpIn_mono (ih w0 ro N _ _ D G m u B (F C k G.heap A)) (λe a'' w'' O=>?_)
    obtain⟨T,M,U,h8⟩:=O
    cases e with
    | normal=>
     obtain⟨fr'',h9,j3⟩:=h8;obtain⟨rfl,j3⟩:=mh.1 j3;obtain⟨j3,h11⟩:=Nn j3;have k2:=n.trans U.keep;obtain⟨vs',h12,h13,h14,h15⟩:=hfr _ _ j3;have h16:=rq R k2 h9 h12;refine⟨⟨T,k2,vs',h13,h16,h14⟩,?_⟩;rw[hmu _ _ _ _ h9 h12,hmu _ _ _ _ u (tg L _ C j1 k)];exact h11
    | exit i=>exact⟨T,M,by have:=(iN.of n).trans U;rwa[VT]at this,h8⟩
    | ret=>exact⟨T,M,by have:=(iN.of n).trans U;rwa[VT]at this,h8⟩
    | panic ch=>exact⟨T,M,by have:=(iN.of n).trans U;rwa[VT]at this,h8⟩
    | _=>exact h8.elim
  | _=>cases ro <;> exact h.elim
 | rangeFunc g ps x y ihx ihy=>
  intro w0 ro an Q fr a w m R E h
  cases ro with
  | some l0=>cases an <;> exact h.elim
  | none=>
   cases an with
   | rng shs js N W=>
    simp only[ft]at h
    split at h
    case h_2=>exact h.elim
    rename_i gf cap hg;obtain⟨l5,hmem,h⟩:=rh h;have l5:shs.length=ps.size:=by
     have:Nat.beq shs.length ps.toList.length=true:=by simpa using l5
     have:=W7 this;simpa using this
    have hge:a.eval g=.func (.func gf) #[] ⟨cap⟩:=oK (rj (ops:=#[]) R) g _ hg trivial;show (Code.rangeFunc g ps x y).wpIn Fence.wide 0 X.P _ a w;refine wpIn_rangeFunc ?_;intro fn _;have hcall:=h { state:=.ready,pending:=none,fn:=fn,tmps:=a.tmps,params:=ps,assign:=x,body:=y,defers:=w.heap.size } rfl rfl ?_
    .refine⟨w.heap.size+1,ny [.mark w.heap.size],(w.alloc (.deferred (some []))).alloc (.loop { state:=.ready,pending:=none,fn:=fn,tmps:=a.tmps,params:=ps,assign:=x,body:=y,defers:=w.heap.size }),
      { target:=.fn (.func gf) ⟨cap⟩,args:=#[.func (.yield (w.heap.size+1)) #[] #[]] },((w.alloc (.deferred (some []))).alloc (.loop { state:=.ready,pending:=none,fn:=fn,tmps:=a.tmps,params:=ps,assign:=x,body:=y,defers:=w.heap.size })),gf,#[.func (.yield (w.heap.size+1)) #[] #[]]++⟨cap⟩,((w.alloc (.deferred (some []))).alloc (.loop { state:=.ready,pending:=none,fn:=fn,tmps:=a.tmps,params:=ps,assign:=x,body:=y,defers:=w.heap.size })),run_enterLoop_outer _ _ _ _ _,?_,λ_ _=>trivial,?_,λhd=>(by cases hd),?_⟩
     .simp only[resolve,hge];simp[go_sem]
     .simp only[invoke];rw[tf (hX gf hmem)]
     .refine callsIn_wide.2 ?_;have e1:(#[.func (.yield (w.heap.size+1)) #[] #[]]++⟨cap⟩:Array Value)=⟨.func (.yield (w.heap.size+1)) #[] #[]::cap⟩:=by apply Array.ext';simp
      rw[e1];refine (hcall.at ((w.alloc (.deferred (some []))).alloc (.loop { state:=.ready,pending:=none,fn:=fn,tmps:=a.tmps,params:=ps,assign:=x,body:=y,defers:=w.heap.size })) rfl).mono λe w3 he=>?_
      cases e <;> simp only[Fin]at he
      obtain⟨Z,st,pd,hst,S,hj⟩:=he;refine⟨pd,_,run_endLoop S hst,?_⟩;have y3:bV w0 (w3.putObj (w.heap.size+1) (.loop { state:=.exhausted,pending:=pd,fn:=fn,tmps:=a.tmps,params:=ps,assign:=x,body:=y,defers:=w.heap.size })):=
       (E.trans (bV.trans (b:=(w.alloc (.deferred (some []))).alloc (.loop { state:=.ready,pending:=none,fn:=fn,tmps:=a.tmps,params:=ps,assign:=x,body:=y,defers:=w.heap.size })) ⟨rfl,rfl,rfl⟩ Z)).trans ⟨rfl,rfl,rfl⟩
      have hk:iN (fT (.rangeFunc g ps x y)) [.mark w.heap.size] a { a with defers:=ny [.mark w.heap.size]++a.defers }:=⟨rfl,rfl,λ_ _=>rfl⟩
      have hR:Rel fr { a with defers:=ny [.mark w.heap.size]++a.defers }:=⟨R.size,R.pv,R.ng⟩;have hjq:∀(js:List (Option Code)) (pd:Option Code) (V:Exit->Prop),jumpK V js pd->jumpQ V pd:=by
       intro js
       induction js with
       | nil=>intro pd V h;exact h.elim
       | cons c r ih=>
        intro pd V h
        cases r with
        | nil=>obtain⟨rfl,h⟩:=h;exact h
        | cons d r=>
         rcases h with ⟨rfl,h⟩|h
         .exact h
         .exact ih pd V h
      have l6:=hjq _ _ _ (hj _ rfl)
      cases pd with
      | none=>exact⟨y3,[.mark w.heap.size],hk,fr,hR,l6⟩
      | some c=>
       cases c <;> simp only[jumpQ]at l6
       .rename_i i;exact wpIn_exit ⟨y3,[.mark w.heap.size],hk,fr,hR,l6⟩
       .exact wpIn_ret ⟨y3,[.mark w.heap.size],hk,fr,hR,l6⟩
    .intro C H1 K1 F;refine .mk λw1 hw1=>?_
     subst hw1;obtain⟨us,hul,rfl,hl1,hx⟩:=Dn F;refine⟨fn,_,x,y,run_yield hl1 (by simp[hul,l5]),roundIn_of_wpIn trivial ?_⟩;have hz:(ps.zip ⟨C⟩).foldl (λtmps (t,a)=>tmps.setIfInBounds t a) a.tmps=(ps.toList.zip C).foldl (λt p=>t.setIfInBounds p.1 p.2) a.tmps:=by
      rw[<-Array.foldl_toList,Array.toList_zip]
     refine wpIn_mono (ihx w1 (some (w.heap.size+1)) N _ _ _ w1 (and_l m) (by have:=Do ps.toList C fr a R;rw[<-hz]at this;exact this) (bV.refl w1) hx) (λe a1 w2 O=>?_)
     obtain⟨hr2,M,hk2,k⟩:=O
     cases e with
     | normal=>
      obtain⟨r8,r0,k⟩:=k;obtain⟨rfl,hl2,hy⟩:=mh.1 k;refine⟨_,run_beginRound hl2 rfl,?_⟩;have hd1:a1.defers=[]:=hk2.defers;refine wpIn_mono (ihy w1 (some (w.heap.size+1)) W _ r8 a1 _ (and_r m) r0 (hr2.trans ⟨rfl,rfl,rfl⟩) (hy _ rfl)) (λe' a2 w3 O=>?_)
      obtain⟨Z,M2,hk3,u⟩:=O
      cases e' with
      | normal=>
       obtain⟨u8,hR2,u⟩:=u;obtain⟨rfl,S,A⟩:=mh.1 u;exact⟨_,_,run_endRound none S,Z.trans ⟨rfl,rfl,rfl⟩,A⟩
      | exit i=>
       obtain⟨u8,hR2,u⟩:=u;obtain⟨rfl,S,A⟩:=mh.1 u;exact⟨_,_,run_endRound (some (.exit i)) S,Z.trans ⟨rfl,rfl,rfl⟩,A⟩
      | ret=>
       obtain⟨u8,hR2,u⟩:=u;obtain⟨rfl,S,A⟩:=mh.1 u;exact⟨_,_,run_endRound (some .ret) S,Z.trans ⟨rfl,rfl,rfl⟩,A⟩
      | panic ch=>
       obtain⟨u8,hR2,u⟩:=u;obtain⟨rfl,S,A⟩:=mh.1 u;exact A.elim
      | _=>exact u.elim
     | exit i=>obtain⟨r8,r0,k⟩:=k;exact k.elim
     | ret=>obtain⟨r8,r0,k⟩:=k;exact k.elim
     | panic ch=>obtain⟨r8,r0,k⟩:=k;exact k.elim
     | _=>exact k.elim
   | _=>exact h.elim
 | scope x=>intro w0 ro an Q fr a w m R E h;cases ro <;> exact h.elim
 | label l=>intro w0 ro an Q fr a w m R E h;cases ro <;> exact h.elim
 | goto l=>intro w0 ro an Q fr a w m R E h;cases ro <;> exact h.elim
 | refuse s=>intro w0 ro an Q fr a w m R E h;cases ro <;> exact h.elim
def oL(args:Os)(n:Nat):Fr:=args.map .p++List.replicate (n-args.length) .x
def kN(X:Ctx)(fr:Fr)(H:aD):List ResultVar->(Os->Prop)->Prop
 | [],k=>k []
 | .tmp t::r,k=>(match iJ fr t with|some v=>kN X fr H r λvs=>k (v::vs)|none=>False)
 | .cell a t::r,k=>(match iJ fr a with
  | some (.pointer (some ⟨b,off,none⟩))=>(match aggT X.P t with
   | true=>uV X.P t λus=>(if us.length=X.P.cellsOf t then bE H b off us/\kN X fr H r λvs=>k (.agg ⟨us⟩::vs) else False)
   | false=>exT X.P t λu=>aL H b off=some u/\kN X fr H r λvs=>k (u::vs))
  | _=>False)
def qg:Os->Value
 | [v]=>v
 | vs=>.tuple ⟨vs⟩
def cC(P:Program)(g:FuncId)(cap:Os)(u:FrameMode)(H:aD)(K:FrameMode->aD->Prop):Prop:=
 ∀w,w.heap=H->CallsDIn Fence.wide 0 P g ⟨cap⟩ u w λe u' w'=>match e with
  | .returned _=>bV w w'/\K u' w'.heap
  | _=>False
def bi(v:Value)(r:Bool):FrameMode:=.panicking [{ v,recovered:=r }]
def qh(X:Ctx):List DM->aD->(aD->Prop)->Prop
 | [],H,k=>k H
 | .mark D::r,H,k=>H[D]?=some (.deferred (some []))/\qh X r (H.setIfInBounds D (.deferred none)) k
 | .fn g cap::r,H,k=>bJ g X.calls=true/\cC X.P g cap .returning H λu H'=>u=.returning/\qh X r H' k
def panQ(X:Ctx)(v:Value):List DM->aD->(aD->Prop)->(aD->Prop)->Prop
 | [],H,_,kp=>kp H
 | .mark D::r,H,k,kp=>H[D]?=some (.deferred (some []))/\panQ X v r (H.setIfInBounds D (.deferred none)) k kp
 | .fn g cap::r,H,k,_=>bJ g X.calls=true/\cC X.P g cap (bi v false) H λu H'=>u=bi v true/\qh X r H' k
def finQ(X:Ctx)(rs:List ResultVar)(K KP:KE):QT
 | .normal,fr,M,H=>qh X M H λH'=>kN X fr H' rs λvs=>K (qg vs) H'
 | .ret,fr,M,H=>qh X M H λH'=>kN X fr H' rs λvs=>K (qg vs) H'
 | .panic [⟨v,false,false⟩],fr,M,H=>panQ X v M H (λH'=>kN X fr H' rs λvs=>K (qg vs) H') (KP v)
 | _,_,_,_=>False
def tk(X:Ctx)(fn:Func)(an:Ann)(args:Os)(H:aD)(K KP:KE):Prop:=
 match fn.body with
 | some c=>iu (oL args fn.ntmps) λfr=>ft X none c an (finQ X fn.results.toList K KP) fr H
 | none=>False
def vcFun(X:Ctx)(fn:Func)(an:Ann)(args:Os)(H:aD)(K:KE):Prop:=tk X fn an args H K λ_ _=>False
section
variable {X:Ctx}
def rvOf(a:Act):ResultVar->Sem Value
 | .tmp t=>pure (a.tmps.getD t undef)
 | .cell c t=>do loadVar t (<-asAddr (a.tmps.getD c undef))
theorem Du{fr:Fr}{t:Nat}{v:Value}(a:iJ fr t=some v):aT fr t=some (.p v):=by
 unfold iJ at a
 split at a
 .rename_i w b;cases a;exact b
 .cases a
theorem y4{a:Act}{x:ResultVar}{r:List ResultVar}{v:Value}{vs:Os}{w:World}(b:(rvOf a x).run X.P w=.ok v w)(c:(r.mapM (rvOf a)).run X.P w=.ok vs w) :
  ((x::r).mapM (rvOf a)).run X.P w=.ok (v::vs) w:=by
 simp only[List.mapM_cons,Sem.run_bind,b,c,Result.andThen_ok,Sem.run_pure]
theorem vA{fr:Fr}{a:Act}{w:World}(R:Rel fr a):∀(rs:List ResultVar) (k:Os->Prop),kN X fr w.heap rs k->
  ∃f,k f/\(rs.mapM (rvOf a)).run X.P w=.ok f w
 | [],k,h=>⟨[],h,by simp⟩
 | .tmp t::r,k,h=>by
  simp only[kN]at h
  cases hg:iJ fr t with
  | none=>simp[hg]at h
  | some v=>
   simp only[hg]at h;obtain⟨f,m,j⟩:=vA R r _ h;have n:=R.pv _ _ (Du hg);exact⟨_,m,y4 (by simp[rvOf,n]) j⟩
 | .cell c t::r,k,h=>by
  simp only[kN]at h
  cases hg:iJ fr c with
  | none=>simp[hg]at h
  | some v=>
   have n:=R.pv _ _ (Du hg);simp only[hg]at h
   split at h
   .rename_i b off A
    cases A
    have x:(asAddr (a.tmps.getD c undef)).run X.P w=.ok ⟨b,off,none⟩ w:=by
     rw[Yx,n];rfl
    split at h
    .rename_i d;unfold uV at h
     split at h
     .rename_i s _;obtain⟨D,h⟩:=sZ (ls:=s) h
      split at h
      .rename_i e;obtain⟨f,m,j⟩:=vA R r _ h.2;have i:=Cg (P:=X.P) d e h.1;simp only[Instr.loadAt,Instr.sureAddr,Sem.run_bind,Sem.run_pure,Result.andThen_ok]at i;exact⟨_,m,y4 (by simp only[rvOf,Sem.run_bind,x,Result.andThen_ok,i]) j⟩
      .exact h.elim
     .exact h.elim
    .rename_i d;have y:=Cf h;obtain⟨u,B,C⟩:=pS h;obtain⟨f,m,j⟩:=vA R r _ C;have i:=Ch (P:=X.P) y d B;simp only[Instr.loadAt,Instr.sureAddr,Sem.run_bind,Sem.run_pure,Result.andThen_ok]at i;exact⟨_,m,y4 (by simp only[rvOf,Sem.run_bind,x,Result.andThen_ok,i]) j⟩
   .exact h.elim
theorem Dv{fr:Fr}{a:Act}{w:World}(R:Rel fr a)(fn:Func)(k:Value->Prop)(h:kN X fr w.heap fn.results.toList λb=>k (qg b)) :
  ∃v,k v/\(results fn a.tmps).run X.P w=.ok v w:=by
 obtain⟨b,c,d⟩:=vA R _ _ h;refine⟨_,c,?_⟩;have e:results fn a.tmps=(do let l <-fn.results.mapM (rvOf a);pure (if h:l.size=1 then l[0] else .tuple l)):=by
  rfl
 rw[e,Array.mapM_eq_mapM_toList];simp only[Sem.run_bind,Sem.run_map,d,Result.andThen_ok,Sem.run_pure];congr 1
 match b with
 | []=>rfl
 | [v]=>rfl
 | v::u::r=>rfl
theorem Dw(args:Os)(n:Nat):Rel (oL args n) { tmps:=(⟨args⟩:Array Value)++Array.replicate (n-(⟨args⟩:Array Value).size) undef,defers:=[] }:=by
 refine⟨by simp[oL],λt v h=>?_,λt j w v h=>?_⟩
 .unfold oL at h;rw[eH]at h
  rcases VO t args.length with a|a
  .rw [List.getElem?_append_left (by simpa using a)]at h;simp[a]at h;subst h;simp[Array.getElem?_append,a]
  .rw [List.getElem?_append_right (by simpa using a)]at h;rw[List.getElem?_replicate]at h
   split at h <;> cases h
 .unfold oL at h;rw[eH]at h
  rcases VO t args.length with a|a
  .rw [List.getElem?_append_left (by simpa using a)]at h;simp[a]at h
  .rw [List.getElem?_append_right (by simpa using a)]at h;rw[List.getElem?_replicate]at h
   split at h <;> cases h
theorem Dx{X:Ctx}(a:∀f,bJ f X.calls=true->gF X.P f){g:FuncId}(b:bJ g X.calls=true)(cap:Os)(w:World) :
  (invoke (.fn (.func g) ⟨cap⟩) #[]).run X.P w=.ok (.enter g ⟨cap⟩) w:=by
 simp only[invoke];rw[tf (a g b)];simp
theorem vB{fn:Func}{tmps:Array Value}{R:Ending->World->Prop}{w0:World}{k:aD->Prop}(c:∀f,bJ f X.calls=true->gF X.P f):∀(M:List DM) (w:World),bV w0 w->qh X M w.heap k->
  (∀a,bV w0 a->k a.heap->∃v,(results fn tmps).run X.P a=.ok v a/\R (.returned v) a)->LeavesInM Fence.wide 0 X.P fn tmps R (ny M) .returning w
 | [],w,hr,h,hk=>hk w hr h
 | .mark D::r,w,hr,h,hk=>by
  obtain⟨m,i⟩:=h;refine⟨by simp,.inl ⟨D,_,rfl,run_takeDeferred m,?_⟩⟩;exact vB c r (w.putObj D (.deferred none)) (hr.trans ⟨rfl,rfl,rfl⟩) i hk
 | .fn g cap::r,w,hr,h,hk=>by
  obtain⟨j,h⟩:=h;refine⟨by simp,.inr ⟨λhd=>(by cases hd),.func g,⟨cap⟩,g,⟨cap⟩,rfl,Dx c j cap w,λ_ _=>trivial,?_⟩⟩
  refine (h w rfl).mono λe n a d=>?_
  cases e <;> simp only at d ⊢
  obtain⟨b,rfl,h⟩:=d;exact vB c r a (hr.trans b) h hk
theorem Dy{fn:Func}{tmps:Array Value}{R:Ending->World->Prop}{w0:World}{v:Value}{k kp:aD->Prop}(c:∀f,bJ f X.calls=true->gF X.P f):∀(M:List DM) (w:World),bV w0 w->panQ X v M w.heap k kp->
  (∀a,bV w0 a->k a.heap->∃v,(results fn tmps).run X.P a=.ok v a/\R (.returned v) a)->(∀a,bV w0 a->kp a.heap->R (.panicked [{ v,recovered:=false }]) a)->
  LeavesInM Fence.wide 0 X.P fn tmps R (ny M) (.panicking [{ v,recovered:=false }]) w
 | [],w,hr,h,_,hp=>hp w hr h
 | .mark D::r,w,hr,h,hk,hp=>by
  obtain⟨m,i⟩:=h;refine⟨by simp,.inl ⟨D,_,rfl,run_takeDeferred m,?_⟩⟩;exact Dy c r (w.putObj D (.deferred none)) (hr.trans ⟨rfl,rfl,rfl⟩) i hk hp
 | .fn g cap::r,w,hr,h,hk,hp=>by
  obtain⟨j,h⟩:=h;refine⟨by simp,.inr ⟨λhd=>(by cases hd),.func g,⟨cap⟩,g,⟨cap⟩,rfl,Dx c j cap w,λ_ _=>trivial,?_⟩⟩
  refine (h w rfl).mono λe n a d=>?_
  cases e <;> simp only at d ⊢
  obtain⟨b,rfl,h⟩:=d;exact vB c r a (hr.trans b) h hk
theorem finQ_pan{rs:List ResultVar}{K KP:KE}{ch:List PanicEntry}{fr:Fr}{M:List DM}{H:aD}(h:finQ X rs K KP (.panic ch) fr M H) :
  ∃v,ch=[{ v,recovered:=false }]/\panQ X v M H (λa=>kN X fr a rs λb=>K (qg b) a) (KP v):=by
 rcases ch with _|⟨⟨v,r,g⟩,_|⟨_,_⟩⟩
 .exact h.elim
 .cases r <;> cases g <;> first|exact h.elim|exact⟨v,rfl,h⟩
 .cases r <;> cases g <;> exact h.elim
def okF(X:Ctx)(fn:Func):Bool:=match fn.body with|some c=>okC X c|none=>true
theorem Dz(hm:X.P.follows .mixedOrders=true)(u:∀f,bJ f X.calls=true->gF X.P f){f:FuncId}{fn:Func}(G:X.P.funcs[f]?=some fn)(an:Ann){args:Os}{H:aD}{K KP:KE}(B:okF X fn=true)
  (h:tk X fn an args H K KP):nk X.P f ⟨args⟩ H K KP:=by
 refine .mk λw D=>?_
 unfold tk at h
 cases hb:fn.body with
 | none=>simp[hb]at h
 | some c=>
  simp only[hb,lv]at h;simp only[okF,hb]at B;subst D;refine callsIn_wide.1 (callsIn_of_wp_marks (F:=Fence.wide) (n:=0) G hb trivial (wpIn_mono (Dt hm u c w none an _ _ _ w B (Dw args fn.ntmps) (bV.refl w) h) (λe j t L=>?_)))
  obtain⟨A,M,E,s⟩:=L;have hd:j.defers=ny M:=by rw[E.defers];simp
  have m:∀a,Rel a j->∀w2,bV w w2->(kN X a w2.heap fn.results.toList λx=>K (qg x) w2.heap)->∃v,(results fn j.tmps).run X.P w2=.ok v w2/\iL w K KP (.returned v) w2:=by
   intro a d w2 k y;obtain⟨v,J,I⟩:=Dv (w:=w2) d fn (λv=>K v w2.heap) y
   exact⟨v,I,k,J⟩
  have fin:∀a,Rel a j->(qh X M t.heap λC=>kN X a C fn.results.toList λx=>K (qg x) C)->LeavesInM Fence.wide 0 X.P fn j.tmps (iL w K KP) j.defers .returning t:=by
   intro a d b;rw[hd];exact vB u M t A b (m a d)
  cases e with
  | normal=>obtain⟨a,d,b⟩:=s;exact fin a d b
  | ret=>obtain⟨a,d,b⟩:=s;exact fin a d b
  | exit i=>obtain⟨a,d,b⟩:=s;exact b.elim
  | panic ch=>
   obtain⟨a,d,b⟩:=s;obtain⟨v,rfl,b⟩:=finQ_pan b
   .show LeavesInM Fence.wide 0 X.P fn j.tmps (iL w K KP) j.defers (.panicking [{ v,recovered:=false }]) t;rw[hd];exact Dy u M t A b (m a d) (λw2 k y=>⟨v,rfl,k,y⟩)
  | _=>exact s.elim
theorem No(hm:X.P.follows .mixedOrders=true)(b:∀f,bJ f X.calls=true->gF X.P f){f:FuncId}{fn:Func}(e:X.P.funcs[f]?=some fn)(an:Ann){args:Os}{H:aD}{K:KE}(d:okF X fn=true)
  (h:vcFun X fn an args H K):iK X.P f ⟨args⟩ H K:=
 .mk λw a=>((Dz hm b e an d h).at w a).mono λ_ _ c=>c.fin
theorem D1{P:Program}(c:X.P=P)(hm:X.P.follows .mixedOrders=true)(a:∀f,bJ f X.calls=true->gF X.P f){f:FuncId}{fn:Func}(e:P.funcs[f]?=some fn){an:Ann}{args:Os}{H:aD}{K:KE}{C:Prop}(d:okF X fn=true)
  (b:vcFun X fn an args H K=C) (h:C):iK P f args.toArray H K:=by
 subst c;exact No hm a e an d (b▸h)
theorem Np{P:Program}(c:X.P=P)(hm:X.P.follows .mixedOrders=true)(a:∀f,bJ f X.calls=true->gF X.P f){f:FuncId}{fn:Func}(e:P.funcs[f]?=some fn){an:Ann}{args:Os}{H:aD}{K KP:KE}{C:Prop}(d:okF X fn=true)
  (b:tk X fn an args H K KP=C) (h:C):nk P f args.toArray H K KP:=by
 subst c;exact Dz hm a e an d (b▸h)
def vC(P:Program)(f:FuncId):Bool:=match P.funcs[f]? with|some fn=>!fn.body.isNone && !(fn.name == "runtime.NumGoroutine")|none=>false
theorem Nq{P:Program}{f:FuncId}(h:vC P f=true):gF P f:=by
 unfold vC at h
 split at h
 .rename_i fn a;simp only[Vz,VP]at h;exact⟨fn,a,h.1,h.2⟩
 .cases h
theorem memN_all{l:List Nat}{p:Nat->Bool}(h:l.all p=true):∀f,bJ f l=true->p f=true:=by
 induction l with
 | nil=>intro f a;cases a
 | cons m r ih=>
  intro f a;simp only[List.all_cons,Vz]at h;simp only[bJ,VE]at a
  rcases a with a|a
  .rw [W7 a];exact h.1
  .exact ih h.2 f a
theorem Nr{P:Program}{l:List Nat}(h:l.all (vC P)=true):∀f,bJ f l=true->gF P f:=λf a=>Nq (memN_all h f a)
theorem iK.mono{P:Program}{f:FuncId}{args:Array Value}{H:aD}{K b:KE}(h:iK P f args H K)(i:∀v c,K v c->b v c):iK P f args H b:=
 .mk λw d=>(h.at w d).mono λe j a=>by
  cases e <;> simp only[Fin]at a ⊢
  exact⟨a.1,i _ _ a.2⟩
end
def vD(op:Op):Bool:=match op with|.call cl=>(match cl.callee with|.builtin .recover=>true|_=>false)|_=>false
def defK(K:aD->Prop):QT
 | .normal,_,M,H=>ky M (K H)
 | .ret,_,M,H=>ky M (K H)
 | _,_,_,_=>False
def vcDef(X:Ctx)(fn:Func)(an:Ann)(args:Os)(rv:Value)(H:aD)(K:aD->Prop):Prop:=
 match fn.body with
 | some (.seq (.region _ ops false) b)=>(match ops.toList,an,fn.results.toList with
  | o::r,.seq .reg y,[]=>(match o.guard,o.dst with
   | none,some t=>if vD o.op=false then False else
     l7 (X.kq [] [] λ_ _ _ _=>False) ops true (λfr' M H'=>ky M (ft X none b y (defK K) fr' H')) r [] [] (ir (oL args fn.ntmps) t (.p rv)) H
   | _,_=>False)
  | _,_,_=>False)
 | _=>False
section
variable {X:Ctx}
theorem Ns{P:Program}{o:Oper}{ρ:Operand->Value}{w:World}(h:vD o.op=true):(execOp ρ o).run P w=.ok .recover w:=by
 unfold vD at h
 split at h
 .rename_i cl b
  split at h
  .rename_i a;simp[execOp,b,resolve,a,invoke,builtin]
  .cases h
 .cases h
theorem Nt(hm:X.P.follows .mixedOrders=true)(hX:∀f,bJ f X.calls=true->gF X.P f){f:FuncId}{fn:Func}(hf:X.P.funcs[f]?=some fn)(an:Ann){args:Os}{s:Value}{u J:FrameMode}{H:aD}{K:aD->Prop}
  (hu:(u=.returning/\s=.nilIface/\J=.returning)\/(u=bi s false/\J=bi s true))
  (n:okF X fn=true) (h:vcDef X fn an args s H K):cC X.P f args u H λL H'=>L=J/\K H':=by
 intro w hw;subst hw;unfold vcDef at h
 split at h
 case h_2=>exact h.elim
 rename_i id ops b hb;have r8:okC X b=true:=by simp only[okF,hb,okC]at n;exact and_r n
 split at h
 case h_2=>exact h.elim
 rename_i o r y D h6
 split at h
 case h_2=>exact h.elim
 rename_i t hg hd;obtain⟨G,h⟩:=rh h;have G:vD o.op=true:=by simpa using G
 refine callsDIn_of_wpSIn hf hb trivial λC cs T=>wpSIn_seq ?_
 intro bf k r9 S hF A;have h0:ops[0]?=some o:=by
  have:ops.toList[0]?=some o:=by rw[D];rfl
  simpa using this
 have j1:ops.size=r.length+1:=by rw[<-Wy,D];rfl
 have N:List.range ops.size=0::List.range' 1 r.length:=by rw[j1,List.range_eq_range',List.range'_succ]
 have j3:∀a:Act,Region.wanted o (yielded ops a.tmps)=true:=λa=>by simp[Region.wanted,hg]
 generalize ha:({ tmps:=(⟨args⟩:Array Value)++Array.replicate (fn.ntmps-(⟨args⟩:Array Value).size) undef,defers:=[] }:Act)=a at *;have R0:Rel (oL args fn.ntmps) a:=by rw[<-ha];exact Dw args fn.ntmps
 have h9:a.defers=[]:=by rw[<-ha]
 have Q:(a.put o.dst s).tmps=a.tmps.setIfInBounds t s:=by rw[hd,qZ]
 have R1:Rel (ir (oL args fn.ntmps) t (.p s)) (a.put o.dst s):=by
  refine⟨by rw[Q,qd,Array.size_setIfInBounds];exact R0.size,λm v E=>?_,λm j F v E=>?_⟩
  .rw [l9]at E;rw[Q,Array.getElem?_setIfInBounds,R0.size]
   split at E
   .rename_i hc;cases E;rw[Vt hc.1,Vt hc.2]
   .rename_i hc
    by_cases e:t=m
    .subst e;exfalso;exact hc ⟨rfl,by rw[eH]at E;exact (List.getElem?_eq_some_iff.1 E).1⟩
    .rw [Vs e];exact R0.pv _ _ E
  .rw [l9]at E
   split at E
   .cases E
   .exact R0.ng _ _ _ _ E
 have R:wpListIn (FR none) 0 X.P ops (λe x F=>e=.normal/\bV w F/\x.defers=[]/\∃c,Rel c x/\ft X none b y (defK K) c F.heap) r (a.put o.dst s) w:=by
  refine rk (X:=X.kq [] [] λ_ _ _ _=>False) (ro:=none) (w0:=w) (Inv:=λx=>x.defers=[]) hX (λx o' v _ l5=>?_) (λc x F h1 h2 h3 h4=>?_) (λc x F g cap _ h1 h2 h3 h4=>h3.elim) (λv x F _ _ n=>n.elim)
   r [] [] _ _ w (λo' u8=>by rw[D];exact VD _ u8) ?_ (rj R1) (bV.refl w) h
  .cases o'.dst <;> exact l5
  .exact⟨rfl,h1,h4,c,h2,h3⟩
  .rw [hd];exact h9
 have O:wpOpsIn Fence.wide 0 X.P ops (λe x F=>e=.normal/\bV w F/\x.defers=[]/\∃c,Rel c x/\ft X none b y (defK K) c F.heap) (List.range' 1 r.length) (a.put o.dst s) w:=by
  rw[wpOpsIn_eq_wpListIn r 1 (λj=>by rw[<-Array.getElem?_toList,D,WW];rfl)]
  exact R
 obtain⟨V,h5,W⟩:∃V,V={ C with mode:=J }::cs/\step X.P (lone (bf.atR a (.inRegion ops (0::List.range' 1 r.length)::k)) (C::cs) w)=.next (lone (bf.atR (a.put o.dst s) (.inRegion ops (List.range' 1 r.length)::k)) V w):=by
  refine⟨_,rfl,step_lone_go ?_⟩;have h7:=stepGR_op (P:=X.P) (b:=bf) (k:=k) (cs:=C::cs) (w:=w) (rest:=List.range' 1 r.length) h0 (j3 a);rw[S,Oper.semAt_none]at h7;have Z:(bf.atR a (.inRegion ops (0::List.range' 1 r.length)::k)).finish s=bf.atR (a.put o.dst s) (.inRegion ops (List.range' 1 r.length)::k):=by
   rw[Frame.finish_atR,h0];rfl
  have hr:=Ns (P:=X.P) (ρ:=a.eval) (w:=w) G;have I:=tryRecover_deferred (fr:=bf.atR a (.inRegion ops (0::List.range' 1 r.length)::k)) r9 (C::cs);rw[h7,<-Z];simp only[Frame.atR,S]at I ⊢
  rcases hu with ⟨rfl,rfl,rfl⟩|⟨rfl,rfl⟩
  .have U:recoverD (C::cs)=none:=by simp[recoverD,T]
   rw[U]at I;have r0:({ C with mode:=FrameMode.returning }:Frame)=C:=by rw[<-T]
   simp[stepG.apply,hr,I,r0]
  .have U:recoverD (C::cs)=some (s,{ C with mode:=bi s true }::cs):=by simp[recoverD,T,bi]
   rw[U]at I;simp[stepG.apply,hr,I]
 subst h5;obtain⟨e,x,F,⟨rfl,l6,j2,c,l0,Y⟩,h8⟩:=wp_opsIn _ _ _ O bf k ({ C with mode:=J }::cs) S hF A;refine⟨.normal,x,{ C with mode:=J }::cs,F,rfl,?_,?_⟩
 .show b.wpSIn Fence.wide 0 X.P _ x ({ C with mode:=J }::cs) F;refine wpSIn_of_wpIn rfl (wpIn_mono (Dt hm hX b w none y _ c x F r8 l0 l6 Y) λe a2 w2 hq=>?_)
  obtain⟨q1,M,q2,q3⟩:=hq;have fin:∀d,Rel d a2->ky M (K w2.heap)->a2.defers=[]/\∃L,({ C with mode:=J }::cs:List Frame)={ C with mode:=L }::cs/\∃v,(results fn a2.tmps).run X.P w2=.ok v w2/\(bV w w2/\L=J/\K w2.heap):=by
   intro d B n;obtain⟨rfl,n⟩:=mh.1 n;refine⟨by rw[q2.defers];simpa[ny] using j2,J,rfl,?_⟩;obtain⟨v,_,E⟩:=Dv (X:=X) (w:=w2) B fn (λ_=>True) (by rw[h6];trivial)
   exact⟨v,E,q1,rfl,n⟩
  cases e with
  | normal=>obtain⟨d,B,n⟩:=q3;exact fin d B n
  | ret=>obtain⟨d,B,n⟩:=q3;exact fin d B n
  | exit i=>obtain⟨d,B,n⟩:=q3;exact n.elim
  | panic ch=>obtain⟨d,B,n⟩:=q3;exact n.elim
  | _=>exact q3.elim
 .refine .of_steps (.one (fenced_calm hF A rfl) stepR_region) ?_;rw[N];refine .of_steps (.one ?_ W) h8;exact fenced_oper hF A h0 (λ_ _=>trivial)
theorem y5{P:Program}(k:X.P=P)(hm:X.P.follows .mixedOrders=true)(e:∀f,bJ f X.calls=true->gF X.P f){f:FuncId}{fn:Func}(j:P.funcs[f]?=some fn){an:Ann}{args:Os}{a:Value}{u c:FrameMode}{H:aD}{K:aD->Prop}{C:Prop}
  (d:(u=.returning/\a=.nilIface/\c=.returning)\/(u=bi a false/\c=bi a true))
  (i:vcDef X fn an args a H K=C) (h:C) (m:okF X fn=true:=by kernel_rfl):cC P f args u H λb n=>b=c/\K n:=by
 subst k;exact Nt hm e j an d m (i▸h)
end
structure LOut where
 n:Nat
 ret:Nat
 ex:List (Nat×Nat)
def nA:Code->List Oper
 | .region _ ops _=>ops.toList
 | .seq a b=>nA a++nA b
 | .cond _ a b=>nA a++nA b
 | .block _ a=>nA a
 | .loop a=>nA a
 | .rangeFunc _ _ a b=>nA a++nA b
 | _=>[]
def extSh(P:Program)(d i:Nat):List Oper->Sh
 | []=>.one .raw
 | o::r=>match o.op with
  | .extract (.tmp t) j=>(match Nat.beq t d&&Nat.beq i j with|true=>(match pL P o.type with|some s=>s|none=>.one .raw)|false=>extSh P d i r)
  | _=>extSh P d i r
def y6(P:Program)(all:List Oper):List Oper->List (Nat×Sh×Sh)
 | []=>[]
 | o::r=>match o.op,o.dst with
  | .entry _,some d=>(d,extSh P d 0 all,extSh P d 1 all)::y6 P all r
  | _,_=>y6 P all r
def nxF(X:Ctx)(fn:Func):Ctx:=X.nx (match fn.body with|some c=>y6 X.P (nA c) (nA c)|none=>[])
def okAt(X:Ctx)(f:FuncId):Bool:=match X.P.funcs[f]? with|some fn=>okF (nxF X fn) fn|none=>true
theorem D2{X:Ctx}{f:FuncId}(h:okAt X f=true){fn:Func}(a:X.P.funcs[f]?=some fn):okF (nxF X fn) fn=true:=by
 unfold okAt at h;rw[a]at h;exact h
abbrev PH:=Nat->Option Obj
def aE:=PH->Prop
def eV(a b:PH):PH:=λi=>match a i with|some o=>some o|none=>b i
def phDisj(a b:PH):Prop:=∀i,a i=none\/b i=none
def aE.sep(A B:aE):aE:=λh=>∃a b,phDisj a b/\h=eV a b/\A a/\B b
instance:Mul aE:=⟨aE.sep⟩
def qi:PH:=λ_=>none
def emp:aE:=λh=>h=qi
def pt(b:Nat)(o:Obj):aE:=λh=>h=λi=>if i=b then some o else none
def pur(p:Prop):aE:=λh=>p/\h=qi
def exS{α:Type}(A:α->aE):aE:=λh=>∃x,A x h
def old(H0:aD):aE:=λh=>h=λi=>H0[i]?
def aQ(H:aD)(A:aE):Prop:=∃h:PH,(∀i o,h i=some o->H[i]?=some o)/\A h
theorem D3{a b:PH}(h:phDisj a b):eV a b=eV b a:=by
 funext i;simp only[eV]
 rcases h i with h|h <;> simp only[h] <;> split <;> simp_all
theorem rr(A B:aE):A*B=B*A:=by
 funext h;apply propext
 constructor
 .rintro⟨a,b,hd,rfl,ha,hb⟩;exact⟨b,a,λi=>(hd i).symm,D3 hd,hb,ha⟩
 .rintro⟨a,b,hd,rfl,ha,hb⟩;exact⟨b,a,λi=>(hd i).symm,D3 hd,hb,ha⟩
theorem D4(a b c:PH):eV (eV a b) c=eV a (eV b c):=by
 funext i;simp only[eV]
 cases a i <;> simp
theorem jv(A B C:aE):A*B*C=A*(B*C):=by
 funext h;apply propext
 constructor
 .rintro⟨ab,c,hd,rfl,⟨a,b,hd',rfl,ha,hb⟩,hc⟩;refine⟨a,eV b c,λi=>?_,D4 a b c,ha,b,c,λi=>?_,rfl,hb,hc⟩
  .simp only[eV]
   rcases hd' i with h|h
   .exact .inl h
   .rcases hd i with d|d
    .simp only[eV]at d
     cases ha:a i with
     | none=>exact .inl rfl
     | some o=>simp[ha]at d
    .right;simp[h,d]
  .rcases hd i with d|d
   .simp only[eV]at d
    cases ha:a i with
    | none=>simp[ha]at d;exact .inl d
    | some o=>simp[ha]at d
   .exact .inr d
 .rintro⟨a,bc,hd,rfl,ha,b,c,hd',rfl,hb,hc⟩;refine⟨eV a b,c,λi=>?_,(D4 a b c).symm,⟨a,b,λi=>?_,rfl,ha,hb⟩,hc⟩
  .rcases hd i with d|d
   .simp only[eV,d];exact hd' i
   .simp only[eV]at d
    cases hb:b i with
    | none=>simp[hb]at d;exact .inr d
    | some o=>simp[hb]at d
  .rcases hd i with d|d
   .exact .inl d
   .simp only[eV]at d
    cases hb:b i with
    | none=>exact .inr rfl
    | some o=>simp[hb]at d
instance:Std.Commutative (α:=aE) (·*·):=⟨rr⟩
instance:Std.Associative (α:=aE) (·*·):=⟨jv⟩
theorem vE(A B C:aE):A*(B*C)=B*(A*C):=by rw[<-jv,rr A B,jv]
theorem tn(h:PH):eV qi h=h:=by funext i;rfl
theorem oM(A:aE):emp*A=A:=by
 funext h;apply propext
 constructor
 .rintro⟨a,b,hd,rfl,ha,hb⟩;have:a=qi:=ha;subst this;rw[tn];exact hb
 .intro c;exact⟨qi,h,λi=>.inl rfl,(tn h).symm,rfl,c⟩
theorem vF(A:aE):A*emp=A:=by rw[rr,oM]
theorem y7(p:Prop)(A:aE)(h:PH):(pur p*A) h↔p/\A h:=by
 constructor
 .rintro⟨a,b,hd,rfl,⟨hp,rfl⟩,hb⟩;rw[tn];exact⟨hp,hb⟩
 .rintro⟨hp,hA⟩;exact⟨qi,h,λi=>.inl rfl,(tn h).symm,⟨hp,rfl⟩,hA⟩
theorem exS_sep{α:Type}(A:α->aE)(B:aE):exS A*B=exS λx=>A x*B:=by
 funext h;apply propext
 constructor
 .rintro⟨a,b,hd,rfl,⟨x,ha⟩,hb⟩;exact⟨x,a,b,hd,rfl,ha,hb⟩
 .rintro⟨x,a,b,hd,rfl,ha,hb⟩;exact⟨a,b,hd,rfl,⟨x,ha⟩,hb⟩
section
variable {H:aD}{A B F:aE}
theorem aQ.eq(h:aQ H A)(a:A=B):aQ H B:=a▸h
theorem aQ.drop(h:aQ H (A*B)):aQ H A:=by
 obtain⟨g,c,a,b,hd,rfl,d,hb⟩:=h;exact⟨a,λi o e=>c i o (by simp[eV,e]),d⟩
theorem aQ.drop'(h:aQ H (A*B)):aQ H B:=by rw[rr]at h;exact h.drop
theorem aQ.frame(h:aQ H (A*F))(f:∀h,A h->B h):aQ H (B*F):=by
 obtain⟨g,c,a,b,hd,e,d,hb⟩:=h;exact⟨g,c,a,b,hd,e,f _ d,hb⟩
theorem sat_ex{α:Type}{A:α->aE}:aQ H (exS A)↔∃x,aQ H (A x):=
 ⟨λ⟨g,a,x,b⟩=>⟨x,g,a,b⟩,λ⟨x,g,a,b⟩=>⟨g,a,x,b⟩⟩
theorem sat_exs{α:Type}{A:α->aE}:aQ H (exS A*F)↔∃x,aQ H (A x*F):=by rw[exS_sep,sat_ex]
theorem vG{p:Prop}:aQ H (pur p*A)↔p/\aQ H A:=
 ⟨λ⟨g,b,a⟩=>⟨((y7 p A g).1 a).1,g,b,((y7 p A g).1 a).2⟩,λ⟨c,g,b,a⟩=>⟨g,b,(y7 p A g).2 ⟨c,a⟩⟩⟩
theorem aQ.get{b:Nat}{o:Obj}(h:aQ H (pt b o*F)):H[b]?=some o:=by
 obtain⟨g,d,a,c,hd,rfl,e,f⟩:=h;refine d b o ?_;have:a=_:=e;subst this;simp[eV]
theorem aQ.upd{b:Nat}{o e:Obj}{j:aD}(h:aQ H (pt b o*F))(hb:j[b]?=some e)(k:∀i,i≠b->j[i]?=H[i]?):aQ j (pt b e*F):=by
 obtain⟨g,m,a,c,hd,rfl,s,n⟩:=h;have:a=_:=s;subst this;have f:c b=none:=by
  rcases hd b with h|h
  .simp at h
  .exact h
 refine⟨eV (λi=>if i=b then some e else none) c,λi o1 d=>?_,_,c,λi=>?_,rfl,rfl,n⟩
 .simp only[eV]at d
  by_cases hi:i=b
  .subst hi;simp at d;subst d;exact hb
  .rw [k i hi];refine m i o1 ?_;simp only[eV,Vs hi]at d ⊢;exact d
 .by_cases hi:i=b
  .subst hi;exact .inr f
  .left;simp[hi]
theorem aQ.push(h:aQ H F)(o:Obj):aQ (H.push o) (pt H.size o*F):=by
 obtain⟨g,d,e⟩:=h;have b:∀i c,g i=some c->i<H.size:=λi c hi=>(Array.getElem?_eq_some_iff.1 (d i c hi)).1
 refine⟨eV (λi=>if i=H.size then some o else none) g,λi o1 a=>?_,_,g,λi=>?_,rfl,rfl,e⟩
 .simp only[eV]at a
  by_cases hi:i=H.size
  .subst hi;simp at a;subst a;simp
  .simp only[Vs hi]at a;have:=b i o1 a;rw[Array.getElem?_push,Vs hi];exact d i o1 a
 .by_cases hi:i=H.size
  .subst hi;right
   cases hg:g H.size with
   | none=>rfl
   | some c=>have:=b _ _ hg;omega
  .left;simp[hi]
theorem aQ.lt{b:Nat}{o:Obj}(h:aQ H (pt b o*F)):b<H.size:=(Array.getElem?_eq_some_iff.1 h.get).1
theorem Nu(H:aD):aQ H (old H):=⟨λi=>H[i]?,λ_ _ h=>h,rfl⟩
theorem aQ.was{H0:aD}(h:aQ H (old H0*F)){i:Nat}(hi:i<H0.size):H[i]?=H0[i]?:=by
 obtain⟨g,d,a,c,hd,rfl,e,f⟩:=h;have:a=_:=e;subst this;have b:H0[i]?=some H0[i]:=by simp[hi]
 rw[b];refine d i _ ?_;simp[eV,b]
end
def cellsA(b:Nat)(cs:Os)(e:TypeId):aE:=pt b (.cells cs.toArray e (0,0))
theorem aQ.cell{H:aD}{F:aE}{b:Nat}{cs:Os}{e:TypeId}(h:aQ H (cellsA b cs e*F))(o:Nat):aL H b o=cs[o]?:=by
 have:=h.get;simp[aL,this]
theorem aQ.cell_old{H H0:aD}{F:aE}(h:aQ H (old H0*F)){b o:Nat}{v:Value}(a:aL H0 b o=some v):aL H b o=some v:=by
 have hb:b<H0.size:=by
  unfold aL at a
  rcases VO b H0.size with c|d
  .exact c
  .simp [Array.getElem?_eq_none d]at a
 simp only[aL,h.was hb];exact a
theorem D5{H:aD}{b o:Nat}{v:Value}{cs:Os}{e:TypeId}(h:H[b]?=some (.cells cs.toArray e (0,0))) :
  (iI H b o v)[b]?=some (.cells (cs.set o v).toArray e (0,0))/\∀i,i≠b->(iI H b o v)[i]?=H[i]?:=by
 refine⟨?_,λi hi=>?_⟩
 .simp only[iI,Array.getElem?_modify,if_true,h,VX];simp
 .simp only[iI,Array.getElem?_modify];rw[Vs (λe=>hi e.symm)]
def cv(cs:Os):Nat->Os->Os
 | _,[]=>cs
 | o,v::r=>cv (cs.set o v) (o+1) r
theorem aQ.set1{H:aD}{F:aE}{b:Nat}{cs:Os}{e:TypeId}(h:aQ H (cellsA b cs e*F))(o:Nat)(v:Value):aQ (iI H b o v) (cellsA b (cs.set o v) e*F):=
 h.upd (D5 h.get).1 (D5 h.get).2
theorem aQ.sets{H:aD}{F:aE}{b:Nat}{e:TypeId}:∀(vs:Os) {cs:Os} (o:Nat),aQ H (cellsA b cs e*F)->aQ (fK H b o vs) (cellsA b (cv cs o vs) e*F)
 | [],cs,o,h=>h
 | v::r,cs,o,h=>by
  have:=aQ.set1 h o v;simp only[fK,cv];exact aQ.sets r (o+1) this
theorem aQ.can{H:aD}{F:aE}{b:Nat}{cs:Os}{e:TypeId}(h:aQ H (cellsA b cs e*F)):∀(vs:Os) (o:Nat),o+vs.length<=cs.length->eU H b o vs
 | [],_,_=>trivial
 | v::r,o,hl=>by
  simp only[V1]at hl;refine⟨⟨?_,?_⟩,aQ.can h r (o+1) (by omega)⟩
  .rw [h.cell];simp;omega
  .have:=h.get;simp only[lY,this];simp
def star:List aE->aE
 | []=>emp
 | A::r=>A*star r
def aA(H:aD)(L:List aE):Prop:=aQ H (star L)
def aW:Nat->List aE->aE
 | _,[]=>emp
 | 0,a::_=>a
 | n+1,_::r=>aW n r
def del:Nat->List aE->List aE
 | _,[]=>[]
 | 0,_::r=>r
 | n+1,a::r=>a::del n r
def put:Nat->aE->List aE->List aE
 | _,A,[]=>[A]
 | 0,A,_::r=>A::r
 | n+1,A,a::r=>a::put n A r
def ru:Nat->List aE->List aE
 | 0,L=>L
 | _,[]=>[]
 | n+1,_::r=>ru n r
def ordL(is:List Nat)(L:List aE):List aE:=match is with
 | []=>[]
 | i::r=>aW i L::ordL r L
def ordT(is:List Nat)(n:Nat)(L:List aE):List aE:=match is with
 | []=>ru n L
 | i::r=>aW i L::ordT r n L
theorem vH:∀(i:Nat) (L:List aE),star L=aW i L*star (del i L)
 | _,[]=>by simp[aW,del,star,oM]
 | 0,a::r=>rfl
 | n+1,a::r=>by
  have:=vH n r;simp only[aW,del,star];rw[this,vE]
theorem y8:∀(i:Nat) (A:aE) (L:List aE),star (put i A L)=A*star (del i L)
 | _,A,[]=>by simp[put,del,star]
 | 0,A,a::r=>rfl
 | n+1,A,a::r=>by
  have:=y8 n A r;simp only[put,del,star];rw[this,vE]
theorem D6:∀{i j:Nat} (L:List aE),j≠i->aW j (put i emp L)=aW j L
 | i,j,[],h=>by
  cases j with
  | zero=>simp[put,aW]
  | succ n=>simp[put,aW]
 | 0,0,a::r,h=>Vu rfl h
 | 0,j+1,a::r,h=>rfl
 | i+1,0,a::r,h=>rfl
 | i+1,j+1,a::r,h=>by
  simp only[put,aW];exact D6 r (by omega)
theorem y9{L L':List aE}:∀{is:List Nat},(∀j∈is,aW j L=aW j L')->ordL is L=ordL is L'
 | [],_=>rfl
 | i::r,h=>by
  simp only[ordL];rw[h i (by simp),y9 (is:=r) λj a=>h j (by simp[a])]
theorem yA{H:aD}:∀(is:List Nat) (L:List aE) (F:aE),is.Nodup->aQ H (star L*F)->aQ H (star (ordL is L)*F)
 | [],L,F,_,h=>by
  simp only[ordL,star,oM];exact h.drop'
 | i::is,L,F,hn,h=>by
  rw[WK]at hn;have e:star L*F=star (put i emp L)*(aW i L*F):=by
   rw[y8,oM,vH i L];rw[rr (aW i L),jv]
  rw[e]at h;have a:=yA is _ _ hn.2 h;rw[y9 (L:=put i emp L) (L':=L) (λj b=>D6 L (λ(e:j=i)=>hn.1 (by rw[<-e];exact b)))]at a
  simp only[ordL,star];rw[jv,vE];exact a
theorem tp:∀(a b:List aE),star (a++b)=star a*star b
 | [],b=>by simp[star,oM]
 | x::r,b=>by simp only[W0,star];rw[tp r b,jv]
def tq:Nat->List aE->List aE
 | 0,_=>[]
 | _,[]=>[]
 | n+1,a::r=>a::tq n r
theorem D7:∀(n:Nat) (L:List aE),L=tq n L++ru n L
 | 0,L=>rfl
 | n+1,[]=>rfl
 | n+1,a::r=>by simp only[tq,ru,W0];rw[<-D7 n r]
theorem D8:∀{n j:Nat} (L:List aE),j<n->aW j (tq n L)=aW j L
 | 0,_,_,h=>Vu h (by omega)
 | n+1,j,[],h=>rfl
 | n+1,0,a::r,h=>rfl
 | n+1,j+1,a::r,h=>by simp only[tq,aW];exact D8 r (by omega)
theorem D9(n:Nat)(L:List aE):∀(is:List Nat),ordT is n L=ordL is L++ru n L
 | []=>rfl
 | i::r=>by simp only[ordT,ordL,W0];rw[D9 n L r]
section
variable {H:aD}{L:List aE}
theorem aA.foc(h:aA H L)(i:Nat):aQ H (aW i L*star (del i L)):=by unfold aA at h;rw[vH i L]at h;exact h
theorem aA.back{i:Nat}{A:aE}(h:aQ H (A*star (del i L))):aA H (put i A L):=by unfold aA;rw[y8];exact h
theorem aA.ord(h:aA H L)(is:List Nat)(b:is.Nodup):aA H (ordL is L):=by
 have a:=yA is L emp b (by rw[vF];exact h);rw[vF]at a;exact a
theorem aA.ordt(h:aA H L)(is:List Nat)(n:Nat)(d:is.Nodup)(b:∀i∈is,i<n):aA H (ordT is n L):=by
 unfold aA at *;rw[D7 n L,tp]at h;have a:=yA is _ _ d h;rw[D9,tp];rw[y9 (L':=L) λj c=>D8 L (b j c)]at a
 exact a
theorem aA.o{H:aD}{L:List aE}(h:aA H L)(is:List Nat)(n:Nat)(a:is.Nodup:=by decide)(h2:∀i∈is,i<n:=by decide):aA H (ordT is n L):=h.ordt is n a h2
theorem aA.tl{A:aE}(h:aA H (A::L)):aA H L:=aQ.drop' h
theorem aA.consP{p:Prop}(h:aA H (pur p::L)):p/\aA H L:=vG.1 h
theorem aA.pur{p:Prop}(h:aA H L)(a:p):aA H (pur p::L):=vG.2 ⟨a,h⟩
theorem aA.mono{A B:aE}(h:aA H (A::L))(a:∀h,A h->B h):aA H (B::L):=aQ.frame h a
theorem aA.push(h:aA H L)(o:Obj):aA (H.push o) (pt H.size o::L):=aQ.push h o
def dB(H H':aD):Prop:=∀b,b<H.size->H'[b]?=H[b]?
theorem dB.size{H b:aD}(h:dB H b):H.size<=b.size:=by
 rcases VO b.size H.size with a|c
 .have:=h b.size a;simp[a]at this
 .exact c
theorem dB.trans{H c a:aD}(h:dB H c)(d:dB c a):dB H a:=λb hb=>(d b (Nat.lt_of_lt_of_le hb h.size)).trans (h b hb)
theorem dB.push(H:aD)(o:Obj):dB H (H.push o):=λb hb=>by rw[Array.getElem?_push,nO]
theorem aQ.grow{H b:aD}{F:aE}(h:aQ H F)(g:dB H b):aQ b F:=by
 obtain⟨p,a,c⟩:=h;exact⟨p,λi o hi=>(g i (Array.getElem?_eq_some_iff.1 (a i o hi)).1).trans (a i o hi),c⟩
theorem aQ.add{H:aD}{F:aE}{o:Obj}{b n:Nat}(hb:H[b]?=some o)(j:∃H0:aD,H0.size=n/\aQ H0 F/\dB H0 H/\n<=b):aQ H (pt b o*F):=by
 obtain⟨H0,rfl,⟨p,e,h⟩,g,f⟩:=j;have c:∀i d,p i=some d->i<H0.size:=λi d hi=>(Array.getElem?_eq_some_iff.1 (e i d hi)).1
 refine⟨eV (λi=>if i=b then some o else none) p,λi o1 a=>?_,_,p,λi=>?_,rfl,rfl,h⟩
 .simp only[eV]at a
  by_cases hi:i=b
  .subst hi;simp at a;subst a;exact hb
  .simp only[Vs hi]at a;exact (g i (c i o1 a)).trans (e i o1 a)
 .by_cases hi:i=b
  .subst hi;right
   cases hp:p i with
   | none=>rfl
   | some d=>have:=c _ _ hp;omega
  .left;simp[hi]
theorem aA.grow{H a:aD}(h:aA H L)(g:dB H a):aA a L:=aQ.grow h g
theorem aA.new{H a:aD}{b:Nat}{o:Obj}(h:aA H L)(g:dB H a)(hb:H.size<=b)(c:a[b]?=some o):aA a (pt b o::L):=
 aQ.add c ⟨H,rfl,h,g,hb⟩
theorem fM{α:Type}(l:List α)(n:Nat):aT l n=l[n]?:=by
 induction l generalizing n with
 | nil=>simp[aT]
 | cons a r ih=>cases n <;> simp[aT,ih]
theorem aQ.rdc{H:aD}{A F:aE}(h:aQ H (A*F)){b e:Nat}{cs:Os}(a:A=cellsA b cs e)(o:Nat):aL H b o=aT cs o:=by
 subst a;rw[h.cell,fM]
theorem aA.rd(h:aA H L)(i:Nat){b e:Nat}{cs:Os}(a:aW i L=cellsA b cs e)(o:Nat):aL H b o=aT cs o:=(h.foc i).rdc a o
theorem aA.r{H:aD}{L:List aE}(h:aA H L)(i:Nat){b e o:Nat}{cs:Os}(a:aW i L=cellsA b cs e:=by rfl):aL H b o=aT cs o:=h.rd i a o
theorem aA.can(h:aA H L)(i:Nat){b e:Nat}{cs:Os}(c:aW i L=cellsA b cs e)(o:Nat)(vs:Os)(a:o+vs.length<=cs.length):eU H b o vs:=by
 have:=h.foc i;rw[c]at this;exact this.can vs o a
theorem aA.set(h:aA H L)(i:Nat){b e:Nat}{cs:Os}(a:aW i L=cellsA b cs e)(o:Nat)(vs:Os):aA (fK H b o vs) (put i (cellsA b (cv cs o vs) e) L):=by
 have:=h.foc i;rw[a]at this;exact aA.back (aQ.sets vs o this)
theorem aA.was(h:aA H L)(i:Nat){H0:aD}(a:aW i L=old H0){b:Nat}(hb:b<H0.size):H[b]?=H0[b]?:=by
 have:=h.foc i;rw[a]at this;exact this.was hb
theorem aA.cell0(h:aA H L)(i:Nat){H0:aD}(c:aW i L=old H0){b o:Nat}{v:Value}(a:aL H0 b o=some v):aL H b o=some v:=by
 have:=h.foc i;rw[c]at this;exact this.cell_old a
end
structure SlT(P:Program)(t e sz bytes:Nat):Prop where
 und:P.underlying t=some (.slice e)
 pos:0<sz
 info:∃i z,P.info? e=some i/\i.zero=some z/\i.size=sz/\i.bytes=bytes/\z.cells.size=sz
def slTB(P:Program)(t e sz bytes:Nat):Bool:=
 match P.underlying t,P.info? e with
 | some (.slice e'),some i=>(match i.zero with
  | some z=>Nat.beq e' e&&Nat.blt 0 sz&&Nat.beq i.size sz&&Nat.beq i.bytes bytes&&Nat.beq z.cells.size sz
  | none=>false)
 | _,_=>false
theorem iO{P:Program}{t e sz bytes:Nat}(h:slTB P t e sz bytes=true):SlT P t e sz bytes:=by
 unfold slTB at h
 split at h
 .rename_i m i d hi
  split at h
  .rename_i z j;simp only[Vz]at h;obtain⟨⟨⟨⟨a,f⟩,c⟩,k⟩,b⟩:=h;have a:=W7 a;subst a;exact⟨d,Yg f,i,z,hi,j,W7 c,W7 k,W7 b⟩
  .cases h
 .cases h
def aP(H:aD)(a:KQ)(cs:Os):Prop:=∀j v,aT cs j=some v->a=some ⟨aU a,aS a,none⟩/\aL H (aU a) (aS a+j)=some v
theorem od{α:Type}{l:List α}{j:Nat}{v:α}(h:aT l j=some v):j<l.length:=by
 rw[fM]at h;exact (List.getElem?_eq_some_iff.1 h).1
theorem vI{α:Type}{l:List α}{j:Nat}(h:j<l.length):aT l j=some l[j]:=by rw[fM,List.getElem?_eq_getElem h]
theorem iv(H:aD)(a:KQ):aP H a []:=λj v h=>by simp[aT]at h
theorem aP.take{H:aD}{a:KQ}{cs:Os}(h:aP H a cs)(n:Nat):aP H a (cs.take n):=λj v b=>h j v (by
 rw[fM]at b ⊢;rw[List.getElem?_take]at b
 split at b
 .exact b
 .cases b)
theorem aQ.cellG{H:aD}{F:aE}{b e:Nat}{cs:Os}{fr:Nat×Nat}(h:aQ H (pt b (.cells cs.toArray e fr)*F))(o:Nat):aL H b o=cs[o]?:=by
 have:=h.get;simp[aL,this]
theorem DV{H:aD}{b o e:Nat}{v:Value}{cs:Os}{fr:Nat×Nat}(h:H[b]?=some (.cells cs.toArray e fr)) :
  (iI H b o v)[b]?=some (.cells (cs.set o v).toArray e fr)/\∀i,i≠b->(iI H b o v)[i]?=H[i]?:=by
 refine⟨?_,λi hi=>?_⟩
 .simp only[iI,Array.getElem?_modify,if_true,h,VX];simp
 .simp only[iI,Array.getElem?_modify];rw[Vs (λe=>hi e.symm)]
theorem aQ.setsG{H:aD}{F:aE}{b e:Nat}{fr:Nat×Nat}:∀(vs:Os) {cs:Os} (o:Nat),aQ H (pt b (.cells cs.toArray e fr)*F)->aQ (fK H b o vs) (pt b (.cells (cv cs o vs).toArray e fr)*F)
 | [],cs,o,h=>h
 | v::r,cs,o,h=>by
  have:=h.upd (DV (o:=o) (v:=v) h.get).1 (DV h.get).2;simp only[fK,cv];exact aQ.setsG r (o+1) this
theorem aQ.canG{H:aD}{F:aE}{b e:Nat}{cs:Os}{fr:Nat×Nat}(h:aQ H (pt b (.cells cs.toArray e fr)*F)):∀(vs:Os) (o:Nat),o+vs.length<=cs.length->(∀i,o<=i->i<o+vs.length->¬(fr.1<=i/\i<fr.2))->eU H b o vs
 | [],_,_,_=>trivial
 | v::r,o,hl,hf=>by
  simp only[V1]at hl hf;refine⟨⟨?_,?_⟩,aQ.canG h r (o+1) (by omega) λi a d=>hf i (by omega) (by omega)⟩
  .rw [h.cellG];simp;omega
  .have:=h.get;have c:=hf o (V2 _) (by omega);simp only[lY,this];simp only[Wc,V0];omega
def slA(e sz:Nat)(a:KQ)(n c:Nat)(cs:Os):aE:=λh=>
 cs.length=n*sz/\((a=none/\n=0/\c=0/\h=qi)\/
  ∃b pre post e' fr,a=some ⟨b,pre.length,none⟩/\n<=c/\(c-n)*sz<=post.length/\(e=e->∀i,pre.length<=i->i<pre.length+c*sz->¬(fr.1<=i/\i<fr.2))/\pt b (.cells (pre++cs++post).toArray e' fr) h)
section
variable {H:aD}{F:aE}{e sz n c:Nat}{a:KQ}{cs:Os}
theorem ry(h:aQ H F):aQ H (slA e sz none 0 0 []*F):=by
 have:aQ H (emp*F):=by rw[oM];exact h
 exact this.frame λp a=>⟨by simp,.inl ⟨rfl,rfl,rfl,a⟩⟩
theorem slA_pt{b:Nat}(h:aQ H (cellsA b cs e*F))(c:cs.length=n*sz):aQ H (slA e sz (some ⟨b,0,none⟩) n n cs*F):=
 h.frame λp d=>⟨c,.inr ⟨b,[],[],e,(0,0),rfl,V2 _,by simp,λ_ i _ _ a=>by simp at a,by simpa[cellsA] using d⟩⟩
theorem kz(h:aQ H (slA e sz a n c cs*F)):cs.length=n*sz/\((a=none/\n=0/\c=0/\aQ H F)\/
  ∃b pre post f fr,a=some ⟨b,pre.length,none⟩/\n<=c/\(c-n)*sz<=post.length/\(∀i,pre.length<=i->i<pre.length+c*sz->¬(fr.1<=i/\i<fr.2))/\aQ H (pt b (.cells (pre++cs++post).toArray f fr)*F)):=by
 obtain⟨g,t,x,y,hd,rfl,u,s⟩:=h;refine⟨u.1,?_⟩
 rcases u.2 with ⟨j,k,m,d⟩|⟨b,pre,post,f,fr,j,k,m,v,d⟩
 .left;refine⟨j,k,m,_,t,?_⟩;rw[d,tn];exact s
 .right;exact⟨b,pre,post,f,fr,j,k,m,v rfl,_,t,x,y,hd,rfl,d,s⟩
theorem slA_nc(h:aQ H (slA e sz a n c cs*F)):n<=c:=by
 rcases (kz h).2 with ⟨j,f,i,d⟩|⟨b,pre,post,k,fr,j,f,i,m,d⟩ <;> omega
theorem yB(h:aQ H (slA e sz a n c cs*F)):aP H a cs:=by
 obtain⟨s,f⟩:=kz h;intro j v k;have d:=od k
 rcases f with ⟨f,m,t,i⟩|⟨b,pre,post,u,fr,f,m,t,w,i⟩
 .subst m;simp[s]at d
 .subst f;refine⟨rfl,?_⟩;show aL H b (pre.length+j)=some v;rw[i.cellG];rw[V5,List.getElem?_append_right (by omega),WS,List.getElem?_append_left d,<-fM];exact k
theorem oe:∀(vs cs:Os) (o:Nat),(cv cs o vs).length=cs.length
 | [],_,_=>rfl
 | v::r,cs,o=>by simp only[cv];rw[oe r];simp
theorem DW:∀(vs pre cs post:Os) (o:Nat),o+vs.length<=cs.length->cv (pre++cs++post) (pre.length+o) vs=pre++cv cs o vs++post
 | [],_,_,_,_,_=>rfl
 | v::r,pre,cs,post,o,h=>by
  simp only[V1]at h;simp only[cv];have:=DW r pre (cs.set o v) post (o+1) (by simp;omega);rw[<-Wk]at this;rw[<-this];congr 1;rw[V5,V5,List.set_append_right _ _ (by omega),WS,List.set_append_left _ _ (by omega)]
theorem rz:∀(vs pre post:Os),vs.length<=post.length->cv (pre++post) pre.length vs=pre++vs++post.drop vs.length
 | [],_,_,_=>by simp[cv]
 | v::r,pre,[],h=>by simp at h
 | v::r,pre,p::post,h=>by
  simp only[cv];have:=rz r (pre++[v]) post (by simpa using h);simp only[Vv,V1,VN,VL,V5,W0,VZ]at this;simp only[V1,Yy,V5,W0];rw[<-this];congr 1;rw[List.set_append_right _ _ (by omega)];simp
theorem slA_set(h:aQ H (slA e sz a n c cs*F))(o:Nat)(vs:Os)(m:o+vs.length<=cs.length)(h0:vs≠[]) :
  a=some ⟨aU a,aS a,none⟩/\eU H (aU a) (aS a+o) vs/\aQ (fK H (aU a) (aS a+o) vs) (slA e sz a n c (cv cs o vs)*F):=by
 obtain⟨d,f⟩:=kz h
 rcases f with ⟨f,j,s,k⟩|⟨b,pre,post,u,fr,f,j,s,t,k⟩
 .subst j
  cases vs with
  | nil=>exact Vu rfl h0
  | cons v r=>simp at m;omega
 .subst f;have x:n*sz<=c*sz:=Wq _ j;refine⟨rfl,k.canG vs _ (by simp[aS];omega) (λi w y=>t i (by simp only[aS]at w;omega) (by simp only[aS]at y;omega)),?_⟩
  have:=aQ.setsG vs (pre.length+o) k;rw[DW _ _ _ _ _ m]at this;exact this.frame λp A=>⟨by rw[oe];exact d,.inr ⟨b,pre,post,u,fr,rfl,j,s,λ_=>t,A⟩⟩
theorem iP(b o n:Nat):(⟨b,o,none⟩:Addr).add n=⟨b,o+n,none⟩:=by
 unfold Addr.add;split <;> simp_all
theorem tr{P:Program}{w:World}{m:Nat}{a2:KQ}{c2:Nat}{ws:Os}(c:aP w.heap a2 ws)(d:ws.length=m*sz) :
  (Builtin.firstCells sz m (.slice a2 m c2)).run P w=.ok ws.toArray w:=by
 cases a2 with
 | none=>
  have:ws=[]:=by
   cases ws with
   | nil=>rfl
   | cons v r=>have:=(c 0 v rfl).1;simp at this
  subst this;exact run_firstCells_none w sz m m c2
 | some a=>
  refine run_firstCells_some w sz m a m c2 ws d λj v e=>?_
  have h:=c j v (by rw[fM];exact e);simp only[Option.some.injEq]at h;rw[h.1,iP];have b:=h.2;unfold World.cell?;unfold aL at b;simp only[Option.isSome_none,aU,aS]at b ⊢
  split at b
  .rename_i cc x1 x2 hb;rw[hb];exact b
  .cases b
theorem Nv{P:Program}{t bytes m c2 ty:Nat}(T:SlT P t e sz bytes){a2:KQ}{ws:Os}{K:KE}(h:aQ H (slA e sz a n c cs*F))(Q:aP H a2 ws)(s:ws.length=m*sz)(y:cT ws=true)
  (hb:(n+m)*bytes<=140737488355328) (hn:n+m<=140737488355328)
  (k:∀W S Z,aQ Z (slA e sz W (n+m) S (cs++ws)*F)->K (.slice W (n+m) S) Z) :
  cB P (Builtin.append_ #[t,t] ty #[.slice a n c,.slice a2 m c2]) H K:=by
 obtain⟨M,h0,i,z,hi,hz,rfl,rfl,J⟩:=T;refine .mk λw L=>?_
 subst L;obtain⟨d,v⟩:=kz h;have I:¬(9223372036854775807<(n:Int)+(m:Int)):=by omega
 have A:=tr (P:=P) (w:=w) (c2:=c2) Q s;have D:=tr (P:=P) (w:=w.drew) (c2:=c2) Q s;have C:=tr (P:=P) (w:=w.drew) (a2:=a) (m:=n) (c2:=c) (yB h) d
 by_cases hroom:n+m<=c
 .rcases v with ⟨v,R,G,u⟩|⟨b,pre,post,e',fr,v,R,G,U,u⟩
  .subst v;subst R;subst G;obtain rfl:m=0:=by omega
   obtain rfl:ws=[]:=W9 (by simpa using s);obtain rfl:cs=[]:=W9 (by simpa using d);refine⟨.slice none (0+0) 0,w,?_,bV.refl w,k _ _ _ (ry u)⟩;simp[Builtin.append_,run_underlying M,sizeOf,typeInfo,hi,Builtin.lenOf,A]
  .subst v;have x:ws.length<=post.length:=by
    refine VI ?_ G;rw[s];exact Wq _ (by omega)
   have O:(n+m)*i.size<=c*i.size:=Wq _ hroom;rw[We]at O;have f:eU w.heap b (pre.length+n*i.size) ws:=u.canG ws _ (by simp[d];omega) λj B Y=>U j (by omega) (by omega)
   obtain⟨w',B,Y,h8⟩:=qU (P:=P) (b:=b) ws (pre.length+n*i.size) 0 w (by simpa using f) (by simpa using qV _ _ f) y;refine⟨.slice (some ⟨b,pre.length,none⟩) (n+m) c,w',?_,Y,k _ _ _ ?_⟩
   .simp [Builtin.append_,run_underlying M,sizeOf,typeInfo,hi,Builtin.lenOf,hroom,A,iP,B]
   .rw [h8];have V:=aQ.setsG ws (pre.length+n*i.size) u;have e1:pre.length+n*i.size=(pre++cs).length:=by simp[d]
    rw[e1,rz _ _ _ x]at V;rw[W8,e1];refine V.frame λp y=>⟨by simp[d,s,We],.inr ⟨b,pre,post.drop ws.length,e',fr,rfl,hroom,?_,λ_=>U,by simpa using y⟩⟩
    rw[VH,s];have:(c-(n+m))*i.size+m*i.size=(c-n)*i.size:=by rw[<-We];congr 1;omega
    omega
 .have N:¬(281474976710656<Builtin.nextslicecap (n+m) c*i.bytes):=by
   have:=growslice_fits (need:=n+m) (old:=c) (bytes:=i.bytes) (by omega) hb;omega
  refine⟨.slice (some ⟨w.heap.size,0,none⟩) (n+m) (grownCap w (n+m) c e),w.drew.alloc (.cells (cs.toArray++ws.toArray++Builtin.zeroCells z.cells (grownCap w (n+m) c e-(n+m))) e),?_,⟨rfl,rfl,rfl⟩,k _ _ _ ?_⟩
  .simp [Builtin.append_,run_underlying M,sizeOf,typeInfo,zeroValue,hi,hz,Builtin.lenOf,hroom,I,N,Question.forced,C,D,newRow,grownCap];congr 2;apply Array.ext';simp[V5]
  .have u:aQ w.heap F:=h.drop';have B:=u.push (.cells (cs.toArray++ws.toArray++Builtin.zeroCells z.cells (grownCap w (n+m) c e-(n+m))) e);have E:=grownCap_ge w (n+m) c e;refine B.frame λp y=>⟨by simp[d,s,We],.inr ⟨w.heap.size,[],(Builtin.zeroCells z.cells (grownCap w (n+m) c e-(n+m))).toList,e,(0,0),rfl,E,?_,λ_ i _ _ hh=>by simp at hh,?_⟩⟩
   .rw [Wy,size_zeroCells,J];exact V2 _
   .have e2:(([]:Os)++(cs++ws)++(Builtin.zeroCells z.cells (grownCap w (n+m) c e-(n+m))).toList).toArray=cs.toArray++ws.toArray++Builtin.zeroCells z.cells (grownCap w (n+m) c e-(n+m)):=by
     apply Array.ext';simp
    rw[e2];exact y
end
section
variable {H:aD}{L:List aE}{e sz n c:Nat}{a:KQ}{cs:Os}
theorem aA.sl_rd(h:aA H L)(i:Nat)(b:aW i L=slA e sz a n c cs):aP H a cs:=yB (F:=star (del i L)) (by have:=h.foc i;rw[b]at this;exact this)
theorem aA.sl_nc(h:aA H L)(i:Nat)(b:aW i L=slA e sz a n c cs):n<=c:=slA_nc (F:=star (del i L)) (by have:=h.foc i;rw[b]at this;exact this)
theorem aA.sl_nil(h:aA H L)(e sz:Nat):aA H (slA e sz none 0 0 []::L):=ry h
theorem aA.sl_pt{b:Nat}(h:aA H (pt b (.cells cs.toArray e (0,0))::L))(sz n:Nat)(a:cs.length=n*sz):aA H (slA e sz (some ⟨b,0,none⟩) n n cs::L):=slA_pt h a
theorem aA.sl_set(h:aA H L)(i:Nat)(j:aW i L=slA e sz a n c cs)(o:Nat)(vs:Os)(f:o+vs.length<=cs.length)(h0:vs≠[]) :
  a=some ⟨aU a,aS a,none⟩/\eU H (aU a) (aS a+o) vs/\aA (fK H (aU a) (aS a+o) vs) (put i (slA e sz a n c (cv cs o vs)) L):=by
 have:=h.foc i;rw[j]at this;obtain⟨b,k,d⟩:=slA_set this o vs f h0;exact⟨b,k,aA.back d⟩
theorem aA.append{P:Program}{t bytes m c2 ty:Nat}(T:SlT P t e sz bytes){a2:KQ}{ws:Os}{K:KE}(h:aA H L)(i:Nat)(v:aW i L=slA e sz a n c cs)(s:aP H a2 ws)(u:ws.length=m*sz)(y:cT ws=true)
  (hb:(n+m)*bytes<=140737488355328) (x:n+m<=140737488355328)
  (k:∀b d f,aA f (put i (slA e sz b (n+m) d (cs++ws)) L)->K (.slice b (n+m) d) f) :
  cB P (Builtin.append_ #[t,t] ty #[.slice a n c,.slice a2 m c2]) H K:=by
 have j:=h.foc i;rw[v]at j;exact Nv T j s u y hb x λb d f w=>k b d f (aA.back w)
theorem aA.append1{P:Program}{t bytes ty e2:Nat}(T:SlT P t e sz bytes){ws:Os}{K:KE}(h:aA H L)(i:Nat)(w:aW i L=slA e sz a n c cs)(u:ws.length=sz)(s:cT ws=true)
  (hb:(n+1)*bytes<=140737488355328) (x:n+1<=140737488355328)
  (k:∀d f m,aA m (put i (slA e sz d (n+1) f (cs++ws)) L)->K (.slice d (n+1) f) m) :
  cB P (Builtin.append_ #[t,t] ty #[.slice a n c,.slice (some ⟨H.size,0,none⟩) 1 1]) (H.push (.cells ws.toArray e2 (0,0))) K:=by
 have g:=dB.push H (.cells ws.toArray e2 (0,0));refine aA.append T (h.grow g) i w (ws:=ws) (λj v b=>⟨rfl,?_⟩) (by simpa using u) s hb x k
 simp only[aU,aS,VL];rw[fM]at b;simp[aL,b]
end
section
variable {α:Type}{enc:α->Os}{sz:Nat}{xs ys:List α}{H:aD}{a:KQ}
def flat(enc:α->Os)(xs:List α):Os:=xs.flatMap enc
@[simp] theorem flat_nil:flat enc ([]:List α)=[]:=rfl
theorem lB(x:α):flat enc (x::xs)=enc x++flat enc xs:=rfl
theorem dS:flat enc (xs++ys)=flat enc xs++flat enc ys:=by simp[flat]
theorem nB(x:α):flat enc [x]=enc x:=by simp[flat]
theorem fh(a:∀x,(enc x).length=sz):∀xs:List α,(flat enc xs).length=xs.length*sz
 | []=>by simp
 | x::r=>by rw[lB,Vv,a,fh a r,V1,We];omega
theorem tt(a:∀x,(enc x).length=sz):∀(k:Nat) (xs:List α),(flat enc xs).drop (k*sz)=flat enc (xs.drop k)
 | 0,xs=>by simp
 | k+1,[]=>by simp
 | k+1,x::r=>by
  rw[lB,Yy,<-tt a k r,We,Nat.one_mul,WW];rw[<-a x,List.drop_append];simp
theorem DX(a:∀x,(enc x).length=sz):∀(k:Nat) (xs:List α),(flat enc xs).take (k*sz)=flat enc (xs.take k)
 | 0,xs=>by simp
 | k+1,[]=>by simp
 | k+1,x::r=>by
  rw[lB,WA,lB,<-DX a k r,We,Nat.one_mul,WW];rw[<-a x,List.take_append,VR (by omega),WS]
theorem DY{β:Type}:∀{l r:List β} {j:Nat},j<l.length->aT (l++r) j=aT l j:=by
 intro l r j h;rw[fM,fM,List.getElem?_append_left h]
theorem yC{β:Type}{l r:List β}(j:Nat):aT (l++r) (l.length+j)=aT r j:=by
 rw[fM,fM,List.getElem?_append_right (by omega),WS]
theorem vJ(a:∀x,(enc x).length=sz):∀{xs:List α} {k:Nat} (b:k<xs.length) (f:Nat),f<sz->aT (flat enc xs) (k*sz+f)=aT (enc xs[k]) f
 | x::r,0,_,f,hf=>by rw[WY,VL,lB,DY (by rw[a];exact hf)];rfl
 | x::r,k+1,b,f,hf=>by
  rw[lB,show (k+1)*sz+f=(enc x).length+(k*sz+f) by rw[a,We];omega,yC,vJ a (by simpa using b) f hf];rfl
theorem aP.el(h:aP H a (flat enc xs))(c:∀x,(enc x).length=sz){k:Nat}(d:k<xs.length)(f:Nat){v:Value}(b:aT (enc xs[k]) f=some v) :
  aL H (aU a) (aS a+k*sz+f)=some v:=by
 have e:f<sz:=by rw[<-c xs[k]];exact od b
 have:=(h (k*sz+f) v (by rw[vJ c d f e];exact b)).2
 rwa[<-Wk]at this
theorem aP.el0(h:aP H a (flat enc xs))(c:∀x,(enc x).length=sz){k:Nat}(b:k<xs.length){v:Value}(d:aT (enc xs[k]) 0=some v) :
  aL H (aU a) (aS a+k*sz)=some v:=h.el c b 0 d
theorem aP.some(h:aP H a (flat enc xs))(b:∀x,(enc x).length=sz)(hs:0<sz){k:Nat}(c:k<xs.length):a=some ⟨aU a,aS a,none⟩:=by
 have h0:0<(flat enc xs).length:=by rw[fh b];exact Nat.mul_pos (by omega) hs
 exact (h 0 _ (vI h0)).1
theorem tu:∀{vs:Os} {b o:Nat},(∀f v,aT vs f=some v->aL H b (o+f)=some v)->bE H b o vs
 | [],_,_,_=>trivial
 | [v],b,o,h=>h 0 v rfl
 | v::u::r,b,o,h=>⟨h 0 v rfl,tu λf w a=>by have:=h (f+1) w a;rwa[show o+(f+1)=o+1+f by omega]at this⟩
theorem aP.els(h:aP H a (flat enc xs))(c:∀x,(enc x).length=sz){k:Nat}(b:k<xs.length):bE H (aU a) (aS a+k*sz) (enc xs[k]):=
 tu λf v d=>h.el c b f d
theorem DZ:∀(vs l r:Os) (o:Nat),o+vs.length<=l.length->cv (l++r) o vs=cv l o vs++r
 | [],_,_,_,_=>rfl
 | v::vs,l,r,o,h=>by
  simp only[V1]at h;simp only[cv];rw[List.set_append_left _ _ (by omega),DZ vs _ r (o+1) (by simp;omega)]
theorem tv:∀(vs l r:Os) (o:Nat),cv (l++r) (l.length+o) vs=l++cv r o vs
 | [],_,_,_=>rfl
 | v::vs,l,r,o=>by
  simp only[cv];rw[List.set_append_right _ _ (by omega),WS,Wk,tv vs l _ (o+1)]
theorem vK:∀(vs l:Os),vs.length=l.length->cv l 0 vs=vs:=by
 intro vs l h;have:=rz vs [] l (by omega);simp only[VZ,VN]at this;rw[this,Yz (by omega),VT]
theorem yD(a:∀x,(enc x).length=sz)(y:α)(vs:Os)(f:Nat):∀{xs:List α} {k:Nat} (b:k<xs.length),f+vs.length<=sz->cv (enc xs[k]) f vs=enc y->cv (flat enc xs) (k*sz+f) vs=flat enc (xs.set k y)
 | x::r,0,_,hl,h=>by
  rw[WY,VL,lB,Yh,lB,DZ _ _ _ _ (by rw[a];omega)];exact congrArg (·++flat enc r) h
 | x::r,k+1,b,hl,h=>by
  rw[Y0,lB,lB,<-yD a y vs f (xs:=r) (k:=k) (by simpa using b) hl h,show (k+1)*sz+f=(enc x).length+(k*sz+f) by rw[a,We];omega,tv]
theorem vL:∀{l r:Os},cT l=true->cT r=true->cT (l++r)=true
 | [],r,_,h=>h
 | v::l,r,h,h2=>by
  have:=yk h;have a:=vL this.2 h2
  cases v <;> simp[cT]at h ⊢ <;> exact a
theorem lC(a:∀x,cT (enc x)=true):∀xs:List α,cT (flat enc xs)=true
 | []=>rfl
 | x::r=>vL (a x) (lC a r)
end
section
variable {H:aD}{L:List aE}{e sz n c:Nat}{a:KQ}{cs:Os}
theorem aA.sl_drop(h:aA H L)(i:Nat)(B:aW i L=slA e sz a n c cs)(k:Nat)(y:k<=n):aA H (put i (slA e sz (cq a k c sz) (n-k) (c-k) (cs.drop (k*sz))) L):=by
 have u:=h.foc i;rw[B]at u;refine aA.back (i:=i) (L:=L) (u.frame λp s=>?_)
 obtain⟨t,s⟩:=s;refine⟨by rw[VH,t,Nat.sub_mul],?_⟩
 rcases s with ⟨j,w,f,d⟩|⟨b,pre,post,v,fr,j,w,f,C,d⟩
 .left;subst j;subst w;subst f;exact⟨by simp[cq],by omega,by omega,d⟩
 .right;subst j;unfold cq
  by_cases e:c=k
  .rw [Vt e];have:n=k:=by omega
   subst this;have hd:cs.drop (n*sz)=[]:=by rw[<-t];simp
   refine⟨b,pre,cs++post,v,fr,rfl,by omega,by rw[show c-n-(n-n)=0 by omega];omega,λ_ i x m=>by rw[show c-n=0 by omega]at m;omega,?_⟩
   rw[hd];simpa using d
  .rw [Vs e];refine⟨b,pre++cs.take (k*sz),post,v,fr,?_,by omega,?_,λ_ i x m=>?_,?_⟩
   .have:k*sz<=n*sz:=Wq _ y;simp only[VX,iP,Vv,VM];rw[WL (by omega)]
   .rw [show c-k-(n-k)=c-n by omega];exact f
   .have D:k*sz<=n*sz:=Wq _ y;have A:(c-k)*sz+k*sz=c*sz:=by rw[<-We];congr 1;omega
    rw[Vv,VM,WL (by omega)]at x m;exact C rfl i (by omega) (by omega)
   .have:pre++cs.take (k*sz)++cs.drop (k*sz)++post=pre++cs++post:=by
     rw[V5,V5,<-V5 (cs.take _),Wl,V5]
    rw[this];exact d
theorem aA.sl_take(h:aA H L)(i:Nat)(v:aW i L=slA e sz a n c cs)(k:Nat)(y:k<=n):aA H (put i (slA e sz a k c (cs.take (k*sz))) L):=by
 have t:=h.foc i;rw[v]at t;refine aA.back (i:=i) (L:=L) (t.frame λp j=>?_)
 obtain⟨s,j⟩:=j;have x:k*sz<=n*sz:=Wq _ y;refine⟨by rw[VM,s];omega,?_⟩
 rcases j with ⟨f,w,m,d⟩|⟨b,pre,post,u,fr,f,w,m,A,d⟩
 .left;exact⟨f,by omega,m,d⟩
 .right;refine⟨b,pre,cs.drop (k*sz)++post,u,fr,f,by omega,?_,A,?_⟩
  .have:(c-k)*sz=(c-n)*sz+(n-k)*sz:=by rw[<-We];congr 1;omega
   rw[Vv,VH,s,this,<-Nat.sub_mul];omega
  .have:pre++cs.take (k*sz)++(cs.drop (k*sz)++post)=pre++cs++post:=by
    rw[V5,<-V5 (cs.take _),Wl,<-V5]
   rw[this];exact d
end
theorem vM{α β:Type}(f:α->β):∀(l:List α) (i:Nat),(l.eraseIdx i).map f=(l.map f).eraseIdx i
 | [],_=>rfl
 | a::r,0=>rfl
 | a::r,i+1=>by simp only[List.eraseIdx_cons_succ,VS];rw[vM f r i]
section
variable {κ α:Type}[DecidableEq κ]
def aJ(x:κ):List (κ×α)->Option α
 | []=>none
 | (y,v)::r=>if x=y then some v else aJ x r
def bT(x:κ)(m:List (κ×α)):List (κ×α):=m.filter λp=>decide (p.1≠x)
def mset(x:κ)(v:α)(m:List (κ×α)):List (κ×α):=(x,v)::bT x m
abbrev aG(m:List (κ×α)):List κ:=m.map Prod.fst
theorem hZ{x:κ}{v:α}:∀{m:List (κ×α)},aJ x m=some v->(x,v)∈m
 | [],h=>by simp[aJ]at h
 | (y,u)::r,h=>by
  simp only[aJ]at h
  split at h
  .rename_i e;subst e;cases h;simp
  .exact VD _ (hZ h)
theorem mi{x:κ}{v:α}:∀{m:List (κ×α)},(aG m).Nodup->(x,v)∈m->aJ x m=some v
 | [],_,h=>by simp at h
 | (y,u)::r,hn,h=>by
  simp only[aG,VS,WK]at hn;simp only[aJ]
  rcases V9.1 h with a|a
  .cases a;simp
  .rw [Vs]
   .exact mi hn.2 a
   .intro e;exact hn.1 (V3.2 ⟨(x,v),a,e⟩)
theorem fu{x:κ}:∀{m:List (κ×α)},aJ x m=none↔x∉aG m
 | []=>by simp[aJ]
 | (y,u)::r=>by
  simp only[aJ,aG,VS,V9,not_or]
  split
  .rename_i e;simp[e]
  .rename_i e;rw[fu (m:=r)];simp[e]
theorem qj{x:κ}{m m':List (κ×α)}(c:(aG m).Nodup)(b:m.Perm m'):aJ x m=aJ x m':=by
 have a:(aG m').Nodup:=(b.map Prod.fst).nodup_iff.1 c
 cases h:aJ x m with
 | none=>
  rw[fu]at h;exact (fu.2 λd=>h ((b.map Prod.fst).mem_iff.2 d)).symm
 | some v=>exact (mi a (b.mem_iff.1 (hZ h))).symm
theorem Ea{x:κ}{m m':List (κ×α)}(a:m.Perm m'):(bT x m).Perm (bT x m'):=a.filter _
theorem rA{x:κ}{p:κ×α}{m:List (κ×α)}:p∈bT x m↔p∈m/\p.1≠x:=by simp[bT]
theorem rB{x:κ}{m:List (κ×α)}(a:(aG m).Nodup):(aG (bT x m)).Nodup:=a.sublist (List.Sublist.map _ List.filter_sublist)
theorem oN{x:κ}{v:α}{m:List (κ×α)}(a:(aG m).Nodup):(aG (mset x v m)).Nodup:=by
 simp only[aG,mset,VS,WK];refine⟨λh=>?_,rB a⟩
 obtain⟨p,b,e⟩:=V3.1 h;exact (rA.1 b).2 e
theorem kO{x:κ}{m:List (κ×α)}(h:aJ x m=none):bT x m=m:=by
 rw[fu]at h;unfold bT;rw[Yn];intro p a;simp only[Vy];intro e;subst e;exact h (V3.2 ⟨p,a,rfl⟩)
theorem yE{x y:κ}(h:y≠x):∀{m:List (κ×α)},aJ y (bT x m)=aJ y m
 | []=>rfl
 | (z,u)::r=>by
  have a:=yE h (m:=r);simp only[bT,Wa]at a ⊢
  split
  .simp only[aJ];split
   .rfl
   .exact a
  .rename_i b;simp only[Vy,ne_eq,Decidable.not_not]at b;simp only[aJ];rw[Vs (by rw[b];exact h)];exact a
theorem Nw{x:κ}{m:List (κ×α)}:aJ x (bT x m)=none:=by
 rw[fu];intro h;obtain⟨p,a,e⟩:=V3.1 h;exact (rA.1 a).2 e
theorem lD{x y:κ}{v:α}{m:List (κ×α)}:aJ y (mset x v m)=if y=x then some v else aJ y m:=by
 simp only[mset,aJ]
 split
 .rfl
 .rename_i h;exact yE h
theorem vN{x y:κ}{m:List (κ×α)}:aJ y (bT x m)=if y=x then none else aJ y m:=by
 split
 .rename_i h;subst h;exact Nw
 .rename_i h;exact yE h
theorem Nx{x:κ}{v:α}{m m':List (κ×α)}(a:m.Perm m'):(mset x v m).Perm (mset x v m'):=(Ea a).cons _
theorem Eb{x:κ}{v:α}{m:List (κ×α)}(h:aJ x m=none):(mset x v m).length=m.length+1:=by simp[mset,kO h]
theorem Ec{x:κ}{v:α}:∀{m:List (κ×α)},(aG m).Nodup->aJ x m=some v->(bT x m).length+1=m.length
 | [],_,h=>by simp[aJ]at h
 | (y,u)::r,hn,h=>by
  simp only[aG,VS,WK]at hn;simp only[aJ]at h
  by_cases e:x=y
  .subst e;have:aJ x r=none:=fu.2 hn.1;have b:=kO this;have c:bT x ((x,u)::r)=bT x r:=by simp[bT,Wa]
   rw[c,b];rfl
  .rw [Vs e]at h;have a:=Ec hn.2 h;simp only[bT,Wa]at a ⊢;rw[Vt (by simpa using λe2=>e e2.symm)]
   simp only[V1];omega
theorem Ed{x:κ}{v u:α}{m:List (κ×α)}(a:(aG m).Nodup)(h:aJ x m=some u):(mset x v m).length=m.length:=by
 have:=Ec a h;simp only[mset,V1];omega
theorem getElem?_of_mlook{x:κ}{v:α}{m:List (κ×α)}(h:aJ x m=some v):∃i:Nat,m[i]?=some (x,v)/\∀j,j<i->(aG m)[j]?≠some x:=by
 induction m with
 | nil=>simp[aJ]at h
 | cons p r ih=>
  obtain⟨y,u⟩:=p;simp only[aJ]at h
  split at h
  .rename_i e;subst e;cases h;exact⟨0,rfl,λj a=>Vu a (by omega)⟩
  .rename_i e;obtain⟨i,b,c⟩:=ih h;refine⟨i+1,by simpa using b,λj a=>?_⟩
   cases j with
   | zero=>simp[aG];exact λe2=>e e2.symm
   | succ j=>simpa[aG] using c j (by omega)
theorem Ee{x:κ}{v:α}{m:List (κ×α)}(a:(aG m).Nodup){i:Nat}(hi:m[i]?=some (x,v)):m.eraseIdx i=bT x m:=by
 induction m generalizing i with
 | nil=>simp at hi
 | cons p r b=>
  simp only[aG,VS,WK]at a
  cases i with
  | zero=>
   simp at hi;subst hi;have:aJ x r=none:=fu.2 a.1;have d:=kO this;have c:bT x ((x,v)::r)=bT x r:=by simp[bT,Wa]
   rw[c,d];rfl
  | succ i=>
   simp only[List.getElem?_cons_succ]at hi;have b:=b a.2 hi;simp only[List.eraseIdx_cons_succ,b];simp only[bT,Wa];rw[Vt];simp only[Vy];intro e;exact a.1 (V3.2 ⟨_,VY hi,e.symm⟩)
theorem Ef{x:κ}{v u:α}{m:List (κ×α)}(b:(aG m).Nodup){i:Nat}(hi:m[i]?=some (x,v)):(m.set i (x,u)).Perm (mset x u m):=by
 have h:=Ee b hi;have a:i<m.length:=(List.getElem?_eq_some_iff.1 hi).1;unfold mset;rw[<-h];rw[List.set_eq_take_append_cons_drop,Vt a,List.eraseIdx_eq_take_drop_succ];exact List.perm_middle
end
structure mj{κ:Type}(P:Program)(k:TypeId)(kenc:κ->Value):Prop where
 inj:∀x y,kenc x=kenc y->x=y
 chk:∀(em:Bool) (x:κ) (w:World),(Instr.checkKey em 10000 k (kenc x)).run P w=.ok () w
 non:∀(x:κ) (ks:List κ) (es:List MapEntry) (w:World),es.map (·.key)=ks.map kenc->x∉ks->(Instr.findKey k (kenc x) es).run P w=.ok none w
 fnd:∀(x:κ) (ks:List κ) (es:List MapEntry) (w:World) (i:Nat) (e:MapEntry),es.map (·.key)=ks.map kenc->ks[i]?=some x->(∀j,j<i->ks[j]?≠some x)->es[i]?=some e->(Instr.findKey k (kenc x) es).run P w=.ok (some (i,e.val)) w
 stay:∀(x:κ) (w:World),(Instr.keyThatStays (kenc x) (kenc x)).run P w=.ok (kenc x) w
theorem yF{kk kd:IntKind}(x:Int):∀(a:List MapEntry) (ks:List Int) (i:Nat),a.map (·.key)=ks.map (Value.int kk)->
  (x∉ks->Instr.findNow (.int kd) (.int kk x) a i=some none)/\∀j e,ks[j]?=some x->(∀l,l<j->ks[l]?≠some x)->a[j]?=some e->Instr.findNow (.int kd) (.int kk x) a i=some (some (i+j,e.val))
 | [],[],i,_=>⟨λ_=>rfl,λj e h=>by simp at h⟩
 | [],_::_,i,h=>by simp at h
 | _::_,[],i,h=>by simp at h
 | e0::a,y::ks,i,h=>by
  simp only[VS,List.cons.injEq]at h;obtain⟨f,m⟩:=yF (kd:=kd) x a ks (i+1) h.2
  by_cases e:x=y
  .subst e;refine⟨λd=>Vu (by simp) d,λj e1 b k c=>?_⟩
   have:j=0:=by
    cases j with
    | zero=>rfl
    | succ j=>exact Vu rfl (k 0 (by omega))
   subst this;simp at c;subst c;simp[Instr.findNow,Instr.sameNow,h.1]
  .refine⟨λd=>?_,λj e1 b k c=>?_⟩
   .simp only[V9,not_or]at d;have n:(x == y)=false:=by simpa using e
    simp[Instr.findNow,Instr.sameNow,h.1,n,f d.2]
   .cases j with
    | zero=>simp at b;exact Vu b.symm e
    | succ j=>
     have:=m j e1 (by simpa using b) (λl s=>by simpa using k (l+1) (by omega)) (by simpa using c)
     have n:(x == y)=false:=by simpa using e
     simp only[Instr.findNow,Instr.sameNow,h.1,n,this,if_true];rw[show i+1+j=i+(j+1) by omega]
theorem vO{P:Program}{k:TypeId}{kd:IntKind}(h:P.underlying k=some (.int kd)):mj P k (Value.int kd) where
 inj x y h:=by cases h;rfl
 chk em x w:=by
  show (Instr.checkKey em (9999+1) k (Value.int kd x)).run P w=.ok () w;generalize 9999=n;simp[Instr.checkKey,run_underlying h]
 non x ks es w hk hx:=by simp[Instr.findKey,run_underlying h,(yF (kd:=kd) x es ks 0 hk).1 hx]
 fnd x ks es w i e hk h1 h2 h3:=by simp[Instr.findKey,run_underlying h,(yF (kd:=kd) x es ks 0 hk).2 i e h1 h2 h3]
 stay x w:=by
  have:Instr.sameBits 10000 (Value.int kd x) (Value.int kd x)=true:=by
   generalize 10000=n;unfold Instr.sameBits;simp
  simp[Instr.keyThatStays,this]
structure kA{α:Type}(P:Program)(t k e:Nat)(venc:α->Value)(z:α):Prop where
 und:P.underlying t=some (.map k e)
 info:∃i,P.info? e=some i/\i.zero=some (venc z)
def mapA{κ α:Type}(kenc:κ->Value)(venc:α->Value)(r:Nat)(m:List (κ×α)):aE:=λh=>
 (aG m).Nodup/\∃es clock,(∃ml:List (κ×α),ml.Perm m/\es.toList.map (λe:MapEntry=>(e.key,e.val))=ml.map λp=>(kenc p.1,venc p.2))/\
  (es.toList.map (·.born)).Nodup/\(∀e∈es.toList,e.born<clock)/\pt r (.map es clock) h
section
variable {κ α:Type}{kenc:κ->Value}{venc:α->Value}{r:Nat}{m m':List (κ×α)}{H:aD}{F:aE}{P:Program}
theorem nC(e:m.Perm m'):mapA kenc venc r m=mapA kenc venc r m':=by
 funext h;apply propext;have key:∀{a b:List (κ×α)},a.Perm b->mapA kenc venc r a h->mapA kenc venc r b h:=by
  rintro a b d ⟨n,s,c,⟨t,j,i⟩,k,u,f⟩;exact⟨(d.map Prod.fst).nodup_iff.1 n,s,c,⟨t,j.trans d,i⟩,k,u,f⟩
 exact⟨key e,key e.symm⟩
theorem mo(h:aQ H (mapA kenc venc r m*F)):(aG m).Nodup/\∃b a,(∃c:List (κ×α),c.Perm m/\b.toList.map (λe:MapEntry=>(e.key,e.val))=c.map λp=>(kenc p.1,venc p.2))/\
  (b.toList.map (·.born)).Nodup/\(∀e∈b.toList,e.born<a)/\aQ H (pt r (.map b a)*F):=by
 obtain⟨g,i,x,y,hd,rfl,⟨k,b,a,f,j,n,d⟩,s⟩:=h;exact⟨k,b,a,f,j,n,_,i,x,y,hd,rfl,d,s⟩
theorem mapA_new(h:aQ H (pt r (.map #[] 0)*F)):aQ H (mapA kenc venc r []*F):=
 h.frame λp a=>⟨by simp,#[],0,⟨[],.refl _,rfl⟩,by simp,by simp,a⟩
theorem tw{b:Array MapEntry}{c:List (κ×α)}(h:b.toList.map (λe:MapEntry=>(e.key,e.val))=c.map λp=>(kenc p.1,venc p.2)) :
  b.toList.map (·.key)=(aG c).map kenc/\∀(i:Nat) x v,c[i]?=some (x,v)->∃e:MapEntry,b.toList[i]?=some e/\e.key=kenc x/\e.val=venc v:=by
 constructor
 .have:=congrArg (List.map Prod.fst) h;simpa[aG,Function.comp_def] using this
 .intro i x v hi;have a:=congrArg (λl=>l[i]?) h
  simp only[List.getElem?_map,hi,VX]at a
  cases he:b.toList[i]? with
  | none=>rw[he]at a;cases a
  | some e=>rw[he]at a;simp at a;exact⟨e,rfl,a.1,a.2⟩
section
variable [DecidableEq κ]{t k e:Nat}{z:α}(T:kA P t k e venc z)(KO:mj P k kenc)
include T KO
theorem map_look{x:κ}(h:aQ H (mapA kenc venc r m*F)) :
  (∀v,aJ x m=some v->di P (Instr.lookup t (.map (some r)) (kenc x) true) H (.tuple #[venc v,.bool true])/\di P (Instr.lookup t (.map (some r)) (kenc x) false) H (venc v))/\
  (aJ x m=none->di P (Instr.lookup t (.map (some r)) (kenc x) true) H (.tuple #[venc z,.bool false])/\di P (Instr.lookup t (.map (some r)) (kenc x) false) H (venc z)):=by
 obtain⟨I,y,f,⟨n,d,s⟩,_,_,B⟩:=mo h;have hb:=B.get;obtain⟨A,G⟩:=tw s;have b:(aG n).Nodup:=(d.map Prod.fst).nodup_iff.2 I;obtain⟨i,hi,C⟩:=T.info
 constructor
 .intro v a;rw[<-qj b d]at a;obtain⟨j,u,k⟩:=getElem?_of_mlook a;obtain⟨E,D,_,e⟩:=G j x v u
  constructor <;> intro w c <;> subst c <;>
   simp[Instr.lookup,run_underlying T.und,Go.MapKept.run_getObj_map hb,KO.chk,KO.fnd x (aG n) y.toList w j E A (by simp[aG,u]) k D,e]
 .intro a;rw[<-qj b d,fu]at a
  constructor <;> intro w c <;> subst c <;>
   simp[Instr.lookup,run_underlying T.und,Go.MapKept.run_getObj_map hb,KO.chk,KO.non x (aG n) y.toList w A a,zeroValue,typeInfo,hi,C]
omit T KO [DecidableEq κ] in
theorem tx(w:World)(r:Nat)(o:Obj):bV w { w with heap:=w.heap.setIfInBounds r o }:=⟨rfl,rfl,rfl⟩
omit T KO [DecidableEq κ] in
theorem qk{H:aD}{o a:Obj}(h:aQ H (pt r o*F)):aQ (H.setIfInBounds r a) (pt r a*F):=by
 refine h.upd ?_ λi hi=>?_
 .rw [Array.getElem?_setIfInBounds,Vt rfl,Vt h.lt]
 .rw [Array.getElem?_setIfInBounds,Vs (λe=>hi e.symm)]
def mapC(kenc:κ->Value)(venc:α->Value)(m:List (κ×α))(es:Array MapEntry)(clock:Nat):Prop:=
 (aG m).Nodup/\(∃ml:List (κ×α),ml.Perm m/\es.toList.map (λe:MapEntry=>(e.key,e.val))=ml.map λp=>(kenc p.1,venc p.2))/\
  (es.toList.map (·.born)).Nodup/\∀e∈es.toList,e.born<clock
omit T KO [DecidableEq κ] in
theorem Eg{c:Array MapEntry}{a:Nat}(b:mapC kenc venc m c a)(h:aQ H (pt r (.map c a)*F)):aQ H (mapA kenc venc r m*F):=
 h.frame λ_ d=>⟨b.1,c,a,b.2.1,b.2.2.1,b.2.2.2,d⟩
omit T KO in
theorem mapC_set{x:κ}{v:α}{h:List (κ×α)}{d:Array MapEntry}{b j:Nat}{u:α}{D:MapEntry}(A:(aG m).Nodup)(B:h.Perm m)(w:d.toList.map (λe:MapEntry=>(e.key,e.val))=h.map λp=>(kenc p.1,venc p.2))
  (f:(d.toList.map (·.born)).Nodup) (c:∀e∈d.toList,e.born<b) (y:h[j]?=some (x,u)) (C:d.toList[j]?=some D) :
  mapC kenc venc (mset x v m) (d.modify j λe=>{ e with key:=kenc x,val:=venc v }) b:=by
 have k:(aG h).Nodup:=(B.map Prod.fst).nodup_iff.2 A;refine⟨oN A,⟨h.set j (x,v),(Ef k y).trans (Nx B),?_⟩,?_,?_⟩
 .apply WI;intro i;have n:=congrArg (λl=>l[i]?) w
  simp only[List.getElem?_map]at n ⊢;simp only[Array.toList_modify,List.getElem?_modify,List.getElem?_set]
  by_cases hij:j=i
  .subst hij;have s:j<h.length:=(List.getElem?_eq_some_iff.1 y).1;simp[C,s]
  .simp only[Vs hij,Option.map_map,Function.comp_def]at n ⊢;simpa using n
 .have:((d.modify j λe=>{ e with key:=kenc x,val:=venc v }).toList.map (·.born))=d.toList.map (·.born):=by
   apply WI;intro i;simp only[List.getElem?_map,Array.toList_modify,List.getElem?_modify]
   cases d.toList[i]? with
   | none=>simp
   | some a=>simp;split <;> rfl
  rw[this];exact f
 .intro e2 t;obtain⟨i,hi⟩:=List.getElem?_of_mem t;simp only[Array.toList_modify,List.getElem?_modify]at hi
  cases h3:d.toList[i]? with
  | none=>simp[h3]at hi
  | some a=>
   have:=c a (VY h3);rw[h3]at hi;simp at hi;subst hi
   split <;> exact this
omit T KO in
theorem mapC_new{x:κ}{v:α}{n:List (κ×α)}{s:Array MapEntry}{c:Nat}(A:(aG m).Nodup)(t:n.Perm m)(y:s.toList.map (λe:MapEntry=>(e.key,e.val))=n.map λp=>(kenc p.1,venc p.2))
  (h:(s.toList.map (·.born)).Nodup) (d:∀e∈s.toList,e.born<c) (f:aJ x n=none) :
  mapC kenc venc (mset x v m) (s.push { key:=kenc x,val:=venc v,born:=c }) (c+1):=by
 have u:(aG n).Nodup:=(t.map Prod.fst).nodup_iff.2 A;refine⟨oN A,⟨n++[(x,v)],?_,?_⟩,?_,?_⟩
 .unfold mset;rw[kO (by rw[<-qj u t];exact f)];exact (List.perm_append_singleton _ _).trans (t.cons _)
 .simp [y]
 .simp only[Array.toList_push,VJ,VS,WZ];rw[List.nodup_append];refine⟨h,by simp,?_⟩;intro a B b i w;simp at i;subst i;subst w;obtain⟨e2,j,C⟩:=V3.1 B;have:=d e2 j;omega
 .intro e2 k;simp at k
  rcases k with j|j
  .have:=d e2 (by simpa using j);omega
  .subst j;simp
theorem Ny{x:κ}{v:α}{K:Unit->aD->Prop}(h:aQ H (mapA kenc venc r m*F))(kk:∀I,aQ I (mapA kenc venc r (mset x v m)*F)->K () I) :
  cB P (Instr.mapUpdate t (.map (some r)) (kenc x) (venc v)) H K:=by
 obtain⟨E,f,a,⟨i,J,d⟩,c,b,k⟩:=mo h;have hb:=k.get;obtain⟨G,N⟩:=tw d;refine .mk λw L=>?_
 subst L
 cases hlook:aJ x i with
 | some u=>
  obtain⟨j,n,C⟩:=getElem?_of_mlook hlook;obtain⟨D,s,A,M⟩:=N j x u n;refine⟨(),_,?_,tx w r (.map (f.modify j λe=>{ e with key:=kenc x,val:=venc v }) a),kk _ (Eg (mapC_set E J d c b n s) (qk k))⟩
  have B:f[j]?=some D:=by simpa using s
  simp[Instr.mapUpdate,run_underlying T.und,Go.MapKept.run_getObj_map hb,KO.chk,KO.fnd x (aG i) f.toList w j D G (by simp[aG,n]) C s,B,A,KO.stay,Go.MapKept.run_setObj_map _ hb]
 | none=>
  have y:x∉aG i:=fu.1 hlook;refine⟨(),_,?_,tx w r (.map (f.push { key:=kenc x,val:=venc v,born:=a }) (a+1)),kk _ (Eg (mapC_new E J d c b hlook) (qk k))⟩;simp[Instr.mapUpdate,run_underlying T.und,Go.MapKept.run_getObj_map hb,KO.chk,KO.non x (aG i) f.toList w G y,Go.MapKept.run_setObj_map _ hb]
theorem Nz{x:κ}{ty:Nat}{K:KE}(h:aQ H (mapA kenc venc r m*F))(kk:∀J,aQ J (mapA kenc venc r (bT x m)*F)->K (.tuple #[]) J) :
  cB P (Builtin.delete_ #[t,k] ty #[.map (some r),kenc x]) H K:=by
 obtain⟨E,e,a,⟨n,A,i⟩,d,c,B⟩:=mo h;have hb:=B.get;obtain⟨L,Q⟩:=tw i;have s:(aG n).Nodup:=(A.map Prod.fst).nodup_iff.2 E;refine .mk λw M=>?_
 subst M
 cases hlook:aJ x n with
 | some u=>
  obtain⟨j,C,G⟩:=getElem?_of_mlook hlook;obtain⟨O,I,R,N⟩:=Q j x u C;have y:j<e.size:=by have:=(List.getElem?_eq_some_iff.1 I).1;simpa using this
  have b:(e.eraseIdxIfInBounds j).toList=e.toList.eraseIdx j:=by
   simp[Array.eraseIdxIfInBounds,y,Array.toList_eraseIdx]
  refine⟨.tuple #[],_,?_,tx w r (.map (e.eraseIdxIfInBounds j) a),kk _ ((qk B).frame λp f=>?_)⟩
  .simp [Builtin.delete_,run_underlying T.und,Go.MapKept.run_getObj_map hb,KO.chk,KO.fnd x (aG n) e.toList w j O L (by simp[aG,C]) G I,Go.MapKept.run_setObj_map _ hb]
  .refine⟨rB E,_,_,⟨n.eraseIdx j,?_,?_⟩,?_,?_,f⟩
   .rw [Ee s C];exact Ea A
   .rw [b];rw[vM,vM,i]
   .rw [b,vM];exact d.sublist (List.eraseIdx_sublist _ _)
   .intro e2 v;rw[b]at v;exact c e2 (List.mem_of_mem_eraseIdx v)
 | none=>
  have D:x∉aG n:=fu.1 hlook;refine⟨.tuple #[],_,?_,tx w r (.map e a),kk _ ((qk B).frame λp f=>?_)⟩
  .simp [Builtin.delete_,run_underlying T.und,Go.MapKept.run_getObj_map hb,KO.chk,KO.non x (aG n) e.toList w L D,Go.MapKept.run_setObj_map _ hb]
  .refine⟨rB E,e,a,⟨n,?_,i⟩,d,c,f⟩;rw[kO (by rw[<-qj s A];exact hlook)];exact A
omit KO [DecidableEq κ] in
theorem N0{ty:Nat}{K:KE}(h:aQ H (mapA kenc venc r m*F))(kk:∀f,aQ f (mapA kenc venc r []*F)->K (.tuple #[]) f) :
  cB P (Builtin.clear_ #[t] ty #[.map (some r)]) H K:=by
 obtain⟨k,n,a,⟨s,u,j⟩,d,b,e⟩:=mo h;have hb:=e.get;refine .mk λw i=>?_
 subst i;refine⟨.tuple #[],_,?_,tx w r (.map #[] a),kk _ ((qk e).frame λp c=>?_)⟩
 .simp [Builtin.clear_,run_underlying T.und,Go.MapKept.run_getObj_map hb,Go.MapKept.run_setObj_map _ hb]
 .exact⟨by simp,#[],a,⟨[],.refl _,rfl⟩,by simp,by simp,c⟩
omit KO [DecidableEq κ] in
theorem map_len{ty:Nat}(h:aQ H (mapA kenc venc r m*F)):di P (Builtin.len_ #[t] ty #[.map (some r)]) H (.int .i64 m.length):=by
 obtain⟨n,j,d,⟨s,k,e⟩,c,b,i⟩:=mo h;have hb:=i.get;intro w f;subst f;have a:j.size=m.length:=by
  have:=congrArg List.length e;simp at this;rw[this,k.length_eq]
 simp[Builtin.len_,run_underlying T.und,Go.MapKept.run_getObj_map hb,a,goInt]
end
end
section
variable {κ α:Type}{kenc:κ->Value}{venc:α->Value}{r:Nat}{m m':List (κ×α)}{H:aD}{L:List aE}{P:Program}
theorem aA.mp_new(h:aA H (pt r (.map #[] 0)::L))(kenc:κ->Value)(venc:α->Value):aA H (mapA kenc venc r []::L):=mapA_new h
variable [DecidableEq κ]{t k e:Nat}{z:α}(T:kA P t k e venc z)(KO:mj P k kenc)
include T KO
theorem aA.mp_look{x:κ}(h:aA H L)(i:Nat)(b:aW i L=mapA kenc venc r m) :
  (∀v,aJ x m=some v->di P (Instr.lookup t (.map (some r)) (kenc x) true) H (.tuple #[venc v,.bool true])/\di P (Instr.lookup t (.map (some r)) (kenc x) false) H (venc v))/\
  (aJ x m=none->di P (Instr.lookup t (.map (some r)) (kenc x) true) H (.tuple #[venc z,.bool false])/\di P (Instr.lookup t (.map (some r)) (kenc x) false) H (venc z)):=by
 have a:=h.foc i;rw[b]at a;exact map_look T KO a
theorem aA.mp_update{x:κ}{v:α}{K:Unit->aD->Prop}(h:aA H L)(i:Nat)(d:aW i L=mapA kenc venc r m)(kk:∀a,aA a (put i (mapA kenc venc r (mset x v m)) L)->K () a) :
  cB P (Instr.mapUpdate t (.map (some r)) (kenc x) (venc v)) H K:=by
 have b:=h.foc i;rw[d]at b;exact Ny T KO b λa c=>kk a (aA.back c)
theorem aA.mp_delete{x:κ}{ty:Nat}{K:KE}(h:aA H L)(i:Nat)(d:aW i L=mapA kenc venc r m)(kk:∀a,aA a (put i (mapA kenc venc r (bT x m)) L)->K (.tuple #[]) a) :
  cB P (Builtin.delete_ #[t,k] ty #[.map (some r),kenc x]) H K:=by
 have b:=h.foc i;rw[d]at b;exact Nz T KO b λa c=>kk a (aA.back c)
omit KO [DecidableEq κ] in
theorem aA.mp_clear{ty:Nat}{K:KE}(h:aA H L)(i:Nat)(d:aW i L=mapA kenc venc r m)(kk:∀a,aA a (put i (mapA kenc venc r []) L)->K (.tuple #[]) a) :
  cB P (Builtin.clear_ #[t] ty #[.map (some r)]) H K:=by
 have b:=h.foc i;rw[d]at b;exact N0 T b λa c=>kk a (aA.back c)
omit KO [DecidableEq κ] in
theorem aA.mp_len{ty:Nat}(h:aA H L)(i:Nat)(b:aW i L=mapA kenc venc r m):di P (Builtin.len_ #[t] ty #[.map (some r)]) H (.int .i64 m.length):=by
 have a:=h.foc i;rw[b]at a;exact map_len T a
end
open Go Go.Maps Go.RowKit
def sortI(l:List Int):List Int:=l.mergeSort λx y=>decide (x<=y)
theorem vP{l a:List Int}(h:l.Perm a):sortI l=sortI a:=mergeSort_of_perm_i h
theorem ql(l:List Int):(sortI l).Perm l:=List.mergeSort_perm l _
theorem Eh(l:List Int):(sortI l).Pairwise (·<=·):=by
 have:=List.pairwise_mergeSort (le:=λx y:Int=>decide (x<=y)) (λa b c d e=>by simp only[Vy]at *;omega) (λa b=>by simp only[VE,Vy];omega) l
 exact this.imp (by simp)
theorem yG{l:List Int}(h:l.Pairwise (·<=·)):sortI l=l:=by
 refine List.Perm.eq_of_pairwise (le:=(·<=·)) (λa b _ _ c d=>by omega) (Eh l) h (ql l)
theorem vQ(l:List Int):(sortI l).length=l.length:=(ql l).length_eq
def aF(x:Int):Prop:=-9223372036854775808<=x/\x<=9223372036854775807
theorem wf64_lit{x:Int}(h:aF x):(Lit.int .i64 x).wf=true:=by
 unfold aF at h;simp[Lit.wf,IntKind.min,IntKind.max,IntKind.signed,IntKind.bits];omega
theorem rC{w a:World}(h:Below w.heap.size w a):dB w.heap a.heap:=λb hb=>h.block b hb
theorem tz{n:Nat}{w a:World}(h:Below n w a):bV w a:=⟨h.os,h.tape,h.output⟩
abbrev oO(H:Type):Value->Option (DataW H×List MemPlace):=λ_=>some (.lit (.bool true),[])
theorem yH{α:Type}{venc:α->Value}{P:Program}{k:TypeId}{w:World}{r:Nat}{m:List (Int×α)}{F:aE}(O:P.underlying k=some (.int .i64))
  (h:aQ w.heap (mapA (Value.int .i64) venc r m*F)) (Q:∀x∈aG m,aF x) (M:m.length<=maxLen) :
  ∃G:DataW Unit,w.ownsMap P k (oO Unit) r m.length G/\(intKeys G).Perm (aG m)/\Maps.size G=m.length:=by
 obtain⟨R,c,j,⟨J,A,f⟩,n,d,B⟩:=mo h;have t:c.size=m.length:=by
  have:=congrArg List.length f;simp at this;rw[this,A.length_eq]
 have u:∀x∈c.toList,∃a:Int,x.key=Value.int .i64 a/\Go.WideElems.rd P k (oO Unit) x=some (.int .i64 a,.lit (.bool true)):=by
  intro x y;have:(x.key,x.val)∈c.toList.map (λe:MapEntry=>(e.key,e.val)):=V3.2 ⟨x,y,rfl⟩
  rw[f]at this;obtain⟨p,D,i⟩:=V3.1 this;have H:p.1∈aG m:=V3.2 ⟨p,A.mem_iff.1 D,rfl⟩;have K:=wf64_lit (Q _ H);simp only[Prod.mk.injEq]at i;refine⟨p.1,i.1.symm,?_⟩;unfold Go.WideElems.rd;rw[<-i.1];simp[keyOf,O,mapKey,K,oO]
 have b:=Go.WideShapes.sorted_perm (c.toList.map (Go.WideElems.rg P k (oO Unit)));have I:c.toList.map (λx=>Go.intOf (Go.WideElems.rg P k (oO Unit) x).1)=aG J:=by
  have s:=(tw f).1;have L:c.toList.map (λx=>Go.intOf (Go.WideElems.rg P k (oO Unit) x).1)=(c.toList.map (·.key)).map λv=>match v with|.int _ a=>a|_=>0:=by
   rw[Wh];apply WB;intro x y;obtain⟨a,N,B⟩:=u x y;simp[Go.WideElems.rg,B,N,Go.intOf]
  rw[L,s,Wh];simp[Function.comp_def]
 refine⟨_,⟨c,j,B.get,⟨by omega,⟨d,n,?_⟩,λx y=>?_⟩,by omega,rfl⟩,?_,?_⟩
 .have s:=(tw f).1;rw[s];have E:(aG J).Nodup:=(A.map Prod.fst).nodup_iff.2 R;exact Yo.2 (E.imp λC e=>C (by cases e;rfl))
 .obtain⟨a,_,s⟩:=u x y;exact⟨_,s⟩
 .show ((c.toList.map (Go.WideElems.rg P k (oO Unit))).foldr DataW.insert [] |>.map λp=>Go.intOf p.1).Perm _
  refine (b.map _).trans ?_;rw[Wh];simp only[Function.comp_def];rw[I];exact A.map Prod.fst
 .show ((c.toList.map (Go.WideElems.rg P k (oO Unit))).foldr DataW.insert []).length=_;rw[b.length_eq];simpa using t
theorem aA.of_row{w b:World}{L:List aE}(h:aA w.heap L)(hb:Below w.heap.size w b){e:TypeId}{v:Value}{n:Nat}{xs:Os}(m:b.ownsRow w.heap.size e 1 v n xs) :
  ∃a c,v=.slice a n c/\aA b.heap (slA e 1 a n c xs::L):=by
 obtain⟨d,k⟩:=m;have g:=rC hb
 rcases k with ⟨rfl,rfl⟩|⟨g1,cap,cur,rfl,s,t,x,hm,hs,f⟩
 .have:xs=[]:=W9 (by simpa using d);subst this;exact⟨none,0,rfl,(h.grow g).sl_nil e 1⟩
 .refine⟨_,_,rfl,?_⟩;have u:aA b.heap (cellsA g1 cur.toList e::L):=h.new g s (by simpa using t);refine u.mono λp y=>⟨d,.inr ⟨g1,[],cur.toList.drop n,e,(0,0),rfl,x,?_,λ_ i _ _ j=>by simp at j,?_⟩⟩
  .simp only[VH,Wy,Wr];omega
  .have:([]++xs++cur.toList.drop n)=cur.toList:=by
    rw[<-f];simp
   rw[this];exact y
def vR:Value->Value->Option Bool
 | .int k a,.int k' b=>if k=k' then some (a == b) else none
 | .bool a,.bool b=>some (a == b)
 | .string a,.string b=>some (a == b)
 | _,_=>none
def jw:Option TypeDesc->Value->Bool
 | some (.int _),.int _ _=>true
 | some .bool,.bool _=>true
 | some .string,.string _=>true
 | _,_=>false
def tA(P:Program)(xs ys:Os):List Field->Option Bool
 | []=>some true
 | f::fs=>if f.name= "_" then none else match aT xs f.offset,aT ys f.offset with
  | some a,some b=>if jw (P.underlying f.type) a&&jw (P.underlying f.type) b then
    match vR a b,tA P xs ys fs with
    | some r,some s=>some (r&&s)
    | _,_=>none
   else none
  | _,_=>none
def qm(P:Program)(t:TypeId)(xs ys:Os):Option Bool:=
 match P.underlying t with
 | some (.struct fs)=>if P.stoodInHeld t=false/\P.eqGuardType P.depth t=false then tA P xs ys fs.toList else none
 | _=>none
theorem Ei{P:Program}{w:World}{t:TypeId}{a b:Value}{r:Bool}(c:jw (P.underlying t) a=true)(hb:jw (P.underlying t) b=true)(h:vR a b=some r)(d:Nat) :
  (Op.equalIn (d+1) t a b).run P w=.ok r w:=by
 cases hu:P.underlying t with
 | none=>rw[hu]at c;simp[jw]at c
 | some k=>
  rw[hu]at c hb
  cases k <;> cases a <;> simp[jw]at c <;> cases b <;> simp[jw]at hb <;> simp[vR]at h
  .subst h;simp[Op.equalIn,run_underlying hu]
  .obtain⟨rfl,rfl⟩:=h;simp[Op.equalIn,run_underlying hu]
  .subst h;simp[Op.equalIn,run_underlying hu]
theorem tB{P:Program}{w:World}{t:TypeId}{xs:Os}{o:Nat}{a:Value}(b:jw (P.underlying t) a=true)(d:aT xs o=some a):(part t ⟨xs⟩ o).run P w=.ok a w:=by
 rw[fM]at d
 cases hu:P.underlying t with
 | none=>rw[hu]at b;simp[jw]at b
 | some k=>
  rw[hu]at b;have c:(⟨xs⟩:Array Value)[o]?=some a:=by simpa using d
  cases k <;> cases a <;> simp[jw]at b <;> simp[part,isAgg,run_underlying hu,c]
theorem yI{P:Program}{w:World}{xs ys:Os}(d:Nat):∀{fs:List Field} {r:Bool},tA P xs ys fs=some r->(Op.eqFields (d+1) ⟨xs⟩ ⟨ys⟩ fs).run P w=.ok r w
 | [],r,h=>by simp[tA]at h;subst h;simp[Op.eqFields]
 | f::fs,r,h=>by
  simp only[tA]at h
  split at h
  .cases h
  .rename_i i
   split at h
   .rename_i a b j k
    split at h
    .rename_i c;simp only[Vz]at c
     split at h
     .rename_i r1 s e hs
      cases h
      simp only[Op.eqFields,ne_eq,i,not_false_eq_true,if_true,Sem.run_bind,tB c.1 j,tB c.2 k,Result.andThen_ok,Ei c.1 c.2 e]
      cases r1
      .simp
      .simp [yI d hs]
     .cases h
    .cases h
   .cases h
theorem qn{P:Program}{t:TypeId}{xs ys:Os}{r:Bool}(h:qm P t xs ys=some r):gY P .eql t (.agg ⟨xs⟩) (.agg ⟨ys⟩) r/\gY P .neq t (.agg ⟨xs⟩) (.agg ⟨ys⟩) (!r):=by
 unfold qm at h
 split at h
 .rename_i j e
  split at h
  .rename_i d;have i:P.fieldsOf t=j:=by simp[Program.fieldsOf,e]
   have b:P.underlying t=some (.struct (P.fieldsOf t)):=by rw[i];exact e
   have f:∀w,(Op.equalIn 10000 t (.agg ⟨xs⟩) (.agg ⟨ys⟩)).run P w=.ok r w:=by
    intro w;show (Op.equalIn (9998+1+1) t (.agg ⟨xs⟩) (.agg ⟨ys⟩)).run P w=.ok r w;generalize 9998=n;rw[run_equalIn_struct w (n+1) t ⟨xs⟩ ⟨ys⟩ b d.1,i];exact yI n h
   constructor
   .intro a c w;simp only[Sem.run_bind,run_eqGuard_agg w .eql t a c ⟨xs⟩ ⟨ys⟩ d.2,Result.andThen_ok,run_eql_struct,f]
   .intro a c w;simp only[Sem.run_bind,run_eqGuard_agg w .neq t a c ⟨xs⟩ ⟨ys⟩ d.2,Result.andThen_ok,run_neq_struct,f]
  .cases h
 .cases h
theorem aK{x:Int}(a:-9223372036854775808<=x:=by omega)(h2:x<=9223372036854775807:=by omega):i64.wrap x=x:=IntWalk.i64_in x (by omega)
def vS(P:Program)(e:TypeId):Option Value:=match P.info? e with|some i=>i.zero|none=>none
theorem og{α:Type}{P:Program}{t k e:Nat}{venc:α->Value}{z:α}(b:P.underlying t=some (.map k e))(a:vS P e=some (venc z)):kA P t k e venc z:=by
 refine⟨b,?_⟩;unfold vS at a
 split at a
 .rename_i i hi;exact⟨i,hi,a⟩
 .cases a
theorem Ej{α:Type}{enc:α->Value}:∀(xs:List α) (j:Nat),aT (xs.map enc) j=(aT xs j).map enc
 | [],_=>rfl
 | _::_,0=>rfl
 | _::r,j+1=>Ej r j
theorem aP.at{α:Type}{H:aD}{a:KQ}{enc:α->Value}{xs:List α}(h:aP H a (xs.map enc)){j:Nat}(b:j<xs.length) :
  a=Option.some ⟨aU a,aS a,none⟩/\aL H (aU a) (aS a+j)=Option.some (enc xs[j]):=h j _ (by rw[Ej,vI b];rfl)
theorem El(k:IntKind):∀(l:List Int),cT (l.map (Value.int k))=true
 | []=>rfl
 | a::r=>El k r
section
variable {H:aD}{L:List aE}
theorem aA.al{Q:Nat->aD->Prop}{cs:Os}{e:TypeId}(h:aA H L)(k:∀b a,aA a (cellsA b cs e::L)->Q b a):∀(b:Nat) (a:aD),b=H.size->a=H.push (.cells cs.toArray e)->Q b a:=by
 rintro b a rfl rfl;exact k _ _ (h.push _)
theorem aA.alm{κ α:Type}{Q:Nat->aD->Prop}(h:aA H L)(kenc:κ->Value)(venc:α->Value)(k:∀b a,aA a (mapA kenc venc b []::L)->Q b a):∀(b:Nat) (a:aD),b=H.size->a=H.push (.map #[] 0)->Q b a:=by
 rintro b a rfl rfl;exact k _ _ ((h.push _).mp_new kenc venc)
theorem aA.st{Q:aD->Prop}{b o e:Nat}{vs cs:Os}(h:aA H L)(i:Nat)(c:aW i L=cellsA b cs e)(d:Nat.ble (o+vs.length) cs.length=true)(k:∀a,aA a (put i (cellsA b (cv cs o vs) e) L)->Q a) :
  eU H b o vs/\∀a,a=fK H b o vs->Q a:=by
 refine⟨h.can i c o vs (Yg d),?_⟩;rintro a rfl;exact k _ (h.set i c o vs)
theorem N1{α:Type}:∀(l:List α) (o n f:Nat),f<n->aT ((l.drop o).take n) f=aT l (o+f):=by
 intro l o n f a;rw[fM,fM,List.getElem?_take_of_lt a,List.getElem?_drop]
theorem aA.rds{b o e:Nat}{vs cs:Os}(h:aA H L)(i:Nat)(d:aW i L=cellsA b cs e)(c:(cs.drop o).take vs.length=vs):bE H b o vs:=
 tu λf v a=>by
  rw[h.rd i d,<-N1 cs o vs.length f (od a),c];exact a
theorem Ra1{b o:Nat}{v:Value}(a:aL H b o=some v:=by first|exact h.rd 0 rfl _):aL H b o=some v:=a
theorem Rs1{b o:Nat}{vs:Os}(a:bE H b o vs:=by first|exact h.rds 0 rfl rfl):bE H b o vs:=a
theorem St1{Q:aD->Prop}{b o e i:Nat}{vs cs:Os}(h:aA H L)(k:∀a,aA a (put i (cellsA b (cv cs o vs) e) L)->Q a)(c:aW i L=cellsA b cs e:=by first|exact (rfl:aW 0 _=_))(hl:Nat.ble (o+vs.length) cs.length=true:=by rfl):eU H b o vs/\∀a,a=fK H b o vs->Q a:=h.st i c hl k
theorem Ra2{b o:Nat}{v:Value}(a:aL H b o=some v:=by first|exact h.rd 0 rfl _|exact h.rd 1 rfl _):aL H b o=some v:=a
theorem Rs2{b o:Nat}{vs:Os}(a:bE H b o vs:=by first|exact h.rds 0 rfl rfl|exact h.rds 1 rfl rfl):bE H b o vs:=a
theorem St2{Q:aD->Prop}{b o e i:Nat}{vs cs:Os}(h:aA H L)(k:∀a,aA a (put i (cellsA b (cv cs o vs) e) L)->Q a)(c:aW i L=cellsA b cs e:=by first|exact (rfl:aW 0 _=_)|exact (rfl:aW 1 _=_))(hl:Nat.ble (o+vs.length) cs.length=true:=by rfl):eU H b o vs/\∀a,a=fK H b o vs->Q a:=h.st i c hl k
theorem Ra3{b o:Nat}{v:Value}(a:aL H b o=some v:=by first|exact h.rd 0 rfl _|exact h.rd 1 rfl _|exact h.rd 2 rfl _):aL H b o=some v:=a
theorem Rs3{b o:Nat}{vs:Os}(a:bE H b o vs:=by first|exact h.rds 0 rfl rfl|exact h.rds 1 rfl rfl|exact h.rds 2 rfl rfl):bE H b o vs:=a
theorem St3{Q:aD->Prop}{b o e i:Nat}{vs cs:Os}(h:aA H L)(k:∀a,aA a (put i (cellsA b (cv cs o vs) e) L)->Q a)(c:aW i L=cellsA b cs e:=by first|exact (rfl:aW 0 _=_)|exact (rfl:aW 1 _=_)|exact (rfl:aW 2 _=_))(hl:Nat.ble (o+vs.length) cs.length=true:=by rfl):eU H b o vs/\∀a,a=fK H b o vs->Q a:=h.st i c hl k
theorem Ra4{b o:Nat}{v:Value}(a:aL H b o=some v:=by first|exact h.rd 0 rfl _|exact h.rd 1 rfl _|exact h.rd 2 rfl _|exact h.rd 3 rfl _):aL H b o=some v:=a
theorem St4{Q:aD->Prop}{b o e i:Nat}{vs cs:Os}(h:aA H L)(k:∀a,aA a (put i (cellsA b (cv cs o vs) e) L)->Q a)(c:aW i L=cellsA b cs e:=by first|exact (rfl:aW 0 _=_)|exact (rfl:aW 1 _=_)|exact (rfl:aW 2 _=_)|exact (rfl:aW 3 _=_))(hl:Nat.ble (o+vs.length) cs.length=true:=by rfl):eU H b o vs/\∀a,a=fK H b o vs->Q a:=h.st i c hl k
theorem aA.q{b o e:Nat}{vs cs:Os}(h:aA H L)(i:Nat)(a:aW i L=cellsA b cs e:=by rfl)(hv:(cs.drop o).take vs.length=vs:=by rfl):bE H b o vs:=h.rds i a hv
theorem aA.getO{b:Nat}{o:Obj}(h:aA H L)(i:Nat)(a:aW i L=pt b o):H[b]?=some o:=by
 have:=h.foc i;rw[a]at this;exact this.get
theorem aA.setO{b:Nat}{o:Obj}(h:aA H L)(i:Nat)(c:aW i L=pt b o)(a:Obj):aA (H.setIfInBounds b a) (put i (pt b a) L):=by
 have:=h.foc i;rw[c]at this;exact aA.back (qk this)
theorem aA.stl{Q:aD->Prop}{b:Nat}{R c:Loop}(h:aA H L)(i:Nat)(d:aW i L=pt b (.loop R))(k:∀a,aA a (put i (pt b (.loop c)) L)->Q a):∀a,a=gI H b c->Q a:=by
 rintro a rfl;exact k _ (h.setO i d _)
theorem aA.rng(h:aA H L)(R:Loop):aA ((H.push (.deferred (some []))).push (.loop R)) (pt (H.size+1) (.loop R)::pt H.size (.deferred (some []))::L):=by
 have:=(h.push (.deferred (some []))).push (.loop R)
 rwa[Array.size_push]at this
theorem Em{A:List aE}:aA H (star A::L)↔aA H (A++L):=by
 unfold aA;rw[tp];exact Iff.rfl
theorem aA.open{A:List aE}(h:aA H (star A::L)):aA H (A++L):=Em.1 h
theorem aA.shut(A:List aE)(h:aA H (A++L)):aA H (star A::L):=Em.2 h
theorem cK{α:Type}{A:α->aE}:aA H (exS A::L)↔∃x,aA H (A x::L):=sat_exs
theorem cZ{b o:Nat}{p:Prop}(h:p):NN (some ⟨b,o,none⟩) p:=h
end
section
variable {κ α:Type}{kenc:κ->Value}{venc:α->Value}{r:Nat}{m:List (κ×α)}{H:aD}{L:List aE}{P:Program}
variable [DecidableEq κ]{t k e:Nat}{z:α}(T:kA P t k e venc z)(KO:mj P k kenc)
include T KO
theorem aA.mp_get{x:κ}(h:aA H L)(i:Nat)(a:aW i L=mapA kenc venc r m) :
  di P (Instr.lookup t (.map (some r)) (kenc x) true) H (.tuple #[venc ((aJ x m).getD z),.bool (aJ x m).isSome]):=by
 have:=h.mp_look T KO i a (x:=x)
 cases hm:aJ x m with
 | none=>exact (this.2 hm).1
 | some v=>exact (this.1 v hm).1
theorem aA.mp_get1{x:κ}(h:aA H L)(i:Nat)(a:aW i L=mapA kenc venc r m) :
  di P (Instr.lookup t (.map (some r)) (kenc x) false) H (venc ((aJ x m).getD z)):=by
 have:=h.mp_look T KO i a (x:=x)
 cases hm:aJ x m with
 | none=>exact (this.2 hm).2
 | some v=>exact (this.1 v hm).2
end
theorem nD{R:Loop}(a:R.state=.ready)(b:R.pending=none):{ R with state:=.ready,pending:=none }=R:=by
 cases R;simp only at a b;subst a;subst b;rfl
theorem aA.old_rd{H H0:aD}{L:List aE}(h:aA H L)(i:Nat)(d:aW i L=old H0){a:KQ}{cs:Os}(c:aP H0 a cs):aP H a cs:=λj v b=>⟨(c j v b).1,h.cell0 i d (c j v b).2⟩
theorem aA.old_grow{H H0:aD}{L:List aE}(h:aA H L)(i:Nat)(a:aW i L=old H0):dB H0 H:=λb hb=>h.was i a hb
theorem aA.ce_rd{H:aD}{L:List aE}(h:aA H L)(i:Nat){b e:Nat}{cs:Os}(c:aW i L=cellsA b cs e):aP H (some ⟨b,0,none⟩) cs:=λj v a=>⟨rfl,by
 simp only[aU,aS,VL];rw[h.rd i c];exact a⟩
theorem sat0(H:aD):aA H [old H]:=by unfold aA star;exact (Nu H).eq (by rw[star,vF])
abbrev U8:=Value.int .u8
def KIn(Q:aE)(a:KQ)(cs:Os):Prop:=∀H F,aA H (Q::F)->aP H a cs
def aM(Q Q':aE):Prop:=∀H F,aA H (Q'::F)->∃F',aA H (Q::F')
def KG(H0:aD)(Q:aE):Prop:=∀H F,aA H (Q::F)->dB H0 H
theorem aM.refl(Q:aE):aM Q Q:=λH F h=>⟨F,h⟩
theorem aM.trans{Q Q' a:aE}(h:aM Q Q')(d:aM Q' a):aM Q a:=λH F hs=>by
 obtain⟨c,b⟩:=d H F hs;exact h H c b
theorem gy{H:aD}{A B:aE}{L:List aE}:aA H ((A*B)::L)↔aA H (A::B::L):=by
 unfold aA;simp only[star];rw[jv]
theorem aM.add(A Q:aE):aM Q (A*Q):=λH F h=>⟨A::F,(gy.1 h).ord [1,0] (by decide) |> λ_=>by
 have:=(gy.1 h).o [1,0] 2;exact this⟩
theorem KIn.sub{Q Q':aE}{a:KQ}{cs:Os}(h:KIn Q a cs)(hs:aM Q Q'):KIn Q' a cs:=λH F d=>by
 obtain⟨c,b⟩:=hs H F d;exact h H c b
theorem KG.sub{Q Q':aE}{H0:aD}(h:KG H0 Q)(hs:aM Q Q'):KG H0 Q':=λH F c=>by
 obtain⟨b,a⟩:=hs H F c;exact h H b a
theorem KG.old(H0:aD):KG H0 (old H0):=λH F h=>h.old_grow 0 rfl
theorem KIn.old{H0:aD}{a:KQ}{cs:Os}(h:aP H0 a cs):KIn (old H0) a cs:=λH F hs=>hs.old_rd 0 rfl h
theorem KIn.sl{Q:aE}{e sz n c:Nat}{a:KQ}{cs:Os}:KIn (slA e sz a n c cs*Q) a cs:=λH F h=>(gy.1 h).sl_rd 0 rfl
theorem KIn.nil(Q:aE)(a:KQ):KIn Q a []:=λH F h=>iv H a
theorem KIn.at{Q:aE}{a:KQ}{cs:Os}{H:aD}{L:List aE}(h:KIn Q a cs)(hs:aA H L)(i:Nat)(c:aW i L=Q):aP H a cs:=by
 have b:=hs.foc i;rw[c]at b;exact h H (del i L) b
theorem oh{H:aD}{cs:Os}(h:aP H none cs):cs=[]:=by
 cases cs with
 | nil=>rfl
 | cons v r=>have:=(h 0 v rfl).1;cases this
theorem nE{α:Type}{enc:α->Value}(b:∀x,cT [enc x]=true):∀l:List α,cT (l.map enc)=true
 | []=>rfl
 | a::r=>by
  have c:=b a;have d:=nE b r;have:cT (enc a::r.map enc)=cT ([enc a]++r.map enc):=rfl;rw[VS,this];exact vL c d
def kP{κ α:Type}(kenc:κ->Value)(venc:α->Value)(r mb:Nat)(m dn:List (κ×α)):aE:=λh=>
 ∃(es:Array MapEntry) (clock:Nat) (ml:List (κ×α)) (seen:Array Nat) (is:List Nat),
  ((aG m).Nodup/\ml.Perm m/\es.toList.map (λe:MapEntry=>(e.key,e.val))=ml.map (λp=>(kenc p.1,venc p.2))/\(es.toList.map (·.born)).Nodup/\(∀e∈es.toList,e.born<clock)/\
   is.Nodup/\dn.map some=is.map (λi=>ml[i]?)/\seen.toList.map some=is.map (λi=>(es.toList[i]?).map (·.born)))/\
  (pt r (.mapIter (some mb) clock seen clock)*pt mb (.map es clock)) h
section
variable {κ α:Type}{kenc:κ->Value}{venc:α->Value}{r mb:Nat}{m dn:List (κ×α)}{H:aD}{L:List aE}{P:Program}
theorem vT{F:aE}(h:aQ H (kP kenc venc r mb m dn*F)):∃(c:Array MapEntry) (a:Nat) (d:List (κ×α)) (b:Array Nat) (is:List Nat),
  ((aG m).Nodup/\d.Perm m/\c.toList.map (λe:MapEntry=>(e.key,e.val))=d.map (λp=>(kenc p.1,venc p.2))/\(c.toList.map (·.born)).Nodup/\(∀e∈c.toList,e.born<a)/\
   is.Nodup/\dn.map some=is.map (λi=>d[i]?)/\b.toList.map some=is.map (λi=>(c.toList[i]?).map (·.born)))/\
  aQ H ((pt r (.mapIter (some mb) a b a)*pt mb (.map c a))*F):=by
 obtain⟨g,k,x,y,hd,rfl,⟨c,a,d,b,is,f,n⟩,j⟩:=h;exact⟨c,a,d,b,is,f,_,k,x,y,hd,rfl,n,j⟩
theorem aA.rg_map(h:aA H L)(i:Nat)(e:aW i L=kP kenc venc r mb m dn):aA H (put i (mapA kenc venc mb m) L):=by
 have b:=h.foc i;rw[e]at b;obtain⟨f,a,j,d,is,⟨f1,f2,f3,f4,f5,_⟩,c⟩:=vT b;refine aA.back ?_;rw[jv]at c;exact c.drop'.frame λp k=>⟨f1,f,a,⟨j,f2,f3⟩,f4,f5,k⟩
theorem N2{w:World}(o:Obj):(newObj o).run P w=.ok w.heap.size (w.alloc o):=rfl
theorem aA.rg_new{t k e:Nat}{z:α}(T:kA P t k e venc z){K:KE}(h:aA H L)(i:Nat)(n:aW i L=mapA kenc venc mb m)
  (kk:∀r f,aA f (put i (kP kenc venc r mb m []) L)->K (.pointer (some ⟨r,0,none⟩)) f):cB P (Instr.range t (.map (some mb))) H K:=by
 refine .mk λw j=>?_
 subst j;have b:=h.foc i;rw[n]at b;obtain⟨s,u,a,⟨v,f2,f3⟩,f4,f5,c⟩:=mo b;refine⟨.pointer (some ⟨w.heap.size,0,none⟩),w.alloc (.mapIter (some mb) a #[] a),?_,⟨rfl,rfl,rfl⟩,kk _ _ ?_⟩
 .simp [Instr.range,run_underlying T.und,Go.MapKept.run_getObj_map c.get,N2]
 .refine aA.back ?_;have d:=c.push (.mapIter (some mb) a #[] a);rw[<-jv]at d;exact d.frame λp x=>⟨u,a,v,#[],[],⟨s,f2,f3,f4,f5,List.nodup_nil,rfl,rfl⟩,x⟩
theorem aA.rg_next{ty:Nat}{K:KE}(h:aA H L)(i:Nat)(hA:aW i L=kP kenc venc r mb m dn)
  (k0:dn.Perm m->K (.tuple #[.bool false]) H)
  (k1:∀p,p∈m->p.1∉aG dn->∀H',aA H' (put i (kP kenc venc r mb m (dn++[p])) L)->K (.tuple #[.bool true,kenc p.1,venc p.2]) H') :
  cB P (Instr.next (.pointer (some ⟨r,0,none⟩)) false ty) H K:=by
 refine .mk λw hw=>?_
 subst hw;have F:=h.foc i;rw[hA]at F;obtain⟨k,c,f,d,is,⟨f1,f2,f3,f4,f5,f6,f7,f8⟩,T⟩:=vT F;rw[jv]at T;have h7:k.toList.length=f.length:=by have:=congrArg List.length f3;simpa using this
 have Y:∀(i j:Nat) (a b:MapEntry),k.toList[i]?=some a->k.toList[j]?=some b->a.born=b.born->i=j:=by
  intro i j a b Q hb D;have C:(k.toList.map (·.born))[i]?=some a.born:=by simp[List.getElem?_map,Q]
  have F:(k.toList.map (·.born))[j]?=some a.born:=by simp[List.getElem?_map,hb,D]
  have hi:i<(k.toList.map (·.born)).length:=by
   rcases VO i (k.toList.map (·.born)).length with h|h
   .exact h
   .rw [List.getElem?_eq_none h]at C;cases C
  exact (List.getElem?_inj hi f4).1 (C.trans F.symm)
 have t:∀b,b∈d.toList↔∃i∈is,∃a,k.toList[i]?=some a/\a.born=b:=by
  intro b;have:b∈d.toList↔some b∈d.toList.map some:=by simp
  rw[this,f8,V3]
  constructor
  .rintro⟨i,hi,h⟩
   cases v:k.toList[i]? with
   | none=>rw[v]at h;cases h
   | some a=>rw[v]at h;simp at h;exact⟨i,hi,a,v,h⟩
  .rintro⟨i,hi,a,v,h⟩;exact⟨i,hi,by rw[v];simp[h]⟩
 rcases run_next_at (P:=P) w ty r mb c c d k c T.get T.drop'.get f5 (V2 _) with ⟨h0,u⟩|⟨e,v,w1,M,u⟩
 .refine⟨_,_,u,bV.refl _,k0 ?_⟩;have O:∀e∈k.toList,e.born∈d.toList:=by
   intro e v;have Z:leftOf k d=#[]:=Array.eq_empty_of_size_eq_zero h0;unfold leftOf at Z;rw[Array.filter_eq_empty_iff]at Z;have:=Z e (by simpa using v);simpa using this
  have W:is.Perm (List.range f.length):=by
   refine (List.perm_ext_iff_of_nodup f6 List.nodup_range).2 λi=>?_
   rw[W2]
   constructor
   .intro hi
    rcases VO i f.length with h|h
    .exact h
    .exfalso;have C:(none:Option (κ×α))∈dn.map some:=by rw[f7];exact V3.2 ⟨i,hi,by rw[List.getElem?_eq_none h]⟩
     simp at C
   .intro hi;have I:i<k.toList.length:=by omega
    obtain⟨j,y,a,Q,D⟩:=(t _).1 (O k.toList[i] (V7 I));have:=Y j i a k.toList[i] Q (List.getElem?_eq_getElem I) D;rw[<-this];exact y
  have S:(dn.map some).Perm (f.map some):=by
   rw[f7];refine (W.map _).trans ?_;have:(List.range f.length).map (λi=>f[i]?)=f.map some:=by
    apply WI;intro j;simp only[List.getElem?_map]
    by_cases y:j<f.length
    .rw [List.getElem?_range y,List.getElem?_eq_getElem y];simp
    .rw [List.getElem?_eq_none (by simpa using y),List.getElem?_eq_none (by omega)];rfl
   rw[this]
  have h6:=S.filterMap id;simp only[List.filterMap_map,Function.comp_def,id]at h6;rw[List.filterMap_some,List.filterMap_some]at h6;exact h6.trans f2
 .unfold leftOf at v;have J:e∈k.toList/\e.born∉d.toList:=by simpa using v
  obtain⟨s,A,E⟩:=List.mem_iff_getElem.1 J.1;have x:s<f.length:=by omega
  have N:(e.key,e.val)=(kenc f[s].1,venc f[s].2):=by
   have:=congrArg (λl=>l[s]?) f3
   simp only[List.getElem?_map,List.getElem?_eq_getElem A,List.getElem?_eq_getElem x,VX,E]at this;exact Option.some.inj this
  have G:s∉is:=λhi=>J.2 ((t _).2 ⟨s,hi,e,by rw[List.getElem?_eq_getElem A,E],rfl⟩)
  have V:(aG f).Nodup:=(f2.map Prod.fst).nodup_iff.2 f1;refine⟨_,_,u,?_,?_⟩
  .rcases M with rfl|rfl <;> exact⟨rfl,rfl,rfl⟩
  .have e1:e.key=kenc f[s].1:=congrArg Prod.fst N;have e2:e.val=venc f[s].2:=congrArg Prod.snd N;rw[e1,e2];refine k1 f[s] (f2.mem_iff.1 (V7 x)) (λR=>?_) _ (aA.back ?_)
   .obtain⟨q,hq,U⟩:=V3.1 R;have:some q∈dn.map some:=V3.2 ⟨q,hq,rfl⟩;rw[f7]at this;obtain⟨j,y,n⟩:=V3.1 this;have B:j<f.length:=by
     rcases VO j f.length with h|h
     .exact h
     .rw [List.getElem?_eq_none h]at n;cases n
    rw[List.getElem?_eq_getElem B]at n;have n:=Option.some.inj n;have:j=s:=by
     have C:(aG f)[j]?=some q.1:=by simp[aG,List.getElem?_eq_getElem B,n]
     have F:(aG f)[s]?=some q.1:=by simp[aG,List.getElem?_eq_getElem x,U]
     exact (List.getElem?_inj (by simpa[aG] using B) V).1 (C.trans F.symm)
    exact G (this▸y)
   .have h4:aQ (w.heap.setIfInBounds r (.mapIter (some mb) c (d.push e.born) c)) (pt r (.mapIter (some mb) c (d.push e.born) c)*(pt mb (.map k c)*star (del i L))):=qk T;have S:aQ (Go.ChangeMaps.setBlock w1 r (.mapIter (some mb) c (d.push e.born) c)).heap (pt r (.mapIter (some mb) c (d.push e.born) c)*(pt mb (.map k c)*star (del i L))):=by
     rcases M with rfl|rfl <;> exact h4
    rw[<-jv]at S;refine S.frame λp W=>⟨k,c,f,d.push e.born,is++[s],⟨f1,f2,f3,f4,f5,?_,?_,?_⟩,W⟩
    .exact List.nodup_append.2 ⟨f6,by simp,λa Q b hb=>by simp at hb;subst hb;exact λe=>G (e▸Q)⟩
    .rw [VJ,f7,VJ];simp[List.getElem?_eq_getElem x]
    .rw [Array.toList_push,VJ,f8,VJ];simp only[VS,WZ,List.getElem?_eq_getElem A,E,VX]
theorem aA.rg_entry{p:κ×α}(h:aA H L)(i:Nat)(C:aW i L=kP kenc venc r mb m (dn++[p])):di P (Instr.entry (.pointer (some ⟨r,0,none⟩))) H (.tuple #[kenc p.1,venc p.2]):=by
 intro w A;subst A;have x:=h.foc i;rw[C]at x;obtain⟨d,a,u,e,is,⟨f1,f2,f3,f4,f5,f6,f7,f8⟩,s⟩:=vT x;rw[jv]at s;have k:=congrArg List.length f7;have j:=congrArg List.length f8;simp only[V8,Vv,Wi]at k j
 rcases Y1 is with v|⟨B,c,rfl⟩
 .subst v;simp at k
 rw[Y2]at *;rw[VJ,VJ]at f7;have e7:=(List.append_inj' f7 (by simp)).2;simp only[VS,WZ,List.cons.injEq,and_true]at e7;have D:c<u.length:=by
  rcases VO c u.length with h|h
  .exact h
  .rw [List.getElem?_eq_none h]at e7;cases e7
 have y:d.toList.length=u.length:=by have:=congrArg List.length f3;simpa using this
 have f:c<d.toList.length:=by omega
 rcases Y1 e.toList with v|⟨s0,b,hs⟩
 .rw [v]at j;simp at j
 rw[Y2]at hs;rw[hs,VJ,VJ]at f8;have e8:=(List.append_inj' f8 (by simp)).2;simp only[VS,WZ,List.cons.injEq,and_true,List.getElem?_eq_getElem f,VX,Option.some.injEq]at e8;have t:e=(⟨s0⟩:Array Nat).push d.toList[c].born:=by apply Array.ext';rw[hs,e8];simp
 have n:(d.toList[c].key,d.toList[c].val)=(kenc p.1,venc p.2):=by
  have:=congrArg (λl=>l[c]?) f3
  simp only[List.getElem?_map,List.getElem?_eq_getElem f,<-e7,VX]at this;exact Option.some.inj this
 have e1:d.toList[c].key=kenc p.1:=congrArg Prod.fst n;have e2:d.toList[c].val=venc p.2:=congrArg Prod.snd n;rw[t]at s;have:=run_entry_at (P:=P) w r mb a ⟨s0⟩ d a d.toList[c] s.get s.drop'.get (V7 f) f4;rw[e1,e2]at this;exact this
end
def oP(H:aD)(r:Nat):Nat:=match H[r]? with|some (.mapIter _ _ seen _)=>seen.size|_=>0
theorem aA.rg_count{κ α:Type}{kenc:κ->Value}{venc:α->Value}{r mb:Nat}{m dn:List (κ×α)}{H:aD}{L:List aE}(h:aA H L)(i:Nat)(n:aW i L=kP kenc venc r mb m dn):oP H r=dn.length/\dn.length<=m.length:=by
 have e:=h.foc i;rw[n]at e;obtain⟨t,d,k,j,is,⟨f1,f2,f3,f4,f5,f6,f7,f8⟩,f⟩:=vT e;rw[jv]at f;have a:=congrArg List.length f7;have c:=congrArg List.length f8;simp only[V8]at a c;refine⟨?_,?_⟩
 .unfold oP;rw[f.get];simp only;rw[<-Wy,c,a]
 .rw [a,<-f2.length_eq];have b:is ⊆ List.range k.length:=by
   intro i hi;rw[W2]
   rcases VO i k.length with h|h
   .exact h
   .exfalso;have s:(none:Option (κ×α))∈dn.map some:=by rw[f7];exact V3.2 ⟨i,hi,by rw[List.getElem?_eq_none h]⟩
    simp at s
  have:=f6.length_le_of_subset b;simpa using this
def fi(s:Fa):List Int:=s.data.toList.map λb=>(b.toNat:Int)
theorem tC(s:Fa):(fi s).length=s.size:=by
 rw[fi,V8,Wy];rfl
theorem N3(s:Fa):∀x∈fi s,0<=x/\x<256:=by
 intro x a;simp only[fi,V3]at a;obtain⟨b,_,rfl⟩:=a;have:=b.toNat_lt;omega
section
variable {H:aD}{F:aE}{e sz n c:Nat}{a:KQ}{cs:Os}
theorem Eo{P:Program}(s:Fa)(size:Nat)(w:World):(Builtin.firstCells size s.size (.string s)).run P w=.ok (((fi s).map U8).toArray) w:=by
 have a:s.extract 0 s.size=s:=by simp
 have c:s.data.map (λb=>Value.int .u8 b.toNat)=((fi s).map U8).toArray:=by
  apply Array.ext';rw[Array.toList_map,List.toList_toArray,fi,Wh];rfl
 simp only[Builtin.firstCells,a,c];rfl
theorem N4{P:Program}{t ts bytes ty:Nat}(T:SlT P t e 1 bytes)(A:P.underlying ts=some .string){s:Fa}{K:KE}(h:aQ H (slA e 1 a n c cs*F))
  (hb:(n+s.size)*bytes<=140737488355328) (hn:n+s.size<=140737488355328)
  (k:∀a' Y H',aQ H' (slA e 1 a' (n+s.size) Y (cs++(fi s).map U8)*F)->K (.slice a' (n+s.size) Y) H') :
  cB P (Builtin.append_ #[t,ts] ty #[.slice a n c,.string s]) H K:=by
 obtain⟨S,h1,i,z,hi,hz,v,rfl,x⟩:=T;refine .mk λw R=>?_
 subst R;obtain⟨d,C⟩:=kz h;have Q:((fi s).map U8).length=s.size:=by rw[V8,tC]
 have I:cT ((fi s).map U8)=true:=nE (λ_=>rfl) _
 have O:¬(9223372036854775807<(n:Int)+(s.size:Int)):=by omega
 have y:=Eo (P:=P) s i.size w;have L:=Eo (P:=P) s i.size w.drew;have D:=tr (P:=P) (w:=w.drew) (a2:=a) (m:=n) (c2:=c) (yB h) d;generalize hws:(fi s).map U8=ws at *;rw[<-v]at d C x D
 by_cases hroom:n+s.size<=c
 .rcases C with ⟨C,W,E,B⟩|⟨b,pre,post,e',fr,C,W,E,N,B⟩
  .subst C;subst W;subst E;have h0:s.size=0:=by omega
   obtain rfl:ws=[]:=W9 (by omega);obtain rfl:cs=[]:=W9 (by simpa using d);refine⟨.slice none (0+s.size) 0,w,?_,bV.refl w,k _ _ _ ?_⟩
   .rw [h0]at y;simp[Builtin.append_,run_underlying S,run_underlying A,sizeOf,typeInfo,hi,Builtin.lenOf,h0,y]
   .rw [h0];exact ry B
  .subst C;have f:i.size=1:=v.symm▸rfl;have G:ws.length<=post.length:=by
    rw[f]at E;omega
   have u:eU w.heap b (pre.length+n*i.size) ws:=B.canG ws _ (by rw[f]at d ⊢;simp[d];rw[f]at E;omega) λj J V=>N j (by omega) (by rw[f]at V ⊢;omega)
   obtain⟨w',J,V,h8⟩:=qU (P:=P) (b:=b) ws (pre.length+n*i.size) 0 w (by simpa using u) (by simpa using qV _ _ u) I;refine⟨.slice (some ⟨b,pre.length,none⟩) (n+s.size) c,w',?_,V,k _ _ _ ?_⟩
   .simp [Builtin.append_,run_underlying S,run_underlying A,sizeOf,typeInfo,hi,Builtin.lenOf,hroom,y,iP,J]
   .rw [h8];have Z:=aQ.setsG ws (pre.length+n*i.size) B;have e1:pre.length+n*i.size=(pre++cs).length:=by simp[d]
    rw[e1,rz _ _ _ G]at Z;rw[W8,e1];rw[f]at d E;refine Z.frame λp I=>⟨by simp[d,Q],.inr ⟨b,pre,post.drop ws.length,e',fr,rfl,hroom,?_,λh=>by rw[f]at N;exact N,by simpa using I⟩⟩
    rw[VH,Q];omega
 .have U:¬(281474976710656<Builtin.nextslicecap (n+s.size) c*i.bytes):=by
   have:=growslice_fits (need:=n+s.size) (old:=c) (bytes:=i.bytes) (by omega) hb;omega
  refine⟨.slice (some ⟨w.heap.size,0,none⟩) (n+s.size) (grownCap w (n+s.size) c e),w.drew.alloc (.cells (cs.toArray++ws.toArray++Builtin.zeroCells z.cells (grownCap w (n+s.size) c e-(n+s.size))) e),?_,⟨rfl,rfl,rfl⟩,k _ _ _ ?_⟩
  .simp [Builtin.append_,run_underlying S,run_underlying A,sizeOf,typeInfo,zeroValue,hi,hz,Builtin.lenOf,hroom,O,U,Question.forced,D,L,newRow,grownCap];congr 2;apply Array.ext';simp[V5]
  .have B:aQ w.heap F:=h.drop';have J:=B.push (.cells (cs.toArray++ws.toArray++Builtin.zeroCells z.cells (grownCap w (n+s.size) c e-(n+s.size))) e);have M:=grownCap_ge w (n+s.size) c e;have f:i.size=1:=v.symm▸rfl;rw[f]at d x;refine J.frame λp I=>⟨by simp[d,Q],.inr ⟨w.heap.size,[],(Builtin.zeroCells z.cells (grownCap w (n+s.size) c e-(n+s.size))).toList,e,(0,0),rfl,M,?_,λ_ i _ _ hh=>by simp at hh,?_⟩⟩
   .rw [Wy,size_zeroCells,x];exact V2 _
   .have e2:(([]:Os)++(cs++ws)++(Builtin.zeroCells z.cells (grownCap w (n+s.size) c e-(n+s.size))).toList).toArray=cs.toArray++ws.toArray++Builtin.zeroCells z.cells (grownCap w (n+s.size) c e-(n+s.size)):=by
     apply Array.ext';simp
    rw[e2];exact I
end
theorem aA.appendS{P:Program}{t ts bytes ty e n c:Nat}{a:KQ}{cs:Os}{H:aD}{L:List aE}(T:SlT P t e 1 bytes)(j:P.underlying ts=some .string){s:Fa}{K:KE}(h:aA H L)(i:Nat)(u:aW i L=slA e 1 a n c cs)
  (hb:(n+s.size)*bytes<=140737488355328) (w:n+s.size<=140737488355328)
  (k:∀b d f,aA f (put i (slA e 1 b (n+s.size) d (cs++(fi s).map U8)) L)->K (.slice b (n+s.size) d) f) :
  cB P (Builtin.append_ #[t,ts] ty #[.slice a n c,.string s]) H K:=by
 have m:=h.foc i;rw[u]at m;exact N4 T j m hb w λb d f v=>k b d f (aA.back v)
end Go.Proofs.YtaaieblnikcndaaGreatDoor
