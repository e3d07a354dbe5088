/-
  Lemmas for GateAnew: part 10 of what it rests on. Conditions: none.
-/
import Derived.Test.YtaaieblnikcndaaGreatDoorGN9
set_option linter.unusedVariables false
set_option linter.unusedSimpArgs false
set_option maxRecDepth 100000
set_option maxHeartbeats 16000000
open Go.IntKind (i64 u64 i8 u8 i32 u32 i16 u16)
namespace Go.Proofs.YtaaieblnikcndaaGreatDoor
open Go
structure I3 where
 a:Int
 e:Int
 n:Int
deriving DecidableEq
structure I2 where
 a:Int
 e:Int
deriving DecidableEq
structure VG where
 v:List (I3×Int)
 g:List (I2×Int)
def VG.vv(x:VG)(k:I3):Int:=(aJ k x.v).getD 0
def VG.gg(x:VG)(k:I2):Int:=(aJ k x.g).getD 0
def ackOk(x:VG)(a e next:Int):Prop:=∀n:Int,0<=n->n<next->n<10000->x.vv ⟨a,e,n⟩=1
inductive OneE:VG->bI->VG->Prop
 | grant {x e}:e.kind=1->OneE x e { x with g:=mset ⟨e.agent,e.epoch⟩ (x.gg ⟨e.agent,e.epoch⟩+1) x.g }
 | verdict {x e}:e.kind=3->x.vv ⟨e.ida,e.ide,e.seq⟩=0->1<=x.gg ⟨e.ida,e.ide⟩->OneE x e { x with v:=mset ⟨e.ida,e.ide,e.seq⟩ 1 x.v }
 | ack {x e}:e.kind=2->ackOk x e.agent e.epoch e.next->OneE x e x
 | emit {x e}:e.kind=4->OneE x e x
inductive fU:VG->List bI->VG->Prop
 | nil {x}:fU x [] x
 | snoc {x l y e z}:fU x l y->OneE y e z->fU x (l++[e]) z
theorem fU.append{x y z:VG}{a b:List bI}(h:fU x a y)(c:fU y b z):fU x (a++b) z:=by
 induction c with
 | nil=>rw[Wc];exact h
 | snoc h3 h4 ih=>rw[<-VI];exact ih.snoc h4
theorem qS{x:VG}{k a:I3}{v:Int}:({ x with v:=mset k v x.v }:VG).vv a=if a=k then v else x.vv a:=by
 grind [VG.vv,lD]
theorem xQ{x:VG}{k a:I2}{v:Int}:({ x with g:=mset k v x.g }:VG).gg a=if a=k then v else x.gg a:=by
 grind [VG.gg,lD]
structure lX(s:aI)(x:VG)(B:Int):Prop where
 cur:∀a st,dP s a=some st->∀n,x.vv ⟨a,(bg s.rows a).epoch,n⟩=if 0<=n/\n<st.hs.next then 1 else 0
 gr:∀a,0<(bg s.rows a).epoch->1<=x.gg ⟨a,(bg s.rows a).epoch⟩
 new:∀a e n,(bg s.rows a).epoch<e->x.vv ⟨a,e,n⟩=0
 b:∀k,0<=x.gg k/\x.gg k<=B
theorem Mw{c:bD}{now a ep first:Int}{evs:List Pv}{j:JS}{x:VG}(h:∀n,x.vv ⟨a,ep,n⟩=if 0<=n/\n<first then 1 else 0)(s:0<=first)(i:1<=x.gg ⟨a,ep⟩):∀n,∃y,fU x (dh c now a ep first evs j n).2 y/\
  y.g=x.g/\(∀m,y.vv ⟨a,ep,m⟩=if 0<=m/\m<first+n then 1 else 0)/\∀k,¬(k.a=a/\k.e=ep)->y.vv k=x.vv k
 | 0=>⟨x,.nil,rfl,by grind,λ_ _=>rfl⟩
 | n+1=>by
  obtain⟨y,d,t,u,f⟩:=Mw (c:=c) (now:=now) (evs:=evs) (j:=j) h s i n;refine⟨_,.snoc d (.verdict rfl ?_ ?_),t,λm=>?_,λk b=>?_⟩
  .show y.vv ⟨a,ep,first+n⟩=0
   grind
  .show 1<=y.gg ⟨a,ep⟩
   grind [VG.gg]
  .rw [qS];show (if (⟨a,ep,m⟩:I3)=⟨a,ep,first+n⟩ then (1:Int) else y.vv ⟨a,ep,m⟩)=_
   grind
  .rw [qS,V0,f k b];intro e;exact b (by rw[e];exact⟨rfl,rfl⟩)
theorem Mx{a ep:Int}{x:VG}(d:1<=x.gg ⟨a,ep⟩):∀{ks:List Int},ks.Nodup->(∀n∈ks,x.vv ⟨a,ep,n⟩=0)->∃y,fU x (ks.reverse.map (pD a ep)).reverse.reverse y/\
  y.g=x.g/\(∀n,n∉ks->y.vv ⟨a,ep,n⟩=x.vv ⟨a,ep,n⟩)/\∀k,¬(k.a=a/\k.e=ep)->y.vv k=x.vv k
 | [],_,_=>⟨x,.nil,rfl,λ_ _=>rfl,λ_ _=>rfl⟩
 | n::r,hn,h=>by
  rw[WQ]at hn;obtain⟨y,c,f,j,i⟩:=Mx d hn.2 λm hm=>h m (VL _ hm)
  rw[List.reverse_reverse]at c ⊢;rw[List.reverse_cons,VT];refine⟨_,.snoc c (.verdict rfl ?_ ?_),f,λm hm=>?_,λk b=>?_⟩
  .show y.vv ⟨a,ep,n⟩=0
   grind
  .show 1<=y.gg ⟨a,ep⟩
   grind [VG.gg]
  .simp only[VJ,not_or]at hm;rw[qS,V0 (by show ¬(⟨a,ep,m⟩:I3)=⟨a,ep,n⟩;simp[hm.1]),j m hm.2]
  .rw [qS,V0,i k b];intro e;exact b (by rw[e];exact⟨rfl,rfl⟩)
theorem Vh{a ep:Int}{x:VG}(c:1<=x.gg ⟨a,ep⟩){ks:List Int}(b:ks.Nodup)(h:∀n∈ks,x.vv ⟨a,ep,n⟩=0):∃y,fU x (ks.map (pD a ep)) y/\
  y.g=x.g/\∀k,¬(k.a=a/\k.e=ep)->y.vv k=x.vv k:=by
 obtain⟨y,f,d,j,i⟩:=Mx (ks:=ks.reverse) c (List.pairwise_reverse.2 (b.imp λh=>h.symm)) λn hm=>h n (List.mem_reverse.1 hm)
 grind
theorem lX.same{s d:aI}{x:VG}{B:Int}(I:lX s x B)(f:d.rows=s.rows)(hs:∀a c,dP d a=some c->∃st,dP s a=some st/\st.hs.next=c.hs.next):lX d x (B+1) where
 cur a c h:=by
  obtain⟨st,j,i⟩:=hs a c h;rw[f,<-i];exact I.cur a st j
 gr a h:=by rw[f]at h ⊢;exact I.gr a h
 new a e n h:=by rw[f]at h;exact I.new a e n h
 b k:=by have:=I.b k;omega
theorem BM{s:aI}{k:Nat}{st:br}{now:Int}{ms:MS}{cm:CM}(b:k<s.sts.length)(a:Int) :
  dP { s with now:=now,ms:=ms,cm:=cm,sts:=s.sts.set k (some st) } a=if a=(k:Int) then some st else dP s a:=by
 unfold dP
 grind
theorem lX.setStr{s:aI}{x:VG}{B:Int}(I:lX s x B){k:Nat}{st b:br}{now:Int}{ms:MS}{cm:CM}(i:s.sts[k]?=some (some st))(h:b.hs.next=st.hs.next) :
  lX { s with now:=now,ms:=ms,cm:=cm,sts:=s.sts.set k (some b) } x (B+1):=by
 have c:k<s.sts.length:=(List.getElem?_eq_some_iff.1 i).1;refine I.same rfl λa f d=>?_
 rw[BM c]at d
 split at d
 .rename_i e
  cases d
  refine⟨st,?_,h.symm⟩;unfold dP
  grind
 grind
theorem Vi{s:aI}{r:Rp}{x:VG}{B:Int}(ok:cR s)(I:lX s x B):∃y,fU x (ee s r) y/\lX (fS s r) y (B+1):=by
 unfold ee fS;have d:∀S:aI,S.rows=s.rows->S.sts=s.sts->lX S x (B+1):=λS v J=>I.same v λa V h=>⟨V,by grind [dP],rfl⟩
 refine oG (P:=λq=>∃y,fU x q.2.1 y/\lX q.1 y (B+1)) (λ_=>⟨x,.nil,d s rfl rfl⟩) (λ_ _=>⟨x,.nil,d s rfl rfl⟩) (λ_ _ _=>⟨x,.nil,d _ rfl rfl⟩) (λC m w=>?_) (λC m w=>?_) (λC m w=>?_) (λC m w=>?_) (λ_ _ _=>?_) λC m w=>?_
 .
  have t:=iF C;have hg:=xv (most:=s.cfg.agents) ok.rows r.ag r.bt r.nw;unfold fC
  split
  .exact⟨x,.nil,d s rfl rfl⟩
  rename_i U;have U:=Decidable.not_not.1 U
  split
  .rename_i m
   rcases hg with ⟨-,g2,g3,g4,g5⟩|⟨g1,_⟩
   .have E:r.ag.toNat<s.sts.length:=by rw[ok.len];have:=t.ag;omega
    have L:r.ag.toNat<s.rows.length:=by rw[ok.rows.len];have:=t.ag;omega
    have D:((r.ag.toNat:Nat):Int)=r.ag:=by have:=t.ag;omega
    generalize hG:(grant s.cfg.agents s.rows r.ag r.bt r.nw)=G at *;have first:∃y,fU x (jp s r.ag) y/\y.g=x.g/\∀k,¬(k.a=r.ag/\k.e=(bg s.rows r.ag).epoch)->y.vv k=x.vv k:=by
     unfold jp
     cases hs:dP s r.ag with
     | none=>exact⟨x,.nil,rfl,λ_ _=>rfl⟩
     | some st=>
      have f:=(K7 hs).2;have i:=ok.sts st (Wg f);have N:=(ok.reg r.ag.toNat).1 ⟨st,f⟩;have R:0<(bg s.rows r.ag).epoch:=by
       obtain⟨e,v,J⟩:=N;unfold bg
       grind
      refine Vh (I.gr _ R) (EC i.hs.rows.rising) λn hm=>?_
      rw[I.cur _ _ hs,V0];obtain⟨p,Z,rfl⟩:=VB.1 hm;have:=(i.hs.rows.inb p Z).1;omega
    obtain⟨y,v,J,M⟩:=first;refine⟨_,v.snoc (.grant rfl),?_⟩;have u:∀a,bg G.1 a=if a=r.ag then G.2.1 else bg s.rows a:=by
     intro a;rw[g2]
     by_cases e:a=r.ag
     .rw [V1 e,e,B8 t.ag.1 L]
     .rw [V0 e];unfold bg
      grind
    refine⟨λa st h n=>?_,λa h=>?_,λa e n h=>?_,λk=>?_⟩
    .dsimp only at h ⊢;rw[u];have Q:dP { s with now:=s.now,ms:=s.ms,cm:=s.cm,sts:=s.sts.set r.ag.toNat (some (lU s.cfg)) } a=some st:=h;rw[BM E,D]at Q
     by_cases e:a=r.ag
     .rw [V1 e]at Q ⊢
      cases Q
      show y.vv _=_;rw[M _ (by grind),e,I.new _ _ _ (by omega),V0 (by show ¬(0<=n/\n<0);omega)]
     .rw [V0 e]at Q ⊢;show y.vv _=_;rw[M _ (by grind)];exact I.cur a st Q n
    .dsimp only at h ⊢;rw[xQ];rw[u]at h ⊢
     by_cases e:a=r.ag
     .rw [V1 e,V1 (by rw[e])];have:0<=y.gg ⟨r.ag,G.2.1.epoch⟩:=by unfold VG.gg;rw[J];exact (I.b _).1
      omega
     .rw [V0 e]at h ⊢;rw[V0 (by grind)];unfold VG.gg;rw[J];exact I.gr a h
    .dsimp only at h ⊢;rw[u]at h;show y.vv _=_
     by_cases T:a=r.ag
     .rw [V1 T]at h;rw[M _ (by grind),T];exact I.new _ _ _ (by omega)
     .rw [V0 T]at h;rw[M _ (by grind)];exact I.new _ _ _ h
    .rw [xQ];have hb:∀k,y.gg k=x.gg k:=λk=>by grind [VG.gg]
     rw[hb,hb];have h5:=I.b k
     grind
   grind
  .rename_i m
   rcases hg with ⟨g1,_⟩|⟨-,g2,g3⟩
   .grind
   .obtain⟨g4,g5⟩:=g3 U;rw[g2];refine⟨_,fU.snoc (l:=[]) .nil (.grant rfl),?_⟩;refine⟨λa st h n=>I.cur a st h n,λa h=>?_,λa e n h=>I.new a e n h,λk=>?_⟩
    .rw [xQ];have h6:=I.gr a h
     grind
    .rw [xQ];have h5:=I.b k
     grind
 .have t:=iF C;obtain⟨st,f⟩:=lg ok t m (.inl w);unfold mS;rw[f];exact⟨x,.nil,I.setStr f rfl⟩
 .
  have t:=iF C;obtain⟨st,f⟩:=lg ok t m (.inr (.inl w));have i:=ok.sts st (Wg f);have D:((r.ag.toNat:Nat):Int)=r.ag:=by have:=t.ag;omega
  have E:r.ag.toNat<s.sts.length:=(List.getElem?_eq_some_iff.1 f).1;have W:dP s r.ag=some st:=by unfold dP;grind
  have F:(bg s.rows r.ag).epoch=r.ep/\0<(bg s.rows r.ag).epoch:=by
   unfold fB at m;rw[nO,nO]at m;unfold sG at m
   split at m
   .simp at m
   .rename_i hh;have T:=t.ep.1 (.inr (.inl w));have:isE s r.ag r.ep=true:=by
     grind
    unfold isE at this
    grind
  unfold gE;rw[f];dsimp only;have H:(st.hs.offer r.nx r.evs).1.next=st.hs.next+((st.hs.offer r.nx r.evs).2.1.length:Nat)/\0<=st.hs.next:=by
   refine⟨?_,i.hs.next0⟩;unfold HS.offer
   split
   .simp
   .have v:=yP (vs:=r.evs) (n:=r.nx) (s:=(st.hs.rows,0)) (i.hs.rows.weaken (lo':=st.hs.next) (by omega) (Wd _));exact (vV v.rising λp Z=>(v.inb p Z).1).2.1
  have hj:(kH s r st).1.st.hs=(st.hs.offer r.nx r.evs).1:=by
   unfold kH;generalize (st.hs.offer r.nx r.evs)=O;have:∀n,(dh s.cfg r.nw r.ag r.ep st.hs.next O.2.1 ⟨{ st with hs:=O.1 },s.ms,s.cm⟩ n).1.st.hs=O.1:=by
    intro n
    induction n with
    | zero=>rfl
    | succ n ih=>exact (xr s.cfg r.nw r.ag (dh s.cfg r.nw r.ag r.ep st.hs.next O.2.1 ⟨{ st with hs:=O.1 },s.ms,s.cm⟩ n).1.st (dh s.cfg r.nw r.ag r.ep st.hs.next O.2.1 ⟨{ st with hs:=O.1 },s.ms,s.cm⟩ n).1.ms (dh s.cfg r.nw r.ag r.ep st.hs.next O.2.1 ⟨{ st with hs:=O.1 },s.ms,s.cm⟩ n).1.cm (O.2.1.getD n Pv.z)).2.1.trans ih
   grind
  have A:=I.cur _ _ W
  rw[F.1]at A;have K:=I.gr _ F.2;rw[F.1]at K;obtain⟨y,v,J,M,h4⟩:=Mw (c:=s.cfg) (now:=r.nw) (evs:=(st.hs.offer r.nx r.evs).2.1) (j:=⟨{ st with hs:=(st.hs.offer r.nx r.evs).1 },s.ms,s.cm⟩) A H.2 K (st.hs.offer r.nx r.evs).2.1.length;refine⟨y,v.snoc (.ack rfl ?_),?_⟩
  .intro n n0 n1 n2
   grind
  .refine⟨λa Y h n=>?_,λa h=>?_,λa e n h=>?_,λk=>?_⟩
   .rw [BM E,D]at h;dsimp only
    by_cases e:a=r.ag
    .grind
    .rw [V0 e]at h;rw[h4 _ (by grind)];exact I.cur a Y h n
   .unfold VG.gg;rw[J];exact I.gr a h
   .dsimp only at h;rw[h4 _ (by
     grind)]
    exact I.new a e n h
   .have:=I.b k
    grind [VG.gg]
 .have t:=iF C;obtain⟨st,f⟩:=lg ok t m (.inr (.inr w));unfold lT;rw[f];dsimp only
  split
  .exact⟨x,.nil,d _ rfl rfl⟩
  split
  .exact⟨x,.nil,d _ rfl rfl⟩
  .exact⟨x,.nil,I.setStr f rfl⟩
 .refine⟨x,?_,d _ rfl rfl⟩;show fU x (dO s.next (dv s r.nw) (dv s r.nw).length) x;have:∀n,fU x (dO s.next (dv s r.nw) n) x:=λn=>by
   induction n with
   | zero=>exact .nil
   | succ n ih=>exact ih.snoc (.emit rfl)
  exact this _
 .refine⟨x,.nil,?_⟩;unfold mT
  split
  .exact d _ rfl rfl
  .exact d s rfl rfl
theorem once_new(c:bD):lX (bU c) ⟨[],[]⟩ 0 where
 cur a st h:=by
  grind [dP,bU]
 gr a h:=by
  grind [bg,bU,En.z]
 new a e n h:=rfl
 b k:=⟨Wd _,Wd _⟩
def jt(s:aI):List Rp->List bI
 | []=>[]
 | r::rs=>ee s r++jt (fS s r) rs
theorem BN(r:Rp):∀(rs:List Rp) (s:aI),jt s (rs++[r])=jt s rs++ee (dH s rs) r
 | [],s=>by simp[jt,dH]
 | x::rs,s=>by
  rw[W7,jt,BN r rs,jt,VI];rfl
theorem Vj(s:aI)(rs:List Rp)(r:Rp):dH s (rs++[r])=fS (dH s rs) r:=by
 grind [dH]
def okE(e:bI):Prop:=(e.kind=1->ff (mU e.agent e.epoch e.boot)=true)/\(e.kind=2->ff (mV e.agent e.epoch e.next)=true)
structure Hs(c:bD)(n:Nat)(s:aI)(E:List bI):Prop where
 R:RunR s c n
 num:NumI s (emO E)
 once:∃x,fU ⟨[],[]⟩ E x/\∃B,lX s x B
 nums:∀e∈E,e.kind=4->0<=e.number/\(emO E)[e.number.toNat]?=some e.out
 sunk:0<=s.sunk
 boots:s.boots<=n
 rgt:∀e∈E,okE e
 len:E.length<=2000*n
theorem Hs.mono{c:bD}{n m:Nat}{s:aI}{E:List bI}(h:Hs c n s E)(hm:n<=m):Hs c m s E:=
 ⟨⟨h.R.R,h.R.cfg,VO h.R.kept (Yd _ hm)⟩,h.num,h.once,h.nums,h.sunk,by have:=h.boots;omega,h.rgt,by have:=h.len;omega⟩
theorem Hs.new{c:bD}(b:fD c=true):Hs c 0 (bU c) []:=
 ⟨runR_new (uB b),⟨by simp[bU,emO],by simp[bU,emO]⟩,⟨_,.nil,0,once_new c⟩,λe a=>V2 a (by simp),by simp[bU],by simp[bU],λe a=>V2 a (by simp),by simp⟩
theorem Vk{s:aI}{r:Rp}:(fS s r).boots<=s.boots+1:=by
 refine oG (P:=λq=>q.1.boots<=s.boots+1) (λ_=>?_) (λ_ _=>?_) (λ_ _ _=>?_) (λ_ _ _=>?_) (λ_ _ _=>?_) (λ_ _ _=>?_) (λ_ _ _=>?_) (λ_ _ _=>?_) (λ_ _ _=>?_)
 .grind
 .grind
 .grind
 .grind [fC]
 .grind [mS]
 .grind [gE]
 .grind [lT]
 .grind [kI]
 grind [mT]
theorem My{a ep bt:Int}(c:0<=a/\a<=63)(d:0<=ep/\ep<=1099511627776)(b:0<=bt/\bt<=1099511627776):ff (mU a ep bt)=true:=by
 grind [ff,mU,aV,gV,Fq.nums]
theorem rgt_ack{a ep nx:Int}(c:0<=a/\a<=63)(d:0<=ep/\ep<=1099511627776)(b:0<=nx/\nx<=1099511627776):ff (mV a ep nx)=true:=by
 grind [ff,mV,aV,gV,Fq.nums]
theorem BO{e:bI}(a:e.kind≠1)(b:e.kind≠2):okE e:=⟨λh=>V2 h a,λh=>V2 h b⟩
theorem okE_step{s:aI}{r:Rp}(R:Rch s)(y:∀e∈r.evs,aF e.value):∀e∈ee s r,okE e:=by
 have b:=uQ R y (r:=r);revert b;unfold ee fS;refine oG (P:=λq=>Rch q.1->∀e∈q.2.1,okE e) (λ_ _ e a=>V2 a (by simp)) (λ_ _ _ e a=>V2 a (by simp)) (λ_ _ _ _ e a=>V2 a (by simp)) (λu d x b=>?_) (λ_ _ _ _ e a=>V2 a (by simp)) (λu d x b=>?_) (λ_ _ _ _ e a=>V2 a (by simp)) (λ_ _ _ _ e a=>?_) (λ_ _ _ _ e a=>V2 a (by simp))
 .have c:=iF u;have w:=xv (most:=s.cfg.agents) R.ok.rows r.ag r.bt r.nw;have i:r.ag.toNat<s.rows.length:=by rw[R.ok.rows.len];have:=c.ag;omega
  revert b;unfold fC
  split
  .intro _ e a;cases a
  rename_i m;have m:=Decidable.not_not.1 m
  split
  .rename_i d;intro b e a
   rcases w with ⟨-,g2,g3,g4,g5⟩|⟨g1,_⟩
   .rcases VR.1 a with a|a
    .have:=LR e a;exact BO (by omega) (by omega)
    .rw [VE]at a;subst a;have e1:=B8 (e:=(grant s.cfg.agents s.rows r.ag r.bt r.nw).2.1) c.ag.1 i;have f:=b.rows r.ag;have j:=b.ok.rows.ep (grant s.cfg.agents s.rows r.ag r.bt r.nw).2.1;dsimp only at f j;rw[g2,e1]at f;rw[g2]at j;have t:=j (List.mem_iff_getElem.2 ⟨r.ag.toNat,by grind,by grind⟩);have B:=f g3;exact⟨λ_=>My c.ag (by grind) (by grind),λh=>V2 h (show ¬(1:Int)=2 by decide)⟩
   .rw [g1]at d;cases d
  .rename_i d;intro b e a
   rcases w with ⟨g1,_⟩|⟨-,g2,g3⟩
   .exact V2 g1 d
   .obtain⟨g4,g5⟩:=g3 m;rw[VE]at a;subst a;have f:=R.rows r.ag g5;have t:=R.ok.rows.at r.ag;rw[g4];exact⟨λ_=>My c.ag (by grind) (by grind),λh=>V2 h (show ¬(1:Int)=2 by decide)⟩
 .have c:=iF u;obtain⟨st,k⟩:=lg R.ok c d (.inr (.inl x));have i:r.ag.toNat<s.sts.length:=(List.getElem?_eq_some_iff.1 k).1;revert b;unfold gE;rw[k];intro b e a;dsimp only at a b
  rcases VR.1 a with a|a
  .have:=B5 _ e a;exact BO (by omega) (by omega)
  .rw [VE]at a;subst a;have A:(kH s r st).1.st.hs=(st.hs.offer r.nx r.evs).1:=by
    unfold kH;generalize (st.hs.offer r.nx r.evs)=O;have:∀n,(dh s.cfg r.nw r.ag r.ep st.hs.next O.2.1 ⟨{ st with hs:=O.1 },s.ms,s.cm⟩ n).1.st.hs=O.1:=by
     intro n
     induction n with
     | zero=>rfl
     | succ n ih=>exact (xr s.cfg r.nw r.ag (dh s.cfg r.nw r.ag r.ep st.hs.next O.2.1 ⟨{ st with hs:=O.1 },s.ms,s.cm⟩ n).1.st (dh s.cfg r.nw r.ag r.ep st.hs.next O.2.1 ⟨{ st with hs:=O.1 },s.ms,s.cm⟩ n).1.ms (dh s.cfg r.nw r.ag r.ep st.hs.next O.2.1 ⟨{ st with hs:=O.1 },s.ms,s.cm⟩ n).1.cm (O.2.1.getD n Pv.z)).2.1.trans ih
    grind
   have hs:=b.ok.sts (kH s r st).1.st (List.mem_iff_getElem.2 ⟨r.ag.toNat,by grind,by grind⟩);have f:=hs.next;have j:=hs.hs.next0;rw[A]at f j;have t:=c.ep.2;exact⟨λh=>V2 h (show ¬(2:Int)=1 by decide),λ_=>rgt_ack c.ag t (by grind)⟩
 .obtain⟨q,v,rfl⟩:=Wu a;have v:q<(dO s.next (dv s r.nw) (dv s r.nw).length).length:=v;show okE (dO s.next (dv s r.nw) (dv s r.nw).length)[q];rw[xJ];exact BO (show (4:Int)≠1 by decide) (show (4:Int)≠2 by decide)
theorem Mz{s:aI}{r:Rp}(ok:cR s):(ee s r).length<=2000:=by
 cases hR:r.right with
 | false=>
  have:ee s r=[]:=by unfold ee bO;grind
  grind
 | true=>grind [BG,Rp.right_len]
theorem BP{A B:List bI}(h:A <+: B):emO A <+: emO B:=by
 obtain⟨C,rfl⟩:=h
 grind [uM]
theorem BQ{α:Type}{A B:List α}(h:A <+: B){i:Nat}{x:α}(hi:A[i]?=some x):B[i]?=some x:=by
 obtain⟨C,rfl⟩:=h
 grind
theorem Hs.step{c:bD}{n:Nat}{s:aI}{E:List bI}(h:Hs c n s E){r:Rp}(b:∀e∈r.evs,aF e.value):Hs c (n+1) (fS s r) (E++ee s r):=by
 obtain⟨n1,n2,n3⟩:=num_step (r:=r) h.sunk h.num;obtain⟨x,j,B,I⟩:=h.once;obtain⟨y,f,J⟩:=Vi (r:=r) h.R.R.ok I;refine⟨h.R.step b,by rw[uM];exact n2,⟨y,j.append f,_,J⟩,λe a d=>?_,n3,?_,λe a=>?_,by rw[V3];have:=h.len;have:=Mz (r:=r) h.R.R.ok;omega⟩
 .rcases VR.1 a with a|a
  .have:=h.nums e a d;exact⟨this.1,BQ (BP (List.prefix_append _ _)) this.2⟩
  .obtain⟨k,i,rfl⟩:=Wu a;have e1:=n1 k i d;refine⟨by omega,?_⟩;have e2:ee s r=(ee s r).take k++((ee s r)[k]::(ee s r).drop (k+1)):=by simp_all
   have e3:emO (ee s r)=emO ((ee s r).take k)++((ee s r)[k].out::emO ((ee s r).drop (k+1))):=by
    conv=>lhs;rw[e2]
    rw[uM];congr 1;unfold emO
    grind
   rw[uM,e3,e1,List.getElem?_append_right (by omega),List.getElem?_append_right (by omega)]
   grind
 .have:=Vk (s:=s) (r:=r);have:=h.boots;omega
 .rcases VR.1 a with a|a
  .exact h.rgt e a
  .exact okE_step h.R.R b e a
theorem Hs.run{c:bD}:∀{rs:List Rp} {n:Nat} {s:aI} {E:List bI},Hs c n s E->(∀r∈rs,∀e∈r.evs,aF e.value)->Hs c (n+rs.length) (dH s rs) (E++jt s rs)
 | [],n,s,E,h,_=>by
  rw[jt,Wc];exact h
 | r::rs,n,s,E,h,hv=>by
  have:=Hs.run (h.step (hv r (VM ..))) λx a=>hv x (VL _ a)
  rw[jt,<-VI,V9,show n+(rs.length+1)=n+1+rs.length by omega];exact this
def rcO(r:Rp):Rc:=⟨r.kind,r.bytes⟩
structure Led(c:bD)(n:Nat)(l:List Rc)(s0:aI)(E0:List bI)(rs:List Rp)(m:Nat):Prop where
 h0:Hs c m s0 E0
 len:m+rs.length<=n
 tell:dw l=(none,rs.map rcO)/\s0=bU c/\E0=[]\/dw l=(some (stB s0),rs.map rcO)
 vals:∀r∈rs,∀e∈r.evs,aF e.value
 oks:∀j (hj:j<rs.length),(bO (dH s0 (rs.take j)) rs[j]).2.2=0
def eU(c:bD)(n:Nat)(l:List Rc)(s:aI)(E E0:List bI):Prop:=∃s0 rs m,Led c n l s0 E0 rs m/\s=dH s0 rs/\E=E0++jt s0 rs
theorem eU.hs{c:bD}{n:Nat}{l:List Rc}{s:aI}{E a:List bI}(h:eU c n l s E a):Hs c n s E:=by
 obtain⟨s0,b,m,h,rfl,rfl⟩:=h;exact (h.h0.run h.vals).mono h.len
theorem eU.mono{c:bD}{n b:Nat}{l:List Rc}{s:aI}{E a:List bI}(h:eU c n l s E a)(d:n<=b):eU c b l s E a:=by
 obtain⟨s0,e,m,h,f⟩:=h;exact⟨s0,e,m,⟨h.h0,VO h.len d,h.tell,h.vals,h.oks⟩,f⟩
theorem eU.same{c:bD}{n:Nat}{l b:List Rc}{s:aI}{E a:List bI}(h:eU c n l s E a)(e:dw l=dw b):eU c n b s E a:=by
 obtain⟨s0,d,m,h,f⟩:=h;exact⟨s0,d,m,⟨h.h0,h.len,by rw[<-e];exact h.tell,h.vals,h.oks⟩,f⟩
theorem eU.pre{c:bD}{n:Nat}{l:List Rc}{s:aI}{E a:List bI}(h:eU c n l s E a):a <+: E:=by
 obtain⟨s0,b,m,h,rfl,rfl⟩:=h
 grind
theorem eU.new{c:bD}(d:fD c=true):eU c 0 [] (bU c) [] []:=
 ⟨bU c,[],0,⟨Hs.new d,VA _,.inl ⟨rfl,rfl,rfl⟩,λr b=>V2 b (by simp),λj a=>V2 a (by simp)⟩,rfl,rfl⟩
theorem eU.rec{c:bD}{n:Nat}{l:List Rc}{s:aI}{E b:List bI}(h:eU c n l s E b){r:Rp}(k:∀e∈r.evs,aF e.value)(v:(bO s r).2.2=0):eU c (n+1) (l++[rcO r]) (fS s r) (E++ee s r) b:=by
 obtain⟨s0,f,m,h,rfl,rfl⟩:=h;have u:r.kind≠0:=by
  have t:=sH v;unfold Rp.right at t
  grind
 refine⟨s0,f++[r],m,⟨h.h0,by rw[V3];have:=h.len;grind,?_,λx a=>?_,λj i=>?_⟩,(Vj _ _ _).symm,by grind [BN]⟩
 .rw [Iv,V0 (show ¬(rcO r).kind=0 from u)]
  rcases h.tell with ⟨t1,t2⟩|t1
  .grind
  grind
 .rcases VR.1 a with a|a
  .exact h.vals x a
  .rw [VE]at a;subst a;exact k
 .rw [V3]at i;simp only[V9,VW]at i
  rcases VV j f.length with d|d
  .rw [Yr (by omega)];have:=h.oks j d
   grind
  grind
theorem eU.chk{c:bD}{n:Nat}{l:List Rc}{s:aI}{E a:List bI}(h:eU c n l s E a):eU c n (l++[⟨0,stB s⟩]) s E E:=
 ⟨s,[],n,⟨h.hs,VA _,.inr (by rw[Iv,V1 rfl];rfl),λr d=>V2 d (by simp),λj b=>V2 b (by simp)⟩,rfl,by grind [jt]⟩
theorem M0(s:aI)(rs:List Rp):∀n,recT s rs n=iI s s.kept.length++(jt s (rs.take n)).flatMap cK
 | 0=>by simp[recT,jt]
 | n+1=>by
  rw[recT,M0 s rs n]
  cases h:rs[n]? with
  | none=>rw[List.take_add_one,h];simp
  | some r=>rw[List.take_add_one,h,Option.toList_some,BN,W4,VI]
theorem BR{f:Fq}(c:f.kind≠5)(d:f.kind≠8)(h:jd { kind:=f.kind } (aV f.kind) ((aV f.kind).map f.nums)=f)(b:ff f=true):fJ (cA f)=.ok f:=by
 have hb:j7 f=aN [f.kind]++nmF f (aV f.kind):=by unfold j7 mL;rw[V0 c,V0 d,Wc]
 have m:(j7 f).length<=100:=by
  have k:=dJ [f.kind];have l1:=JH f (aV f.kind);have lo:=xa f.kind;rw[hb,V3];simp only[V9,VW]at k;omega
 have hs:(eL (j7 f)).length<=104:=by rw[rY];omega
 have a:=b;unfold ff at a;simp only[V7,V6,Wq]at a;have e:cA f=eL (j7 f):=by unfold cA;rw[V0 (by rw[b];simp),nO]
 unfold fJ;rw[e,nO,G8,V0 (by simp)];dsimp only;unfold nR pz;have e2:aN [f.kind]++nmF f (aV f.kind)=aN [f.kind]++(((aV f.kind).flatMap λi=>aN [f.nums i])++[]):=by rw[Wc]
 rw[hb,e2,uE (by omega) (by omega)];dsimp only;rw[nO];dsimp only;rw[BF (λi hi=>by have:=a.1.2 i hi;unfold aF;omega) _ _ (VA _),Wf,W1]
 dsimp only;unfold mN;rw[h,V0 c,V0 d];unfold endQ;dsimp only;have j:dF ⟨0,([]:List Nat).flatMap (λi=>aN [f.nums i])++[]⟩=⟨0,[]⟩:=rfl
 rw[j,V0 (by simp),V1 b]
theorem Vl{a e b:Int}(h:ff (mU a e b)=true):fJ (cA (mU a e b))=.ok (mU a e b):=BR (show (2:Int)≠5 by decide) (show (2:Int)≠8 by decide) rfl h
theorem ack_back{a e b:Int}(h:ff (mV a e b)=true):fJ (cA (mV a e b))=.ok (mV a e b):=BR (show (6:Int)≠5 by decide) (show (6:Int)≠8 by decide) rfl h
theorem M1{a e b:Int}(h:ff (dT a e b)=true):fJ (cA (dT a e b))=.ok (dT a e b):=BR (show (3:Int)≠5 by decide) (show (3:Int)≠8 by decide) rfl h
structure HM where
 v:List (I3×Ou)
 e:List (Int×List Int)
def Ou.id(o:Ou):I3:=⟨o.ida,o.ide,o.seq⟩
def HOk1(h:HM)(o:Ou):Prop:=
 (o.kind=2->∀w,aJ o.id h.v=some w->w.reason=o.reason/\w.win=o.win/\w.lo=o.lo/\w.hi=o.hi)/\(o.kind=3->∀b,aJ o.num h.e=some b->b=o.bs)/\
 (o.kind=1->∃f,fJ o.bs=.ok f/\f.ag=o.ag/\(f.kind=6->∀n:Int,0<=n->n<f.next->n<10000->∃w,aJ ⟨f.ag,f.ep,n⟩ h.v=some w))
def oH(h:HM)(o:Ou):HM:=if o.kind=2 then { h with v:=mset o.id o h.v } else if o.kind=3 then { h with e:=mset o.num o.bs h.e } else h
def fh(h:HM)(l:List Ou):Nat->HM
 | 0=>h
 | n+1=>match l[n]? with
  | some o=>oH (fh h l n) o
  | none=>fh h l n
def HOk(h:HM)(l:List Ou):Prop:=∀i (hi:i<l.length),HOk1 (fh h l i) l[i]
theorem BS(h:HM)(a b:List Ou):∀i,i<=a.length->fh h (a++b) i=fh h a i
 | 0,_=>rfl
 | i+1,hi=>by rw[fh,fh,BS h a b i (by omega),List.getElem?_append_left (by omega)]
theorem uT(h:HM)(a b:List Ou):∀i,fh h (a++b) (a.length+i)=fh (fh h a a.length) b i
 | 0=>BS h a b _ (VA _)
 | i+1=>by rw[<-Ws,fh,fh,uT h a b i,List.getElem?_append_right (by omega),Ya]
theorem HOk.app{h:HM}{a b:List Ou}(e:HOk h a)(d:HOk (fh h a a.length) b):HOk h (a++b):=by
 intro i hi
 rcases VV i a.length with c|c
 .rw [BS h a b i (by omega),List.getElem_append_left c];exact e i c
 .obtain⟨j,rfl⟩:∃j,i=a.length+j:=⟨i-a.length,by omega⟩;rw[uT,List.getElem_append_right (by omega)];have:=d j (by rw[V3]at hi;omega);simpa using this
def lY(e:bI):I3:=⟨e.ida,e.ide,e.seq⟩
def verO(e:bI):Ou:={ kind:=2,ida:=e.ida,ide:=e.ide,seq:=e.seq,reason:=e.reason,win:=e.win,lo:=e.gap.lo,hi:=e.gap.hi }
structure HJ(h:HM)(P T:List bI):Prop where
 ver:∀k w,aJ k h.v=some w->∃e∈T,e.kind=3/\lY e=k/\w=verO e
 emi:∀n b,aJ n h.e=some b->0<=n/\∃o,(emO T)[n.toNat]?=some o/\b=(jC n o).bs
 has:∀e∈P,e.kind=3->∃w,aJ (lY e) h.v=some w
theorem HJ.mono{h:HM}{P P' T f:List bI}(H:HJ h P T)(d:T <+: f)(j:∀e∈P',e∈P):HJ h P' f:=
 ⟨λk w i=>by obtain⟨e,a,c⟩:=H.ver k w i;exact⟨e,d.subset a,c⟩,λn b hb=>by obtain⟨h0,o,a,c⟩:=H.emi n b hb;exact⟨h0,o,BQ (BP d) a,c⟩,λe m=>H.has e (j e m)⟩
theorem hj0:HJ ⟨[],[]⟩ [] []:=⟨λk w h=>by simp[aJ]at h,λn b h=>by simp[aJ]at h,λe a=>V2 a (by simp)⟩
theorem fU.vv{x y:VG}{E:List bI}(h:fU x E y):∀k,y.vv k≠0->x.vv k≠0\/∃e∈E,e.kind=3/\lY e=k:=by
 induction h with
 | nil=>exact λk a=>.inl a
 | snoc h1 h2 ih=>
  intro k a
  cases h2 with
  | grant h3=>
   rcases ih k a with h|⟨e,b,h⟩
   .exact .inl h
   .exact .inr ⟨e,WP _ b,h⟩
  | verdict h3 h4 h5=>
   rw[qS]at a
   split at a
   .rename_i c;exact .inr ⟨_,Yf _ (VE.2 rfl),h3,c.symm⟩
   .rcases ih k a with h|⟨e,b,h⟩
    .exact .inl h
    .exact .inr ⟨e,WP _ b,h⟩
  | ack h3 h4=>
   rcases ih k a with h|⟨e,b,h⟩
   .exact .inl h
   .exact .inr ⟨e,WP _ b,h⟩
  | emit h3=>
   rcases ih k a with h|⟨e,b,h⟩
   .exact .inl h
   .exact .inr ⟨e,WP _ b,h⟩
theorem fU.vv'{x y:VG}{E:List bI}(h:fU x E y):(∀k,x.vv k≠0->y.vv k≠0)/\∀e∈E,e.kind=3->y.vv (lY e)≠0:=by
 induction h with
 | nil=>exact⟨λk b=>b,λe d=>V2 d (by simp)⟩
 | snoc h1 h2 ih=>
  rename_i e _ _;have key:∀k,(‹VG›).vv k≠0->True:=λ_ _=>trivial
  cases h2 with
  | grant h3=>
   refine⟨λk b=>ih.1 k b,λc a h=>?_⟩
   rcases VR.1 a with a|a
   .exact ih.2 c a h
   .rw [VE]at a;subst a;omega
  | verdict h3 h4 h5=>
   refine⟨λk b=>?_,λc a h=>?_⟩
   .rw [qS];split
    .decide
    .exact ih.1 k b
   .rw [qS];split
    .decide
    .rename_i b
     rcases VR.1 a with a|a
     .exact ih.2 c a h
     .rw [VE]at a;subst a;exact V2 rfl b
  | ack h3 h4=>
   refine⟨λk b=>ih.1 k b,λc a h=>?_⟩
   rcases VR.1 a with a|a
   .exact ih.2 c a h
   .rw [VE]at a;subst a;omega
  | emit h3=>
   refine⟨λk b=>ih.1 k b,λc a h=>?_⟩
   rcases VR.1 a with a|a
   .exact ih.2 c a h
   .rw [VE]at a;subst a;omega
structure Clear(T:List bI):Prop where
 one:T.Pairwise λa b=>a.kind=3->b.kind=3->lY a≠lY b
 ack:∀P e S,T=P++e::S->e.kind=2->∀n:Int,0<=n->n<e.next->n<10000->∃d∈P,d.kind=3/\lY d=⟨e.agent,e.epoch,n⟩
theorem clear_of{T:List bI}{y:VG}(h:fU ⟨[],[]⟩ T y):Clear T:=by
 generalize hx:(⟨[],[]⟩:VG)=x at h
 induction h with
 | nil=>exact⟨List.Pairwise.nil,λP e S h=>by simp at h⟩
 | snoc h1 h2 ih=>
  subst hx;refine⟨?_,λP v S f w n h0 i j=>?_⟩
  .rw [List.pairwise_append];refine⟨ih.one,List.pairwise_singleton _ _,λa m b hb t k c=>?_⟩
   rw[VE]at hb;subst hb;have:=(fU.vv' h1).2 a m t
   cases h2 with
   | grant h=>omega
   | verdict _ h5 _=>rw[c]at this;exact this h5
   | ack h=>omega
   | emit h=>omega
  .rcases Y7 S with rfl|⟨s,z,rfl⟩
   .obtain⟨rfl,d⟩:=List.append_inj' f rfl;have d:=(List.cons.inj d).1;subst d
    cases h2 with
    | grant h=>omega
    | verdict h _ _=>omega
    | ack h5 h6=>
     have u:=h6 n h0 i j
     rcases fU.vv h1 ⟨_,_,n⟩ (by rw[u];decide) with h8|h8
     .exact V2 rfl h8
     .exact h8
    | emit h=>omega
   .rw [Y8,<-W7,<-VI]at f;obtain⟨rfl,_⟩:=List.append_inj' f rfl;exact ih.ack P v s rfl w n h0 i j
theorem Clear.same{T:List bI}(h:Clear T){a b:bI}(m:a∈T)(hb:b∈T)(k:a.kind=3)(c:b.kind=3)(e:lY a=lY b):a=b:=by
 obtain⟨i,hi,rfl⟩:=Wu m;obtain⟨j,f,rfl⟩:=Wu hb
 rcases Nat.lt_trichotomy i j with d|d|d
 .exact V2 e (Yt.1 h.one i j hi f d k c)
 .subst d;rfl
 .exact V2 e.symm (Yt.1 h.one j i f hi d c k)
theorem hear_one{c:bD}{n:Nat}{s:aI}{T:List bI}(hs:Hs c n s T){h:HM}{P S:List bI}{e:bI}(E:T=P++e::S)(H:HJ h P T):HOk h (cK e)/\HJ (fh h (cK e) (cK e).length) (P++[e]) T:=by
 have hm:e∈T:=by rw[E];simp
 obtain⟨y,G,_⟩:=hs.once;have C:=clear_of G;have F:=hs.rgt e hm;have keep:e.kind≠3->HJ h (P++[e]) T:=λj=>⟨H.ver,H.emi,λd hd a=>by
  rcases VR.1 hd with hd|hd
  .exact H.has d hd a
  .rw [VE]at hd;subst hd;exact V2 a j⟩
 have one:∀o,HOk1 h o->HOk h [o]:=λo m i hi=>by
  have:i=0:=by simpa using hi
  subst this;exact m
 unfold cK
 split
 .rename_i t;refine⟨one _ ⟨λh=>V2 h (show (1:Int)≠2 by decide),λh=>V2 h (show (1:Int)≠3 by decide),λ_=>⟨_,Vl (F.1 t),rfl,λh=>V2 h (show (2:Int)≠6 by decide)⟩⟩,keep (by omega)⟩
 split
 .rename_i t u;refine⟨one _ ⟨λh=>V2 h (show (1:Int)≠2 by decide),λh=>V2 h (show (1:Int)≠3 by decide),λ_=>⟨_,ack_back (F.2 u),rfl,λ_ n h0 A B=>?_⟩⟩,keep (by omega)⟩
  obtain⟨d,hd,a,x⟩:=C.ack P e S E u n h0 A B;have:=H.has d hd a;rw[x]at this;exact this
 split
 .rename_i t u j;refine⟨one (verO e) ⟨λ_ w f=>?_,λh=>V2 h (show (2:Int)≠3 by decide),λh=>V2 h (show (2:Int)≠1 by decide)⟩,⟨λk w f=>?_,H.emi,λd hd a=>?_⟩⟩
  .obtain⟨d,hd,a,x,rfl⟩:=H.ver _ w f;have:d=e:=C.same hd hm a j x;subst this;exact⟨rfl,rfl,rfl,rfl⟩
  .have f:aJ k (mset (lY e) (verO e) h.v)=some w:=f;rw[lD]at f
   split at f
   .rename_i a
    cases f
    exact⟨e,hm,j,a.symm,rfl⟩
   .exact H.ver k w f
  .show ∃w,aJ (lY d) (mset (lY e) (verO e) h.v)=some w;rw[lD]
   split
   .exact⟨_,rfl⟩
   .rename_i D
    rcases VR.1 hd with hd|hd
    .exact H.has d hd a
    .rw [VE]at hd;subst hd;exact V2 rfl D
 split
 .rename_i t u j B;obtain⟨n0,A⟩:=hs.nums e hm B;refine⟨one (jC e.number e.out) ⟨λh=>V2 h (show (3:Int)≠2 by decide),λ_ b hb=>?_,λh=>V2 h (show (3:Int)≠1 by decide)⟩,⟨H.ver,λn b hb=>?_,(keep j).has⟩⟩
  .obtain⟨_,o,m,rfl⟩:=H.emi _ b hb;have m:(emO T)[e.number.toNat]?=some o:=m;rw[A]at m
   cases m
   rfl
  .have hb:aJ n (mset e.number (jC e.number e.out).bs h.e)=some b:=hb;rw[lD]at hb
   split at hb
   .rename_i x
    cases hb
    subst x;exact⟨n0,_,A,rfl⟩
   .exact H.emi n b hb
 .rename_i t u j B;exact⟨λi hi=>V2 hi (by simp),keep j⟩
theorem BT{c:bD}{n:Nat}{s:aI}{T:List bI}(hs:Hs c n s T):∀{X:List bI} {h:HM} {P S:List bI},T=P++X++S->HJ h P T->HOk h (X.flatMap cK)/\HJ (fh h (X.flatMap cK) (X.flatMap cK).length) (P++X) T
 | [],h,P,S,hT,H=>⟨λi hi=>V2 hi (by simp),by rw[Wc];exact H⟩
 | e::X,h,P,S,hT,H=>by
  obtain⟨a1,a2⟩:=hear_one (e:=e) (S:=X++S) hs (by rw[hT];simp) H;obtain⟨b1,b2⟩:=BT (X:=X) (P:=P++[e]) (S:=S) hs (by rw[hT];simp) a2;rw[Wb];refine⟨a1.app b1,?_⟩;rw[V3,uT,show P++e::X=P++[e]++X by simp];exact b2
theorem M3{c:bD}{n:Nat}{s:aI}{T k:List bI}(h0:Hs c n s k)(m:k <+: T){P:List bI}{h:HM}(H:HJ h P T):∀j,j<=s.kept.length->HOk h (iI s j)/\HJ (fh h (iI s j) (iI s j).length) P T
 | 0,_=>⟨λi hi=>V2 hi (by simp[iI]),H⟩
 | j+1,hj=>by
  obtain⟨a1,a2⟩:=M3 h0 m H j (by omega);have t:(emO T)[(s.sunk+(j:Nat)).toNat]?=some (s.kept.getD j Ot.z):=by
   refine BQ (BP m) ?_;rw[h0.num.kept,Yl,List.getElem?_drop];have hs:=h0.sunk;have w:=h0.num.len;rw[show s.sunk.toNat+j=(s.sunk+(j:Nat)).toNat by omega,List.getElem?_eq_getElem (by omega)];rfl
  obtain⟨f,d⟩:∃f,fh h (iI s j) (iI s j).length=f:=⟨_,rfl⟩;rw[d]at a2;have u:=h0.sunk;rw[iI];refine⟨a1.app ?_,?_⟩
  .rw [d];intro i hi;have:i=0:=by simpa using hi
   subst this;refine⟨λh=>V2 h (show (3:Int)≠2 by decide),λ_ b hb=>?_,λh=>V2 h (show (3:Int)≠1 by decide)⟩
   obtain⟨_,o,a,rfl⟩:=a2.emi _ b hb;have a:(emO T)[(s.sunk+(j:Nat)).toNat]?=some o:=a;rw[t]at a
   cases a
   rfl
  .rw [V3,uT,d];refine⟨a2.ver,λn b hb=>?_,a2.has⟩
   have hb:aJ n (mset (s.sunk+(j:Nat)) (jC (s.sunk+(j:Nat)) (s.kept.getD j Ot.z)).bs f.e)=some b:=hb;rw[lD]at hb
   split at hb
   .rename_i v
    cases hb
    subst v;exact⟨by omega,_,t,rfl⟩
   .exact a2.emi n b hb
structure GI(g:Gg)(j:Nat)(was:List aI)(Ek E:List bI)(R:DR)(L:LG)(n0:Int)(k:Nat):Prop where
 opt:fg g.o=true
 few:g.o.cfg.cells.toNat<=200
 ti:TI g.o.segment g.rows g.syn g.rl j
 log:jm g.rows g.syn g.rl R L n0 k
 bk:g.saved=true->∃A d B,L=A++(g.seg,⟨0,d⟩)::B/\(∀x∈A,x.1<g.seg)/\g.num=n0+A.length
 all:∀p,k<=p->p<=L.length->∃s E1 E0,eU g.o.cfg j (di R++(L.take p).map Prod.snd) s E1 E0/\Ek <+: E1/\E1 <+: E/\E0 <+: Ek/\s∈was
 top:∃E0,eU g.o.cfg j (di R++L.map Prod.snd) g.s E E0/\E0 <+: Ek
 pend:∃E',E=Ek++E'/\g.pend=E'.flatMap cK
 last:g.s∈was
 recs:0<=g.recs/\g.recs<=j
 plen:g.pend.length<=2000*j
 prb:jD g.p
 count:g.p.count<=64*j
 boot:g.p.boot=g.s.boots
section
variable {g:Gg}{j:Nat}{was:List aI}{Ek E:List bI}{R:DR}{L:LG}{n0:Int}{k:Nat}
theorem GI.hs(h:GI g j was Ek E R L n0 k):Hs g.o.cfg j g.s E:=by
 obtain⟨b,a,_⟩:=h.top;exact a.hs
theorem GI.ok(h:GI g j was Ek E R L n0 k)(c:j<=200):GgOk g:=by
 have b:=h.hs.R;have a:=h.ti;have i:=a.len;have f:=a.seg;have d:=h.recs;have e:=h.plen;exact⟨b.R,b.few h.few c,a.ok (by omega),by omega,by omega,by omega,by omega,h.prb⟩
theorem GI.mono(h:GI g j was Ek E R L n0 k):GI g (j+1) was Ek E R L n0 k:=by
 obtain⟨c,f,e⟩:=h.top;refine⟨h.opt,h.few,h.ti.mono,h.log,h.bk,λp a b=>?_,⟨c,f.mono (Nat.le_succ _),e⟩,h.pend,h.last,by have:=h.recs;omega,by have:=h.plen;omega,h.prb,by have:=h.count;omega,h.boot⟩
 obtain⟨s,d,c,a1,a2⟩:=h.all p a b;exact⟨s,d,c,a1.mono (Nat.le_succ _),a2⟩
theorem GI.withP(h:GI g j was Ek E R L n0 k){p:Pb}(b:jD p)(c:p.count<=64*j)(a:p.boot=g.p.boot):GI { g with p:=p } j was Ek E R L n0 k:=
 ⟨h.opt,h.few,h.ti,h.log,h.bk,h.all,h.top,h.pend,h.last,h.recs,h.plen,b,c,a.trans h.boot⟩
theorem Vm{s:aI}{r:Rp}(a:r.kind≠1):(fS s r).boots=s.boots:=by
 refine oG (P:=λq=>q.1.boots=s.boots) (λ_=>rfl) (λ_ _=>rfl) (λ_ _ h=>V2 h a) (λ_ _ _=>?_) (λ_ _ _=>?_) (λ_ _ _=>?_) (λ_ _ _=>?_) (λ_ _ _=>rfl) (λ_ _ _=>?_)
 .grind [fC]
 .grind [mS]
 .grind [gE]
 .grind [lT]
 grind [mT]
theorem M4(l:List bI):(l.flatMap cK).length<=l.length:=by
 induction l with
 | nil=>simp
 | cons e l ih=>
  grind [cK]
theorem GI.cmt(h:GI g j was Ek E R L n0 k)(M:j<=200){r:Rp}(G:∀e∈r.evs,aF e.value)(y:r.kind≠1)(J:(cF g r).2=0) :
  ∃f H,GI (cF g r).1 (j+1) (was++[(cF g r).1.s]) Ek f R H n0 k/\(cF g r).1.syn=g.syn/\g.rows.length<(cF g r).1.rows.length:=by
 have n:(bO g.s r).2.2=0:=by
  unfold cF at J
  grind
 have x:(cF g r).1={ g with s:=(bO g.s r).1,pend:=g.pend++(bO g.s r).2.1.flatMap cK,recs:=g.recs+1,rl:=du g.rows g.rl ⟨r.kind,r.bytes⟩,rows:=gA g.rows g.rl ⟨r.kind,r.bytes⟩ }:=by
  unfold cF
  grind
 have I:=sH n;have v:=h.ti.seg;have t:=Bm (rows:=g.rows) (s:=g.rl) (by omega) I;obtain⟨m,t1,t2⟩:=h.top;obtain⟨f,p1,p2⟩:=h.pend;have hb:=Rp.bytes_by r;have N:=Rp.bytes_len r;have c:=h.log.append (r:=⟨r.kind,r.bytes⟩) hb t;have u:gA g.rows g.rl ⟨r.kind,r.bytes⟩=g.rows++(bN ⟨r.kind,r.bytes⟩).map λb=>((du g.rows g.rl ⟨r.kind,r.bytes⟩).seg,b):=by unfold gA;grind
 have w:=qy (zW (r:=⟨r.kind,r.bytes⟩) hb t);have t3:=t1.rec G n;have K:=Mz (r:=r) h.hs.R.R.ok;have C:=M4 (ee g.s r);rw[x];refine⟨E++ee g.s r,L++[((du g.rows g.rl ⟨r.kind,r.bytes⟩).seg,⟨r.kind,r.bytes⟩)],⟨h.opt,h.few,h.ti.append (by omega) hb (by grind),c,λhs=>?_,λp a b=>?_,⟨m,?_,t2⟩,⟨f++ee g.s r,by grind,?_⟩,Yf _ (VE.2 rfl),?_,?_,h.prb,?_,?_⟩,rfl,?_⟩
 .obtain⟨A,d,B,b1,b2,b3⟩:=h.bk hs
  grind
 .rw [V3]at b;simp only[V9,VW]at b
  rcases VV L.length p with i|i
  .obtain rfl:p=L.length+1:=by omega
   rw[VZ (by simp),VT,<-VI];exact⟨_,_,m,t3,by grind,W9,t2,Yf _ (VE.2 rfl)⟩
  .rw [Yr i];obtain⟨s,F,D,a1,a2,a3,a4,a5⟩:=h.all p a i;exact⟨s,F,D,a1.mono (Nat.le_succ _),a2,a3.trans (List.prefix_append _ _),a4,WP _ a5⟩
 .rw [VT,<-VI];exact t3
 .grind
 .have:=h.recs;grind
 .have:=h.plen
  grind
 .have:=h.count;grind
 .exact h.boot.trans (Vm y).symm
 grind
theorem GI.sync(h:GI g j was Ek E R L n0 k)(I:j<=200):∃F H u D,GI (iH g) (j+3) [g.s] E E F H u D/\(iH g).s=g.s/\(iH g).o=g.o/\(iH g).pend=[]:=by
 obtain⟨f,t1,t2⟩:=h.top;obtain⟨J,p1,p2⟩:=h.pend;have e:f <+: E:=t1.pre;obtain⟨R1,c,m0,l1,l2,l3⟩:∃R1 c m0,jm (gm g) (gm g).length { g.rl with syn:=g.rl.next } R1 c m0 c.length/\(g.saved=true->∃A d B,c=A++(g.seg,⟨0,d⟩)::B/\(∀x∈A,x.1<g.seg)/\g.num=m0+A.length)/\
   eU g.o.cfg j (di R1++c.map Prod.snd) g.s E f:=by
  unfold gm
  split
  .rename_i n;obtain⟨A,d,B,b1,b2,b3⟩:=h.bk n.1;have w:=h.log.sync;rw[b1]at w;refine⟨[],(g.seg,⟨0,d⟩)::B,n0+A.length,w.trim rfl b2,λ_=>⟨[],d,B,rfl,λx t=>V2 t (by simp),by grind⟩,?_⟩
   refine t1.same ?_;rw[b1,VT,Wa,<-VI,QW _ rfl,show di []=[] from wE.2.1,Wh]
  .exact⟨R,L,n0,h.log.sync,h.bk,t1⟩
 have i:TI g.o.segment (gm g) (gm g).length { g.rl with syn:=g.rl.next } (j+2):=by
  unfold gm
  split
  .exact h.ti.sync.drop g.seg
  .exact h.ti.sync.mono
 have y:=h.recs;have v:=h.count;unfold iH
 split
 .rename_i n;have m:(⟨0,stB g.s⟩:Rc).ok:=⟨Wd 0,by grind,n.2,xF _⟩;have l4:=l1.push (g:=g.rl.seg+1) (by grind) m;have C:=l3.chk;refine⟨R1,_,m0,c.length,⟨h.opt,h.few,i.save (by omega) m n.2,l4,λ_=>⟨c,stB g.s,[],rfl,λx t=>?_,l1.next⟩,λp a b=>?_,⟨E,?_,W9⟩,⟨[],by simp,rfl⟩,VE.2 rfl,?_,by simp,h.prb,?_,h.boot⟩,rfl,rfl,rfl⟩
  .have:=l1.seg x t;grind
  .rw [V3]at b;simp only[V9,VW]at b
   rcases VV c.length p with G|G
   .obtain rfl:p=c.length+1:=by omega
    rw[VZ (by simp),VT,<-VI];exact⟨_,_,E,C.mono (by omega),W9,W9,W9,VE.2 rfl⟩
   .obtain rfl:p=c.length:=by omega
    rw[List.take_left];exact⟨_,_,f,l3.mono (by omega),W9,W9,e,VE.2 rfl⟩
  .rw [VT,<-VI];exact C.mono (by omega)
  .grind
  grind
 .refine⟨R1,c,m0,c.length,⟨h.opt,h.few,i.mono,l1,l2,λp a b=>?_,⟨f,l3.mono (by omega),e⟩,⟨[],by simp,rfl⟩,VE.2 rfl,?_,by simp,h.prb,?_,h.boot⟩,rfl,rfl,rfl⟩
  .obtain rfl:p=c.length:=by omega
   rw[Wf];exact⟨_,_,f,l3.mono (by omega),W9,W9,e,VE.2 rfl⟩
  .grind
  grind
theorem GI.crash(h:GI g j was Ek E R L n0 k)(c:j<=200)(keep:Int):∃s a b,eU g.o.cfg j (di (dG g.rows g.syn keep)) s a b/\Ek <+: a/\a <+: E/\b <+: Ek/\s∈was/\
  TI g.o.segment (dG g.rows g.syn keep) (dG g.rows g.syn keep).length (opS g.o.segment (dG g.rows g.syn keep)) (j+1)/\eX g.o.segment (dG g.rows g.syn keep)=0:=by
 obtain⟨p,p1,p2,p3⟩:=h.log.cut keep;obtain⟨s,a,b,a1,a2,a3,a4,a5⟩:=h.all p p1 p2;have d:=h.ti.crash (by omega) keep
 grind
theorem BU{s:aI}(h:s.boots<1099511627776):bO s dQ=({ s with boots:=s.boots+1 },[],0):=by
 unfold bO;rw[V0 (by decide),V0,V1 (show dQ.kind=1 from rfl)];unfold fB;rw[V1 (show dQ.kind=1 from rfl),nO];decide
theorem xR{o:Opt}(m:fg o=true)(B:o.cfg.cells.toNat<=200){rows:DR}{s:aI}{f:List bI}(d:eU o.cfg j (di rows) s E f)(u:TI o.segment rows rows.length (opS o.segment rows) j)(D:j<=200) :
  ∃A,GI (kv o s rows) (j+2) [fS s dQ] E E rows A (di rows).length 1:=by
 have hb:s.boots<1099511627776:=by have:=d.hs.boots;omega
 have n:=BU hb;have t:(bO s dQ).2.2=0:=by rw[n]
 have v:=u.seg;have w:=Bm (rows:=rows) (s:=opS o.segment rows) (by omega) (sH t);have c:=Rp.bytes_by dQ;have x:=Rp.bytes_len dQ;have l1:=((QV (rows:=rows) o.segment).append (r:=⟨1,dQ.bytes⟩) c w).sync;have l2:=d.rec (r:=dQ) (λe k=>V2 k (by simp[dQ])) t
 have k:ee s dQ=[]:=by grind
 rw[k,Wc]at l2;have C:=d.hs.R.R.ok.boots;have i:1<=o.probes/\o.probes<=1024:=by
  unfold fg at m
  grind
 refine⟨[((du rows (opS o.segment rows) ⟨1,dQ.bytes⟩).seg,⟨1,dQ.bytes⟩)],⟨m,B,?_,l1,λh=>V2 h (by simp[kv]),λp a b=>?_,⟨f,l2.mono (by omega),d.pre⟩,⟨[],by simp,rfl⟩,VE.2 rfl,?_,by simp[kv],?_,?_,rfl⟩⟩
 .exact (u.append (by omega) c (by grind)).sync
 .have y:p=1:=by grind
  subst y;exact⟨_,_,f,l2.mono (by omega),W9,W9,d.pre,VE.2 rfl⟩
 .show (0:Int)<=0/\(0:Int)<=_;omega
 .refine⟨by show (0:Int)<=0/\(0:Int)<=1000000000000;omega,i,by simp[kv],by simp[kv],?_⟩;show aF (bO s dQ).1.boots;rw[n];unfold aF
  grind
 .show (0:Int)<=_;omega
theorem Vn(p:Pb)(a e b c:Int):(fE p a e b c).2.2.boot=p.boot/\(fE p a e b c).2.2.count=p.count:=by
 unfold fE
 grind
theorem BV(f:Fq)(a n x:Int):(jf f a n x).kind≠1/\((jf f a n x).evs=f.evs\/(jf f a n x).evs=[]):=by
 unfold jf
 grind
theorem sR{α:Type}{s:RS}{v:α}{e:Int}(h:okR s v=.error e):e≠0:=by
 grind [okR]
theorem numR_err{s:RS}{e:Int}(h:dZ s=.error e):e≠0:=sR h
theorem M5:∀{n:Nat} {s:RS} {e:Int},jc n s=.error e->e≠0
 | 0,_,_,h=>by cases h
 | n+1,s,e,h=>by
  unfold jc at h
  split at h
  .rename_i a;cases h;exact M5 a
  .split at h
   .rename_i b;cases h;exact sR b
   .cases h
theorem M6:∀{n:Nat} {s:RS} {e:Int},j8 n s=.error e->e≠0
 | 0,_,_,h=>by cases h
 | n+1,s,e,h=>by
  unfold j8 at h
  split at h
  .rename_i a;cases h;exact M6 a
  .split at h
   .rename_i b;cases h;exact sR b
   .cases h
theorem endQ_err{x:Except Int (Fq×RS)}(a:∀e,x=.error e->e≠0){e:Int}(h:endQ x=.error e):e≠0:=by
 unfold endQ at h
 grind
theorem decQ_err{bs:List Int}{e:Int}(h:fJ bs=.error e):e≠0:=by
 unfold fJ at h
 split at h
 .grind
 split at h
 .grind
 unfold nR at h
 split at h
 .grind [pz,numR_err]
 split at h
 .grind [M5]
 refine endQ_err (λe a=>?_) h
 unfold mN at a
 split at a
 .split at a
  .rename_i b
   cases a
   unfold mM at b
   split at b
   .rename_i c;cases b;exact sR c
   grind [M6]
  .cases a
 split at a
 .split at a
  .rename_i b;cases a;exact sR b
  grind [sR]
 .cases a
def sV(g:Gg)(x:Gg×Int):Prop:=∃p,jD p/\p.boot=g.p.boot/\p.count=g.p.count/\((x.1={ g with p:=p }/\x.2≠0)\/∃r:Rp,x=cF { g with p:=p } r/\r.kind≠1/\∀e∈r.evs,aF e.value)
theorem M7(c:jD g.p)(a n:Int)(bs:List Int):sV g (jg g a n bs):=by
 unfold jg
 cases hd:fJ bs with
 | error e=>exact⟨g.p,c,rfl,rfl,.inl ⟨rfl,decQ_err hd⟩⟩
 | ok f=>
  have d:=Mv hd;have key:∀x,∀e∈(jf f a n x).evs,aF e.value:=λx e b=>by
   rcases (BV f a n x).2 with h|h
   .rw [h]at b;exact d e b
   .rw [h]at b;cases b
  show sV g (lW g f a n);unfold lW
  split
  .exact⟨g.p,c,rfl,rfl,.inl ⟨rfl,show (16:Int)≠0 by decide⟩⟩
  split
  .exact⟨g.p,c,rfl,rfl,.inl ⟨rfl,show (10:Int)≠0 by decide⟩⟩
  split
  .have hs:=Vn g.p a f.ep f.bt f.ct
   split
   .rename_i b;exact⟨_,BK c a f.ep f.bt f.ct,hs.1,hs.2,.inl ⟨rfl,b⟩⟩
   .exact⟨_,BK c a f.ep f.bt f.ct,hs.1,hs.2,.inr ⟨_,rfl,(BV f a n _).1,key _⟩⟩
  .exact⟨g.p,c,rfl,rfl,.inr ⟨_,rfl,(BV f a n _).1,key _⟩⟩
theorem Vo(a:jD g.p)(n:Int):sV g (cF g (qR n)):=⟨g.p,a,rfl,rfl,.inr ⟨_,rfl,show (7:Int)≠1 by decide,λe b=>V2 b (by simp[qR])⟩⟩
theorem GI.call(h:GI g j was Ek E R L n0 k)(m:j<=200){x:Gg×Int}(d:sV g x):∃a c,GI x.1 (j+1) (if x.2=0 then was++[x.1.s] else was) Ek a R c n0 k/\x.1.syn=g.syn/\x.1.o=g.o/\(x.2=0->g.rows.length<x.1.rows.length)/\
  (x.2≠0->x.1.s=g.s/\x.1.pend=g.pend/\x.1.rows=g.rows):=by
 obtain⟨p,p1,p2,p3,d⟩:=d;have b:=h.withP p1 (by have:=h.count;omega) p2
 rcases d with ⟨e1,e2⟩|⟨r,rfl,i,f⟩
 .refine⟨E,L,?_,by rw[e1],by rw[e1],λh=>V2 h e2,λ_=>by grind⟩
  rw[V0 e2,e1];exact b.mono
 .by_cases he:(cF { g with p:=p } r).2=0
  .obtain⟨a,c,a1,a2,a3⟩:=b.cmt m f i he;refine⟨a,c,?_,a2,?_,λ_=>a3,λh=>V2 he h⟩
   .rw [V1 he];exact a1
   grind [cF]
  .have e:(cF { g with p:=p } r).1={ g with p:=p }:=by
    unfold cF at he ⊢
    grind
   refine⟨E,L,?_,by rw[e],by rw[e],λh=>V2 h he,λ_=>by grind⟩
   rw[V0 he,e];exact b.mono
theorem uU{s:aI}{now period:Int}{p:Pb}:∀n,(eH s now period p n).1.boot=p.boot
 | 0=>rfl
 | n+1=>by
  rw[eH]
  split
  .exact uU n
  .exact uU n
theorem M8{s:aI}{now period:Int}{p:Pb}(c:0<=p.count/\p.count+64<=1000000000000)(hb:0<=p.boot/\p.boot<=1099511627776):∀n,n<=64->p.count<=(eH s now period p n).1.count/\(eH s now period p n).1.count<=p.count+n/\
  ∀o∈(eH s now period p n).2,o.kind=1/\∃f:Fq,fJ o.bs=.ok f/\f.kind=3/\f.bt=p.boot/\f.ag=o.ag
 | 0,_=>⟨Wd _,by show p.count<=p.count+((0:Nat):Int);omega,λo a=>V2 a (by simp[eH])⟩
 | n+1,hn=>by
  obtain⟨a1,a2,a3⟩:=M8 (s:=s) (now:=now) (period:=period) c hb n (by omega);rw[eH]
  split
  .refine⟨?_,?_,λo a=>?_⟩
   .show _<=(eH s now period p n).1.count+1;omega
   .show (eH s now period p n).1.count+1<=_;omega
   .rcases VR.1 a with a|a
    .grind
    .rw [VE]at a;subst a;refine⟨rfl,_,M1 ?_,rfl,uU n,rfl⟩;have b:=uU (s:=s) (now:=now) (period:=period) (p:=p) n;simp[ff,dT,aV,gV,Fq.nums];omega
  grind
theorem M9{s:aI}{now:Int}(h:(bO s (fq now)).2.2=0):0<=now/\now<=4611686018427387903:=(iF (sH h)).nw
theorem GI.step(h:GI g j was Ek E R L n0 k)(v:j<=200)(now:Int):∃b c,GI (eT g now).1 (j+1) (if (eT g now).2.2=0 then was++[(eT g now).1.s] else was) Ek b R c n0 k/\(eT g now).1.syn=g.syn/\(eT g now).1.o=g.o/\
  ((eT g now).2.2=0->g.rows.length<(eT g now).1.rows.length)/\((eT g now).2.2≠0->(eT g now).1.s=g.s/\(eT g now).1.pend=g.pend/\(eT g now).1.rows=g.rows)/\
  ∀o∈(eT g now).2.1,o.kind=1/\∃f:Fq,fJ o.bs=.ok f/\f.kind=3/\f.bt=g.s.boots/\f.ag=o.ag:=by
 have w:sV g (cF g (fq now)):=⟨g.p,h.prb,rfl,rfl,.inr ⟨_,rfl,show (6:Int)≠1 by decide,λe a=>V2 a (by simp[fq])⟩⟩
 obtain⟨b,c,a1,a2,a3,a4,a5⟩:=h.call v w;have d:=h.count;have ep:(cF g (fq now)).1.p=g.p:=by grind [cF]
 unfold eT
 by_cases a:(cF g (fq now)).2=0
 .rw [V0 (by grind)];have i:=M9 (s:=g.s) (now:=now) (by
   unfold cF at a
   grind)
  have u:=BL (s:=(cF g (fq now)).1.s) (period:=g.o.period) h.prb (by omega) i 64 (VA _);have hb:0<=g.p.boot/\g.p.boot<=1099511627776:=by rw[h.boot];exact h.hs.R.R.ok.boots
  have m:=M8 (s:=(cF g (fq now)).1.s) (now:=now) (period:=g.o.period) ⟨h.prb.count.1,by omega⟩ hb 64 (VA _);refine⟨b,c,?_,a2,a3,λ_=>a4 a,λn=>V2 rfl n,λo t=>?_⟩
  .rw [V1 a]at a1;rw[V1 rfl];exact a1.withP u.1 (by grind) (by grind [uU])
  .have:=m.2.2 o t;rw[h.boot]at this;exact this
 grind
end
structure lq where
 what:Int
 ag:Int
 now:Int
 next:Int
 keep:Int
 a:KQ
 c:Nat
 bs:List Int
abbrev qT(x:lq):Os:=[aC x.what,aC x.ag,aC x.now,aC x.next,aC x.keep,.slice x.a x.bs.length x.c]
theorem qU(x:lq):(qT x).length=6:=rfl
structure GcK(Q:aE)(a:KQ)(xs:List lq):Prop where
 row:KIn Q a (flat qT xs)
 bs:∀x∈xs,KIn Q x.a (x.bs.map U8)
 ok:∀x∈xs,aH x.bs/\aF x.keep
 len:xs.length<=maxLen
theorem GcK.sub{Q Q':aE}{a:KQ}{xs:List lq}(h:GcK Q a xs)(hs:aM Q Q'):GcK Q' a xs:=⟨h.row.sub hs,λx b=>(h.bs x b).sub hs,h.ok,h.len⟩
def grG(o:Opt)(xs:List lq):Bool:=decide (60<xs.length)||grC o.cfg 0||xs.any λx=>decide (3000<x.bs.length)
abbrev jh(s:Sn):Os:=[aC s.bt,aC s.ct]
section
variable {F L:List aE}{H:aD}{K:KE}{Q:aE}{gb db:Nat}{g:Gg}{o:Opt}
abbrev eR(p:Prop)[Decidable p]:Int:=if p then 0 else 11
theorem eR0(p:Prop)[Decidable p]:decide (eR p=0)=decide p:=by
 unfold eR
 by_cases h:p
 .simp [h]
 .simp [h]
theorem R16New{boot most:Int}(h:aA H F)(k:∀p a,aA a F->K (.tuple #[.pointer p,aC (eR ((1<=boot/\boot<=1099511627776)/\1<=most/\most<=1024))]) a):CF 38 #[aC boot,aC most] H K:=by
 refine cM 38 476 ⟨λc=>?_,λc=>?_⟩ <;> simp only[VN,VK,V6,V8]at c
 .rw [eR,nO]at k;exact k _ _ h
 .rw [eR,pO]at k;exact h.al λb _ h=>k _ _ h.tl
theorem R20New{lag:Int}(h:aA H F)(k:∀p a,aA a F->K (.tuple #[.pointer p,aC (eR (1<=lag/\lag<=1099511627776))]) a):CF 86 #[aC lag] H K:=by
 refine cM 86 476 ⟨λc=>?_,λc=>?_⟩ <;> simp only[VN,VK,V6,V8]at c
 .rw [eR,nO]at k;exact k _ _ h
 .rw [eR,pO]at k;exact h.al λb _ h=>k _ _ h.tl
theorem R04Rate{rho:Int}:bV Tryz.prog 187 #[aC rho] H (.bool (decide (0<=rho)&&decide (rho<=100000))):=by
 unfold bV;exact cM 187 28 ⟨rfl,rfl⟩
theorem R18New{rho trust:Int}(h:aA H F)(k:∀p a,aA a F->K (.tuple #[.pointer p,aC (eR (gy rho/\0<=trust/\trust<=100))]) a):CF 87 #[aC rho,aC trust] H K:=by
 refine cM 87 476 ⟨_,R04Rate,λc=>?_,λc=>?_⟩ <;> simp only[VN,VK,VY,Wm,V7,Wl,V6,V8]at c
 .rw [eR,V0 (by unfold gy;omega)]at k;exact k _ _ h
 .rw [eR,V1 (by unfold gy;omega)]at k;exact h.al λb _ h=>k _ _ h.tl
theorem R15New{most:Int}(h:aA H F)(k:∀p a,aA a F->K (.tuple #[.pointer p,aC (eR (1<=most/\most<=64))]) a):CF 88 #[aC most] H K:=by
 refine cM 88 476 ⟨λc=>?_,λc=>?_⟩ <;> simp only[VN,VK,V6,V8]at c
 .rw [eR,nO]at k;exact k _ _ h
 .rw [eR,pO]at k;exact h.al λb _ h=>k _ _ h.tl
theorem R22New{most:Int}(h:aA H F)(k:∀p a,aA a F->K (.tuple #[.pointer p,aC (eR (1<=most/\most<=1024))]) a):CF 89 #[aC most] H K:=by
 refine cM 89 476 ⟨λc=>?_,λc=>?_⟩ <;> simp only[VN,VK,V6,V8]at c
 .rw [eR,nO]at k;exact k _ _ h
 .rw [eR,pO]at k;exact h.al λb _ h=>k _ _ h.tl
theorem R13New{most:Int}(h:aA H F)(k:∀p a,aA a F->K (.tuple #[.pointer p,aC (eR (1<=most/\most<=256))]) a):CF 90 #[aC 0,aC most] H K:=by
 refine cM 90 476 ⟨λc=>?_,λc=>?_⟩ <;> simp only[VN,VK,V6,V8]at c
 .rw [eR,nO]at k;exact k _ _ h
 .rw [eR,pO]at k;exact h.al λb _ h=>k _ _ h.tl
theorem R24Right{c:bD}(h:aA H F)(k:∀a,aA a F->K (.bool (fD c)) a):CF 39 #[.agg ⟨oz c⟩] H K:=by
 refine cM 39 17895708 ?_;refine h.al λb _ h=>⟨_,h.r 0,?_⟩
 refine R20New h λp1 m h=>⟨_,_,rfl,_,h.r 0,_,h.r 0,?_⟩
 refine R18New h λp2 f h=>⟨_,_,rfl,_,h.r 0,?_⟩
 refine R15New h λp3 i h=>⟨_,_,rfl,_,h.r 0,?_⟩
 refine R22New h λp4 j h=>⟨_,_,rfl,_,h.r 0,?_⟩
 refine R13New h λp5 d h=>⟨_,_,rfl,_,_,_,h.q 0,?_⟩
 refine cM 91 28 ?_;refine h.al λb _ h=>⟨_,h.r 0,_,λ_=>h.r 0,_,λ_=>h.r 0,_,λ_=>h.r 0,_,λ_=>h.r 0,_,λ_=>h.r 0,_,rfl,?_⟩
 conv=>whnf
 have e:(((((((((((decide (1<=c.width))&&(decide (c.width<=1099511627776)))&&(decide (0<=c.policy)))&&(decide (c.policy<=3)))&&(decide (0<=c.most)))&&(decide (c.most<=4611686018427387903)))&&decide (eR (1<=c.lag/\c.lag<=1099511627776)=0))&&decide (eR (gy c.rho/\0<=c.trust/\c.trust<=100)=0))&&decide (eR (1<=c.agents/\c.agents<=64)=0))&&decide (eR (1<=c.cells/\c.cells<=1024)=0))&&decide (eR (1<=c.hold/\c.hold<=256)=0))=fD c:=by
  rw[eR0,eR0,eR0,eR0,eR0];unfold fD;rw[Wi];simp only[V7,V6];unfold Gd.ok bD.gd;dsimp only
  constructor
  .rintro⟨⟨⟨⟨⟨⟨⟨⟨⟨⟨h1,h2⟩,h3⟩,h4⟩,h5⟩,h6⟩,h7⟩,h8⟩,h9⟩,h10⟩,h11⟩;exact⟨⟨⟨⟨⟨⟨h1,h2,h3,h4,h5,h6⟩,h7⟩,h8⟩,h9⟩,h10⟩,h11⟩
  .rintro⟨⟨⟨⟨⟨⟨h1,h2,h3,h4,h5,h6⟩,h7⟩,h8⟩,h9⟩,h10⟩,h11⟩;exact⟨⟨⟨⟨⟨⟨⟨⟨⟨⟨h1,h2⟩,h3⟩,h4⟩,h5⟩,h6⟩,h7⟩,h8⟩,h9⟩,h10⟩,h11⟩
 have k:=k _ h.tl.tl;rw[<-e]at k;exact k
theorem R25Right(h:aA H F)(k:∀a,aA a F->K (.bool (fg o)) a):CF 11 #[.agg ⟨jE o⟩] H K:=by
 refine cM 11 284 ?_;refine h.al λb _ h=>⟨_,h.r 0,?_⟩
 refine R16New h λp1 d h=>⟨_,_,rfl,_,_,_,_,_,_,_,_,_,h.q 0,?_⟩
 refine R24Right (c:=o.cfg) h λf h=>⟨_,rfl,_,λ_=>h.r 0,_,λ_=>h.r 0,_,λ_=>h.r 0,_,λ_=>h.r 0,_,λ_=>h.r 0,_,λ_=>h.r 0,?_⟩
 have e:(((((((fD o.cfg&&(decide (1<=o.period)))&&(decide (o.period<=1099511627776)))&&decide (eR (((1:Int)<=1/\(1:Int)<=1099511627776)/\1<=o.probes/\o.probes<=1024)=0))&&(decide (64<=o.segment)))&&(decide (o.segment<=1048576)))&&(decide (1<=o.save)))&&(decide (o.save<=1048576)))=fg o:=by
  rw[eR0];unfold fg;rw[Wi];simp only[V7,V6]
  constructor
  .rintro⟨⟨⟨⟨⟨⟨⟨h1,h2⟩,h3⟩,h4⟩,h5⟩,h6⟩,h7⟩,h8⟩;exact⟨⟨⟨⟨h1,h4.2⟩,h2,h3⟩,h5,h6⟩,h7,h8⟩
  .rintro⟨⟨⟨⟨h1,h2⟩,h3,h4⟩,h5,h6⟩,h7,h8⟩;exact⟨⟨⟨⟨⟨⟨⟨h1,h3⟩,h4⟩,by decide,h2⟩,h5⟩,h6⟩,h7⟩,h8⟩
 have k:=k _ h.tl;rw[<-e]at k;exact k
theorem OfO_spec(h:aA H F)(k:∀a,aA a F->K (.agg ⟨jE o⟩) a):CF 10 #[.agg ⟨jE o⟩] H K:=by
 refine cM 10 28 ?_;refine h.al λb _ h=>?_
 refine h.al λb1 _ h=>⟨_,_,_,_,_,_,_,_,_,h.q 1,_,h.r 1,_,h.r 1,_,h.r 1,_,h.r 1,?_⟩
 refine cM 37 28 ?_;refine h.al λb2 _ h=>?_
 refine h.al λb3 _ h=>⟨_,h.r 1,_,h.r 1,_,h.r 1,_,h.r 1,_,h.r 1,_,h.r 1,_,h.r 1,_,h.r 1,_,h.r 1,?_⟩
 refine h.st 0 rfl rfl λd h=>⟨_,_,_,_,_,_,_,_,_,h.q 0,_,_,_,_,_,_,_,_,_,rfl,h.r 3,h.r 3,h.r 3,h.r 3,?_⟩
 refine h.st 2 rfl rfl λc h=>⟨_,_,_,_,_,_,_,_,_,_,_,_,_,h.q 2,?_⟩
 exact k _ h.tl.tl.tl.tl
theorem Vp{a:KQ}{c:Nat}{xs:List lq}(h:aA H (Q::F))(v:GcK Q a xs)(k:∀m,aA m (Q::F)->K (.bool (grG o xs)) m):CF 8 #[.agg ⟨jE o⟩,.slice a xs.length c] H K:=by
 refine cN 8 0x12283c921562139925b4c [[(5,sI)],[(13,sB)]] ?_;refine h.al λb _ h=>?_
 have t:=v.len;unfold maxLen at t;intro N D;refine⟨_,_,_,_,_,_,_,_,_,λ_=>h.q 0,λC=>?_,λC=>?_⟩
 .refine UV (cf:=o.cfg) (xs:=[]) (a:=none) (c:=0) (h.o [1,0] 2) ⟨λH F _=>iu _ _,λx v=>V2 v (by simp),by simp⟩ λP h=>⟨_,rfl,D _ _ ?_⟩
  have J:grR o.cfg []=grC o.cfg 0:=by simp[grR]
  rw[J];have w:decide (60<xs.length)=false:=Wp (by have:=V5 C;omega);have y:grG o xs=(grC o.cfg 0||xs.any λx=>decide (3000<x.bs.length)):=by unfold grG;rw[w,WY]
  refine⟨λf=>?_,λf=>?_⟩
  .have f:grC o.cfg 0=true:=f;have:grG o xs=true:=by rw[y,f];simp
   rw[this]at k;exact k _ (h.o [0] 2)
  .refine⟨λi m=>∃j:Nat,i=j/\j<=xs.length/\(∀q (u:q<xs.length),q<j->xs[q].bs.length<=3000)/\aA m (Q::cellsA b (jE o) 25::F),λi m=>xs.length-i.toNat,⟨0,rfl,by omega,λq _ h=>V2 h (by omega),h⟩,?_⟩
   rintro i O ⟨j,rfl,R,e,h⟩;refine⟨λB=>?_,λB=>?_⟩
   .have d:j<xs.length:=by simpa using B
    have G:=v.row.at h 0 rfl;refine⟨⟨by omega,by omega⟩,_,_,G.some qU (by decide) d,_,_,_,G.el qU d 5 rfl,λs=>?_,λs=>?_⟩
    .have s:=V4 s;have:grG o xs=true:=by
      rw[y,VN];exact .inr (List.any_eq_true.2 ⟨xs[j],VF d,VS (by omega)⟩)
     rw[this]at k;exact k _ (h.o [0] 2)
    .have s:=V5 s;have E:i64.wrap ((j:Int)+1)=((j+1:Nat):Int):=by rw[aK];omega
     refine⟨⟨j+1,E,d,λq u I=>?_,h⟩,by rw[E];dsimp only;omega⟩
     rcases VV q j with n|n
     .exact e q u n
     .obtain rfl:q=j:=by omega
      omega
   .have M:¬j<xs.length:=by simpa using B
    have:grG o xs=false:=by
     have f:grC o.cfg 0=false:=f;rw[y,f,WY,List.any_eq_false];intro x A;obtain⟨q,u,rfl⟩:=Wu A;have:=e q u (by omega);simp;omega
    rw[this]at k;exact k _ (h.o [0] 2)
 .have:grG o xs=true:=by
   unfold grG;have:decide (60<xs.length)=true:=VS (by have:=V4 (p:=60<(xs.length:Int)) (by simpa using C);omega);rw[this];simp
  rw[this]at k;exact D _ _ ⟨λ_=>k _ h.tl,λL=>V2 L (by simp)⟩
theorem grG_no{xs:List lq}(h:grG o xs=false):xs.length<=60/\grC o.cfg 0=false/\∀x∈xs,x.bs.length<=3000:=by
 unfold grG at h;simp only[VK,V8,List.any_eq_false,V6]at h;exact⟨by omega,h.1.2,λx a=>by have:=h.2 x a;omega⟩
theorem slNo:SlT Tryz.prog 96 101 2 16:=iP (by kernel_rfl)
theorem Vq{pb:Nat}{p:Pb}(x:p.out.length<=100000)(h:aA H (prbA pb p::F))(k:∀a c d,aA d (slA 101 2 a p.out.length c (flat jh p.out)::prbA pb p::F)->K (.slice a p.out.length c) d):CF 83 #[PA pb 0] H K:=by
 obtain⟨a,c,m,h⟩:=mX.1 h;refine cN 83 0x1121561239925144c [[(3,sS),(17,sI)]] ⟨_,_,_,h.r 0,?_⟩;refine h.mk0 slNo (by omega) (by omega) λw B h=>⟨_,_,_,rfl,_,_,_,h.r 1,?_⟩
 refine⟨λla n lc t d=>∃j:Nat,t=j/\j<=p.out.length/\j=n/\aA d (slA 101 2 la j lc (flat jh (p.out.take j))::cellsA pb [aC p.boot,aC p.most,aC p.count,.slice a p.out.length c,.map (some m)] 247::slA 326 5 a p.out.length c (flat gF p.out)::mapA aC aC m p.last::F),
  λ_ _ _ t _=>p.out.length-t.toNat,⟨0,rfl,by omega,rfl,h⟩,?_⟩
 rintro la n lc t y ⟨j,rfl,C,rfl,h⟩;refine⟨λi=>?_,λi=>?_⟩
 .have b:j<p.out.length:=by simpa using i
  have s:=h.sl_rd 2 rfl;refine⟨⟨by omega,by omega⟩,_,_,s.some mW (by decide) b,_,_,_,_,_,s.els mW b,?_⟩;refine h.al λb1 _ h=>?_
  refine h.st 0 rfl rfl λA h=>⟨_,_,h.q 0,?_⟩
  refine h.al λb2 _ h=>?_
  refine h.append (m:=1) (ws:=jh p.out[j]) slNo 2 rfl (h.ce_rd 0 rfl) rfl rfl (by omega) (by omega) λa5 c5 v h=>⟨_,_,_,rfl,?_⟩
  have u:i64.wrap ((j:Int)+1)=((j+1:Nat):Int):=by rw[aK];omega
  have e:flat jh (p.out.take j)++jh p.out[j]=flat jh (p.out.take (j+1)):=by rw[Wj b,dR];simp[flat]
  have h:=h.o [2,3,4,5] 6;rw[e]at h;exact⟨⟨j+1,u,b,rfl,h⟩,by rw[u];dsimp only;omega⟩
 .have f:j=p.out.length:=by
   have:¬j<p.out.length:=by simpa using i
   omega
  subst f;rw[Wf]at h;exact k la lc _ ((mX (pb:=pb)).2 ⟨a,c,m,h.o [1,2,3,0] 4⟩ |> kN)
theorem Vr(h:aA H (gateA Q gb db g::F))(d:g.p.out.length<=100000)(k:∀a c b,aA b (slA 101 2 a g.p.out.length c (flat jh g.p.out)::gateA Q gb db g::F)->K (.slice a g.p.out.length c) b):CF 33 #[PA gb 0] H K:=by
 obtain⟨x,pb,ys,e1,e2,e3,h⟩:=fT.1 h;refine cM 33 28 ⟨some ⟨pb,0,none⟩,(h.r 0).trans (by show some x.pv=_;rw[e1]),?_⟩;refine Vq d (h.o [6,0,1,2,3,4,5] 7) λa c e h=>⟨_,_,_,rfl,k _ _ _ ?_⟩
 exact kN (fT.2 ⟨x,pb,ys,e1,e2,e3,h.o [2,3,4,5,6,7,1,0] 8⟩)
def doG(g:Gg)(x:lq):Gg×Int:=
 if x.what=0 then jg g x.ag x.now x.bs else if x.what=1 then ((eT g x.now).1,(eT g x.now).2.2) else if x.what=2 then cF g (qR x.next) else (g,1)
theorem agent_ep{s:aI}(ok:cR s)(a:Int)(h:(lh s a).2=true):1<=(lh s a).1.en.epoch/\(lh s a).1.en.epoch<=1099511627776:=by
 have f:=ok.rows.at a;unfold lh at h ⊢
 split
 .rename_i d;obtain⟨h0,st,b⟩:=ok.str d;have e:dP s a=some st:=by unfold dP;rw[nO,b];rfl
  rw[e];dsimp only;omega
 .rename_i c;rw[V0 c]at h
  cases h
section
variable {j:Nat}{was:List aI}{Ek E:List bI}{R:DR}{LL:LG}{n0:Int}{kk:Nat}
theorem MB{now:Int}(I:GI g j was Ek E R LL n0 kk)(v:j<=198)(h:aA H (Q::gateA Q gb db g::F))
  (k:∀Q' ys a c d,aM Q Q'->ys.map Oy.o=(eT g now).2.1->(∀y∈ys,fK Q' y)->aA d (Q'::slA 91 11 a ys.length c (flat bH ys)::gateA Q' gb db (eT g now).1::F)->K (.tuple #[.slice a ys.length c,aC (eT g now).2.2]) d) :
  CF 23 #[PA gb 0,aC now] H K:=by
 have m:sV g (cF g (fq now)):=⟨g.p,I.prb,rfl,rfl,.inr ⟨_,rfl,show (6:Int)≠1 by decide,λe b=>V2 b (by simp[fq])⟩⟩
 obtain⟨n,u,a1,a2,a3,a4,a5⟩:=I.call (by omega) m;have f:=I.count;refine Vf (I.ok (by omega)) (a1.ok (by omega)) (by omega) (λb=>M9 (s:=g.s) (now:=now) (by
   unfold cF at b
   split at b
   .exact b
   .rename_i i;exact Decidable.not_not.1 i)) (λa t h=>agent_ep a1.hs.R.R.ok _ h) h k
theorem Do_spec{x:lq}(I:GI g j was Ek E R LL n0 kk)(t:j<=198)(h:aA H (Q::gateA Q gb db g::F))(s:KIn Q x.a (x.bs.map U8))(hb:aH x.bs)(w:x.bs.length<=3000)
  (k:∀Q' m,aM Q Q'->aA m (Q'::gateA Q' gb db (doG g x).1::F)->K (.bool (decide ((doG g x).2=0))) m) :
  CF 14 #[PA gb 0,.agg ⟨qT x⟩] H K:=by
 refine cM 14 318107760663740 ?_;have ok:=I.ok (by omega);unfold doG at k;refine h.al λb _ h=>⟨_,h.r 0,λf=>?_,λf=>?_⟩
 .have f:=V4 f;rw[V1 f]at k;refine⟨_,h.r 0,_,h.r 0,_,_,_,h.r 0,?_⟩;refine Pp h (λH h=>s.at h 1 rfl) (by omega) λv y n h=>⟨_,_,_,rfl,h.r 1,h.r 1,?_⟩
  have i:=h.sl_nc 0 rfl;refine sQ ok (h.o [2,3,0,1] 4) (λH h=>h.sl_rd 0 rfl) hb i λQ' u hs h=>⟨_,rfl,k Q' _ hs (h.o [0,1] 4)⟩
 have f:=V5 f;rw[V0 f]at k;refine⟨λd=>?_,λd=>?_⟩
 .have d:=V4 d;rw[V1 d]at k;refine⟨_,h.r 0,?_⟩;refine MB I t (h.o [1,2,0] 3) λQ' ys a c n hs _ _ h=>⟨_,_,_,_,rfl,k Q' _ hs (h.o [0,2] 4)⟩
 have d:=V5 d;rw[V0 d]at k;refine⟨λe=>?_,λe=>?_⟩
 .have e:=V4 e;rw[V1 e]at k;refine⟨_,h.r 0,?_⟩;exact Mt ok (h.o [1,2,0] 3) λQ' n hs h=>⟨_,rfl,k Q' _ hs (h.o [0,1] 3)⟩
 have e:=V5 e;rw[V0 e]at k;exact k Q _ (aM.refl Q) h.tl
theorem do_calls{x:lq}(I:GI g j was Ek E R LL n0 kk)(c:j<=200):∃b a,GI (doG g x).1 (j+1) (if (doG g x).2=0 then was++[(doG g x).1.s] else was) Ek b R a n0 kk/\(doG g x).1.syn=g.syn/\(doG g x).1.o=g.o/\((doG g x).2=0->g.rows.length<(doG g x).1.rows.length)/\
  ((doG g x).2≠0->(doG g x).1.s=g.s/\(doG g x).1.pend=g.pend/\(doG g x).1.rows=g.rows):=by
 unfold doG
 split
 .exact I.call c (M7 I.prb _ _ _)
 split
 .obtain⟨b,a,a1,a2,a3,a4,a5,_⟩:=I.step c x.now;exact⟨b,a,a1,a2,a3,a4,a5⟩
 split
 .exact I.call c (Vo I.prb _)
 .exact⟨E,LL,by rw[V0 (show ¬(1:Int)=0 by decide)];exact I.mono,rfl,rfl,λh=>V2 h (show ¬(1:Int)=0 by decide),λ_=>⟨rfl,rfl,rfl⟩⟩
theorem xS{rows:DR}{syn:Nat}{s:aI}{t:List bI}(x:fg o=true)(v:o.cfg.cells.toNat<=200)(b:eU o.cfg j (di rows) s E t)(n:TI o.segment rows rows.length (opS o.segment rows) j)(A:eX o.segment rows=0)(J:j<=198)
  (h:aA H (Q::diskX db rows syn::F))
  (k:∀Q' gb ys a c d m s0 X,aM Q Q'->Hs o.cfg m s0 t->m<=j->E=t++X->ys.map Oy.o=iI s0 s0.kept.length++X.flatMap cK->(∀y∈ys,fK Q' y)->aA d (Q'::slA 91 11 a ys.length c (flat bH ys)::gateA Q' gb db (kv o s rows)::F)->
   K (.tuple #[PA gb 0,.slice a ys.length c,aC 0]) d):CF 16 #[PA db 0,.agg ⟨jE o⟩] H K:=by
 have hs:=b.hs;obtain⟨s0,f,m,b,rfl,rfl⟩:=b;have e:=b.h0.R;have I:=b.len;have L:=n.len;have G:=n.seg;have hb:=hs.boots;have D:=hs.R.R.ok.boots;have w:=BU (s:=dH s0 f) (by omega);refine Vg x n.rok (by omega) A (by omega) (n.ok (by omega)) e.R e.cfg (b.tell.imp (λh=>⟨h.1,h.2.1⟩) id) b.vals b.oks (e.few v (by omega)) (λi hi=>?_) (by omega) (by rw[w]) (by rw[w];dsimp only;omega) h λQ' gb ys a c d u hm C h=>k Q' gb ys a c d m s0 (jt s0 f) u b.h0 (by omega) rfl ?_ C h
 .have:=(e.run (rs:=f.take i) λr B=>b.vals r (Ww B)).few v (by rw[VU];omega)
  omega
 .rw [hm,M0,Wf]
theorem Vs(d:fg o=false)(h:aA H F)(k:∀a,aA a F->K (.tuple #[.pointer none,.slice none 0 0,aC 11]) a):CF 16 #[PA db 0,.agg ⟨jE o⟩] H K:=by
 refine cM 16 8194785019629852 ?_;refine h.al λb _ h=>⟨_,_,_,_,_,_,_,_,_,_,_,_,_,h.q 0,?_⟩
 refine Bn (o:=o) h λe h=>⟨_,rfl,λ_=>k _ h.tl,λc=>?_⟩
 rw[d]at c;cases c
theorem opt_seg(a:fg o=true):64<=o.segment/\o.segment<=1048576:=by
 unfold fg at a;simp only[V7,V6]at a;exact a.1.2
theorem MC(a:fg o=true):fD o.cfg=true:=by
 unfold fg at a;simp only[V7]at a;exact a.1.1.1.1
theorem uV(b:fg o=true):TI o.segment [] 0 (opS o.segment []) 0/\eX o.segment []=0:=by
 have h:=opt_seg b;have a:eX o.segment []=0:=openE_in h (by rw[wE.2.2];decide);exact⟨ti0 a,a⟩
theorem xT(a:fg o=true):eU o.cfg 0 (di []) (bU o.cfg) [] []:=by
 rw[wE.2.1];exact eU.new (MC a)
theorem Vt(d:o.cfg.cells.toNat<=200\/fg o=false)(h:aA H (Q::F))(k1:fg o=false->∀e,aA e (Q::F)->K (.tuple #[.pointer none,.pointer none]) e)
  (k2:fg o=true->∀Q' gb db e,aM Q Q'->aA e (Q'::gateA Q' gb db (kv o (bU o.cfg) [])::F)->K (.tuple #[PA gb 0,PA db 0]) e):CF 9 #[.agg ⟨jE o⟩] H K:=by
 refine cM 9 1167836 ?_;refine h.al λb _ h=>?_
 refine New_spec h λdb k h=>⟨_,rfl,λf=>V2 f (by simp),λ_=>⟨_,_,_,_,_,_,_,_,_,_,_,_,_,h.q 1,?_⟩⟩
 cases ho:fg o with
 | false=>exact Vs ho (h.o [2] 3) λi h=>⟨_,_,_,_,_,rfl,λ_=>k1 ho _ h,λf=>V2 f (by simp)⟩
 | true=>
  have d:o.cfg.cells.toNat<=200:=by
   rcases d with d|d
   .exact d
   .rw [ho]at d;cases d
  obtain⟨t1,t2⟩:=uV ho;refine xS (j:=0) ho d (xT ho) t1 t2 (by omega) (h.o [2,0,1] 3) λQ' gb ys a c i m s0 X hs _ _ _ _ _ h=>⟨_,_,_,_,_,rfl,λf=>V2 f (by simp),λ_=>?_⟩
  exact k2 ho Q' gb db _ hs (h.o [0,2] 4)
end
end
abbrev encI3(x:I3):Os:=[aC x.a,aC x.e,aC x.n]
abbrev kI3(x:I3):Value:=.agg ⟨encI3 x⟩
theorem koI3:mj Tryz.prog 85 kI3:=ES Tryz.underlying85 (λx y h=>by
  cases x;cases y;simp only[List.cons.injEq,Value.int.injEq,and_true,true_and]at h;rw[h.1,h.2.1,h.2.2])
 (λx y=>by
  have h:qm Tryz.prog 85 (encI3 x) (encI3 y)=some (x.a == y.a&&(x.e == y.e&&(x.n == y.n&&true))):=by kernel_rfl
  rw[h];congr 1;rw[Wi];simp only[Bool.and_true,V7,beq_iff_eq,V6]
  cases x;cases y
  simp)
 (λx=>by kernel_rfl) (λx n=>by
  unfold Instr.sameBits;simp[Instr.sameBits])
def Oy.z:Oy:=⟨{ kind:=0 },none,0⟩
abbrev vOy(y:Oy):Value:=.agg ⟨bH y⟩
abbrev vSb(bs:List Int):Value:=.string (bF bs)
theorem mtOy:kA Tryz.prog 64 85 91 vOy Oy.z:=og Tryz.underlying64 (by kernel_rfl)
theorem mtSb:kA Tryz.prog 65 2 9 vSb []:=og Tryz.underlying65 (by kernel_rfl)
theorem neq87{a b c d:Int}:gZ Tryz.prog .neq 87 (.agg ⟨[aC a,aC b]⟩) (.agg ⟨[aC c,aC d]⟩) (!(a == c&&(b == d&&true))):=(qn (by kernel_rfl)).2
theorem neq89{a b c d:Int}:gZ Tryz.prog .neq 89 (.agg ⟨[aC a,aC b]⟩) (.agg ⟨[aC c,aC d]⟩) (!(a == c&&(b == d&&true))):=(qn (by kernel_rfl)).2
abbrev plV(v:List (I3×Oy)):List (I3×Ou):=v.map λp=>(p.1,p.2.o)
theorem BW(k:I3):∀v,aJ k (plV v)=(aJ k v).map Oy.o
 | []=>rfl
 | p::v=>by
  have a:=BW k v;simp only[plV,Wa,aJ]at a ⊢
  split
  .rfl
  .exact a
theorem plV_set(k:I3)(y:Oy)(v:List (I3×Oy)):plV (mset k y v)=mset k y.o (plV v):=by
 unfold plV mset bT;rw[Wa,List.filter_map];rfl
def hrdA(hb:Nat)(h:HM):aE:=exS λx:Nat×Nat×List (I3×Oy)=>star [pur (plV x.2.2=h.v/\∀p∈h.e,aH p.2),cellsA hb [.map (some x.1),.map (some x.2.1)] 67,mapA kI3 vOy x.1 x.2.2,mapA aC vSb x.2.1 h.e]
theorem MD{H:aD}{a:KQ}{c:Nat}{bs:List Int}(b:aP H a (bs.map U8)):dj Tryz.prog (convert 43 9 (.slice a bs.length c)) H (.string (bF bs)):=by
 cases hb:bs with
 | cons x r=>
  have d:a=some ⟨aU a,aS a,none⟩:=(b 0 (U8 x) (by rw[hb];rfl)).1;rw[<-hb];exact oX (.inr ⟨_,_,d⟩) b
 | nil=>
  subst hb
  cases a with
  | none=>exact oX (.inl rfl) b
  | some ad=>
   intro w e;have h0:(loadCells ad 0).run Tryz.prog w=.ok #[] w:=rfl;rw[run_convert_bytes_string w 43 9 5 _ _ _ (by kernel_rfl) (by kernel_rfl) (by kernel_rfl)];simp[Conv.bytesToString,h0];rfl
theorem Vu{κ α:Type}[DecidableEq κ]{k:κ}{v:α}{m:List (κ×α)}{x:κ×α}(h:x∈mset k v m):x=(k,v)\/x∈m:=by
 unfold mset at h
 rcases VJ.1 h with h|h
 .exact .inl h
 .exact .inr (WA.1 h).1
section
variable {F L:List aE}{H:aD}{K:KE}{Q:aE}{hb:Nat}{hm:HM}
theorem sW:aA H (hrdA hb hm::F)↔∃m1 m2 v,plV v=hm.v/\(∀p∈hm.e,aH p.2)/\aA H (cellsA hb [.map (some m1),.map (some m2)] 67::mapA kI3 vOy m1 v::mapA aC vSb m2 hm.e::F):=by
 unfold hrdA;rw[cJ]
 constructor
 .rintro⟨x,h⟩;obtain⟨a,h⟩:=vH.1 (aA.open h);exact⟨x.1,x.2.1,x.2.2,a.1,a.2,h⟩
 .rintro⟨m1,m2,v,h1,h2,h⟩;exact⟨⟨m1,m2,v⟩,aA.shut [_,_,_,_] (h.pur ⟨h1,h2⟩)⟩
theorem xU{ys:List Oy}{a:KQ}{c:Nat}(V:HOk hm (ys.map Oy.o))(hy:∀y∈ys,fK Q y/\aH y.o.bs)(hl:ys.length<=1000000)(h:aA H (Q::hrdA hb hm::F))(ha:∀H,aA H F->aP H a (flat bH ys))
  (k:∀Q' t,aM Q Q'->aA t (Q'::hrdA hb (fh hm (ys.map Oy.o) ys.length)::F)->K (.bool true) t):CF 24 #[PA hb 0,.slice a ys.length c] H K:=by
 refine cN 24 0x121562139925115171d4171d4171d15621399251b494c [[(13,sI)],[],[],[],[(5,sI)]] ⟨λi t=>∃(j:Nat) (Q':aE),i=j/\j<=ys.length/\aM Q Q'/\aA t (Q'::hrdA hb (fh hm (ys.map Oy.o) j)::F),λi _=>ys.length-i.toNat,⟨0,Q,rfl,by omega,aM.refl Q,h⟩,?_⟩
 rintro i H1 ⟨j,G,rfl,hj,C,h⟩;refine⟨λb=>?_,λb=>?_⟩
 case refine_2=>
  have P:j=ys.length:=by
   have:=V5 b;omega
  subst P;exact k G _ C h
 have m:j<ys.length:=by simpa using b
 have Y:=ha _ h.tl.tl;have hw:i64.wrap ((j:Int)+1)=((j+1:Nat):Int):=by rw[aK];omega
 have u:=V j (by rw[VH];exact m);rw[Wx]at u;refine⟨⟨by omega,by omega⟩,_,_,Y.some jB (by decide) m,_,_,_,_,_,_,_,_,_,_,_,_,_,Y.els jB m,?_⟩;refine h.al λb1 _ h=>?_
 refine h.st 0 rfl rfl λH2 h=>⟨_,h.r 0,?_⟩
 have s:=hy ys[j] (VF m);have T:fh hm (ys.map Oy.o) (j+1)=oH (fh hm (ys.map Oy.o) j) ys[j].o:=by rw[fh,List.getElem?_eq_getElem (by rw[VH];exact m),Wx]
 have h:aA H2 (cellsA b1 (bH ys[j]) 91::G::hrdA hb (fh hm (ys.map Oy.o) j)::F):=h;obtain⟨y,ey⟩:∃y,ys[j]=y:=⟨_,rfl⟩;obtain⟨g,eg⟩:∃g,fh hm (ys.map Oy.o) j=g:=⟨_,rfl⟩;rw[ey]at h u s T ⊢;rw[eg]at h u T;intro Jn hJ;have next:∀Q' t,aM G Q'->aA t (Q'::hrdA hb (oH g y.o)::F)->Jn t:=λQ' t hs h=>
  hJ _ ⟨⟨j+1,Q',hw,m,C.trans hs,by rw[T];exact h⟩,by rw[hw];dsimp only;omega⟩
 obtain⟨m1,m2,v,e1,e2,h⟩:=sW.1 (h.o [2,0,1] 3);have N:=s.1.sub C;refine⟨λA=>?_,λA=>?_⟩
 .have A:=V4 A;have u:=u.1 A;refine⟨_,h.r 0,_,_,_,h.q 3,_,_,_,_,_,_,_,_,_,_,_,_,_,_,h.mp_get mtOy koI3 1 rfl (x:=y.o.id),?_⟩;refine h.al λb2 _ h=>⟨h.mp_get mtOy koI3 2 rfl (x:=y.o.id),h.q 4,h.r 1,?_⟩
  refine h.st 0 rfl rfl λH3 h=>⟨_,_,λ_=>h.q 0,_,_,λ_=>h.q 4,_,λ_=>neq87,_,_,λ_=>h.q 0,_,_,λ_=>h.q 4,_,λ_=>neq89,λb=>?_,λ_=>?_⟩
  .exfalso
   cases hmv:aJ y.o.id v with
   | none=>rw[hmv]at b;simp at b
   | some w=>
    have:=u w.o (by rw[<-e1,BW,hmv];rfl);rw[hmv]at b;simp[this]at b
  refine⟨_,h.r 1,_,_,_,h.q 4,_,_,_,_,_,_,_,_,_,_,_,_,_,h.q 4,?_⟩;refine h.mp_update (x:=y.o.id) (v:=y) mtOy koI3 2 rfl λZ h=>?_
  have en:oH g y.o={ g with v:=mset y.o.id y.o g.v }:=by unfold oH;rw[V1 A]
  refine next G _ (aM.refl _) ?_;rw[en];exact kN (sW.2 ⟨m1,m2,mset y.o.id y v,by rw[plV_set,e1],e2,h.o [1,2,3,5] 6⟩)
 have A:=V5 A;intro h2 D;refine⟨λd=>?_,λd=>?_⟩
 .have d:=V4 d;have u:=u.2.1 d;have J:=N.kin.at h 4 rfl;refine⟨_,h.r 0,_,h.r 3,_,_,h.mp_get mtSb Ro.ko2 2 rfl (x:=y.o.num),_,_,_,λ_=>h.r 3,_,λ_=>MD J,λb=>?_,λ_=>?_⟩
  .exfalso
   cases hmv:aJ y.o.num g.e with
   | none=>rw[hmv]at b;simp at b
   | some w=>
    have:=u w hmv;rw[hmv]at b;simp[this]at b
  refine⟨_,h.r 0,_,h.r 3,_,_,_,h.r 3,_,MD J,?_⟩;refine h.mp_update (x:=y.o.num) (v:=y.o.bs) mtSb Ro.ko2 2 rfl λZ h=>D _ ?_
  have en:oH g y.o={ g with e:=mset y.o.num y.o.bs g.e }:=by unfold oH;rw[V0 A,V1 d]
  refine next G _ (aM.refl _) ?_;rw[en];refine kN (sW.2 ⟨m1,m2,v,e1,λp R=>?_,h.o [0,1,2,4] 5⟩)
  rcases Vu R with rfl|R
  .exact s.2
  .exact e2 p R
 have d:=V5 d;have en:oH g y.o=g:=by unfold oH;rw[V0 A,V0 d]
 rw[en]at next;intro h4 O;refine⟨λB=>?_,λB=>?_⟩
 .have B:=V4 B;obtain⟨f,hf,S,M⟩:=u.2.2 B;refine⟨_,_,_,h.r 3,?_⟩;refine Bf (h.o [4,0,1,2,3] 5) (λH h=>N.kin.at h 0 rfl) s.2 s.1.cap ?_
  rw[hf];intro U x evs Z W h3 h5 h0 h;refine⟨_,_,_,_,_,_,_,_,_,_,_,_,_,_,_,_,_,_,_,_,_,rfl,?_⟩;refine h.al λb3 _ h=>?_
  refine h.st 0 rfl rfl λH5 h=>⟨_,λ_=>h.r 0,_,λ_=>h.r 6,λb=>?_,λ_=>?_⟩
  .exfalso;simp[S]at b
  have h:aA H5 (cellsA b3 (cG f x) 81::U::slA 99 4 x.ea evs.length x.ec (flat cw evs)::cellsA hb [.map (some m1),.map (some m2)] 67::mapA kI3 vOy m1 v::mapA aC vSb m2 g.e::cellsA b1 (bH y) 91::F):=h;have h:=h.o [0,1,3,4,5] 7;refine⟨λn t=>∃q:Nat,n=q/\q<=10000/\aA t (cellsA b3 (cG f x) 81::U::cellsA hb [.map (some m1),.map (some m2)] 67::mapA kI3 vOy m1 v::mapA aC vSb m2 g.e::F),λn _=>10000-n.toNat,⟨0,rfl,by omega,h⟩,?_⟩
  rintro n H6 ⟨q,rfl,hq,h⟩;refine⟨_,h.r 0,_,λ_=>h.r 0,λb=>?_,λb=>?_⟩
  .simp only[V7,V6]at b;obtain⟨w,E⟩:=M b.1.1 q (by omega) b.1.2 b.2;have L:i64.wrap ((q:Int)+1)=((q+1:Nat):Int):=by rw[aK];omega
   rw[<-e1,BW]at E;refine⟨_,h.r 2,_,h.r 0,_,h.r 0,_,_,_,_,_,_,_,_,_,_,_,_,_,_,h.mp_get mtOy koI3 3 rfl (x:=⟨f.ag,f.ep,q⟩),?_⟩;refine h.al λb4 _ h=>⟨h.mp_get mtOy koI3 4 rfl (x:=⟨f.ag,f.ep,q⟩),h.r 1,h.r 1,h.r 3,?_⟩
   refine h.st 0 rfl rfl λH7 h=>⟨λI=>?_,λ_=>?_⟩
   .exfalso
    cases hmv:aJ (⟨f.ag,f.ep,q⟩:I3) v with
    | none=>rw[hmv]at E;cases E
    | some w2=>rw[hmv]at I;simp at I
   .exact⟨⟨q+1,L,by omega,h.tl⟩,by rw[L];dsimp only;omega⟩
  .exact O _ (D _ (next U _ W (kN (sW.2 ⟨m1,m2,v,e1,e2,h.o [2,3,4,1] 5⟩))))
 .exact O _ (D _ (next G _ (aM.refl _) (kN (sW.2 ⟨m1,m2,v,e1,e2,h.o [0,1,2,4] 5⟩))))
theorem Vv{m1 m2:Nat}(h:aA H (cellsA hb [.map (some m1),.map (some m2)] 67::mapA kI3 vOy m1 []::mapA aC vSb m2 []::F)):aA H (hrdA hb ⟨[],[]⟩::F):=
 sW.2 ⟨m1,m2,[],rfl,λp a=>V2 a (by simp),h⟩
end
namespace Ag
def o0:Opt:=⟨Al.c0,20,8,256,5⟩
def f1:Fq:={ kind:=1,ag:=3,bt:=1 }
def f2:Fq:={ kind:=4,ag:=3,ep:=1,bt:=1,got:=12,sent:=12 }
def ev:Pv:=⟨13,5,⟨#[109]⟩,[]⟩
def f3:Fq:={ kind:=5,ag:=3,ep:=1,evs:=[ev] }
def g0:Gg:=kv o0 (bU Al.c0) []
def A1:Gg×Int:=jg g0 3 10 (cA f1)
def g2:Gg:=iH A1.1
def A3:Gg×List Ou×Int:=eT g2 12
def A4:Gg×Int:=jg A3.1 3 14 (cA f2)
def A5:Gg×Int:=jg A4.1 3 14 (cA f2)
def A6:Gg×Int:=jg A5.1 3 16 (cA f3)
def g7:Gg:=iH A6.1
def rows8:DR:=dG g7.rows g7.syn 0
def g8:Gg:=kv o0 g7.s rows8
def A9:Gg×Int:=jg g8 3 20 (cA f2)
theorem e1:A1.2=0:=by kernel_rfl
theorem e2:A1.1.pend.length=1:=by kernel_rfl
theorem e3:A3.2.2=0:=by kernel_rfl
theorem e4:A3.2.1=[gY (dT 3 1 0)]:=by kernel_rfl
theorem e5:A3.1.p.out=[⟨1,0,3,1,12⟩]:=by kernel_rfl
theorem e6:A4.2=0:=by kernel_rfl
theorem e7:A5.2=19:=by kernel_rfl
theorem e8:A6.2=0:=by kernel_rfl
theorem e9:A6.1.pend.length=2:=by kernel_rfl
theorem e10:A1.1.pend.map (λo=>(o.kind,o.ag))=[(1,3)]:=by kernel_rfl
theorem e11:A6.1.pend.map (λo=>(o.kind,o.win))=[(2,1),(1,0)]:=by kernel_rfl
theorem e12:g7.s.boots=1:=by kernel_rfl
theorem e13:g8.s.boots=2:=by kernel_rfl
theorem e14:g8.s.now=16:=by kernel_rfl
theorem e15:A9.2=22:=by kernel_rfl
theorem e16:(cF A9.1 (qR 1)).2=11:=by kernel_rfl
theorem e17:fg o0=true:=by kernel_rfl
theorem e18:fJ (gY (dT 3 1 0)).bs=.ok (dT 3 1 0):=M1 (a:=3) (e:=1) (b:=0) (by kernel_rfl)
def rs8:List Rp:=[dQ,jf f1 3 10 0,fq 12,jf f2 3 14 12,jf f3 3 16 0]
theorem e19:dw (di rows8)=(none,rs8.map rcO):=by kernel_rfl
theorem e20:dH (bU Al.c0) rs8=g7.s:=by kernel_rfl
def okG(ap:aI->Rp->aI×List bI×Int)(s:aI):List Rp->Bool
 | []=>true
 | r::rs=>decide ((ap s r).2.2=0)&&okG ap (ap s r).1 rs
theorem okG_at(ap:aI->Rp->aI×List bI×Int){rs:List Rp}:∀{s:aI},okG ap s rs=true->∀j (a:j<rs.length),(ap ((rs.take j).foldl (λs r=>(ap s r).1) s) rs[j]).2.2=0:=by
 induction rs with
 | nil=>intro s _ j a;exact V2 a (by simp)
 | cons r rs ih=>
  intro s h j a;rw[okG,V7]at h
  cases j with
  | zero=>exact V4 h.1
  | succ j=>exact ih h.2 j (by simpa using a)
theorem e21:okG bO (bU Al.c0) rs8=true:=by kernel_rfl
theorem e22:((jt (bU Al.c0) rs8).flatMap cK).length=3:=by kernel_rfl
theorem vals:∀r∈rs8,∀e∈r.evs,aF e.value:=by
 intro r b e a;have:∀r∈rs8,r.evs=[]\/r.evs=[ev]:=by
  intro r b;simp only[rs8,VJ,W8,or_false]at b
  rcases b with rfl|rfl|rfl|rfl|rfl
  .exact .inl rfl
  .exact .inl rfl
  .exact .inl rfl
  .exact .inl rfl
  .exact .inr rfl
 rcases this r b with h|h
 .rw [h]at a;cases a
 .rw [h,VE]at a;subst a;decide
theorem leads8:eU o0.cfg 5 (di rows8) g7.s (jt (bU Al.c0) rs8) []:=
 ⟨bU Al.c0,rs8,0,⟨Hs.new (by kernel_rfl),VA _,.inl ⟨e19,rfl,rfl⟩,vals,okG_at bO e21⟩,e20.symm,rfl⟩
abbrev Ig(g:Gg)(j:Nat):Prop:=∃was Ek E R L n0 k,GI g j was Ek E R L n0 k
theorem Ig.call{g:Gg}{j:Nat}(h:Ig g j)(c:j<=200)(a n:Int)(bs:List Int):Ig (jg g a n bs).1 (j+1):=by
 obtain⟨was,Ek,E,R,L,n0,k,h⟩:=h;obtain⟨d,e,b,_⟩:=h.call c (M7 h.prb a n bs);exact⟨_,_,_,_,_,_,_,b⟩
theorem Ig.sync{g:Gg}{j:Nat}(h:Ig g j)(c:j<=200):Ig (iH g) (j+3):=by
 obtain⟨was,Ek,E,R,L,n0,k,h⟩:=h;obtain⟨e,f,a,d,b,_⟩:=h.sync c;exact⟨_,_,_,_,_,_,_,b⟩
theorem Ig.step{g:Gg}{j:Nat}(h:Ig g j)(b:j<=200)(n:Int):Ig (eT g n).1 (j+1):=by
 obtain⟨was,Ek,E,R,L,n0,k,h⟩:=h;obtain⟨d,c,a,_⟩:=h.step b n;exact⟨_,_,_,_,_,_,_,a⟩
theorem i0:Ig g0 2:=by
 obtain⟨a,h⟩:=xR e17 (by decide) (xT e17) (uV e17).1 (by omega);exact⟨_,_,_,_,_,_,_,h⟩
theorem i1:Ig A1.1 3:=i0.call (by omega) _ _ _
theorem i2:Ig g2 6:=i1.sync (by omega)
theorem i3:Ig A3.1 7:=i2.step (by omega) _
theorem i4:Ig A4.1 8:=i3.call (by omega) _ _ _
theorem i5:Ig A5.1 9:=i4.call (by omega) _ _ _
theorem i6:Ig A6.1 10:=i5.call (by omega) _ _ _
theorem i7:Ig g7 13:=i6.sync (by omega)
theorem o7:g7.o=o0:=by kernel_rfl
theorem t8:TI o0.segment rows8 rows8.length (opS o0.segment rows8) 14/\eX o0.segment rows8=0:=by
 obtain⟨was,Ek,E,R,L,n0,k,h⟩:=i7;obtain⟨_,_,_,_,_,_,_,_,b,a⟩:=h.crash (by omega) 0;rw[o7]at b a;exact⟨b,a⟩
theorem i8:Ig g8 16:=by
 obtain⟨a,h⟩:=xR e17 (by decide) (leads8.mono (by omega)) t8.1 (by omega);exact⟨_,_,_,_,_,_,_,h⟩
theorem i9:Ig A9.1 17:=i8.call (by omega) _ _ _
theorem Ig.ok{g:Gg}{j:Nat}(h:Ig g j)(a:j<=200):GgOk g/\∀r∈g.rows,r.1<=g.rl.seg:=by
 obtain⟨was,Ek,E,R,L,n0,k,h⟩:=h;exact⟨h.ok a,h.ti.files⟩
end Ag
section
variable {F L:List aE}{H:aD}{K:KE}{Q:aE}
theorem BX(h:aA H F)(k:∀a,aA a F->K (.agg ⟨jE Ag.o0⟩) a):CF 31 #[] H K:=by
 refine cM 31 28 ?_;refine h.al λb _ h=>?_
 refine UX h λc h=>⟨_,_,_,_,_,_,_,_,_,rfl,?_⟩
 refine h.st 0 rfl rfl λd h=>⟨_,_,_,_,_,_,_,_,_,_,_,_,_,h.q 0,k _ h.tl⟩
theorem BZ{f:Fq}{x:QA}{evs:List Ev}(h:aA H F)(r:lQ F f x evs)(k:∀a c d,aA d (slA 5 1 a (cA f).length c ((cA f).map U8)::F)->K (.slice a (cA f).length c) d) :
  CF 32 #[.agg ⟨cG f x⟩] H K:=by
 refine cM 32 284 ?_;refine h.al λb _ h=>⟨_,_,_,_,_,_,_,_,_,_,_,_,_,_,_,_,_,_,_,_,h.q 0,?_⟩
 refine AK h (r.cons _) λa c e h=>⟨_,_,_,_,rfl,k _ _ _ (h.o [0] 2)⟩
theorem f1_bare:Ag.f1.Bare:=⟨show (1:Int)≠5 by decide,show (1:Int)≠8 by decide,rfl,rfl,rfl,rfl,λi b a h=>by
 rcases nine b a with rfl|rfl|rfl|rfl|rfl|rfl|rfl|rfl|rfl <;> first|rfl|exact V2 (show _∈aV 1 by decide) h⟩
theorem f2_bare:Ag.f2.Bare:=⟨show (4:Int)≠5 by decide,show (4:Int)≠8 by decide,rfl,rfl,rfl,rfl,λi b a h=>by
 rcases nine b a with rfl|rfl|rfl|rfl|rfl|rfl|rfl|rfl|rfl <;> first|rfl|exact V2 (show _∈aV 4 by decide) h⟩
def evE:Ev:=⟨13,5,⟨#[109]⟩,[],none,0⟩
theorem f3_rd{b:Nat}(i:Nat)(d:aW i F=cellsA b (cw evE) 99):lQ F Ag.f3 { ea:=some ⟨b,0,none⟩,ec:=1 } [evE]:=by
 refine⟨rfl,⟨λH h=>h.ce_rd i (cs:=cw evE) d,λe a H _=>?_⟩,λH _=>iu H none,λH _=>iu H none,.inl rfl,⟨λh=>V2 rfl h,λ_=>⟨rfl,rfl,rfl,rfl,rfl,rfl,rfl⟩,λi f c h=>?_⟩,by simp,λe a=>?_,by simp[Ag.f3],by simp[Ag.f3]⟩
 .rw [VE]at a;subst a;exact iu H none
 .rcases nine f c with rfl|rfl|rfl|rfl|rfl|rfl|rfl|rfl|rfl <;> first|rfl|exact V2 (show _∈aV 5 by decide) h
 .rw [VE]at a;subst a;simp[evE]
theorem nW(f:Fq):aH (cA f):=by
 unfold cA
 split
 .exact kD
 split
 .exact kD
 refine G7 (dD (dD (iE _) (jy λi _=>iE _)) ?_)
 unfold mL
 split
 .exact dD (iE _) (jy λe _=>wW e)
 split
 .exact dD (Aq _ _) (qu _)
 .exact kD
theorem eq101{a b c d:Int}:gZ Tryz.prog .eql 101 (.agg ⟨[aC a,aC b]⟩) (.agg ⟨[aC c,aC d]⟩) (a == c&&(b == d&&true)):=(qn (by kernel_rfl)).1
theorem GSyI{gb db j:Nat}{g:Gg}{now:Int}(I:Ag.Ig g j)(d:j<=198)(h:aA H (Q::gateA Q gb db g::F))
  (k:∀Q' ys a c b,aM Q Q'->ys.map Oy.o=(eT g now).2.1->(∀y∈ys,fK Q' y)->aA b (Q'::slA 91 11 a ys.length c (flat bH ys)::gateA Q' gb db (eT g now).1::F)->K (.tuple #[.slice a ys.length c,aC (eT g now).2.2]) b) :
  CF 23 #[PA gb 0,aC now] H K:=by
 obtain⟨was,Ek,E,R,L,n0,kk,I⟩:=I;exact MB I d h k
theorem Vw(h:aA H (Q::F))(k:∀Q' H',aM Q Q'->aA H' (Q'::F)->K (.bool true) H'):CF 7 #[] H K:=by
 refine cN 7 0x11d1d11111d1111111111d1d11289 [[(0,sB)]] ?_;have C:=Ag.e17;have hf:Ag.o0.cfg.cells.toNat<=200:=by decide
 refine New_spec h λdb H1 h=>⟨_,rfl,λt=>V2 t (by simp),λ_=>?_⟩
 refine BX h λH2 h=>⟨_,_,_,_,_,_,_,_,_,_,_,_,_,rfl,?_⟩
 refine xS (j:=0) (o:=Ag.o0) C hf (xT C) (uV C).1 (uV C).2 (by omega) (h.o [1,0] 2) λQ1 gb ys a c H3 m s0 X l6 I _ O hm _ h=>⟨_,_,_,_,_,rfl,λt=>?_,λ_=>?_⟩
 .exfalso;have hl:ys.length=0:=by
   have O:X=[]:=by simpa using O
   have hk:=I.num.len;have h0:=I.sunk;rw[<-VH (f:=Oy.o),hm,O,V3,uS];simp only[emO,List.filter_nil,Yh,VW,List.flatMap_nil]at hk ⊢;omega
  simp[hl]at t
 have h:aA H3 (Q1::slA 91 11 a ys.length c (flat bH ys)::gateA Q1 gb db Ag.g0::F):=h;have h:=h.o [0,2] 3;refine BZ (f:=Ag.f1) (x:={}) h (f1_bare.rd _) λa1 c1 H4 h=>⟨_,_,_,rfl,?_⟩
 have T:=h.sl_nc 0 rfl;refine sQ (Ag.i0.ok (by omega)).1 (h.o [1,2,0] 3) (λH h=>h.sl_rd 0 rfl) (nW _) T λU H5 h5 h=>⟨_,rfl,?_⟩
 have h:aA H5 (U::gateA U gb db Ag.A1.1::F):=h.o [0,1] 3;refine⟨_,Va (h.o [1,0] 2),?_⟩;refine xP (Ag.i1.ok (by omega)).1 (Ag.i1.ok (by omega)).2 h λb a2 c2 H6 P hy2 h=>⟨_,_,_,rfl,?_⟩
 have h:aA H6 (U::slA 91 11 a2 b.length c2 (flat bH b)::gateA U gb db Ag.g2::F):=h;refine GSyI Ag.i2 (by omega) (h.o [0,2,1] 3) λQ3 i a3 c3 H7 hs3 v W h=>⟨_,_,_,_,rfl,?_⟩
 have h:aA H7 (Q3::slA 91 11 a3 i.length c3 (flat bH i)::gateA Q3 gb db Ag.A3.1::slA 91 11 a2 b.length c2 (flat bH b)::F):=h;refine Vr (h.o [2,0,1,3] 4) (by rw[Ag.e5];decide) λa4 c4 H8 h=>⟨_,_,_,rfl,?_⟩
 have l5:b.length=1:=by rw[<-VH (f:=Oy.o),P,Ag.e2]
 have v:i.map Oy.o=[gY (dT 3 1 0)]:=v.trans Ag.e4;have r0:i.length=1:=by rw[<-VH (f:=Oy.o),v];rfl
 have h8:Ag.A3.1.p.out.length=1:=by rw[Ag.e5];rfl
 refine⟨λt=>?_,λ_=>?_⟩
 .exfalso;simp[l5,r0,h8]at t
 have E:=h.sl_rd 3 rfl;have S:(i[0]'(by omega)).o=gY (dT 3 1 0):=by
  have:(i.map Oy.o)[0]'(by rw[VH];omega)=(i[0]'(by omega)).o:=Wx ..;rw[<-this];simp[v]
 have J:=W (i[0]'(by omega)) (VF _);refine⟨⟨by omega,by omega⟩,_,_,E.some jB (by decide) (k:=0) (by omega),_,_,_,E.el jB (k:=0) (by omega) 10 rfl,?_⟩;refine Bf (h.o [2,0,1,3,4] 5) (λH h=>J.kin.at h 0 rfl) (by rw[S];exact nW (dT 3 1 0)) J.cap ?_
 rw[S,Ag.e18];intro Q4 x evs H9 G hev hkl hsh h;refine⟨_,_,_,_,_,_,_,_,_,_,_,_,_,_,_,_,_,_,_,_,_,rfl,?_⟩;refine h.al λb1 _ h=>?_
 refine h.st 0 rfl rfl λj3 h=>⟨_,h.r 0,_,h.r 0,?_⟩
 have h:aA j3 (cellsA b1 (cG (dT 3 1 0) x) 81::Q4::slA 99 4 x.ea evs.length x.ec (flat cw evs)::slA 101 2 a4 Ag.A3.1.p.out.length c4 (flat jh Ag.A3.1.p.out)::gateA Q3 gb db Ag.A3.1::slA 91 11 a3 i.length c3 (flat bH i)::slA 91 11 a2 b.length c2 (flat bH b)::F):=h;have h:=uR G (h.o [4,1,0,3,6] 7);refine BZ (f:=Ag.f2) (x:={}) h (f2_bare.rd _) λa5 c5 H11 h=>⟨_,_,_,rfl,?_⟩
 have u:=h.sl_nc 0 rfl;have h:=h.o [2,1,0,3,4,5] 6;refine sQ (Ag.i3.ok (by omega)).1 h (λH h=>h.sl_rd 0 rfl) (nW _) u λQ5 H12 y2 h=>⟨_,rfl,?_⟩
 have h:aA H12 (Q5::gateA Q5 gb db Ag.A4.1::slA 5 1 a5 (cA Ag.f2).length c5 ((cA Ag.f2).map U8)::cellsA b1 (cG (dT 3 1 0) x) 81::slA 101 2 a4 Ag.A3.1.p.out.length c4 (flat jh Ag.A3.1.p.out)::slA 91 11 a2 b.length c2 (flat bH b)::F):=h;refine sQ (Ag.i4.ok (by omega)).1 h (λH h=>h.sl_rd 0 rfl) (nW _) u λQ6 h6 h9 h=>⟨_,rfl,?_⟩
 have h:aA h6 (Q6::gateA Q6 gb db Ag.A5.1::slA 5 1 a5 (cA Ag.f2).length c5 ((cA Ag.f2).map U8)::cellsA b1 (cG (dT 3 1 0) x) 81::slA 101 2 a4 Ag.A3.1.p.out.length c4 (flat jh Ag.A3.1.p.out)::slA 91 11 a2 b.length c2 (flat bH b)::F):=h;refine h.al λb2 _ h=>?_
 refine BZ (f:=Ag.f3) (x:={ ea:=some ⟨b2,0,none⟩,ec:=1 }) (evs:=[evE]) h (f3_rd 0 rfl) λa6 c6 H14 h=>⟨_,_,_,rfl,?_⟩
 have R:=h.sl_nc 0 rfl;refine sQ (Ag.i5.ok (by omega)).1 (h.o [2,3,0,4,5,6,7] 8) (λH h=>h.sl_rd 0 rfl) (nW _) R λA h2 hs7 h=>⟨_,rfl,?_⟩
 have h:=h.o [0,1,3,4,5,6] 7;have h:aA h2 (A::gateA A gb db Ag.A6.1::slA 5 1 a5 (cA Ag.f2).length c5 ((cA Ag.f2).map U8)::cellsA b1 (cG (dT 3 1 0) x) 81::slA 101 2 a4 Ag.A3.1.p.out.length c4 (flat jh Ag.A3.1.p.out)::slA 91 11 a2 b.length c2 (flat bH b)::F):=h;refine xP (Ag.i6.ok (by omega)).1 (Ag.i6.ok (by omega)).2 h λd a7 c7 y3 N hy7 h=>⟨_,_,_,rfl,?_⟩
 have h:aA y3 (A::slA 91 11 a7 d.length c7 (flat bH d)::gateA A gb db Ag.g7::slA 5 1 a5 (cA Ag.f2).length c5 ((cA Ag.f2).map U8)::cellsA b1 (cG (dT 3 1 0) x) 81::slA 101 2 a4 Ag.A3.1.p.out.length c4 (flat jh Ag.A3.1.p.out)::slA 91 11 a2 b.length c2 (flat bH b)::F):=h;have hl7:d.length=2:=by rw[<-VH (f:=Oy.o),N,Ag.e9]
 refine xO (Ag.i7.ok (by omega)).1 (h.o [2,0,1,3,4,5,6] 7) λsb H17 h=>⟨_,rfl,?_⟩
 obtain⟨y,pb,zs,_,_,_,h⟩:=fT.1 (h.o [1,0,2,3,4,5,6,7] 8);have h:=h.o [5,7,8,9,10,11,12,13] 14;have n:=(Ag.i7.ok (by omega)).1.rows;refine G4 (keep:=0) (by decide) (by omega) h λZ h=>⟨rfl,?_⟩
 have h:aA Z (diskX db Ag.rows8 Ag.rows8.length::stA A sb Ag.g7.s::A::slA 91 11 a7 d.length c7 (flat bH d)::slA 5 1 a5 (cA Ag.f2).length c5 ((cA Ag.f2).map U8)::cellsA b1 (cG (dT 3 1 0) x) 81::slA 101 2 a4 Ag.A3.1.p.out.length c4 (flat jh Ag.A3.1.p.out)::slA 91 11 a2 b.length c2 (flat bH b)::F):=h;refine BX h λH19 h=>⟨_,_,_,_,_,_,_,_,_,_,_,_,_,rfl,?_⟩
 refine xS (j:=14) (o:=Ag.o0) C hf (Ag.leads8.mono (by omega)) Ag.t8.1 Ag.t8.2 (by omega) (h.o [2,0,1,3,4,5,6,7] 8) λQ8 D B a8 c8 u8 m8 s08 X8 j2 hE8 _ h3 r9 _ h=>⟨_,_,_,_,_,rfl,λt=>?_,λ_=>?_⟩
 .exfalso;have hl:3<=B.length:=by
   have O:X8=jt (bU Al.c0) Ag.rs8:=by simpa using h3.symm
   have:=Ag.e22;rw[<-VH (f:=Oy.o),r9,O,V3,uS];omega
  simp[hl7]at t;omega
 have h:aA u8 (Q8::slA 91 11 a8 B.length c8 (flat bH B)::gateA Q8 D db Ag.g8::stA A sb Ag.g7.s::slA 91 11 a7 d.length c7 (flat bH d)::slA 5 1 a5 (cA Ag.f2).length c5 ((cA Ag.f2).map U8)::cellsA b1 (cG (dT 3 1 0) x) 81::slA 101 2 a4 Ag.A3.1.p.out.length c4 (flat jh Ag.A3.1.p.out)::slA 91 11 a2 b.length c2 (flat bH b)::F):=h;refine xO (Ag.i8.ok (by omega)).1 (h.o [2,0,3,4,5,6,7,8] 9) λh4 H21 h=>⟨_,rfl,λt=>V2 t (by simp),λ_=>?_⟩
 refine sQ (Ag.i8.ok (by omega)).1 (h.o [2,1,5,0,3,4,6,7,8] 9) (λH h=>h.sl_rd 0 rfl) (nW _) u λQ9 Y r8 h=>⟨_,rfl,?_⟩
 have h:aA Y (Q9::gateA Q9 D db Ag.A9.1::slA 5 1 a5 (cA Ag.f2).length c5 ((cA Ag.f2).map U8)::stA Q8 h4 Ag.g8.s::stA A sb Ag.g7.s::slA 91 11 a7 d.length c7 (flat bH d)::cellsA b1 (cG (dT 3 1 0) x) 81::slA 101 2 a4 Ag.A3.1.p.out.length c4 (flat jh Ag.A3.1.p.out)::slA 91 11 a2 b.length c2 (flat bH b)::F):=h;refine Mt (Ag.i9.ok (by omega)).1 h λV j1 L h=>⟨_,rfl,?_⟩
 intro Jn hJ;have w:=h.sl_rd 8 rfl;have M:=h.sl_rd 7 rfl;have n:=h.sl_rd 5 rfl;have d2:(b[0]'(by omega)).o.kind=1/\(b[0]'(by omega)).o.ag=3:=by
  have e:=Ag.e10;rw[<-P,Wr]at e;have:=(List.getElem?_eq_some_iff.1 (show (b.map ((λo:Ou=>(o.kind,o.ag))∘Oy.o))[0]?=some (1,3) by rw[e];rfl)).2
  rw[Wx]at this;exact⟨congrArg Prod.fst this,congrArg Prod.snd this⟩
 have d7:(d[0]'(by omega)).o.kind=2/\(d[0]'(by omega)).o.win=1/\(d[1]'(by omega)).o.kind=1:=by
  have e:=Ag.e11;rw[<-N,Wr]at e;have h0:=(List.getElem?_eq_some_iff.1 (show (d.map ((λo:Ou=>(o.kind,o.win))∘Oy.o))[0]?=some (2,1) by rw[e];rfl)).2
  have h1:=(List.getElem?_eq_some_iff.1 (show (d.map ((λo:Ou=>(o.kind,o.win))∘Oy.o))[1]?=some (1,0) by rw[e];rfl)).2
  rw[Wx]at h0 h1;exact⟨congrArg Prod.fst h0,congrArg Prod.snd h0,congrArg Prod.fst h1⟩
 have d4:(Ag.A3.1.p.out[0]'(by omega)).bt=1/\(Ag.A3.1.p.out[0]'(by omega)).ct=0:=by
  have:Ag.A3.1.p.out[0]'(by omega)=⟨1,0,3,1,12⟩:=by
   have:=(List.getElem?_eq_some_iff.1 (show Ag.A3.1.p.out[0]?=some ⟨1,0,3,1,12⟩ by rw[Ag.e5];rfl)).2;exact this
  rw[this];exact⟨rfl,rfl⟩
 have h7:bE j1 (aU a4) (aS a4+0*2) [aC 1,aC 0]:=by
  have:=M.els (enc:=jh) (sz:=2) (λ_=>rfl) (k:=0) (by omega)
  unfold jh at this;rw[d4.1,d4.2]at this;exact this
 refine⟨λ_=>⟨by omega,by omega⟩,_,_,λ_=>w.some jB (by decide) (k:=0) (by omega),_,λ_=>w.el jB (k:=0) (by omega) 0 rfl,λ_=>⟨by omega,by omega⟩,_,_,λ_=>w.some jB (by decide) (k:=0) (by omega),_,λ_=>w.el jB (k:=0) (by omega) 1 rfl,
  _,λ_=>h.r 6,_,λ_=>h.r 6,λ_=>⟨by omega,by omega⟩,_,_,λ_=>M.some (enc:=jh) (sz:=2) (λ_=>rfl) (by decide) (k:=0) (by omega),_,_,λ_=>h7,_,λ_=>eq101,
  λ_=>⟨by omega,by omega⟩,_,_,λ_=>n.some jB (by decide) (k:=0) (by omega),_,λ_=>n.el jB (k:=0) (by omega) 0 rfl,λ_=>⟨by omega,by omega⟩,_,_,λ_=>n.some jB (by decide) (k:=0) (by omega),_,λ_=>n.el jB (k:=0) (by omega) 7 rfl,
  λ_=>⟨by omega,by omega⟩,_,_,λ_=>n.some jB (by decide) (k:=1) (by omega),_,λ_=>n.el jB (k:=1) (by omega) 0 rfl,_,λ_=>Bg (h.o [4] 9),_,λ_=>Bg (h.o [3] 9),_,λ_=>TK (h.o [3] 9),λ_=>?_,λt=>?_⟩
 .refine BX h λH24 h=>⟨_,_,_,_,_,_,_,_,_,_,_,_,_,rfl,?_⟩
  refine Bn (o:=Ag.o0) h λH25 h=>⟨_,rfl,hJ _ _ ?_⟩
  rw[C];exact k V _ ((((((((l6.trans h5).trans hs3).trans G).trans y2).trans h9).trans hs7).trans j2).trans r8 |>.trans L) (h.o [0] 9)
 .exfalso;have q1:(jg Ag.g0 3 10 (cA Ag.f1)).2=0:=Ag.e1;have q2:(jg Ag.g0 3 10 (cA Ag.f1)).1.pend.length=1:=Ag.e2;have q3:(eT Ag.g2 12).2.2=0:=Ag.e3;have q6:(jg Ag.A3.1 3 14 (cA Ag.f2)).2=0:=Ag.e6;have q7:(jg Ag.A4.1 3 14 (cA Ag.f2)).2=19:=Ag.e7;have q8:(jg Ag.A5.1 3 16 (cA Ag.f3)).2=0:=Ag.e8;have q15:(jg Ag.g8 3 20 (cA Ag.f2)).2=22:=Ag.e15;have l0:Ag.A1.1.pend.length=1:=Ag.e2;simp[q1,q2,l0,q3,q6,q7,q8,q15,d2,d7,Ag.e12,Ag.e13,Ag.e14,Ag.e16,dT]at t
end
structure GcH(H0:aD)(x:lq):Prop where
 rd:aP H0 x.a (x.bs.map U8)
 by':aH x.bs
 keep:aF x.keep
theorem gcK_old{H0:aD}{a:KQ}{xs:List lq}(e:xs.length<=maxLen)(d:aP H0 a (flat qT xs))(c:∀x∈xs,GcH H0 x):GcK (old H0) a xs:=
 ⟨KIn.old d,λx b=>KIn.old (c x b).rd,λx b=>⟨(c x b).by',(c x b).keep⟩,e⟩
theorem few_of{o:Opt}(h:grC o.cfg 0=false):o.cfg.cells.toNat<=200\/fg o=false:=by
 cases ho:fg o with
 | false=>exact .inr rfl
 | true=>
  refine .inl (UZ (xs:=[]) (MC ho) ?_);simp[grR,h]
theorem Vx{α:Type}{xs:List α}{j:Nat}(h:j<xs.length):xs[j]∈xs:=VF h
section
variable {F L:List aE}{H:aD}{K:KE}{Q:aE}{gb db:Nat}{g:Gg}{o:Opt}
theorem xV{sb:Nat}{s:aI}(R:Rch s)(d:s.kept.length<=50000)(h:aA H (Q::stA Q sb s::F))(k:∀a c b,aA b (slA 5 1 a (stB s).length c ((stB s).map U8)::Q::stA Q sb s::F)->K (.slice a (stB s).length c) b):CF 17 #[PA sb 0] H K:=
 Bu R.ok R.ser d h k
end
theorem outOp_by(e:bI):∀o∈cK e,aH o.bs:=by
 unfold cK;intro o a
 split at a
 .rw [VE]at a;subst a;exact nW _
 split at a
 .rw [VE]at a;subst a;exact nW _
 split at a
 .rw [VE]at a;subst a;exact kD
 split at a
 .rw [VE]at a;subst a;exact nW _
 .cases a
theorem ME(l:List bI):∀o∈l.flatMap cK,aH o.bs:=λo a=>by
 obtain⟨e,_,a⟩:=Yi.1 a;exact outOp_by e o a
theorem MF(s:aI):∀n,∀o∈iI s n,aH o.bs
 | 0,o,a=>by cases a
 | n+1,o,a=>by
  rw[iI]at a
  rcases VR.1 a with a|a
  .exact MF s n o a
  .rw [VE]at a;subst a;exact nW _
section
variable {F LL:List aE}{H:aD}{K:KE}{Q:aE}{gb db:Nat}{g:Gg}{o:Opt}{j:Nat}{was:List aI}{Ek E:List bI}{R:DR}{L:LG}{n0:Int}{kk:Nat}
theorem GI.up(I:GI g j was Ek E R L n0 kk){i:Nat}(h:j<=i):GI g i was Ek E R L n0 kk:=by
 obtain⟨d,rfl⟩:∃d,i=j+d:=⟨i-j,by omega⟩
 clear h
 induction d with
 | zero=>exact I
 | succ d ih=>exact ih.mono
theorem Vy{keep:Int}(b:aF keep)(c:g.rows.length<=549755813888)(h:aA H (gateA Q gb db g::F))(k:∀a,aA a (diskX db (dG g.rows g.syn keep) (dG g.rows g.syn keep).length::F)->K (.tuple #[]) a):CF 15 #[PA db 0,aC keep] H K:=by
 obtain⟨x,pb,ys,e1,e2,e3,h⟩:=fT.1 h;exact G4 b (by omega) (h.o [5] 7) k
theorem Reopen{rows:DR}{syn:Nat}{s:aI}{b v:List bI}(E:fg o=true)(x:o.cfg.cells.toNat<=200)(t:eU o.cfg j (di rows) s b v)(G:TI o.segment rows rows.length (opS o.segment rows) j)(N:eX o.segment rows=0)(O:j<=198)(h:aA H (Q::diskX db rows syn::F))
  (k:∀Q' gb ys a c n C,aM Q Q'->(∀y∈ys,fK Q' y/\aH y.o.bs)->ys.length<=1000000->(∀hm Ek,HJ hm Ek Ek->Ek <+: b->v <+: Ek->HOk hm (ys.map Oy.o)/\HJ (fh hm (ys.map Oy.o) ys.length) b b)->
   GI (kv o s rows) (j+2) [fS s dQ] b b rows C (di rows).length 1->aA n (Q'::slA 91 11 a ys.length c (flat bH ys)::gateA Q' gb db (kv o s rows)::F)->K (.tuple #[PA gb 0,.slice a ys.length c,aC 0]) n) :
  CF 16 #[PA db 0,.agg ⟨jE o⟩] H K:=by
 obtain⟨C,I⟩:=xR E x t G (by omega);have hs:=t.hs;refine xS E x t G N O h λQ' gb ys a c n m s0 X w d L D hm P h=>k Q' gb ys a c n C w (λy i=>⟨P y i,?_⟩) ?_ (λJ Ek u A B=>?_) I h
 .have:y.o∈iI s0 s0.kept.length++X.flatMap cK:=by rw[<-hm];exact VB.2 ⟨y,i,rfl⟩
  rcases VR.1 this with h|h
  .exact MF _ _ _ h
  .exact ME _ _ h
 .have U:=d.R.few x (by omega);have M:=hs.len;have V:=M4 X;rw[<-VH (f:=Oy.o),hm,V3,uS];rw[D,V3]at M;omega
 .have a1:=u.mono (P':=v) A λe T=>B.subset T
  obtain⟨b1,b2⟩:=M3 d t.pre a1 s0.kept.length (VA _);obtain⟨c1,c2⟩:=BT (X:=X) (S:=[]) hs (by rw[D];simp) b2;have e:ys.length=(iI s0 s0.kept.length).length+(X.flatMap cK).length:=by rw[<-VH (f:=Oy.o),hm,V3]
  rw[hm,e,uT];refine⟨b1.app c1,?_⟩;rw[D]at c2 ⊢;exact c2
theorem GI.hear(I:GI g j was Ek E R L n0 kk){hm:HM}(H:HJ hm Ek Ek):HOk hm g.pend/\HJ (fh hm g.pend g.pend.length) E E/\∀o∈g.pend,aH o.bs:=by
 obtain⟨a,p1,p2⟩:=I.pend;obtain⟨a1,a2⟩:=BT (X:=a) (S:=[]) I.hs (by rw[p1];simp) (H.mono (P':=Ek) (by rw[p1];exact List.prefix_append _ _) λe b=>b)
 rw[<-p1]at a2;rw[p2];exact⟨a1,a2,ME _⟩
end
section
variable {H:Type}{enc:TypeId×Value->H}{W:World}
theorem reads_opt{cs:Os}(h:kR enc Tryz.prog W 25 cs):∃o:Opt,cs=jE o:=by
 obtain⟨d,c⟩:=yN Tryz.underlying25 h;have c2:Tryz.prog.cellsOf 2=1:=by kernel_rfl
 have c3:Tryz.prog.cellsOf 3=1:=by kernel_rfl
 have b:Tryz.prog.cellsOf 23=9:=by kernel_rfl
 have a:Tryz.prog.cellsOf 25=13:=by kernel_rfl
 rw[a]at d;simp only[VJ,W8,or_false,forall_eq_or_imp,forall_eq,c2,c3,b]at c;obtain⟨f1,f2,f3,f4,f5⟩:=c
 match cs,d with
 | [x1,x2,x3,x4,x5,x6,x7,x8,x9,x10,x11,x12,x13],_=>
  simp only[List.drop_zero,WL,Yc,Y4]at f1 f2 f3 f4 f5;obtain⟨cf,e1⟩:=UW f1;obtain⟨n2,e2,_,_⟩:=iw Tryz.underlying2 f2;obtain⟨n3,e3,_,_⟩:=iw Tryz.underlying3 f3;obtain⟨n4,e4,_,_⟩:=iw Tryz.underlying3 f4;obtain⟨n5,e5,_,_⟩:=iw Tryz.underlying3 f5;simp only[List.cons.injEq,and_true]at e1 e2 e3 e4 e5;obtain⟨rfl,rfl,rfl,rfl,rfl,rfl,rfl,rfl,rfl⟩:=e1;subst e2 e3 e4 e5;exact⟨⟨cf,n2,n3,n4,n5⟩,rfl⟩
theorem reads_calls{cs:Os}(h:kR enc Tryz.prog W 26 cs):∃a c xs,cs=[.slice a (List.length xs) c]/\xs.length<=maxLen/\aP W.heap a (flat qT xs)/\∀x∈xs,GcH W.heap x:=by
 refine EB (ec:=qT) (Q:=GcH W.heap) Tryz.underlying26 (sz:=6) (by kernel_rfl) (by decide) h (λe f j=>?_) qU
 obtain⟨_,d⟩:=yN Tryz.underlying45 f;have c2:Tryz.prog.cellsOf 2=1:=by kernel_rfl
 have c3:Tryz.prog.cellsOf 3=1:=by kernel_rfl
 have b:Tryz.prog.cellsOf 43=1:=by kernel_rfl
 simp only[VJ,W8,or_false,forall_eq_or_imp,forall_eq,c2,c3,b]at d;obtain⟨f1,f2,f3,f4,f5,f6⟩:=d
 match e,j with
 | [x1,x2,x3,x4,x5,x6],_=>
  simp only[List.drop_zero,WL,Yc,Y4]at f1 f2 f3 f4 f5 f6;obtain⟨n1,e1,_,_⟩:=iw Tryz.underlying3 f1;obtain⟨n2,e2,_,_⟩:=iw Tryz.underlying2 f2;obtain⟨n3,e3,_,_⟩:=iw Tryz.underlying2 f3;obtain⟨n4,e4,_,_⟩:=iw Tryz.underlying2 f4;obtain⟨n5,e5,b1,b2⟩:=iw Tryz.underlying3 f5;obtain⟨a,c,bs,e6,_,i,hb⟩:=reads_bs f6;simp only[List.cons.injEq,and_true]at e1 e2 e3 e4 e5 e6;subst e1 e2 e3 e4 e5 e6;exact⟨⟨n1,n2,n3,n4,n5,a,c,bs⟩,rfl,i,hb,⟨b1,b2⟩⟩
end
theorem Vz(rows:DR)(keep:Int):dG rows rows.length keep=rows:=by
 unfold dG;exact VZ (by omega)
section
variable {F LL:List aE}{H:aD}{K:KE}{Q:aE}{gb db:Nat}{g:Gg}{o:Opt}{j:Nat}{was:List aI}{Ek E:List bI}{R:DR}{L:LG}{n0:Int}{kk:Nat}
theorem GStateO{x:GAd}{n:Nat}{recs:Int}{s:aI}(R:Rch s)(c:s.kept.length<=40000)(h:aA H (cellsA gb (kJ o x n recs) 110::stA Q x.sb s::F))(k:∀sb a,aA a (stA Q sb s::F)->K (PA sb 0) a):CF 12 #[PA gb 0] H K:=by
 refine cM 12 28 ⟨some ⟨x.sb,0,none⟩,h.r 0,KJ (by omega) R.ok (h.o [1] 2) λsb b h=>⟨_,rfl,k sb _ (h.o [0] 2)⟩⟩
theorem MG{sb:Nat}{s:aI}(R:Rch s)(e:s.kept.length<=40000)(hb:s.boots<1099511627776)(h:aA H (Q::stA Q sb s::F))(k:∀Q' a c b,aM Q Q'->aA b (Q'::stA Q' sb (fS s dQ)::F)->K (.tuple #[.slice a 0 c,aC 0]) b) :
  CF 19 #[PA sb 0,.agg ⟨de dQ none 0⟩] H K:=by
 refine Bc (r:=dQ) (evs:=[]) R.ok (by have:=R.sunk;omega) (by omega) (recN rfl) h λQ' a c b hs h=>?_
 have d:=BU hb;rw[d]at h ⊢;have h:=h.o [0,2] 3;refine k Q' a c b hs ?_;unfold fS;rw[d];exact h
theorem GI.one(I:GI g j [g.s] E E R L n0 kk)(c:j<=200)(keep:Int):∃a,eU g.o.cfg j (di (dG g.rows g.syn keep)) g.s E a/\a <+: E/\TI g.o.segment (dG g.rows g.syn keep) (dG g.rows g.syn keep).length (opS g.o.segment (dG g.rows g.syn keep)) (j+1)/\eX g.o.segment (dG g.rows g.syn keep)=0:=by
 obtain⟨s,b,a,c1,c2,c3,c4,c5,c6,c7⟩:=I.crash c keep;rw[VE]at c5;subst c5;have:E=b:=c2.eq_of_length_le c3.length_le;subst this;exact⟨a,c1,c4,c6,c7⟩
end
theorem GateAnew_true{H0:aD}{o:Opt}{ca:KQ}{cc:Nat}{xs:List lq}(h6:xs.length<=maxLen)(hr:aP H0 ca (flat qT xs))(l6:∀x∈xs,GcH H0 x) :
  CF 6 #[.agg ⟨jE o⟩,.slice ca xs.length cc] H0 λv Q=>v=.bool true/\dB H0 Q:=by
 have hK0:=gcK_old h6 hr l6;refine Pf ?_;refine (sat0 H0).al λb _ h=>Vw (kN h) λQ1 H1 M h=>⟨_,rfl,λhc=>by simp at hc,λ_=>?_⟩
 have h5:=hK0.sub M;refine⟨_,_,_,_,_,_,_,_,_,_,_,_,_,h.q 1,Vp (o:=o) (xs:=xs) h h5 λH2 h=>⟨_,rfl,λhg=>⟨rfl,BH M h⟩,λhg=>?_⟩⟩
 obtain⟨g1,g2,g3⟩:=grG_no hg;refine⟨_,_,_,_,_,_,_,_,_,_,_,_,_,h.q 1,Vt (o:=o) (few_of g2) h (λhn H3 h=>⟨_,_,rfl,λ_=>?_,λd=>V2 d (by simp)⟩) λho Q2 gb db H3 j3 h=>⟨_,_,rfl,λd=>V2 d (by simp),λ_=>?_⟩⟩
 .refine⟨_,_,_,_,_,_,_,_,_,_,_,_,_,h.q 1,OfO_spec (o:=o) h λH4 h=>⟨_,_,_,_,_,_,_,_,_,_,_,_,_,rfl,?_⟩⟩
  refine R25Right (o:=o) h λH5 h=>⟨_,rfl,⟨by rw[hn];rfl,BH M h⟩⟩
 have hf:o.cfg.cells.toNat<=200:=by
  rcases few_of g2 with h|h
  .exact h
  .rw [ho]at h;cases h
 obtain⟨L0,I0⟩:=xR ho hf (xT ho) (uV ho).1 (by omega);refine h.alm kI3 vOy λb1 _ h=>h.alm aC vSb λb2 _ h=>h.al λb3 _ h=>?_
 have h:=Vv (h.o [0,2,1,3,4,5] 6);refine⟨λi Q=>∃(j:Nat) (Q':aE) (g:Gg) (was:List aI) (Ek E:List bI) (R:DR) (LL:LG) (n0:Int) (k:Nat) (hm:HM),i=j/\j<=xs.length/\aM Q1 Q'/\GI g (2+3*j) was Ek E R LL n0 k/\g.o=o/\HJ hm Ek Ek/\
   aA Q (Q'::gateA Q' gb db g::hrdA b3 hm::cellsA b (jE o) 25::[]),
  λi _=>xs.length-i.toNat,⟨0,Q2,_,_,_,_,_,_,_,_,_,rfl,by omega,j3,I0,rfl,hj0,h.o [1,2,0,3] 4⟩,?_⟩
 rintro i H4 ⟨j,Q3,g,was,Ek,E,R,LL,n0,kk,hm,rfl,hj,h0,I,T,h4,h⟩;have ok:=I.ok (by omega);obtain⟨R',L',J,k',i1,i2,i3,i4⟩:=I.sync (by omega);obtain⟨q1,q2,q3⟩:=I.hear h4;have hpl:=I.plen;refine⟨λd=>?_,λd=>?_⟩
 .have t:j<xs.length:=by simpa using d
  have V:=h5.sub h0;have O:=V.row.at h 0 rfl;have hw:i64.wrap ((j:Int)+1)=((j+1:Nat):Int):=by rw[aK];omega
  intro Jn hJ;have next:∀(Q':aE) (g':Gg) (D:List aI) (C E':List bI) (R':DR) (L':LG) (J:Int) (k' j':Nat) (N:HM) Q,aM Q3 Q'->GI g' j' D C E' R' L' J k'->j'<=2+3*j+3->g'.o=o->HJ N C C->
    aA Q (Q'::gateA Q' gb db g'::hrdA b3 N::cellsA b (jE o) 25::[])->Jn Q:=by
   intro Q' g' D C E' R' L' J k' j' N Q hs I' hj' h9 HJ' h;exact hJ _ ⟨⟨j+1,Q',g',D,C,E',R',L',J,k',N,hw,t,h0.trans hs,I'.up (by omega),h9,HJ',h⟩,by rw[hw];dsimp only;omega⟩
  refine⟨⟨by omega,by omega⟩,_,_,O.some qU (by decide) t,_,O.el qU t 0 rfl,λ_=>?_,λ_=>?_⟩
  .refine⟨⟨by omega,by omega⟩,_,_,O.some qU (by decide) t,_,_,_,_,_,_,_,_,O.els qU t,?_⟩;have F:=Vx t;obtain⟨x,ex⟩:∃x,xs[j]=x:=⟨_,rfl⟩;rw[ex]at F ⊢;obtain⟨E',L',a1,a2,a3,a4,a5⟩:=do_calls (x:=x) I (by omega);refine Do_spec (x:=x) I (by omega) h (V.bs x F) (V.ok x F).1 (g3 x F) λQ' y2 hs h=>⟨_,rfl,next Q' _ _ _ _ _ _ _ _ _ _ _ hs a1 (by omega) (a3.trans T) h4 h⟩
  .refine xP ok I.ti.files h λys a c H6 m hy h=>⟨_,_,_,rfl,?_⟩
   have Y:ys.length=g.pend.length:=by rw[<-VH (f:=Oy.o),m]
   refine xU (hm:=hm) (by rw[m];exact q1) (λy w=>⟨hy y w,q3 _ (by rw[<-m];exact VB.2 ⟨y,w,rfl⟩)⟩) (by omega) (h.o [0,3,1,2,4] 5) (λH h=>h.sl_rd 0 rfl) λQ4 H7 u h=>⟨_,rfl,λd=>V2 d (by simp),λ_=>?_⟩
   rw[m,Y]at h;have h:=uR u (h.o [3,0,1,4] 5);exact next Q4 _ _ _ _ _ _ _ _ _ _ _ u i1 (by omega) (i3.trans T) q2 (h.o [1,0,2,3] 4)
 refine xP ok I.ti.files h λys a c H6 m hy h=>⟨_,_,_,rfl,?_⟩
 have Y:ys.length=g.pend.length:=by rw[<-VH (f:=Oy.o),m]
 refine xU (hm:=hm) (by rw[m];exact q1) (λy w=>⟨hy y w,q3 _ (by rw[<-m];exact VB.2 ⟨y,w,rfl⟩)⟩) (by omega) (h.o [0,3,1,2,4] 5) (λH h=>h.sl_rd 0 rfl) λQ4 H7 u h=>⟨_,rfl,λd=>V2 d (by simp),λ_=>?_⟩
 rw[m,Y]at h;have h:=uR u (h.o [3,0,1,4] 5);obtain⟨G,hG⟩:∃G,iH g=G:=⟨_,rfl⟩;rw[hG]at h i1 i2 i3 i4;obtain⟨K,hh1⟩:∃K,fh hm g.pend g.pend.length=K:=⟨_,rfl⟩;rw[hh1]at h q2;rw[<-i2]at i1;have okG:=i1.ok (by omega);refine xO okG h λsb H8 h=>⟨_,rfl,?_⟩
 obtain⟨E0,c1,c2,c3,c4⟩:=i1.one (by omega) 0;rw[i3.trans T]at c1 c3 c4;refine Vy (by decide) okG.rows (h.o [1,0,2,3,4] 5) λH9 h=>⟨rfl,_,_,_,_,_,_,_,_,_,_,_,_,_,h.q 4,?_⟩
 refine Reopen (o:=o) ho hf (c1.mono (Nat.le_succ _)) c3 c4 (by omega) (h.o [2,0,1,3,4] 5) λQ5 ga h2 a5 c5 y2 L5 h7 y3 h3 l0 I5 h=>⟨_,_,_,_,_,rfl,?_⟩
 obtain⟨p1,p2⟩:=l0 K E q2 W9 c2;obtain⟨A,hA⟩:∃A,kv o G.s (dG G.rows G.syn 0)=A:=⟨_,rfl⟩;have h1:A.s=fS G.s dQ:=by rw[<-hA];rfl
 have j2:A.o=o:=by rw[<-hA];rfl
 have l5:A.syn=A.rows.length:=by rw[<-hA];rfl
 rw[hA]at I5 h;rw[<-h1]at I5;intro Jn1 hJ1;refine⟨λ_=>?_,λd=>by simp at d⟩
 refine xU p1 y3 h3 (h.o [0,4,1,2,3,5] 6) (λH h=>h.sl_rd 0 rfl) λQ6 H11 S h=>⟨_,rfl,hJ1 _ _ ⟨λd=>V2 d (by simp),λ_=>?_⟩⟩
 obtain⟨W,r9⟩:∃W,fh K (h2.map Oy.o) h2.length=W:=⟨_,rfl⟩;rw[r9]at h p2;refine⟨_,_,_,_,_,_,_,_,_,_,_,_,_,h.q 5,?_⟩;obtain⟨x,pb,zs,_,_,_,h⟩:=fT.1 (h.o [3,0,1,4,5] 6);obtain⟨E02,d1,d2,d3,d4⟩:=I5.one (by omega) 0;rw[l5,Vz]at d1 d3 d4;rw[j2]at d1 d3 d4;refine Reopen (o:=o) ho hf (d1.mono (Nat.le_succ _)) d3 d4 (by omega) (h.o [7,5,0,1,8,9,10] 11) λQ7 gB ys7 a7 c7 H12 L7 Z j1 h8 hh7 I7 h=>⟨_,_,_,_,_,rfl,?_⟩
 obtain⟨p3,p4⟩:=hh7 W E p2 W9 d2;obtain⟨B,hB⟩:∃B,kv o A.s A.rows=B:=⟨_,rfl⟩;have u8:B.s=fS A.s dQ:=by rw[<-hB];rfl
 rw[hB]at I7 h;intro Jn2 hJ2;refine⟨λ_=>?_,λd=>by simp at d⟩
 refine xU p3 j1 h8 (h.o [0,5,1,2,3,4,6,7] 8) (λH h=>h.sl_rd 0 rfl) λQ8 H13 L h=>⟨_,rfl,hJ2 _ _ ⟨λd=>V2 d (by simp),λ_=>?_⟩⟩
 have e:=I5.ok (by omega);have n:=I7.ok (by omega);refine GStateO (o:=A.o) e.R e.kept (h.o [4,5,0,3,6] 8) λsbt H14 h=>⟨_,rfl,?_⟩
 refine xO n (h.o [2,0,1,3] 4) λsbu H15 h=>⟨_,rfl,λd=>V2 d (by simp),λ_=>?_⟩
 have h:=oA ((h7.trans S).trans (Z.trans L)) (h.o [4,0,2,3] 5);refine MG okG.R okG.kept (by have:=i1.hs.boots;omega) (h.o [3,0,1,2] 4) λQ9 ae ce H16 U h=>⟨_,_,_,_,rfl,?_⟩
 intro Jn3 r8;refine⟨λ_=>?_,λd=>by simp at d⟩
 rw[<-h1]at h;refine xV e.R (by have:=e.kept;omega) h λb8 c8 H17 h=>⟨_,_,_,rfl,?_⟩
 have h:=oA ((S.trans Z).trans (L.trans U)) (h.o [4,0,1,2,3] 5);refine xV e.R (by have:=e.kept;omega) (h.o [2,0,1,3,4] 5) λb9 c9 H18 h=>⟨_,_,_,rfl,?_⟩
 refine⟨_,Gk (h.sl_rd 3 rfl) (h.sl_rd 0 rfl) (by have:=xN e.R.ok e.R.ser (by have:=e.kept;omega);omega),r8 _ _ ⟨λd=>by simp at d,λ_=>?_⟩⟩
 refine MG e.R e.kept (by have:=I5.hs.boots;omega) (h.o [1,4,5] 6) λQ10 ae2 ce2 H19 P h=>⟨_,_,_,_,rfl,?_⟩
 rw[<-u8]at h;intro Jn4 r0;refine⟨λ_=>?_,λd=>by simp at d⟩
 refine xV n.R (by have:=n.kept;omega) h λb10 c10 H20 h=>⟨_,_,_,rfl,?_⟩
 have h:=oA ((L.trans U).trans P) (h.o [3,0,1,2] 4);refine xV n.R (by have:=n.kept;omega) (h.o [2,0,1] 4) λb11 c11 H21 h=>⟨_,_,_,rfl,?_⟩
 refine⟨_,Gk (h.sl_rd 3 rfl) (h.sl_rd 0 rfl) (by have:=xN n.R.ok n.R.ser (by have:=n.kept;omega);omega),r0 _ _ ⟨by simp,?_⟩⟩;exact BH (((((((M.trans h0).trans u).trans h7).trans S).trans Z).trans L).trans (U.trans P)) (h.o [1] 4)
end Go.Proofs.YtaaieblnikcndaaGreatDoor
