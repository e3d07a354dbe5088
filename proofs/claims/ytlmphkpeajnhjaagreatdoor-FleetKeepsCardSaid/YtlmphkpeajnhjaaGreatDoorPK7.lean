/-
  Lemmas for FleetKeeps: part 7 of what it rests on. Conditions: none.
-/
import Derived.Test.YtlmphkpeajnhjaaGreatDoorPK6
set_option linter.unusedVariables false
set_option linter.unusedSimpArgs false
set_option maxRecDepth 100000
set_option maxHeartbeats 16000000
open Go.IntKind (i64 u64 i8 u8 i32 u32 i16 u16)
namespace Go.Proofs.YtlmphkpeajnhjaaGreatDoor
open Go
def nY(c:bM):bC:=⟨⟨c.kl,c.zx,false,0,[]⟩,⟨0,c.hold,[]⟩,-1⟩
def ua(a ep n:Int):DF:={ kind:=3,ida:=a,ide:=ep,seq:=n,reason:=5 }
def kV(s:aL)(a:Int):List DF:=match iO s a with
 | some st=>(aJ st.hs.rows).map (ua a (bI s.rows a).epoch)
 | none=>[]
def iq(s:aL)(a:Int):MS:=match iO s a with
 | some _=>(s.ms.leave a).1
 | none=>s.ms
def iP(s:aL)(r:Rp):aL×List DF×Int:=
 if (cP s.cfg.agents s.rows r.ag r.bt r.nw).2.2.2≠0 then (s,[],(cP s.cfg.agents s.rows r.ag r.bt r.nw).2.2.2) else
 if (cP s.cfg.agents s.rows r.ag r.bt r.nw).2.2.1 then
  ({ s with now:=r.nw,rows:=(cP s.cfg.agents s.rows r.ag r.bt r.nw).1,ms:=((iq s r.ag).join r.ag r.nw).1,sts:=s.sts.set r.ag.toNat (some (nY s.cfg)) },
   kV s r.ag++[{ kind:=1,agent:=r.ag,epoch:=(cP s.cfg.agents s.rows r.ag r.bt r.nw).2.1.epoch,boot:=(cP s.cfg.agents s.rows r.ag r.bt r.nw).2.1.boot }],0)
 else ({ s with now:=r.nw,rows:=(cP s.cfg.agents s.rows r.ag r.bt r.nw).1 },[{ kind:=1,agent:=r.ag,epoch:=(cP s.cfg.agents s.rows r.ag r.bt r.nw).2.1.epoch,boot:=(cP s.cfg.agents s.rows r.ag r.bt r.nw).2.1.boot }],0)
variable {H:aC}{F:List aF}{K:KE}{s:aL}{Q:aF}{r:Rp}{c j:Nat}{a:KQ}{v m B:Int}{f:Fq}{y:QA}{b:bC}{t:Fb}{A:DR}{C:List bO}{D:List (Option Nat)}{E:List (Option bC)}{G:RL}{I:Type}{J:List Ry}{L:List Ev}{M:List En}{N:bM}{O:CM}{P:Rc}{R:MS}
theorem V6{most:Int}{rows:List En}{a b n:Int}(h:(cP most rows a b n).2.2.2≠0):(cP most rows a b n).1=rows:=by unfold cP at h ⊢;grind
theorem Mf{Q:aF}{k b:Nat}{bl:List (Option Nat)}{sts:List (Option bC)}{s:bC}(hm:bl.map Option.isSome=sts.map Option.isSome)(d:k<sts.length) (h:aA H (mapA aD LB j (eO ((k:Nat):Int) (some b) (de 0 bl))::Ft Q b s::nV Q bl sts k::F)):aA H (na Q j (sts.set k (some s))::F):=by
 have c:bl.length=sts.length:=by have:=congrArg List.length hm;grind
 have e:=qD (Q:=Q) (b:=b) (s:=s) (bl:=bl.set k none) (sts:=sts.set k none) (k:=k) (by grind) (by grind);rw[q2v,q2v]at e;have a:=y7 (b:=b) (l:=bl) (i:=0) (k:=k) ez;rw[CO]at a;rw[<-oH (r:=j) a]at h;refine lW.2 ⟨bl.set k (some b),?_,?_⟩;.simp_all
 rw [<-e];have h:=h.o [1,2,0] 3;have h:=gZ.2 h;exact h.o [1,0] 2
theorem Mg{Q:aF}{p:SAd}(ok:jZ s.cfg)(h:aA H (ax j (dx s p) 165::F)) (k:∀b c,aA c (Ft Q b (nY s.cfg)::ax j (dx s p) 165::F)->K (PA b 0) c):CF 356 #[PA j 0] H K:=by refine cM 356 4380 ⟨_,h.r 0,_,h.r 0,J6 h (λa=>cS ok.aku a) λ_ cb e h=>⟨_,_,rfl,_,h.r 1,By (Q:=Q) h (λa=>cS ok.hd ez) λhb d _ h=>⟨_,_,rfl,h.al λb _ h=>k b _ (io.2 ⟨cb,hb,h.o [0,2,1,3] 4⟩)⟩⟩⟩
theorem Fm{F:List aF}{H:aC}{K:KE}{Q:aF}{sb:Nat}{s:aL}{r:Rp}{a:KQ}{c:Nat}(ok:cY s)(hr:r.right=true)(l6:r.kind=2)(h:aA H (s_ Q sb s::F))
  (k:∀J E w,aA w (ay 523 87 J (iP s r).2.1.length E (flat dV (iP s r).2.1)::s_ Q sb (iP s r).1::F)->K (.tuple #[.slice J (iP s r).2.1.length E,aD (iP s r).2.2]) w) :
  CF 286 #[PA sb 0,.agg ⟨dq r a c⟩] H K:=by
 have hL:=kU hr;have u:((r.ag.toNat:Nat):Int)=r.ag:=by have:=hL.ag;omega
 refine Rz (h.al λb H0 h=>?_)
 have h:=h.o [1,0] 2;obtain⟨p,h⟩:=di.1 h;intro Jn hJ;have L:∀bb w,aA w (ax bb (YC (bI s.rows r.ag)) 169::ax sb (dx s p) 165::Ro.mv p.rb p.rm s.cfg.agents::Ro.w_ p.rm s.rows::Ma.f_ p.mb p.mm s.ms::Ma.kb p.mm s.ms.m::DK p.hb p.hm s.cfg.cells::cG p.hm s.cm::na Q p.tm s.sts::ay 184 74 p.ka s.kept.length p.kc (flat cR s.kept)::ax b (dq r a c) 281::F)->Jn bb 0 w:=by
  intro bb H1 h;refine hJ _ _ _ ?_;intro h9 h5;unfold iP at k;have P:=V6 (most:=s.cfg.agents) (rows:=s.rows) (a:=r.ag) (b:=r.bt) (n:=r.nw);have C:∀Y w,aA w (ax Y (YC (cP s.cfg.agents s.rows r.ag r.bt r.nw).2.1) 169::ax bb (YC (bI s.rows r.ag)) 169::ax sb (dx s p) 165::Ro.mv p.rb p.rm s.cfg.agents::Ro.w_ p.rm (cP s.cfg.agents s.rows r.ag r.bt r.nw).1::Ma.f_ p.mb p.mm s.ms::Ma.kb p.mm s.ms.m::DK p.hb p.hm s.cfg.cells::cG p.hm s.cm::na Q p.tm s.sts::ay 184 74 p.ka s.kept.length p.kc (flat cR s.kept)::ax b (dq r a c) 281::F)->
    h9 Y 0 (cP s.cfg.agents s.rows r.ag r.bt r.nw).2.2.1 (cP s.cfg.agents s.rows r.ag r.bt r.nw).2.2.2 w:=by
   intro Y H2 h;refine h5 _ _ _ _ _ ?_;generalize cP s.cfg.agents s.rows r.ag r.bt r.nw=G at *;refine⟨λV=>?_,λV=>?_⟩
   .have V:G.2.2.2≠0:=by grind
    rw[c_ V]at k;rw[P V]at h;have h:=h.o [2,3,4,5,6,7,8,9,10] 12;have h:=di.2 ⟨p,h⟩;exact k none 0 _ (h.cp 523 87)
   have V:¬G.2.2.2≠0:=by grind
   rw[b_ V]at k;refine⟨_,h.r 11,h.st 2 rfl rfl ?_⟩;intro W h;intro Z h6;have fin:∀(d:List DF) (la:KQ) (lc:Nat) (s':aL) (p':SAd) w,d.length<=1000000->(∀J E A,aA A (ay 523 87 J (d.length+1) E (flat dV (d++[{ kind:=1,agent:=r.ag,epoch:=G.2.1.epoch,boot:=G.2.1.boot }]))::s_ Q sb s'::F)->K (.tuple #[.slice J (d.length+1) E,aD 0]) A)->
     aA w (ay 523 87 la d.length lc (flat dV d)::ax Y (YC G.2.1) 169::ax b (dq r a c) 281::s_ Q sb s'::F)->Z la d.length lc w:=by
    intro d la lc s' p' H4 h4 kk h;refine h6 _ _ _ _ ⟨_,h.r 2,_,h.r 1,_,h.r 1,h.al λb1 _ h=>h.append (m:=1) (ws:=dV { kind:=1,agent:=r.ag,epoch:=G.2.1.epoch,boot:=G.2.1.boot }) abp 1 rfl (h.ew 0 rfl) rfl (vN _) ez ez λa5 c5 H5 h=>⟨_,_,_,rfl,kk _ _ _ ?_⟩⟩;rw[iX,show flat dV [({ kind:=1,agent:=r.ag,epoch:=G.2.1.epoch,boot:=G.2.1.boot }:DF)]=dV { kind:=1,agent:=r.ag,epoch:=G.2.1.epoch,boot:=G.2.1.boot } by simp[flat]];exact h.o [1,4] 5
   refine⟨λhf=>?_,λhf=>?_⟩
   .rw [c_ hf]at k;have I:r.ag.toNat<s.sts.length:=by have:=ok.len;have:=hL.ag;omega
    have B:∀(bl:List (Option Nat)) (la:KQ) (lc:Nat) w,bl.map Option.isSome=s.sts.map Option.isSome->(kV s r.ag).length<=1000000->
      aA w (ay 523 87 la (kV s r.ag).length lc (flat dV (kV s r.ag))::mapA aD LB p.tm (de 0 bl)::nV Q bl s.sts r.ag.toNat::Ma.f_ p.mb p.mm (iq s r.ag)::Ma.kb p.mm (iq s r.ag).m::ax Y (YC G.2.1) 169::ax sb (dx { s with now:=r.nw } p) 165::Ro.mv p.rb p.rm s.cfg.agents::Ro.w_ p.rm G.1::DK p.hb p.hm s.cfg.cells::cG p.hm s.cm::ay 184 74 p.ka s.kept.length p.kc (flat cR s.kept)::ax b (dq r a c) 281::F)->
      AS.r2 sb 0 b Z la (kV s r.ag).length lc w:=by
     intro bl la lc H4 hm h4 h;unfold AS.r2;refine⟨_,h.r 6,_,h.r 12,?_⟩;have h:=h.o [6,0,1,2,3,4,5,7,8,9,10,11,12] 13;refine Mg (s:=({ s with now:=r.nw }:aL)) (Q:=Q) ok.cfg h λnb H5 h=>⟨_,rfl,h.r 13,h.r 1,?_⟩
     rw[<-u];refine h.ix (α:=Option Nat) (v:=some nb) (x:=((r.ag.toNat:Nat):Int)) rV Fo 3 rfl λH6 h=>?_
     rw[u];refine⟨_,h.r 1,_,h.r 13,_,h.r 13,?_⟩;have h:=h.o [5,6,0,1,2,3,4,7,8,9,10,11,12,13] 14;refine Ma.Ho (a:=r.ag) (t:=r.nw) h λH7 h=>⟨_,rfl,fin (kV s r.ag) la lc { s with now:=r.nw,rows:=G.1,ms:=((iq s r.ag).join r.ag r.nw).1,sts:=s.sts.set r.ag.toNat (some (nY s.cfg)) } p _ h4 (λJ E A h=>?_) ?_⟩
     .have hk:=k J E A;rw[po]at hk;exact hk h
     .
      have h:=h.o [5,2,6,0,1,3,4,7,8,9,10,11,12,13] 14;rw[<-u]at h;have h:=Mf hm I h;rw[u]at h;have h:=h.o [3,6,7,1,2,8,9,0,10,4,5,11] 12;have h:aA H7 (s_ Q sb { s with now:=r.nw,rows:=G.1,ms:=((iq s r.ag).join r.ag r.nw).1,sts:=s.sts.set r.ag.toNat (some (nY s.cfg)) }::_):=di.2 ⟨p,h⟩;exact h.o [1,2,3,0] 4
    refine⟨_,h.r 2,_,h.r 11,?_⟩;have S:(∃st,s.sts[r.ag.toNat]?=some (some st))\/s.sts[r.ag.toNat]?=some none:=by
     rw[List.getElem?_eq_getElem I]
     cases s.sts[r.ag.toNat] with
     | none=>grind
     | some st=>grind
    rcases S with ⟨st,y⟩|y
    .have f:=ok.sts st (LA y);have h8:=yC hL.ag.1 y;have U:kV s r.ag=(aJ st.hs.rows).map (ua r.ag (bI s.rows r.ag).epoch):=by grind [kV]
     have R:iq s r.ag=(s.ms.leave r.ag).1:=by grind [iq]
     have h:=h.o [9,0,1,2,3,4,5,6,7,8,10,11] 12;obtain⟨r8,bl,O,h⟩:=rX h y;have h:=h.o [1,0,2,3,4,5,6,7,8,9,10,11,12,13] 14;obtain⟨cb,hb,h⟩:=io.1 h;have M:=rY O h 3 rfl;rw[u]at M;refine⟨_,M,?_⟩;intro h7 T;refine⟨λ_=>dj ⟨_,h.r 0,?_⟩,λhn=>cS hn eh⟩
     have h:=h.o [2,0,1,3,4,5,6,7,8,9,10,11,12,13,14,15] 16;have l5:=f.hs.rows.length;have r0:=f.hs.GX;have j2:st.hs.rows.length<=256:=ez
     refine Bz h f.hs.rows.rising (λq hq=>by
      have h1:=(f.rows q hq).1;have h2:=(f.hs.rows.inb q hq).1;have h3:=f.hs.GV;unfold aG;omega) ez λwa wc H4 h=>⟨_,_,_,rfl,?_⟩
     have l0:(aJ st.hs.rows).length=st.hs.rows.length:=by grind
     refine⟨λla D lc i w=>∃j:Nat,i=j/\j<=st.hs.rows.length/\D=j/\
      aA w (ay 523 87 la j lc (flat dV (((aJ st.hs.rows).take j).map (ua r.ag (bI s.rows r.ag).epoch)))::ay 2 1 wa st.hs.rows.length wc ((aJ st.hs.rows).map aD)::mapA aD LB p.tm (de 0 bl)::nV Q bl s.sts r.ag.toNat::ax Y (YC G.2.1) 169::ax bb (YC (bI s.rows r.ag)) 169::ax sb (dx { s with now:=r.nw } p) 165::Ro.mv p.rb p.rm s.cfg.agents::Ro.w_ p.rm G.1::Ma.f_ p.mb p.mm s.ms::Ma.kb p.mm s.ms.m::DK p.hb p.hm s.cfg.cells::cG p.hm s.cm::ay 184 74 p.ka s.kept.length p.kc (flat cR s.kept)::ax b (dq r a c) 281::F),
      λ_ _ _ i _=>st.hs.rows.length-i.toNat,⟨0,rfl,ez,rfl,(h.cp 523 87).o [0,1,5,6,7,8,9,10,11,12,13,14,15,16,17] 18⟩,?_⟩
     rintro la D lc i H5 ⟨j,rfl,hj,rfl,h⟩;refine⟨λhc=>?_,λhc=>?_⟩
     .have I:D<st.hs.rows.length:=by grind
      have N:D<(aJ st.hs.rows).length:=ez
      have DH:=(h.a_ 1 rfl).at N;refine⟨ez,_,_,DH.1,_,DH.2,_,h.r 14,_,h.r 5,h.al λb3 _ h=>h.append (m:=1) (ws:=dV (ua r.ag (bI s.rows r.ag).epoch (aJ st.hs.rows)[D])) abp 1 rfl (h.ew 0 rfl) rfl (vN _) ez ez λa5 c5 H7 h=>⟨_,_,_,rfl,?_⟩⟩
      rw[aN (x:=(D:Int)+1)];refine⟨⟨D+1,ez,I,rfl,?_⟩,by grind⟩;rw[YX N,F6,iX,show flat dV ([(aJ st.hs.rows)[D]].map (ua r.ag (bI s.rows r.ag).epoch))=dV (ua r.ag (bI s.rows r.ag).epoch (aJ st.hs.rows)[D]) by simp[flat]];exact h.o [1,2,3,4,5,6,7,8,9,10,11,12,13,14,15] 16
     .have j1:D=st.hs.rows.length:=by grind
      subst j1;rw[FP ez,<-U]at h;have h0:(kV s r.ag).length=st.hs.rows.length:=by grind
      refine⟨_,h.r 6,_,h.r 14,?_⟩;have h:=h.o [9,10,0,1,2,3,4,5,6,7,8,11,12,13,14] 15;refine Ma.C3 (a:=r.ag) h λH6 h=>⟨_,rfl,?_⟩
      rw[<-R]at h;refine T _ _ _ _ ?_;rw[<-h0]at h ⊢;exact B bl la lc H6 O.m ez (h.o [2,4,5,0,1,6,8,9,10,11,12,13,14] 15)
    .have h8:iO s r.ag=none:=by unfold iO;grind
     have U:kV s r.ag=[]:=by grind [kV]
     have R:iq s r.ag=s.ms:=by grind [iq]
     refine⟨_,aen (h.o [9] 12) (.inr (.inl y)),?_⟩;intro h7 T;refine⟨λhn=>cS hn eh,λ_=>T _ _ _ _ ?_⟩
     have h:=h.o [9,5,6,0,2,3,4,7,8,10,11] 12;obtain⟨bl,hm,h⟩:=lW.1 h;have j3:bl.length=s.sts.length:=by have:=congrArg List.length hm;grind
     have e1:s.sts.set r.ag.toNat none=s.sts:=by
      grind [List.set_getElem_self]
     have e2:bl.set r.ag.toNat none=bl:=by
      have h1:=rW hm r.ag.toNat
      rw[y,List.getElem?_eq_getElem (show r.ag.toNat<bl.length by omega)]at h1;have:bl[r.ag.toNat]=none:=by
       cases e:bl[r.ag.toNat] with
       | none=>rfl
       | some x=>grind
      grind [List.set_getElem_self]
     have hf:=B bl none 0 W hm (by grind);rw[U,R]at hf;refine hf ?_;rw[show nV Q bl s.sts r.ag.toNat=B1 Q bl s.sts by grind];exact h.cp 523 87
   .rw [b_ (by grind)]at k;have h:=h.o [2,3,4,5,6,7,8,9,10,0,11] 12;have h:aA W (s_ Q sb { s with now:=r.nw,rows:=G.1 }::_):=di.2 ⟨p,h⟩;refine fin [] none 0 _ p _ eh (λJ E A h=>k J E A h) ((h.cp 523 87).o [0,2,3,1] 4)
  refine⟨_,h.r 1,_,h.r 10,_,h.r 10,_,h.r 10,?_,?_⟩
  .have h:=h.o [2,3,0,1,4,5,6,7,8,9,10] 11;refine Ro.Fm ok.rows (agent:=r.ag) (boot:=r.bt) (now:=r.nw) h λH2 h=>⟨_,_,_,_,_,rfl,h.al λb4 _ h=>h.st 0 rfl rfl ?_⟩;intro W h;exact C _ _ (h.o [0,3,4,1,2,5,6,7,8,9,10,11] 12)
  .refine h.al λb5 _ h=>⟨h.r 11,h.r 11,h.r 11,h.r 2,?_⟩
   have h:=h.o [3,4,0,1,2,5,6,7,8,9,10,11] 12;refine Ro.Fm ok.rows (agent:=r.ag) (boot:=r.bt) (now:=r.nw) h λH2 h=>⟨_,_,_,_,_,rfl,h.st 2 rfl rfl ?_⟩;intro W h;exact C _ _ (h.o [2,3,4,0,1,5,6,7,8,9,10,11] 12)
 refine⟨_,h.r 0,_,h.r 9,?_,?_⟩
 .have h:=h.o [1,2,0,3,4,5,6,7,8,9] 10;refine Ro.Fk ok.rows (agent:=r.ag) h λH2 h=>⟨_,_,_,_,rfl,h.al λb6 _ h=>h.st 0 rfl rfl ?_⟩;intro W h;exact L _ _ (h.o [0,3,1,2,4,5,6,7,8,9,10] 11)
 .refine h.al λb7 _ h=>⟨h.r 10,h.r 1,?_⟩
  have h:=h.o [2,3,0,1,4,5,6,7,8,9,10] 11;refine Ro.Fk ok.rows (agent:=r.ag) h λH2 h=>⟨_,_,_,_,rfl,h.st 2 rfl rfl ?_⟩;intro W h;exact L _ _ (h.o [2,3,0,1,4,5,6,7,8,9,10] 11)
def pK(s:aL)(r:Rp):aL:=match s.sts[r.ag.toNat]? with
 | some (some st)=>{ s with now:=r.sm.came,ms:=(s.ms.hold r.ag (lL st.ck r.sm).1.held).1,sts:=s.sts.set r.ag.toNat (some { st with ck:=(lL st.ck r.sm).1 }) }
 | _=>s
def pL(s:aL)(r:Rp):aL:=if s.sunk<r.nx then { s with kept:=s.kept.drop (r.nx-s.sunk).toNat,sunk:=r.nx } else s
def bU(s:aL)(r:Rp):aL×List DF×Int:=
 if r.right=false then (s,[],10) else
 if gE s r≠0 then (s,[],gE s r) else
 if r.kind=1 then ({ s with boots:=s.boots+1 },[],0) else
 if r.kind=2 then iP s r else
 if r.kind=3 then (pK s r,[],0) else
 if r.kind=4 then ((iN s r).1,(iN s r).2,0) else
 if r.kind=5 then (oX s r,[],0) else
 if r.kind=6 then ((lz s r.nw).1,(lz s r.nw).2,0) else
 (pL s r,[],0)
theorem oY(ok:cY s)(c:adG r)(h:gE s r=0)(d:r.kind=3\/r.kind=4\/r.kind=5):∃st,s.sts[r.ag.toNat]?=some (some st):=by
 unfold gE at h;rw[nO,nO]at h;unfold vP at h;have b:=c.ep.1 d;split at h;.simp at h
 rename_i e;have a:isE s r.ag r.ep=true:=by grind
 unfold isE at a;rw[p_]at a;exact (ok.str (j_ a.1)).2
theorem Mh{sb:Nat}{s:aL}{a:KQ}{evs:List Ev}(ok:cY s)(hs:s.sunk<=4611686018427387903)(P:s.kept.length<=100000000000)(y:pJ Q F r a evs)(h:aA H (Q::s_ Q sb s::F)) (k:∀Q' n m d,aH Q Q'->aA d (Q'::ay 523 87 n (bU s r).2.1.length m (flat dV (bU s r).2.1)::s_ Q' sb (bU s r).1::F)->K (.tuple #[.slice n (bU s r).2.1.length m,aD (bU s r).2.2]) d) : CF 213 #[PA sb 0,.agg ⟨dq r a c⟩] H K:=by
 have j2:r.evs.length=evs.length:=by rw[y.eq,FI]
 refine cN 213 0x1d21b21517413c17111413c17413c17171499c [[],[],[],[],[]] (h.al λb H0 h=>⟨_,_,_,_,_,_,_,_,_,_,_,_,_,_,h.q 0,?_⟩);unfold bU at k;refine B5 y.eq h ⟨λH h=>y.rd H h.tl.tl.tl,λe W H h=>(y.labs e W).at h 1 rfl⟩ (by have:=y.len;omega) λH1 h=>⟨_,rfl,λY=>?_,λY=>?_⟩;.rw [c_ (by grind)]at k;have h:=h.o [1,2] 3;exact k Q none 0 _ (aH.refl Q) ((h.cp 523 87).o [1,0,2] 3)
 have hR:r.right=true:=by grind
 have A:=kU hR;rw[b_ (by grind)]at k;have h:=h.o [2,0,1] 3;refine⟨_,_,_,_,_,_,_,_,_,_,_,_,_,_,h.q 1,V5 ok hs P hR h λH2 h=>⟨_,rfl,λY=>?_,λY=>?_⟩⟩;.rw [c_ (by grind)]at k;have h:=h.o [0,2] 3;exact k Q none 0 _ (aH.refl Q) ((h.cp 523 87).o [2,0,1] 3)
 have E:gE s r=0:=by grind
 rw[b_ (by grind)]at k;refine⟨_,h.r 1,?_⟩;intro Jn hJ;have fin:∀(i:aL) d,(∀Q' n m d,aH Q Q'->aA d (Q'::ay 523 87 n 0 m []::s_ Q' sb i::F)->K (.tuple #[.slice n 0 m,aD 0]) d)->aA d (s_ Q sb i::Q::F)->Jn d:=by intro i d kk h;refine hJ _ (kk Q none 0 _ (aH.refl Q) ((h.cp 523 87).o [2,0,1] 3))
 refine⟨λf=>?_,λf=>?_⟩;.have f:=j_ f;rw[c_ f]at k;let⟨p,h⟩:=di.1 h;refine⟨_,h.r 0,h.st 0 rfl rfl ?_⟩;intro w h;have hb:=ok.boots;rw[aN (x:=s.boots+1)]at h;have h:=h.o [0,1,2,3,4,5,6,7,8,10] 11;have h:aA w (s_ Q sb { s with boots:=s.boots+1 }::_):=di.2 ⟨p,h⟩;exact fin _ _ k h
 have h2:=h_ f;rw[b_ h2]at k;refine⟨λf=>?_,λf=>?_⟩;.have D:=j_ f;rw[c_ D]at k;refine⟨_,_,_,_,_,_,_,_,_,_,_,_,_,_,h.q 1,Fm ok hR D h λn m w h=>⟨_,_,_,_,rfl,k Q n m w (aH.refl Q) (h.o [3,0,1] 4)⟩⟩
 have D:=h_ f;rw[b_ D]at k;intro h6 V;have J:∀(i:aL) d,(∀Q' n m d,aH Q Q'->aA d (Q'::ay 523 87 n 0 m []::s_ Q' sb i::F)->K (.tuple #[.slice n 0 m,aD 0]) d)->aA d (s_ Q sb i::Q::F)->h6 d:=by intro i d kk h;refine V _ (fin i d kk h)
 refine⟨λf=>?_,λf=>?_⟩
 .have C:=j_ f;rw[c_ C]at k;let⟨st,t⟩:=oY ok A E (.inl C);unfold pK at k;rw[t]at k;dsimp only at k;have O:=ok.sts st (LA t);have R:((r.ag.toNat:Nat):Int)=r.ag:=by have:=A.ag;omega
  let⟨p,h⟩:=di.1 h;have h:=h.o [7,0,1,2,3,4,5,6,8,9,10] 11;let⟨h8,bl,M,h⟩:=rX h t;have h:=h.o [1,0,2,3,4,5,6,7,8,9,10,11,12] 13;let⟨cb,hb,h⟩:=io.1 h;have G:=rY M h 3 rfl;rw[R]at G;refine⟨_,h.r 5,_,h.r 13,_,G,⟨_,h.rd 0 rfl 0,_,_,_,_,h.q 13,?_⟩⟩;have h:=h.o [1,0,2,3,4,5,6,7,8,9,10,11,12,13,14] 15;refine S5 (s:=r.sm) O.ck h λw h=>⟨_,rfl,_,h.r 5,_,h.rd 13 rfl _,⟨_,h.rd 1 rfl 0,_,vh h,?_⟩⟩;have h:=h.o [8,9,0,1,2,3,4,5,6,7,10,11,12,13,14] 15;refine Ma.aaD (a:=r.ag) (v:=(lL st.ck r.sm).1.held) h λH4 h=>⟨_,rfl,_,h.r 13,h.st 7 rfl rfl ?_⟩;intro H5 h;refine J _ _ k ?_;have h:=h.o [3,2,4,5,6,7,8,9,0,1,10,11,12,14] 15;have h:aA H5 (Ft Q h8 { st with ck:=(lL st.ck r.sm).1 }::_):=io.2 ⟨cb,hb,h⟩;have h:=h.o [1,0,2,3,4,5,6,7,8,9,10,11] 12;have h:=tX M h;exact di.2 ⟨p,h.o [1,2,3,4,5,6,7,0,8,9] 10⟩
 have C:=h_ f;rw[b_ C]at k;refine⟨λf=>?_,λf=>?_⟩;.have u:=j_ f;rw[c_ u]at k;let⟨st,t⟩:=oY ok A E (.inr (.inl u));have hb:=A.evs u;unfold gy at hb;simp only[p_,za,XU]at hb;refine⟨_,_,_,_,_,_,_,_,_,_,_,_,_,_,h.q 1,?_⟩;have h:=h.o [2,0,1] 3;refine V3 (evs:=evs) ok A.ag.1 t ⟨y.eq,λH h=>y.rd H h.tl,y.labs,y.len,y.GK⟩ (λe W=>hb.2.2 e W) ez h λQ2 n m w h3 h=>⟨_,_,_,rfl,k Q2 n m w h3 (h.o [0,1,2] 4)⟩
 have u:=h_ f;rw[b_ u]at k;intro h0 Z;have L:∀(i:aL) d,(∀Q' n m d,aH Q Q'->aA d (Q'::ay 523 87 n 0 m []::s_ Q' sb i::F)->K (.tuple #[.slice n 0 m,aD 0]) d)->aA d (s_ Q sb i::Q::F)->h0 d:=by intro i d kk h;refine Z _ (J i d kk h)
 refine⟨λf=>?_,λf=>?_⟩;.have B:=j_ f;rw[c_ B]at k;let⟨st,t⟩:=oY ok A E (.inr (.inr B));refine⟨_,_,_,_,_,_,_,_,_,_,_,_,_,_,h.q 1,V4 ok A.ag.1 t h λw h=>⟨rfl,L _ _ k (h.o [0,2] 3)⟩⟩
 have B:=h_ f;rw[b_ B]at k;refine⟨λf=>?_,λf=>?_⟩;.have N:=j_ f;rw[c_ N]at k;refine⟨_,h.r 1,Hm ok hs P h λn m w h=>⟨_,_,_,rfl,k Q n m w (aH.refl Q) (h.o [3,0,1] 4)⟩⟩
 have N:=h_ f;rw[b_ N]at k;intro h1 h4;have S:∀(i:aL) d,(∀Q' n m d,aH Q Q'->aA d (Q'::ay 523 87 n 0 m []::s_ Q' sb i::F)->K (.tuple #[.slice n 0 m,aD 0]) d)->aA d (s_ Q sb i::Q::F)->h1 d:=by intro i d kk h;refine h4 _ (L i d kk h)
 have h5:r.kind=7:=by have:=A.kind;omega
 refine⟨λ_=>?_,λf=>cS h5 (h_ f)⟩;let⟨p,h⟩:=di.1 h;refine⟨_,h.r 9,_,h.r 0,?_⟩;intro h7 U;have I:∀(i:aL) d,(∀Q' n m d,aH Q Q'->aA d (Q'::ay 523 87 n 0 m []::s_ Q' sb i::F)->K (.tuple #[.slice n 0 m,aD 0]) d)->aA d (s_ Q sb i::Q::F)->h7 d:=by intro i d kk h;refine U _ (S i d kk h)
 unfold pL at k;refine⟨λf=>?_,λf=>?_⟩
 .have f:=j_ f;rw[c_ f]at k;have T:r.nx<=s.next:=by unfold gE at E;grind
  have T:r.nx<=s.sunk+(s.kept.length:Int):=T;have j1:=ok.sunk;have h9:=A.nx;have hw:i64.wrap (r.nx-s.sunk)=((r.nx-s.sunk).toNat:Nat):=by grind [aN]
  refine⟨_,_,_,h.r 0,_,h.r 9,_,h.r 0,?_⟩;dsimp only;conv=>whnf
  rw[hw];have h:=h.o [8,0,1,2,3,4,5,6,7,9,10] 11;refine TV (j:=(r.nx-s.sunk).toNat) ez h λw h=>⟨_,_,_,rfl,h.st 1 rfl rfl ?_⟩;intro H4 h;refine⟨_,h.r 9,h.st 1 rfl rfl ?_⟩;intro H5 h;refine I _ _ k (di.2 ⟨p,?_⟩);have e:(s.kept.drop (r.nx-s.sunk).toNat).length=s.kept.length-(r.nx-s.sunk).toNat:=W_ ..;simp only[dx,e];exact h.o [1,2,3,4,5,6,7,8,0,10] 11
 rw [b_ (h_ f)]at k;refine I _ _ k (di.2 ⟨p,h.o [0,1,2,3,4,5,6,7,8,10] 11⟩)
theorem Mi{α:Type}{next most B:Int}:∀{l:List α} {n:Int} {s:cF α×Int},(∀p∈s.1,p.1<B)->n+l.length<=B->∀p∈(fx next most n l s).1,p.1<B
 | [],n,s,h,_=>h
 | v::vs,n,s,h,hn=>by
  rw[CV]at hn;refine Mi (l:=vs) (λp a=>?_) ez
  unfold eM at a
  split at a
  .grind
  .split at a
   .grind
   .rcases uI.1 a with rfl|a
    .grind
    grind
theorem abM{α:Type}{B:Int}:∀{l:cF α} {next:Int},next<=B->(∀p∈l,p.1<B)->(pop next l).2.1<=B
 | [],next,h,_=>h
 | (n,v)::r,next,h,hl=>by
  unfold pop
  split
  .rename_i e;have:=hl _ (D_ ..);exact abM (l:=r) (next:=next+1) (by grind) λp a=>hl p (DG _ a)
  .exact h
theorem Mj{s:HS I}{first:Int}{items:List I}(a:s.next<=B)(b:∀p∈s.rows,p.1<B)(d:first+items.length<=B) : (s.offer first items).1.next<=B/\∀p∈(s.offer first items).1.rows,p.1<B:=by
 unfold HS.offer;split;.grind
 have h:=Mi (next:=s.next) (most:=s.most) (l:=items) (n:=first) (s:=(s.rows,0)) b d;exact⟨abM a h,λp c=>h p (Bw.2 p c)⟩
theorem Mk(ms:MS)(a t:Int):(ms.raise a t).1.hY=ms.hY:=by grind [MS.raise]
theorem acG(ms:MS)(a:Int)(b:Bool):(ms.hold a b).1.hY=ms.hY:=by grind [MS.hold]
theorem V7(ms:MS)(a:Int):(ms.leave a).1.hY=ms.hY:=by grind [MS.leave]
theorem acz(ms:MS)(a t:Int):(ms.join a t).1.hY=ms.hY:=by grind [MS.join]
theorem aa5(ms:MS)(t:Int):(ms.tick t).1.hY=ms.hY:=by grind [MS.tick]
theorem Ml{c:bM}{now a:Int}{st:bC}{cm:CM}{e:Pv}(h:E7 R):E7 (eW c now a st R cm e).ms/\(eW c now a st R cm e).ms.hY=R.hY:=by have b:=h.raise a (cW st.ck (bJ R a) now e.stamp).1.lo;have d:=Mk R a (cW st.ck (bJ R a) now e.stamp).1.lo;unfold eW;grind
theorem Mm{c:bM}{now a ep first:Int}{evs:List Pv}{x:JS}(h:E7 x.ms)(f:-1<=x.st.last/\x.st.last<=4611686018427387903)(i:∀e∈evs,gw e=true):∀n,n<=evs.length->
  E7 (dI c now a ep first evs x n).1.ms/\(dI c now a ep first evs x n).1.ms.hY=x.ms.hY/\-1<=(dI c now a ep first evs x n).1.st.last/\(dI c now a ep first evs x n).1.st.last<=4611686018427387903
 | 0,_=>⟨h,rfl,f⟩
 | n+1,hn=>by
  have d:=Mm (c:=c) (now:=now) (a:=a) (ep:=ep) (first:=first) h f i n ez;have j:=Ct c now a (dI c now a ep first evs x n).1.st (dI c now a ep first evs x n).1.ms (dI c now a ep first evs x n).1.cm (evs.getD n Pv.z);have hm:=Ml (c:=c) (now:=now) (a:=a) (st:=(dI c now a ep first evs x n).1.st) (cm:=(dI c now a ep first evs x n).1.cm) (e:=evs.getD n Pv.z) d.1;have b:gw (evs.getD n Pv.z)=true:=by rw[xS _ ez];exact i _ (qa _)
  unfold gw at b;simp only[p_,za]at b;refine⟨hm.1,hm.2.trans d.2.1,?_⟩;show -1<=(eW c now a _ _ _ _).st.last/\(eW c now a _ _ _ _).st.last<=_
  rcases j.2.2 with e|e
  .rw [e];exact d.2.2
  .rw [e];omega
theorem cY.XO(ok:cY s){st:bC}{now:Int}{ms:MS}{cm:CM}(i:s.sts[c]?=some (some st))(d:FC now)(e:E7 ms)(h:ms.hY=s.ms.hY)(m:eI s.cfg.cells cm)(f:mN s.cfg b) : cY { s with now:=now,ms:=ms,cm:=cm,sts:=s.sts.set c (some b) }:=by
 have k:c<s.sts.length:=(List.getElem?_eq_some_iff.1 i).1;refine⟨ok.cfg,d,ok.boots,ok.sunk,ok.rows,e,h.trans ok.hY,m,?_,λx a=>?_,λj=>?_,ok.kept⟩;.show (s.sts.set c _).length=64;rw[List.length_set,ok.len]
 .rcases q34 a with a|a;.exact ok.sts x a
  cases a;exact f
 rw [<-ok.CA j];grind
theorem cY.CT(ok:cY s){now:Int}{ms:MS}{cm:CM}{kept:List Ot}{sunk boots:Int}(a:FC now)(b:E7 ms)(e:ms.hY=s.ms.hY)(h:eI s.cfg.cells cm)(d:∀o∈kept,WC o.2)(f:0<=sunk)(c:0<=boots/\boots<=1099511627776) : cY { s with now:=now,ms:=ms,cm:=cm,kept:=kept,sunk:=sunk,boots:=boots }:=⟨ok.cfg,a,c,f,ok.rows,b,e.trans ok.hY,h,ok.len,ok.sts,ok.CA,d⟩
theorem yD(h:eI v O):∀o∈bB O,WC o.2:=by intro o a;unfold bB at a;obtain⟨k,_,rfl⟩:=Ax.1 a;exact h.cell k
theorem V8(h:jZ N):mN N (nY N) where
 ck:=⟨by simp[nY],λs hs=>cS hs (by simp[nY]),by show (0:Int)<=0/\(0:Int)<=9223372036854775807;decide⟩
 kl:=rfl
 least:=rfl
 hs:=⟨by show (0:Int)<=0;decide,h.hd.1,h.hd.2,⟨by simp[nY,gY],λp a=>cS a (by simp[nY])⟩⟩
 most:=rfl
 next:=by show (0:Int)<=_;decide
 rows:=λp a=>cS a (by simp[nY])
 last:=by show (-1:Int)<=-1/\(-1:Int)<=4611686018427387903;decide
theorem V9(c:Ck)(s:bT):(lL c s).1.kl=c.kl/\(lL c s).1.least=c.least:=by unfold lL;grind
theorem adg{s:aL}(ok:cY s)(t:adG r)(D:r.kind=4)(i:s.sts[r.ag.toNat]?=some (some b))(E:∀e∈r.evs,aG e.value):cY (iN s r).1:=by
 have st:=ok.sts b (LA i);have hb:=t.evs D;unfold gy at hb;simp only[p_,za,XU]at hb;let⟨⟨v,u⟩,⟨⟨w,y⟩,C⟩,A⟩:=hb;have n:=HS.Xe st.hs r.nx r.evs;have hm:=vw (s:=b.hs) (first:=r.nx) (items:=r.evs);have m:=Mj (s:=b.hs) (first:=r.nx) (B:=1099511627776) (items:=r.evs) st.next (λp k=>(st.rows p k).1) ez;unfold iN;rw[i];dsimp only;unfold nX;generalize b.hs.offer r.nx r.evs=O at *;have Xj:∀e∈O.2.1,gw e=true/\aG e.value:=by
  intro e j;rcases hm.1 e j with h|⟨q,h,rfl⟩;.grind
  exact (st.rows q h).2
 have f:=Cu (c:=s.cfg) (now:=r.nw) (a:=r.ag) (ep:=r.ep) (first:=b.hs.next) (evs:=O.2.1) (x:=⟨{ b with hs:=O.1 },s.ms,s.cm⟩) ok.sh (λe j=>(Xj e j).2) O.2.1.length (yb _);have d:=Mm (c:=s.cfg) (now:=r.nw) (a:=r.ag) (ep:=r.ep) (first:=b.hs.next) (evs:=O.2.1) (x:=⟨{ b with hs:=O.1 },s.ms,s.cm⟩) ok.ms st.last (λe j=>(Xj e j).1) O.2.1.length (yb _);generalize dI s.cfg r.nw r.ag r.ep b.hs.next O.2.1 ⟨{ b with hs:=O.1 },s.ms,s.cm⟩ O.2.1.length=G at *;refine ok.XO i t.nw d.1 d.2.1 f.1 ⟨by rw[f.2.1];exact st.ck,by rw[f.2.1];exact st.kl,by rw[f.2.1];exact st.least,by rw[f.2.2.1];exact n.1,by rw[f.2.2.1];exact n.2.2.2.trans st.most,by grind,?_,d.2.2⟩;rw[f.2.2.1];intro p k;refine⟨m.2 p k,?_⟩;rcases hm.2 p k with h|h;.grind
 exact (st.rows p h).2
theorem Cv{most:Int}(c:gj M)(a b n:Int) : ((cP most M a b n).2.2.1=true/\(cP most M a b n).1=M.set a.toNat (cP most M a b n).2.1/\0<(cP most M a b n).2.1.epoch/\(cP most M a b n).2.2.2=0/\(cP most M a b n).2.1.epoch=(bI M a).epoch+1)\/ ((cP most M a b n).2.2.1=false/\(cP most M a b n).1=M/\((cP most M a b n).2.2.2=0->(cP most M a b n).2.1=bI M a/\0<(bI M a).epoch)):=by have h0:=(c.at a).1;unfold cP;grind
theorem aeX(ok:cY s)(a:Int):E7 (iq s a)/\(iq s a).hY=s.ms.hY:=by
 unfold iq;split;.exact⟨ok.ms.leave a,V7 _ _⟩
 exact⟨ok.ms,rfl⟩
theorem VA(ok:cY s)(c:adG r):cY (iP s r).1:=by
 have h:=Cv (most:=s.cfg.agents) ok.rows r.ag r.bt r.nw;have d:=acI (most:=s.cfg.agents) ok.rows r.ag r.bt r.nw;have f:=aeX ok r.ag;unfold iP;split;.exact ok
 split
 .rename_i b;rcases h with ⟨-,g2,g3,g4,-⟩|⟨g1,_⟩
  .have k:r.ag.toNat<s.sts.length:=by rw[ok.len];have:=c.ag;omega
   have i:r.ag.toNat<s.rows.length:=by rw[ok.rows.len];have:=c.ag;omega
   refine⟨ok.cfg,c.nw,ok.boots,ok.sunk,d,f.1.join _ _,(acz _ _ _).trans (f.2.trans ok.hY),ok.sh,?_,λx a=>?_,λj=>?_,ok.kept⟩;.show (s.sts.set _ _).length=64;rw[List.length_set,ok.len]
   .rcases q34 a with a|a;.exact ok.sts x a
    cases a;exact V8 ok.cfg
   dsimp only;rw[g2];by_cases e:j=r.ag.toNat;.simp_all
   rw [List.getElem?_set_ne ez,List.getElem?_set_ne ez];exact ok.CA j
  rw [g1]at b;cases b
 rename_i b;rcases h with ⟨g1,_⟩|⟨-,g2,_⟩;.exact cS g1 b
 dsimp only;rw[g2];exact ok.CT (kept:=s.kept) (sunk:=s.sunk) (boots:=s.boots) c.nw ok.ms rfl ok.sh ok.kept ok.sunk ok.boots
theorem yE{o:Ot}(h:o∈ja O v):o∈bB O:=(List.takeWhile_sublist _).subset h
theorem ado(ok:cY s)(m:∀e∈r.evs,aG e.value):cY (bU s r).1:=by
 unfold bU;split;.exact ok
 rename_i j;have j:r.right=true:=by grind
 have d:=kU j;split;.exact ok
 rename_i c;have c:gE s r=0:=by grind
 split
 .rename_i h;have hb:s.boots<1099511627776:=by unfold gE at c;grind
  exact ok.CT (now:=s.now) (kept:=s.kept) (sunk:=s.sunk) (boots:=s.boots+1) ok.now ok.ms rfl ok.sh ok.kept ok.sunk (by have:=ok.boots;omega)
 split;.exact VA ok d
 split;.rename_i h;let⟨st,b⟩:=oY ok d c (.inl h);have a:=ok.sts st (LA b);unfold pK;rw[b];have k:=V9 st.ck r.sm;have i:=d.sm;unfold bT.ok at i;exact ok.XO b i.2.2.2.1 (ok.ms.hold _ _) (acG _ _ _) ok.sh ⟨ac8 a.ck r.sm,k.1.trans a.kl,k.2.trans a.least,a.hs,a.most,a.next,a.rows,a.last⟩
 split;.rename_i h;let⟨st,b⟩:=oY ok d c (.inr (.inl h));exact adg ok d h b m
 split
 .rename_i h;let⟨st,b⟩:=oY ok d c (.inr (.inr h));have a:=ok.sts st (LA b);have same:=ok.CT (now:=r.nw) (kept:=s.kept) (sunk:=s.sunk) (boots:=s.boots) d.nw ok.ms rfl ok.sh ok.kept ok.sunk ok.boots;unfold oX;rw[b];dsimp only;split;.exact same
  split;.exact same
  have:=d.st;exact ok.XO b d.nw (ok.ms.raise _ _) (Mk _ _ _) ok.sh ⟨a.ck,a.kl,a.least,a.hs,a.most,a.next,a.rows,by grind⟩
 split
 .unfold lz;exact ok.CT (sunk:=s.sunk) (boots:=s.boots) d.nw (ok.ms.tick _) (aa5 _ _) (Vy ok.sh) (λo f=>by
   rcases C_.1 f with f|f;.exact ok.kept o f
   exact yD ok.sh o (yE f)) ok.sunk ok.boots
 unfold pL;split;.exact ok.CT (now:=s.now) (boots:=s.boots) ok.now ok.ms rfl ok.sh (λo f=>ok.kept o (q22 f)) d.nx.1 ok.boots
 exact ok
def fH(c:bM):Bool:=decide c.gd.ok&&decide (1<=c.hY/\c.hY<=1099511627776)&&decide (ju c.kl/\0<=c.zx/\c.zx<=100)&&decide (1<=c.agents/\c.agents<=64)&&decide (1<=c.cells/\c.cells<=1024)&&decide (1<=c.hold/\c.hold<=256)
theorem vQ(h:fH N=true):jZ N:=by unfold fH at h;simp only[p_,za]at h;let⟨⟨⟨⟨⟨a,b⟩,d⟩,i⟩,f⟩,e⟩:=h;exact⟨a,b,d,i,f,e⟩
def cz(c:bM):aL:=⟨c,0,0,0,List.replicate 64 En.z,MS.new c.hY,[],List.replicate 64 none,[]⟩
theorem rZ(h:jZ N):cY (cz N) where
 cfg:=h
 now:=by show FC 0;decide
 boots:=by show (0:Int)<=0/\(0:Int)<=1099511627776;decide
 sunk:=by show (0:Int)<=0;decide
 rows:=Vi
 ms:=E7.new h.hY.1 h.hY.2
 hY:=rfl
 sh:=⟨h.cl.1,h.cl.2,by simp[cz],λp a=>cS a (by simp[cz]),λp a=>cS a (by simp[cz]),λp a=>cS a (by simp[cz]),by have:=h.cl;grind [cz]⟩
 len:=by simp[cz]
 sts:=λst hs=>by
  have:=List.eq_of_mem_replicate hs
  cases this
 CA:=λk=>by
  unfold cz;dsimp only;rw[List.getElem?_replicate,List.getElem?_replicate]
  by_cases hk:k<64
  .rw [c_ hk,c_ hk]
   grind [En.z]
  grind
 kept:=λo b=>cS b (by simp[cz])
structure AgR where
 en:En
 fl:Fl
 last:Int
 next:Int
 wait:Int
 eb:Int
def AgR.z:AgR:=⟨En.z,Fl.z,0,0,0,0⟩
abbrev afv(x:AgR):Xa:=[aB x.en.epoch,aB x.en.boot,aB x.en.time,aB x.fl.t,.bool x.fl.out,.bool x.fl.u_,.bool x.fl.held,aB x.last,aB x.next,aB x.wait,aB x.eb]
def kW(s:aL)(a:Int):AgR×Bool:=if 0<(bI s.rows a).epoch then (match iO s a with
 | some st=>(⟨bI s.rows a,bJ s.ms a,st.last,st.hs.next,(st.hs.rows.length:Nat),(st.ck.eb.length:Nat)⟩,true)
 | none=>(AgR.z,true)) else (AgR.z,false)
section
variable {F L:List aF}{H:aC}{K KP:KE}{Q Q':aF}
def eN(p:Prop)[Decidable p]:Int:=if p then 0 else 11
theorem vR{p:Prop}[Decidable p](h:p):eN p=0:=c_ h
theorem vS{p:Prop}[Decidable p](h:¬p):eN p=11:=b_ h
theorem l7(h:aA H F):aA H (emp::F):=by unfold aA at *;simpa[star,qd] using h
theorem ajU{hY:Int}(h:aA H F)(k:∀p a,aA a F->K (.tuple #[.pointer p,aD (eN (1<=hY/\hY<=1099511627776))]) a):CF 311 #[aD hY] H K:=by
 refine Ma.ED h (λd=>?_) λb c mb rb a h=>?_;.have:=k none H h;rw[vS ez]at this;exact this
 have:=k (some ⟨mb,0,none⟩) a h.tl.tl;rw[vR ⟨b,c⟩]at this;exact this
theorem ait{kl least:Int}(h:aA H F)(k:∀p a,aA a F->K (.tuple #[.pointer p,aD (eN (ju kl/\0<=least/\least<=100))]) a):CF 312 #[aD kl,aD least] H K:=by
 refine J6 h (λc=>?_) λd b a h=>?_;.have:=k none H h;rw[vS c]at this;exact this
 have:=k (some ⟨b,0,none⟩) a h.tl;rw[vR d]at this;exact this
theorem ajR{most:Int}(h:aA H F)(k:∀p a,aA a F->K (.tuple #[.pointer p,aD (eN (1<=most/\most<=64))]) a):CF 313 #[aD most] H K:=by
 refine Ro.ED h (λb=>?_) λc rb mb a h=>?_;.have:=k none H h;rw[vS ez]at this;exact this
 have:=k (some ⟨rb,0,none⟩) a h.tl.tl;rw[vR ez]at this;exact this
theorem ahH{most:Int}(h:aA H F)(k:∀p a,aA a F->K (.tuple #[.pointer p,aD (eN (1<=most/\most<=1024))]) a):CF 314 #[aD most] H K:=by
 refine JJ h (λb=>?_) λrb mb a ok h=>?_;.have:=k none H h;rw[vS ez]at this;exact this
 have:=k (some ⟨rb,0,none⟩) a h.tl.tl;rw[vR ⟨ok.m1,ok.m2⟩]at this;exact this
theorem aj2{most:Int}(h:aA H F)(k:∀p a,aA a F->K (.tuple #[.pointer p,aD (eN (1<=most/\most<=256))]) a):CF 315 #[aD 0,aD most] H K:=by
 refine By (Q:=emp) h (λb=>?_) λhb a c h=>?_;.have:=k none H h;rw[vS ez]at this;exact this
 have:=k (some ⟨hb,0,none⟩) a h.tl;rw[vR ez]at this;exact this
theorem aju{a b c d e f:Int}:i8 Tryz.prog .eql 550 (.agg #[aD a,aD b,aD c,aD d,aD e,aD f]) (.agg #[aD 0,aD 0,aD 0,aD 0,aD 0,aD 0]) (decide (a=0)&&decide (b=0)&&decide (c=0)&&decide (d=0)&&decide (e=0)&&decide (f=0)):=by
 have h:=(xp (P:=Tryz.prog) (t:=550) (xs:=[aD a,aD b,aD c,aD d,aD e,aD f]) (ys:=[aD 0,aD 0,aD 0,aD 0,aD 0,aD 0]) (r:=(a == 0&&(b == 0&&(c == 0&&(d == 0&&(e == 0&&(f == 0&&true))))))) kf).1;have e:(a == 0&&(b == 0&&(c == 0&&(d == 0&&(e == 0&&(f == 0&&true))))))=(decide (a=0)&&decide (b=0)&&decide (c=0)&&decide (d=0)&&decide (e=0)&&decide (f=0)):=by grind
 rw[e]at h;exact h
theorem eN0(p:Prop)[Decidable p]:decide (eN p=0)=decide p:=by grind [eN]
theorem Cw{c:bM}(h:aA H F)(k:∀d,aA d F->K (.bool (fH c)) d):CF 245 #[.agg ⟨pI c⟩] H K:=by
 refine cM 245 286331164 (h.al λb _ h=>⟨_,h.r 0,_,h.r 0,_,h.r 0,J3 (g:=c.gd) h λm h=>⟨_,_,_,_,rfl,h.al λb1 _ h=>h.st 0 rfl rfl ?_⟩⟩);intro n h;refine⟨_,h.r 1,ajU h λp1 j h=>⟨_,_,rfl,_,h.r 1,_,h.r 1,ait h λp2 i h=>⟨_,_,rfl,_,h.r 1,ajR h λp3 s h=>⟨_,_,rfl,_,h.r 1,ahH h λp4 t h=>⟨_,_,rfl,_,h.r 1,aj2 h λp5 f h=>⟨_,_,rfl,_,aju,?_⟩⟩⟩⟩⟩⟩;have e:fH c=(decide ((if c.gd.ok then (0:Int) else 11)=0)&&decide (eN (1<=c.hY/\c.hY<=1099511627776)=0)&&decide (eN (ju c.kl/\0<=c.zx/\c.zx<=100)=0)&&decide (eN (1<=c.agents/\c.agents<=64)=0)&&decide (eN (1<=c.cells/\c.cells<=1024)=0)&&decide (eN (1<=c.hold/\c.hold<=256)=0)):=by have a:=eN0 c.gd.ok;unfold eN at a;rw[a,eN0,eN0,eN0,eN0,eN0];rfl
 rw[<-e];exact k _ h.tl.tl
theorem Mn{c:bM}(h:aA H F)(k1:fH c=false->∀a,aA a F->K (.tuple #[.pointer none,aD 11]) a)(k2:fH c=true->∀sb a,aA a (s_ Q sb (cz c)::F)->K (.tuple #[PA sb 0,aD 0]) a) : CF 249 #[.agg ⟨pI c⟩] H K:=by
 refine cM 249 487657756 (h.al λb _ h=>⟨_,_,_,_,_,_,_,_,_,h.q 0,Cw (c:=c) h λw h=>⟨_,rfl,λk=>?_,λk=>?_⟩⟩);.exact k1 (by grind) _ h.tl
 have f:fH c=true:=by grind
 have ok:=vQ f;refine⟨_,_,_,_,_,_,_,_,_,h.q 0,h.XE aD LB λtm _ h=>h.al λsb _ h=>⟨_,h.r 2,_,h.r 2,_,h.r 2,J3 (g:=c.gd) h λt h=>⟨_,_,_,_,rfl,?_⟩⟩⟩;rw[c_ ok.gd];refine h.st 0 rfl rfl ?_;intro u h;refine⟨_,h.r 2,Ro.ED h (λd=>cS ok.ag ez) λ_ rb rm s h=>⟨_,_,rfl,h.st 2 rfl rfl ?_⟩⟩;intro n h;refine⟨_,h.r 4,Ma.ED h (λd=>cS ok.hY ez) λ_ _ mb mm v h=>⟨_,_,rfl,h.st 4 rfl rfl ?_⟩⟩;intro x h;refine⟨_,h.r 6,JJ h (λd=>cS ok.cl ez) λhb hm m _ h=>⟨_,_,rfl,h.st 6 rfl rfl ?_⟩⟩;intro j h;refine k2 f sb _ (di.2 ⟨⟨rb,rm,mb,mm,hb,hm,tm,none,0⟩,?_⟩);have h:=(h.cp 184 74).o [8,0,7,5,6,3,4,1,2] 10;have i:aA j (na Q tm (List.replicate 64 none)::_):=lW.2 ⟨List.replicate 64 none,eh,by rw[Cr];have e:de 0 (List.replicate 64 (none:Option Nat))=[]:=ee;rw[e];have:=l7 h;exact this.o [1,0] 2⟩;exact i.o [2,3,4,5,6,7,8,0,1] 9
end
section
variable {F L:List aF}{H:aC}{K KP:KE}{Q:aF}
theorem VB(s:RS):(bg 4096 s).1.length<=4096:=by grind [bg]
theorem acS{s s':RS}{l:List Pv}(h:mM s=.ok (l,s')):l.length<=64:=by
 unfold mM at h;split at h;.cases h
 rename_i n s1 a;have:=Ci h;unfold dZ FT at a;split at a;.cases a
 cases a;have:=BL s;omega
theorem Mo:∀{n:Nat} {s s':RS} {l:List Pv},j6 n s=.ok (l,s')->∀e∈l,dB e.name e.labs=true
 | 0,s,s',l,h=>by cases h;simp
 | n+1,s,s',l,h=>by
  unfold j6 at h
  split at h
  .cases h
  .rename_i f s1 c
   split at h
   .cases h
   .rename_i v s2 b
    cases h
    intro e a
    rcases C_.1 a with a|a
    .exact Mo c e a
    .rw [CU]at a;subst a;unfold evQ FT at b
     split at b
     .cases b
     .rename_i d
      cases b
      exact Kl (eu d)
theorem VD{s s':RS}{l:List Pv}(h:mM s=.ok (l,s')):∀e∈l,e.labs.length<=1000000:=by
 unfold mM at h;split at h;.cases h
 intro e a;have:=(lQ (Mo h e a)).len;omega
theorem VE{a:KQ}{c:Nat}{bs:List Int}(h:aA H (Q::F))(ha:∀H,aA H (Q::F)->aQ H a (bs.map U8))(hb:aI bs)(hl:bs.length<=1099511627776)
  (k:agJ Q F K (nR bs)):CF 86 #[.slice a bs.length c] H K:=by
 refine QM (h.al λb _ h=>h.al λb1 _ h=>?_)
 have CY:∀e Q' I cs v1,nR bs=.error e->e≠0->aH Q Q'->cs.length=14->aA I (ax b1 [aD v1] 58::ax b cs 99::Q'::F)->
   bK 156 X.calls=true/\cH Tryz.prog 156 (dz b 0 b1 0) (br (pnF e) false) I λu H_=>u=br (pnF e) true/\kD H_ b 0 λl=>aO H_ b1 0 λl0=>K (fk (.agg ⟨l⟩) l0) H_:=by
  intro e Q' I cs v1 y d hs j3 h;refine⟨rfl,Vf j3 h λH2 h=>⟨rfl,_,_,_,_,_,_,_,_,_,_,_,_,_,_,_,_,_,_,_,_,h.q 1,_,h.r 0,?_⟩⟩
  rw[y]at k;exact k Q' _ d hs h.tl.tl
 refine tD h (λH h=>ha H h.tl.tl) hl λrb H2 h=>⟨_,rfl,Va h hb hl ?_⟩;unfold nR at k CY
 cases hr0:pH ⟨0,bs⟩ with
 | error e=>
  rw[hr0]at CY;exact λI d h=>CY _ Q _ _ _ rfl d (aH.refl Q) rfl h
 | ok p=>
 let⟨n,s1⟩:=p;rw[hr0]at CY k;dsimp only at CY k;have hkd:=acu hr0;intro H4 h2 h7 r0 h;refine⟨_,rfl,h.st 2 rfl rfl ?_⟩;intro H5 h;have h:aA H5 (ke rb s1::ax b1 [aD 0] 58::ax b (cT { kind:=n } {}) 99::Q::F):=h;refine ym (k0:=n) h 2 rfl rfl λp pc H6 _ h=>⟨_,_,_,rfl,?_⟩
 have ho:=vC n;refine⟨λi I=>∃(j:Nat) (U:List Int) (s2:RS),i=j/\j<=(aU n).length/\j4 j s1=.ok (U,s2)/\s2.e=0/\aI s2.bs/\s2.bs.length<=1099511627776/\
  aA I (ke rb s2::ay 339 1 p (aU n).length pc ((aU n).map λi=>PA b i)::ax b1 [aD 0] 58::ax b (cT (iM { kind:=n } ((aU n).take j) U) {}) 99::Q::F),
  λi _=>(aU n).length-i.toNat,⟨0,[],s1,rfl,ez,rfl,h2,h7,r0,h.o [1,0,2,3,4] 5⟩,?_⟩
 rintro i H7 ⟨j,U,s2,rfl,hj,W,he2,G,M,h⟩;have hvl:=BH W;refine⟨λw=>?_,λw=>?_⟩
 .have w:j<(aU n).length:=by grind
  have DH:=(h.a_ 1 rfl).at w;have hi:=B7 _ (qa w);refine⟨ez,_,_,DH.1,_,DH.2,oT h G M λH8 h=>⟨_,rfl,dj ?_⟩⟩
  have E:=ij G;have O:=kN s2;refine h.st 3 rfl (Nat.ble_eq_true_of_le (by show (aU n)[j]+1<=14;omega)) ?_;intro H9 h;refine⟨_,nE h,?_⟩;have D:j4 (j+1) s1=match cQ s2 with|.error e=>.error e|.ok (v,s2)=>.ok (U++[v],s2):=by
   grind [j4]
  unfold cQ FT at D;refine tV (λe=>⟨rfl,?_⟩) λe=>?_
  .rw [b_ (by grind)]at D;dsimp only at D;have hw:i64.wrap ((j:Int)+1)=((j+1:Nat):Int):=by grind [aN]
   refine⟨⟨j+1,_,(bQ s2).2,hw,w,D,e,E,ez,?_⟩,by grind⟩;rw[YX w,L8 (by grind)];have h:aA H9 (ke rb (bQ s2).2::ay 339 1 p (aU n).length pc ((aU n).map λi=>PA b i)::ax b1 [aD 0] 58::ax b (cu (cT (iM { kind:=n } ((aU n).take j) U) {}) (0+(aU n)[j]) [aD (i64.wrap ((bQ s2).1:Int))]) 99::Q::F):=by
    rw[CO];exact h
   rw[CO,acY hi.1 hi.2]at h;exact h
  .rw [c_ e]at D;rw[BI D w]at CY;exact CY _ Q _ _ _ rfl e (aH.refl Q) (oF ..) (h.o [2,3] 4)
 have r9:j=(aU n).length:=by grind
 subst r9;rw[W]at CY k;dsimp only at CY k;rw[FJ]at h;have C:∀x:QA,(n≠5->x.ea=none/\x.ec=0)->(n≠8->x.la=none/\x.lc=0/\x.da=none/\x.dc=0)->(iM { kind:=n } (aU n) U).Sh x:=λx P S=>ae1 P S
 let⟨a1,a2,a3,a4,a5⟩:=yu (aU n) U { kind:=n };obtain⟨f,hf⟩:∃f,iM { kind:=n } (aU n) U=f:=⟨_,rfl⟩;rw[hf]at k CY h a1 a2 a3 a4 a5;rw[hf]at C;refine⟨_,h.r 3,?_⟩;intro Jn hJ;have fin:∀(Q':aF) (g:Fq) (x:QA) (evs:List Ev) (s4:RS) I,lV f s2=.ok (g,s4)->aH Q Q'->(∀e∈evs,ge Q' e)->g.evs=evs.map Ev.p->evs.length<=64->aI s4.bs->s4.bs.length<=1099511627776->g.Sh x->(∀e∈evs,e.labs.length<=1000000)->
   g.sl.length<=1000000->g.data.length<=1000000000->(x.da=none\/∃k o,x.da=some ⟨k,o,none⟩)->
   ∀A B:aF,(∀H F,aA H (A::F)->aQ H x.la (flat cJ g.sl))->(∀H F,aA H (B::F)->aQ H x.da (g.data.map U8))->
   aA I (ke rb s4::ay 69 4 x.ea evs.length x.ec (flat bH evs)::ax b1 [aD 0] 58::ax b (cT g x) 99::Q'::A::B::F)->Jn I:=by
  intro Q' g x evs s4 l5 s t N J Z hb4 y3 h0 r8 y2 Y h9 A B hA hB h;rw[s]at CY k;unfold Xm at CY k;dsimp only at CY k;refine hJ _ (xX h λh6 h=>⟨_,rfl,tV (λd=>⟨rfl,?_⟩) λd=>?_⟩)
  .rw [b_ (by grind)]at CY k;refine⟨_,_,_,_,_,_,_,_,_,_,_,_,_,_,_,_,_,_,_,_,h.q 3,?_⟩;have h3:mK (ke rb (dG s4)::ay 69 4 x.ea evs.length x.ec (flat bH evs)::ax b1 [aD 0] 58::ax b (cT g x) 99::Q'::A::B::F) x.ea evs:=
    ⟨λH h=>h.a_ 1 rfl,λe d H h=>(N e d).at h 4 rfl⟩
   have hQ:jW (ke rb (dG s4)::ay 69 4 x.ea evs.length x.ec (flat bH evs)::ax b1 [aD 0] 58::ax b (cT g x) 99::Q'::A::B::F) g x evs:=
    ⟨J,h3,λH h=>hA H _ (h.o [5] 7),λH h=>hB H _ (h.o [6] 7),h9,h0,ez,r8,y2,Y⟩
   refine KU h hQ λj2 h=>⟨_,rfl,?_⟩
   intro h4 L;refine⟨λy=>?_,λy=>L _ ?_⟩
   .rw [b_ (by grind)]at CY;exact CY _ Q' _ _ _ rfl ee t rfl (h.o [2,3,4] 7)
   .rw [c_ (by grind)]at k;refine⟨_,_,_,_,_,_,_,_,_,_,_,_,_,_,_,_,_,_,_,_,h.q 3,h.st 3 rfl rfl ?_⟩;intro H13 h;refine h.st 2 rfl rfl ?_;intro H14 h;have h:=h.o [2,3,4,1] 7;refine⟨rfl,Vg h λH15 h=>⟨rfl,_,_,_,_,_,_,_,_,_,_,_,_,_,_,_,_,_,_,_,_,h.q 1,_,h.r 0,k Q' x evs _ t J N h0 h.tl.tl⟩⟩
  .rw [c_ d]at CY;exact CY _ Q' _ _ _ rfl d t rfl (h.o [2,3,4] 7)
 have T:∀(H:aC) (F:List aF),aA H (emp::F)->aQ H none (flat cJ []):=λH F _=>fN H none
 have R:∀(H:aC) (F:List aF),aA H (emp::F)->aQ H none (([]:List Int).map U8):=λH F _=>fN H none
 refine⟨λP=>?_,λP=>?_⟩
 .have P:f.kind=5:=j_ P;have s:lV f s2=match mM s2 with|.error e=>.error e|.ok (l,s')=>.ok ({ f with evs:=l },s'):=by unfold lV;grind
  have h:=h.o [4,0,2,3] 5;refine Vb h G M ?_
  cases y:mM s2 with
  | error e=>
   rw[y]at s;exact λQ' I d hs h=>CY _ Q' _ _ _ (by rw[s];rfl) d hs rfl (h.o [1,2,0] 3)
  | ok q=>
  let⟨l,s3⟩:=q;rw[y]at s;dsimp only at s;have Z:=acS y;have V:=VD y;intro Q' evs a c H8 t J N u8 E O h;refine⟨_,_,_,rfl,h.st 4 rfl rfl ?_⟩;intro H9 h;have l6:l.length=evs.length:=by grind
  let⟨e1,e2,e3⟩:=(C {} (λ_=>⟨rfl,rfl⟩) (λ_=>⟨rfl,rfl,rfl,rfl⟩)).em ez
  refine fin Q' { f with evs:=l } { ea:=a,ec:=c } evs s3 _ s t N J ez E O ?_ (λe d=>?_) (by grind) (by grind) (.inl rfl) emp emp (by dsimp only;rw[a4];exact T) (by dsimp only;rw[a5];exact R) ?_
  .exact⟨λh=>cS P h,λ_=>⟨a3,a4,rfl,rfl,a5,rfl,rfl⟩,(C {} (λ_=>⟨rfl,rfl⟩) (λ_=>⟨rfl,rfl,rfl,rfl⟩)).nm⟩
  .exact V e.p (by grind)
  .have e:cT { f with evs:=l } { ea:=a,ec:=c }=cu (cT f {}) 10 [.slice a evs.length c]:=by unfold cT;dsimp only;rw[l6];rfl
   rw[e];have h:=h.o [1,2,3,4,0] 5;have h:=(l7 (l7 h)).o [2,3,4,5,6,0,1] 7;exact h
 have P:¬f.kind=5:=h_ P;intro h4 L;let⟨e1,e2,e3⟩:=(C {} (λ_=>⟨rfl,rfl⟩) (λ_=>⟨rfl,rfl,rfl,rfl⟩)).ev (by grind)
 refine⟨λS=>?_,λS=>L _ ?_⟩
 .have S:f.kind=8:=j_ S;have s:lV f s2=match T0 s2 with|.error e=>.error e|.ok (x,s1)=>FT (bg 4096 s1).2 { f with sn:=x.1,sl:=x.2,data:=(bg 4096 s1).1 }:=by unfold lV;grind
  refine L7 h G M ?_
  cases y:T0 s2 with
  | error e=>
   rw[y]at s;exact λI d h=>CY _ Q _ _ _ (by rw[s];rfl) d (aH.refl Q) rfl (h.o [1,2,3] 4)
  | ok q=>
  obtain⟨⟨nm,labs⟩,s3⟩:=q;rw[y]at s;dsimp only at s;unfold FT at s;have h1:labs.length<=1000000:=by
   unfold T0 FT at y
   split at y
   .cases y
   .rename_i hz
    cases y
    have:=(lQ (Kl (eu hz))).len;omega
  intro a c H8 u8 E O h;dsimp only at h;refine⟨_,_,_,_,rfl,h.st 4 rfl rfl ?_⟩;intro H9 h;have hd:=mJ (m:=4096) E;have Y:=VB s3;have hdn:=pD s3 4096;refine oQ h E O (by unfold aG;decide) λl5 h=>⟨_,rfl,xF hd.2 h λta tc h6 h=>⟨_,_,_,rfl,?_⟩⟩
  have j1:=vH h;refine h.st 5 rfl rfl ?_;intro j2 h;refine⟨_,nE (h.o [1,0,2,3,4,5,6] 7),tV (λd=>⟨rfl,L _ ?_⟩) λd=>?_⟩
  .rw [b_ (by grind)]at s;refine fin Q { f with sn:=nm,sl:=labs,data:=(bg 4096 s3).1 } { la:=a,lc:=c,da:=ta,dc:=tc } [] (bg 4096 s3).2 _ s (aH.refl Q) (λe d=>cS d eh) (by grind) eh hd.1 ez
    ⟨λ_=>⟨e1,rfl,rfl⟩,λh=>cS S h,(C {} (λ_=>⟨rfl,rfl⟩) (λ_=>⟨rfl,rfl,rfl,rfl⟩)).nm⟩ (λe d=>cS d eh) h1 (by grind) j1
    (ay 223 2 a labs.length c (flat cJ labs)) (ay 5 1 ta (bg 4096 s3).1.length tc ((bg 4096 s3).1.map U8)) (λH F h=>h.a_ 0 rfl) (λH F h=>h.a_ 0 rfl) ?_
   have e:cT { f with sn:=nm,sl:=labs,data:=(bg 4096 s3).1 } { la:=a,lc:=c,da:=ta,dc:=tc }=cu (cu (cT f {}) 11 [.string nm,.slice a labs.length c]) 13 [.slice ta (bg 4096 s3).1.length tc]:=rfl;rw[e];have h:=h.o [1,4,5,6,2,0] 7;exact (h.cp 69 4).o [1,0,2,3,4,5,6] 7
  .rw [c_ d]at s;exact CY _ Q _ _ _ (by rw[s];rfl) d (aH.refl Q) (by rw[oF,oF];rfl) (h.o [4,5,6] 7)
 .have S:¬f.kind=8:=h_ S;have s:lV f s2=.ok (f,s2):=by unfold lV;grind
  have hs:=C {} (λ_=>⟨rfl,rfl⟩) (λ_=>⟨rfl,rfl,rfl,rfl⟩)
  refine fin Q f {} [] s2 _ s (aH.refl Q) (λe d=>cS d eh) (by grind) eh G M hs (λe d=>cS d eh) (by grind) (by grind) (.inl rfl) emp emp (by rw[a4];exact T) (by rw[a5];exact R) ?_
  have h:=h.o [0,2,3,4] 5;exact (l7 (l7 (h.cp 69 4))).o [3,2,4,5,6,0,1] 7
def cX(bs:List Int):Except Int Fq:=if 65536<bs.length then .error 17 else if (eJ bs).1≠0 then .error (eJ bs).1 else nR (eJ bs).2
theorem yF{a:KQ}{c:Nat}{bs:List Int}(h:aA H (Q::F))(w:∀H,aA H (Q::F)->aQ H a (bs.map U8))(hb:aI bs)(j:bs.length<=c) (k:agJ Q F K (cX bs)):CF 29 #[.slice a bs.length c] H K:=by
 refine cM 29 119260 (h.al λb _ h=>⟨λd=>?_,λd=>?_⟩)
 .have d:=j_ d;have e:cX bs=.error 17:=by unfold cX;grind
  rw[e]at k;refine h.st 0 rfl rfl λv h=>⟨_,_,_,_,_,_,_,_,_,_,_,_,_,_,_,_,_,_,_,_,h.q 0,k Q _ ee (aH.refl Q) h.tl⟩
 have d:=h_ d;refine Ln h (λH h=>w H h.tl) hb ez j (λD C p v m h=>?_) λe v i m h=>?_
 .refine⟨_,_,_,_,rfl,λj=>cS j eh,λ_=>?_⟩;have B:p.length<=bs.length:=by have:=congrArg List.length (BU m);grind [rR]
  have n:aI p:=by have:=yo hb;rwa[m]at this
  have e:cX bs=nR p:=by unfold cX;grind
  rw[e]at k;have h:=h.o [2,0,1] 3;refine VE h (λH h=>h.a_ 1 rfl) n ez ?_;cases hp:nR p with
   | error e=>rw[hp]at k;intro Q' A i hs h;refine⟨_,_,_,_,_,_,_,_,_,_,_,_,_,_,_,_,_,_,_,_,_,rfl,h.st 2 rfl rfl λu h=>⟨_,_,_,_,_,_,_,_,_,_,_,_,_,_,_,_,_,_,_,_,h.q 2,k Q' _ i hs (h.o [0] 3)⟩⟩
   | ok f=>rw[hp]at k;intro Q' x evs A hs t y s h;refine⟨_,_,_,_,_,_,_,_,_,_,_,_,_,_,_,_,_,_,_,_,_,rfl,h.st 3 rfl rfl λu h=>⟨_,_,_,_,_,_,_,_,_,_,_,_,_,_,_,_,_,_,_,_,h.q 3,k Q' x evs _ hs t y s (h.o [0,1] 4)⟩⟩
 refine⟨_,_,_,_,rfl,λ_=>?_,λj=>cS (by grind) i⟩;have e2:cX bs=.error e:=by unfold cX;grind
 rw[e2]at k;refine h.st 0 rfl rfl λu h=>⟨_,_,_,_,_,_,_,_,_,_,_,_,_,_,_,_,_,_,_,_,h.q 0,k Q _ i (aH.refl Q) h.tl⟩
end
theorem Mp(h:aA H (s_ Q c s::F)):bX Tryz.prog 38 #[PA c 0] H (aD s.boots):=by let⟨p,h⟩:=di.1 h;exact cM 38 28 ⟨_,h.r 0,rfl,rfl⟩
theorem VF(h:aA H (s_ Q c s::F)):bX Tryz.prog 253 #[PA c 0] H (aD s.sunk):=by let⟨p,h⟩:=di.1 h;exact cM 253 28 ⟨_,h.r 0,rfl,rfl⟩
theorem VG(d:s.kept.length<=1000000)(h:aA H (s_ Q j s::F)) (k:∀a c b,aA b (ay 184 74 a s.kept.length c (flat cR s.kept)::s_ Q j s::F)->K (.slice a s.kept.length c) b):CF 251 #[PA j 0] H K:=by let⟨p,h⟩:=di.1 h;refine cM 251 28 ⟨_,_,_,h.r 0,K4 h (λH h=>h.a_ 8 rfl) d λe f b h=>⟨_,_,_,rfl,k _ _ _ ?_⟩⟩;have h:=h.o [1,2,3,4,5,6,7,8,9,0] 10;have h:=di.2 ⟨p,h⟩;exact h.o [1,0] 2
theorem Mq(a:s.sts[c]?=some (some b)):s.sts.set c (some b)=s.sts:=by grind [List.set_getElem_self]
theorem VH(h:iO s v=some b):0<=v/\s.sts[v.toNat]?=some (some b):=by grind [iO]
theorem Cx(a:mN s.cfg b):∀q∈b.hs.rows,aG q.1:=λq st=>by have c:=(a.rows q st).1;have d:=(a.hs.rows.inb q st).1;have e:=a.hs.GV;unfold aG;omega
theorem Cy(a:mN s.cfg b):b.hs.rows.length<=256:=by have st:=a.hs.rows.length;have c:=a.hs.GX;omega
theorem Mr{a:Int}(ok:cY s)(h:aA H (s_ Q c s::F))(k:∀n,aA n (s_ Q c s::F)->K (.tuple #[.agg ⟨afv (kW s a).1⟩,.bool (kW s a).2]) n) : CF 122 #[PA c 0,aD a] H K:=by
 refine RH (h.al λb _ h=>?_);have h:=h.o [1,0] 2;let⟨p,h⟩:=di.1 h;refine⟨_,h.r 0,?_⟩;have h:=h.o [1,2,0,3,4,5,6,7,8,9] 10;refine Ro.Fk ok.rows (agent:=a) h λy h=>⟨_,_,_,_,rfl,h.al λb1 _ h=>h.st 0 rfl rfl ?_⟩;intro A h;unfold kW at k;refine⟨λw=>?_,λw=>?_⟩;.rw [b_ (by grind)]at k;refine h.st 10 rfl rfl ?_;intro v h;refine⟨_,_,_,_,_,_,_,_,_,_,_,h.q 10,?_⟩;have h:=h.o [3,1,2,4,5,6,7,8,9] 11;exact k _ (di.2 ⟨p,h⟩)
 have m:0<(bI s.rows a).epoch:=by grind
 rw[c_ m]at k;let⟨j,st,d⟩:=ok.str m;rw[yC j d]at k;dsimp only at k;have i:((a.toNat:Nat):Int)=a:=ez;have sb:=ok.sts st (LA d);refine⟨_,h.r 3,?_⟩;have h:=h.o [4,5,0,1,2,3,6,7,8,9,10] 11;refine Ma.Fk (a:=a) h λv h=>⟨_,_,_,_,_,rfl,h.al λb2 _ h=>h.st 0 rfl rfl ?_⟩;intro D h;have h:=h.o [9,0,1,2,3,4,5,6,7,8,10,11] 12;let⟨x,bl,f,h⟩:=rX h d;have h:=h.o [1,0,2,3,4,5,6,7,8,9,10,11,12,13] 14;let⟨cb,hb,h⟩:=io.1 h;have e:=rY f h 3 rfl;rw[i]at e;have t:=Cy sb;refine⟨_,h.r 11,_,e,_,_,_,h.q 8,_,_,_,_,h.q 5,dj ⟨_,h.r 0,dj ⟨_,h.r 0,_,vx (h.o [2] 3),dj ⟨_,h.r 0,dj ⟨_,h.rd 0 rfl 0,?_⟩⟩⟩⟩⟩;have h:=h.o [2,0,1,3,4,5,6,7,8,9,10,11,12,13,14,15] 16;refine Bz h sb.hs.rows.rising (Cx sb) ez λE wc G h=>⟨_,_,_,rfl,h.rd 2 rfl 0,h.r 2,h.q 6,h.q 9,?_⟩;have h:=h.o [3,0,1,2,4,5,6,7,8,9,10,11,12,13,14,15,16] 17;have u:=sb.ck.len;refine Ba h ez λsa sc B h=>⟨_,_,_,rfl,h.r 4,h.q 7,h.q 10,h.st 17 rfl rfl ?_⟩;intro C h;refine⟨_,_,_,_,_,_,_,_,_,_,_,h.q 17,k _ ?_⟩;have h:=h.o [4,1,3,5,6,13,11,12,8,9,14,15,16] 18;have h:=io.2 ⟨cb,hb,h⟩;have h:=h.o [1,0,2,3,4,5,6,7,8,9,10] 11;have h:=tX f h;rw[Mq d]at h;exact di.2 ⟨p,h.o [1,2,3,4,5,6,7,0,8] 9⟩
structure As where
 bt:Int
 ct:Int
 CW:Int
abbrev l8(p:As):Xa:=[aB p.bt,aB p.ct,aB p.CW]
structure Ag where
 id:Int
 most:Int
 boot:Int:=0
 ep:Int:=0
 ck:Int:=0
 seq:Int:=0
 kept:List Pv:=[]
 drop:Int:=0
 q_:List As:=[]
variable {g:Ag}
abbrev aas:Int:=4611686018427387903
structure dJ(g:Ag):Prop where
 id:0<=g.id/\g.id<=63
 most:g.most<=1024
 boot:0<=g.boot/\g.boot<=1099511627776
 ep:0<=g.ep/\g.ep<=1099511627776
 ck:0<=g.ck/\g.ck<=aas
 seq:g.kept.length<=g.seq/\g.seq<=1099511627775
 kept:(g.kept.length:Int)<=1024
 q_:g.q_.length<=8
 drop:0<=g.drop/\g.drop<=1000000
 evs:∀e∈g.kept,dB e.name e.labs=true/\aG e.value/\0<=e.stamp/\e.stamp<=g.ck
def bD(g:Ag)(rd:Int):Ag×Int:=if g.boot=0 then (g,21) else if rd<0\/aas<rd then (g,11) else ({ g with ck:=if rd>g.ck then rd else g.ck },0)
def kg(g:Ag)(bt:Int):Ag×Int:=if bt<1\/1099511627776<bt then (g,11) else if bt<=g.boot then (g,22) else (⟨g.id,g.most,bt,0,0,0,[],0,[]⟩,0)
def eK(g:Ag)(rd v:Int)(nm:Fb)(ls:List bO):Ag×Int×Int:=
 if (bD g rd).2≠0 then ((bD g rd).1,-1,(bD g rd).2) else
 if g.ep=0 then ((bD g rd).1,-1,21) else if dB nm ls=false then ((bD g rd).1,-1,10) else if 1099511627775<=g.seq then ((bD g rd).1,-1,17) else
 if g.most<=(g.kept.length:Int) then ({ (bD g rd).1 with drop:=g.drop+1 },-1,20) else
 ({ (bD g rd).1 with kept:=g.kept++[⟨(bD g rd).1.ck,v,nm,ls⟩],seq:=g.seq+1 },g.seq,0)
def TQ(g:Ag)(f:Fq):Ag×Int:=
 if ¬(f.kind=2\/f.kind=3\/f.kind=6) then (g,16) else if f.ag≠g.id then (g,10) else
 if f.kind=2 then (if f.bt≠g.boot then (g,22) else if g.ep≠0 then (g,18) else if f.ep=0 then (g,10) else ({ g with ep:=f.ep },0)) else
 if f.kind=3 then (if g.ep=0 then (g,21) else if 8<=g.q_.length then (g,20) else ({ g with q_:=g.q_++[⟨f.bt,f.ct,g.ck⟩] },0)) else
 if g.ep=0\/f.ep≠g.ep then (g,22) else if g.seq<f.next then (g,11) else ({ g with kept:=g.kept.drop (f.next-(g.seq-g.kept.length)).toNat },0)
def kX(g:Ag)(rd:Int)(bs:List Int):Ag×Int:=
 if (bD g rd).2≠0 then bD g rd else match cX bs with
 | .error e=>((bD g rd).1,e)
 | .ok f=>TQ (bD g rd).1 f
def j7(f:Fq):List (List Int):=if jK f=0 then [cO f] else []
def mO(g:Ag)(n:Nat):Fq:={ kind:=5,ag:=g.id,ep:=g.ep,next:=g.seq-g.kept.length,evs:=g.kept.take n }
def jh(g:Ag):Nat->List (List Int)
 | 0=>[]
 | n+1=>if jK (mO g (n+1))=17 then jh g n else j7 (mO g (n+1))
def KS(g:Ag)(p:As):Fq:={ kind:=4,ag:=g.id,ep:=g.ep,bt:=p.bt,ct:=p.ct,CW:=p.CW,hS:=g.ck }
def vT(g:Ag):List (List Int):=
 if g.ep=0 then j7 { kind:=1,ag:=g.id,ep:=g.ep,bt:=g.boot } else
 (g.q_.flatMap λp=>j7 (KS g p))++jh g (min g.kept.length 64)++j7 { kind:=7,ag:=g.id,ep:=g.ep,next:=g.seq,stamp:=g.ck }
def gU(g:Ag)(rd:Int):Ag×List (List Int)×Int:=
 if (bD g rd).2≠0 then ((bD g rd).1,[],(bD g rd).2) else
 (if g.ep=0 then (bD g rd).1 else { (bD g rd).1 with q_:=[] },vT (bD g rd).1,0)
theorem bY{B:aF}(h:aA H (B::Q::F)):aA H (Q::B::F):=h.o [1,0] 2
theorem Cz{t e sz bytes:Nat}{enc:I->Xa}(T:Fs Tryz.prog t e sz bytes)(hs:0<sz)(E:bytes<=1000)(v:∀x,(enc x).length=sz)(M:∀x,cU (enc x)=true) (C:∀{a:KQ} {n c:Nat} {H:aC} {K:KE},IF a.isNone (K (.slice none 0 0) H) (AL H [] e λb N=>cv Tryz.prog (Builtin.append_ #[t,t] t #[.slice (some ⟨b,0,none⟩) 0 0,.slice a n c]) N λu G=>∃i s d,u=.slice i s d/\K (.slice i s d) G)->CF j #[.slice a n c] H K)   {l:List I} (h:aA H F) (y:∀H,aA H F->aQ H a (flat enc l)) (D:l.length<=1000000) (k:∀i d f,aA f (ay e sz i l.length d (flat enc l)::F)->K (.slice i l.length d) f):CF j #[.slice a l.length c] H K:=by
 refine C ⟨λJ=>?_,λJ=>?_⟩
 .obtain rfl:a=none:=by simp_all
  have L:=oJ (y H h);obtain rfl:l=[]:=by have:=congrArg List.length L;rw[dS v]at this;grind [Nat.mul_eq_zero]
  exact k none 0 H (h.cp e sz)
 refine h.al λb _ h=>?_;have α:=y _ h.tl;have A:=aA.E3 (cs:=[]) h sz 0 eh;have hm:l.length*bytes<=1000000*1000:=Nat.mul_le_mul D E;refine aA.append (m:=l.length) T A 0 rfl α (dS v l) (kz M l) (by grind) ez λi d f B=>⟨_,_,_,rfl,?_⟩;have w:aA f (ay e sz i (0+l.length) d ([]++flat enc l)::F):=B;rw[CO,Hi]at w;have:=k i d f w;rw[<-CO l.length]at this;exact this
structure AgX where
 ka:KQ:=none
 kc:Nat:=0
 pa:KQ:=none
 pc:Nat:=0
variable {x:AgX}
abbrev eZ(g:Ag)(x:AgX):Xa:=[aD g.id,aD g.most,aD g.boot,aD g.ep,aD g.ck,aD g.seq,.slice x.ka g.kept.length x.kc,aD g.drop,.slice x.pa g.q_.length x.pc]
def FV(Q:aF)(ab:Nat)(g:Ag):aF:=F7 λy:AgX×List Ev=>star [DA (g.kept=y.2.map Ev.p/\∀e∈y.2,ge Q e),ax ab (eZ g y.1) 208,ay 69 4 y.1.ka g.kept.length y.1.kc (flat bH y.2),ay 356 3 y.1.pa g.q_.length y.1.pc (flat l8 g.q_)]
theorem aiN:Fs Tryz.prog 204 356 3 24:=fU kf
theorem dr:aA H (FV Q c g::F)↔∃(x:AgX) (evs:List Ev),g.kept=evs.map Ev.p/\(∀e∈evs,ge Q e)/\aA H (ax c (eZ g x) 208::ay 69 4 x.ka g.kept.length x.kc (flat bH evs)::ay 356 3 x.pa g.q_.length x.pc (flat l8 g.q_)::F):=by
 unfold FV;rw[cw];constructor;.intro⟨y,h⟩;let⟨a,h⟩:=qe.1 (aA.open h);exact⟨y.1,y.2,a.1,a.2,h⟩
 intro⟨x,evs,h1,h2,h⟩;exact⟨⟨x,evs⟩,aA.shut [_,_,_,_] (h.DA ⟨h1,h2⟩)⟩
theorem yG{Q':aF}(hs:aH Q Q')(h:aA H (FV Q j g::F)):aA H (FV Q' j g::F):=by let⟨x,evs,a,b,h⟩:=dr.1 h;exact dr.2 ⟨x,evs,a,λe c=>(b e c).sub hs,h⟩
theorem C0{rd:Int}(h:aA H (ax j (eZ g x) 208::F))(k:∀a,aA a (ax j (eZ (bD g rd).1 x) 208::F)->K (aD (bD g rd).2) a):CF 192 #[PA j 0,aD rd] H K:=by
 refine cM 192 122140 ⟨_,h.r 0,λc=>?_,λc=>⟨λb=>?_,λb=>⟨_,h.r 0,h.st 0 rfl rfl λa h=>?_⟩⟩⟩
 .have e:bD g rd=(g,21):=by unfold bD;grind
  rw[e]at k;exact k _ h
 .have e:bD g rd=(g,11):=by unfold bD;grind
  rw[e]at k;exact k _ h
 have e:bD g rd=({ g with ck:=if rd>g.ck then rd else g.ck },0):=by unfold bD;grind
 rw[e]at k;exact k _ h
theorem se(g:Ag)(rd:Int):(bD g rd).1.kept=g.kept/\(bD g rd).1.q_=g.q_/\(bD g rd).1.seq=g.seq/\(bD g rd).1.ep=g.ep/\(bD g rd).1.most=g.most/\(bD g rd).1.drop=g.drop/\(bD g rd).1.id=g.id/\(bD g rd).1.boot=g.boot:=by unfold bD;grind
theorem VI(h:aA H (FV Q j g::F))(k:∀a,aA a (FV Q j (kg g v).1::F)->K (aD (kg g v).2) a):CF 54 #[PA j 0,aD v] H K:=by
 let⟨x,evs,b,c,h⟩:=dr.1 h;refine cM 54 122140 ⟨λf=>?_,λf=>⟨_,h.r 0,λd=>?_,λd=>h.st 0 rfl rfl λa h=>?_⟩⟩
 .have e:kg g v=(g,11):=by unfold kg;grind
  rw[e]at k;exact k _ (dr.2 ⟨x,evs,b,c,h⟩)
 .have e:kg g v=(g,22):=by unfold kg;grind
  rw[e]at k;exact k _ (dr.2 ⟨x,evs,b,c,h⟩)
 have e:kg g v=(⟨g.id,g.most,v,0,0,0,[],0,[]⟩,0):=by unfold kg;grind
 rw[e]at k;have h:=((h.o [0] 3).cp 69 4).cp 356 3;exact k _ (dr.2 ⟨⟨none,0,none,0⟩,[],rfl,λe i=>cS i eh,h.o [2,1,0] 3⟩)
theorem yH(h:aA H F)(i:Nat)(a:aX i F=ax c (eZ g x) 208):bX Tryz.prog 113 #[PA c 0] H (aD g.boot):=cM 113 28 ⟨_,h.rd i a _,rfl,rfl⟩
theorem Ms(h:aA H F)(i:Nat)(a:aX i F=ax c (eZ g x) 208):bX Tryz.prog 114 #[PA c 0] H (aD g.ck):=cM 114 28 ⟨_,h.rd i a _,rfl,rfl⟩
theorem Mt(h:aA H F)(i:Nat)(a:aX i F=ax c (eZ g x) 208):bX Tryz.prog 37 #[PA c 0] H (aD g.ep):=cM 37 28 ⟨_,h.rd i a _,rfl,rfl⟩
theorem Mu(ok:dJ g)(h:aA H F)(i:Nat)(a:aX i F=ax j (eZ g x) 208):bX Tryz.prog 198 #[PA j 0] H (aD (g.seq-g.kept.length)):=by have b:=ok.seq;have c:=ok.kept;refine cM 198 28 ⟨_,h.rd i a _,_,_,_,h.rd i a _,?_,rfl⟩;rw[aN];rfl
theorem Mv{F:List aF}{Q:aF}{e:Ev}(h:aA H (Q::F))(d:∀H,aA H (Q::F)->aQ H e.la (flat cJ e.labs))(i:e.labs.length<=1000000) (k:∀Q' c a,aH Q Q'->c.p=e.p->ge Q' c->aA a (Q'::F)->K (MP c) a):CF 194 #[MP e] H K:=by refine cM 194 284 (h.al λb _ h=>h.al λb1 _ h=>⟨_,_,_,h.r 1,Bu (Q:=Q) (F:=ax b1 [aD 0,aD 0,.string ⟨#[]⟩,.slice none 0 0] 69::ax b (bH e) 69::F) (h.o [2,0,1] 3) (λH h=>d H (h.o [0] 3)) i λQ' m f a hs j h=>⟨_,_,_,rfl,h.st 2 rfl rfl λs h=>⟨_,_,_,_,_,_,h.q 2,h.st 1 rfl rfl λn h=>⟨_,_,_,_,_,_,h.q 1,k Q' ⟨e.stamp,e.value,e.name,e.labs,m,f⟩ _ hs rfl j (h.o [0] 3)⟩⟩⟩⟩)
theorem VJ{g:Ag}{rd:Int}(ok:dJ g)(h:aA H (Q::FV Q c g::F))(y:∀H,aA H (Q::F)->aQ H a (flat cJ C))
  (k:∀Q' ab,aH Q Q'->aA ab (Q'::FV Q' c (eK g rd v t C).1::F)->K (.tuple #[aD (eK g rd v t C).2.1,aD (eK g rd v t C).2.2]) ab) :
  CF 112 #[PA c 0,aD rd,aD v,.agg #[.string t,.slice a C.length j]] H K:=by
 obtain⟨x,evs,A,f,h⟩:=dr.1 (h.o [1,0] 2);obtain⟨o1,o2,o3,o4,o5,o6,o7,o8⟩:=se g rd;have b1:=ok.seq;have b2:=ok.kept;have b3:=ok.drop;have b4:=ok.most;refine cM 112 0x121bddd2131c911c (h.al λb _ h=>C0 (rd:=rd) (h.o [1,0,2,3,4] 5) λM h=>⟨_,rfl,?_⟩)
 have back:∀{ab},aA ab (ax c (eZ (bD g rd).1 x) 208::ax b [.string t,.slice a C.length j] 62::ay 69 4 x.ka g.kept.length x.kc (flat bH evs)::ay 356 3 x.pa g.q_.length x.pc (flat l8 g.q_)::Q::F)->aA ab (Q::FV Q c (bD g rd).1::F):=λh=>
  bY (dr.2 ⟨x,evs,by grind,f,by rw[o1,o2];exact h.o [0,2,3,4] 5⟩)
 refine⟨λw=>?_,λw=>?_⟩
 .have e:eK g rd v t C=((bD g rd).1,-1,(bD g rd).2):=by unfold eK;grind
  rw[e]at k;exact k Q _ (aH.refl Q) (back h)
 have w:¬(bD g rd).2≠0:=by grind
 refine⟨_,h.r 0,λnm=>?_,λnm=>?_⟩
 .have nm:g.ep=0:=by grind
  have e:eK g rd v t C=((bD g rd).1,-1,21):=by unfold eK;grind
  rw[e]at k;exact k Q _ (aH.refl Q) (back h)
 have nm:¬g.ep=0:=by grind
 refine⟨_,_,_,_,h.q 1,qt h (λH h=>y H (h.o [4] 5)) λJ h=>⟨_,rfl,λlc=>?_,λlc=>?_⟩⟩
 .have e:eK g rd v t C=((bD g rd).1,-1,10):=by unfold eK;grind
  rw[e]at k;exact k Q _ (aH.refl Q) (back h)
 have lc:dB t C=true:=by grind
 have D:C.length<=8:=by
  unfold dB at lc
  grind
 refine⟨_,h.r 0,λi=>?_,λi=>?_⟩
 .have i:1099511627775<=g.seq:=by grind
  have e:eK g rd v t C=((bD g rd).1,-1,17):=by unfold eK;grind
  rw[e]at k;exact k Q _ (aH.refl Q) (back h)
 have i:¬1099511627775<=g.seq:=by grind
 refine⟨_,_,_,h.r 0,_,h.r 0,λhm=>?_,λhm=>?_⟩
 .have hm:g.most<=(g.kept.length:Int):=by grind
  have e:eK g rd v t C=({ (bD g rd).1 with drop:=g.drop+1 },-1,20):=by unfold eK;grind
  rw[e]at k;refine⟨_,h.r 0,h.st 0 rfl rfl λu h=>k Q _ (aH.refl Q) (bY (dr.2 ⟨x,evs,by grind,f,?_⟩))⟩
  have s:i64.wrap ((bD g rd).1.drop+1)=g.drop+1:=by grind [aN]
  have h:aA u (ax c [aD (bD g rd).1.id,aD (bD g rd).1.most,aD (bD g rd).1.boot,aD (bD g rd).1.ep,aD (bD g rd).1.ck,aD (bD g rd).1.seq,.slice x.ka (bD g rd).1.kept.length x.kc,aD (i64.wrap ((bD g rd).1.drop+1)),.slice x.pa (bD g rd).1.q_.length x.pc] 208::_):=h;rw[s]at h;dsimp only;rw[o1,o2]at *;exact h.o [0,2,3,4] 5
 have hm:¬g.most<=(g.kept.length:Int):=by grind
 have e:eK g rd v t C=({ (bD g rd).1 with kept:=g.kept++[⟨(bD g rd).1.ck,v,t,C⟩],seq:=g.seq+1 },g.seq,0):=by unfold eK;grind
 rw[e]at k;refine⟨_,_,_,h.r 0,_,h.r 0,_,_,_,_,h.q 1,Mv (e:=⟨(bD g rd).1.ck,v,t,C,a,j⟩) (h.o [4,0,1,2,3] 5) (λH h=>y H (h.o [0] 5)) (by grind) λQ' d u hs B ls h=>⟨_,_,_,_,_,_,rfl,h.r 1,h.al λb1 _ h=>⟨h.r 2,?_⟩⟩⟩
 rw[o1];refine h.append (m:=1) (ws:=bH d) RE 4 rfl (h.ew 0 rfl) rfl rfl ez ez λa5 c5 I h=>⟨_,_,_,rfl,h.st 2 rfl rfl λL h=>⟨_,h.r 2,h.st 2 rfl rfl λG h=>⟨_,h.r 2,?_⟩⟩⟩
 have s:i64.wrap ((bD g rd).1.seq+1)=g.seq+1:=by grind [aN]
 have n:i64.wrap (i64.wrap ((bD g rd).1.seq+1)-1)=g.seq:=by grind [aN]
 conv=>whnf
 rw[n]
 conv=>whnf
 refine k Q' _ hs (bY ((dr (g:={ (bD g rd).1 with kept:=g.kept++[⟨(bD g rd).1.ck,v,t,C⟩],seq:=g.seq+1 })).2 ⟨⟨a5,c5,x.pa,x.pc⟩,evs++[d],?_,λz la=>?_,?_⟩))
 .conv=>whnf
  dsimp only;rw[F6,<-A];simp only[HC,List.map_nil,B];rfl
 .rcases C_.1 la with la|la
  .exact (f z la).sub hs
  .rw [CU]at la;subst la;exact ls
 .have h:aA G (ax b1 (bH d) 69::Q'::ax c [aD (bD g rd).1.id,aD (bD g rd).1.most,aD (bD g rd).1.boot,aD (bD g rd).1.ep,aD (bD g rd).1.ck,aD (i64.wrap ((bD g rd).1.seq+1)),.slice a5 (g.kept.length+1) c5,aD (bD g rd).1.drop,.slice x.pa (bD g rd).1.q_.length x.pc] 208::_):=h;rw[s]at h;have E:flat bH (evs++[d])=flat bH evs++bH d:=by grind [flat]
  dsimp only[eZ];rw[E,po,o2]at *;exact h.o [2,4,5,1] 6
theorem VK{c:Nat}{l:List Ev}(x:j<=l.length)(w:l.length<=1000000)(h:aA H (ay 69 4 a l.length c (flat bH l)::F)) (k:∀b,aA b (ay 69 4 a (l.length-j) c (flat bH (l.drop j))::F)->K (.slice a (l.length-j) c) b):CF 276 #[.slice a l.length c,aD 0,aD j] H K:=by
 have s:=h.CD 0 rfl;refine cM 276 18682140 ⟨⟨ez,ez,ez,ez⟩,λt=>?_,λt=>?_⟩
 .obtain rfl:j=0:=by grind
  exact k H h
 have n:0<j:=by grind
 refine⟨⟨ez,ez,ez⟩,⟨ez,ez,ez⟩,?_⟩;have e:=h.a_ 0 rfl;have hs:=e.some dU ez (k:=0) ez;have e0:y_ a 0 c 4=a:=by unfold y_;rw[nO,hs,I_,iF];simp
 have f:=e.ael (k:=j) (c:=c) (sz:=4) (by rw[dS dU];omega);rw[tj dU]at f;have d:=h.GP 0 rfl 0 ez;simp only[q2t,YT]at d;show cv Tryz.prog (Builtin.append_ #[97,97] 97 #[.slice (y_ a 0 c 4) 0 c,.slice (y_ a j c 4) (l.length-j) (c-j)]) H _;rw[e0];refine aA.Hb RE d 0 rfl f (by rw[dS dU,W_]) (kz xM _) ez λb m=>⟨_,_,_,rfl,⟨ez,ez,ez⟩,?_⟩;rw[CO];have i:aA b (ay 69 4 a (0+(l.length-j)) c ([]++flat bH (l.drop j))::F):=m;rw[CO,Hi]at i;exact aA.SD RE kf i 0 rfl ez λ_ v u=>k _ u
theorem agd(h:aA H (FV Q c g::F))(k:∀d r,r=(if f.bt≠g.boot then (g,22) else if g.ep≠0 then (g,18) else if f.ep=0 then (g,10) else ({ g with ep:=f.ep },(0:Int)))->aA d (FV Q c r.1::F)->K (aD r.2) d) : CF 200 #[PA c 0,.agg ⟨cT f y⟩] H K:=by
 let⟨x,evs,a,ab,h⟩:=dr.1 h;refine cM 200 1957148 (h.al λb _ h=>⟨_,h.r 0,_,h.r 1,λi=>?_,λi=>⟨_,h.r 1,λj=>?_,λj=>⟨_,h.r 0,λe=>?_,λe=>⟨_,h.r 0,h.st 1 rfl rfl λm h=>?_⟩⟩⟩⟩);.exact k _ (g,22) (by grind) (dr.2 ⟨x,evs,a,ab,h.tl⟩)
 .exact k _ (g,18) (by grind) (dr.2 ⟨x,evs,a,ab,h.tl⟩)
 .exact k _ (g,10) (by grind) (dr.2 ⟨x,evs,a,ab,h.tl⟩)
 exact k _ ({ g with ep:=f.ep },0) (by grind) (dr.2 ⟨x,evs,a,ab,h.tl⟩)
theorem afZ(ok:dJ g)(h:aA H (FV Q c g::F))(k:∀i r,r=(if g.ep=0 then (g,21) else if 8<=g.q_.length then (g,20) else ({ g with q_:=g.q_++[⟨f.bt,f.ct,g.ck⟩] },(0:Int)))->aA i (FV Q c r.1::F)->K (aD r.2) i) :
  CF 201 #[PA c 0,.agg ⟨cT f y⟩] H K:=by
 obtain⟨x,evs,ab,d,h⟩:=dr.1 h;have j:=ok.q_;refine cM 201 122140 (h.al λb _ h=>⟨_,h.r 1,λa=>?_,λa=>⟨_,_,_,h.r 1,λe=>?_,λe=>⟨_,_,_,h.r 1,_,h.r 0,_,h.r 0,_,h.r 1,h.al λb1 _ h=>⟨h.r 2,?_⟩⟩⟩⟩)
 .exact k _ (g,21) (by rw[c_ (j_ a)]) (dr.2 ⟨x,evs,ab,d,h.tl⟩)
 .exact k _ (g,20) (by rw[b_ (h_ a),c_ (by have:=j_ e;omega)]) (dr.2 ⟨x,evs,ab,d,h.tl⟩)
 .refine h.append (m:=1) (ws:=l8 ⟨f.bt,f.ct,g.ck⟩) aiN 4 rfl (h.ew 0 rfl) rfl rfl ez ez λa5 c5 t h=>⟨_,_,_,rfl,h.st 2 rfl rfl λs h=>?_⟩
  refine k _ ({ g with q_:=g.q_++[⟨f.bt,f.ct,g.ck⟩] },0) (by rw[b_ (h_ a),b_ (by have:=h_ e;omega)]) (dr.2 ⟨{ x with pa:=a5,pc:=c5 },evs,ab,d,?_⟩);have n:flat l8 (g.q_++[(⟨f.bt,f.ct,g.ck⟩:As)])=flat l8 g.q_++l8 ⟨f.bt,f.ct,g.ck⟩:=by rw[iX];simp[flat]
  dsimp only[eZ];rw[n,po];exact h.o [2,3,4] 5
theorem akc(ok:dJ g)(w:0<=f.next)(h:aA H (FV Q c g::F))(k:∀n r,r=(if g.ep=0\/f.ep≠g.ep then (g,22) else if g.seq<f.next then (g,11) else ({ g with kept:=g.kept.drop (f.next-(g.seq-g.kept.length)).toNat },(0:Int)))->aA n (FV Q c r.1::F)->K (aD r.2) n) : CF 202 #[PA c 0,.agg ⟨cT f y⟩] H K:=by
 let⟨x,evs,i,d,h⟩:=dr.1 h;have ab:g.kept.length=evs.length:=by grind
 have b1:=ok.seq;have b2:=ok.kept;refine cN 202 128078410908 [[]] (h.al λb _ h=>⟨_,h.r 1,_,λ_=>h.r 0,λ_=>trivial,_,λ_=>h.r 1,λv=>?_,λv=>⟨_,h.r 0,_,h.r 1,λe=>?_,λe=>⟨_,h.r 0,_,Mu ok h 1 rfl,?_⟩⟩⟩);.exact k _ (g,22) (by grind) (dr.2 ⟨x,evs,i,d,h.tl⟩)
 .exact k _ (g,11) (by grind) (dr.2 ⟨x,evs,i,d,h.tl⟩)
 have e:=h_ e;have t:i64.wrap (f.next-(g.seq-g.kept.length))=f.next-(g.seq-g.kept.length):=aN;rw[b_ (by grind),b_ e]at k;intro B m;conv=>whnf
 rw[t];refine⟨λa=>?_,λa=>m _ (k _ _ rfl (dr.2 ⟨x,evs,?_,d,?_⟩))⟩
 .have a:=j_ a;obtain⟨j,s⟩:∃j:Nat,f.next-(g.seq-g.kept.length)=(j:Int):=⟨_,(q2i ez).symm⟩;rw[s]at k ⊢;refine⟨_,_,_,h.r 1,?_⟩;rw[ab]at h ⊢;refine VK (l:=evs) (j:=j) ez ez (h.o [2,0,1,3] 4) λC h=>⟨_,_,_,rfl,h.st 2 rfl rfl λA h=>m _ (k _ _ rfl (dr.2 ⟨x,evs.drop j,?_,λz u=>d z (q22 u),?_⟩))⟩;.simp_all
  dsimp only[eZ];rw[Fw,W_,ab];exact h.o [2,0,3] 4
 .have a:=h_ a;dsimp only;rw[show (f.next-(g.seq-(g.kept.length:Int))).toNat=0 by omega];exact i
 have a:=h_ a;dsimp only;rw[show (f.next-(g.seq-(g.kept.length:Int))).toNat=0 by omega,q2w];exact h.tl
structure Ou where
 kind:Int
 ag:Int:=0
 num:Int:=0
 ida:Int:=0
 ide:Int:=0
 seq:Int:=0
 reason:Int:=0
 win:Int:=0
 lo:Int:=0
 hi:Int:=0
 bs:List Int:=[]
structure Oy where
 o:Ou
 a:KQ
 c:Nat
abbrev bV(y:Oy):Xa:=[aB y.o.kind,aB y.o.ag,aB y.o.num,aB y.o.ida,aB y.o.ide,aB y.o.seq,aB y.o.reason,aB y.o.win,aB y.o.lo,aB y.o.hi,.slice y.a y.o.bs.length y.c]
theorem yI(y:Oy):(bV y).length=11:=rfl
theorem qF(y:Oy):cU (bV y)=true:=rfl
structure fP(Q:aF)(y:Oy):Prop where
 kin:DJ Q y.a (y.o.bs.map U8)
 cap:y.o.bs.length<=y.c
theorem fP.sub{Q Q':aF}{y:Oy}(h:fP Q y)(hs:aH Q Q'):fP Q' y:=⟨h.kin.sub hs,h.cap⟩
structure Fq.aaO(f:Fq):Prop where
 k5:f.kind≠5
 k8:f.kind≠8
 evs:f.evs=[]
 sn:f.sn=⟨#[]⟩
 sl:f.sl=[]
 data:f.data=[]
 nm:∀i,1<=i->i<=9->i∉aU f.kind->f.nums i=0
theorem Fq.aaO.rd(h:f.aaO)(F:List aF):jW F f {} []:=by
 refine⟨by rw[h.evs];rfl,⟨λH _=>fN H none,λe a=>cS a eh⟩,λH _=>by rw[h.sl];exact fN H none,λH _=>by rw[h.data];exact fN H none,.inl rfl,
  ⟨λ_=>⟨h.evs,rfl,rfl⟩,λ_=>⟨h.sn,h.sl,rfl,rfl,h.data,rfl,rfl⟩,h.nm⟩,eh,λe a=>cS a eh,by rw[h.sl];simp,by rw[h.data];simp⟩
def nZ(ag ep bt:Int):Fq:={ kind:=2,ag:=ag,ep:=ep,bt:=bt }
def od(ag ep next:Int):Fq:={ kind:=6,ag:=ag,ep:=ep,next:=next }
def jL(ag bt ct:Int):Fq:={ kind:=3,ag:=ag,bt:=bt,ct:=ct }
theorem nine(a:1<=c)(b:c<=9):c=1\/c=2\/c=3\/c=4\/c=5\/c=6\/c=7\/c=8\/c=9:=ez
theorem VL(ag ep bt:Int):(nZ ag ep bt).aaO:=⟨show (2:Int)≠5 by decide,show (2:Int)≠8 by decide,rfl,rfl,rfl,rfl,λi a b h=>by
 rcases nine a b with rfl|rfl|rfl|rfl|rfl|rfl|rfl|rfl|rfl <;> first|rfl|exact cS (show _∈aU 2 by decide) h⟩
theorem VM(ag ep next:Int):(od ag ep next).aaO:=⟨show (6:Int)≠5 by decide,show (6:Int)≠8 by decide,rfl,rfl,rfl,rfl,λi a b h=>by
 rcases nine a b with rfl|rfl|rfl|rfl|rfl|rfl|rfl|rfl|rfl <;> first|rfl|exact cS (show _∈aU 6 by decide) h⟩
theorem VN(ag bt ct:Int):(jL ag bt ct).aaO:=⟨show (3:Int)≠5 by decide,show (3:Int)≠8 by decide,rfl,rfl,rfl,rfl,λi a b h=>by
 rcases nine a b with rfl|rfl|rfl|rfl|rfl|rfl|rfl|rfl|rfl <;> first|rfl|exact cS (show _∈aU 3 by decide) h⟩
def iQ(f:Fq):Ou:={ kind:=1,ag:=f.ag,bs:=cO f }
def iR(o:Ot):Fq:={ kind:=8,win:=o.1.win,sn:=(fp o.1.hK).1,sl:=(fp o.1.hK).2.1,data:=dY o.2 }
def lX(num:Int)(o:Ot):Ou:={ kind:=3,num:=num,bs:=cO (iR o) }
def dp(e:DF):List Ou:=if e.kind=1 then [iQ (nZ e.agent e.epoch e.boot)] else if e.kind=2 then [iQ (od e.agent e.epoch e.next)] else
 if e.kind=3 then [{ kind:=2,ida:=e.ida,ide:=e.ide,seq:=e.seq,reason:=e.reason,win:=e.win,lo:=e.XD.lo,hi:=e.XD.hi }] else if e.kind=4 then [lX e.number e.out] else []
theorem VO(t:Fb):(fp t).2.1.length<=8:=by
 unfold fp;split
 .split
  .split;.simp
   split;.rename_i a;exact (lQ a).len
   simp
  simp
 grind
theorem TS:Fs Tryz.prog 148 266 11 104:=fU kf
theorem C7(r:f.aaO)(h:aA H F)(k:∀a c d,aA d (ay 5 1 a (cO f).length c ((cO f).map U8)::F)->K (.agg ⟨bV ⟨iQ f,a,c⟩⟩) d) :
  CF 205 #[.agg ⟨cT f {}⟩] H K:=by
 refine cM 205 284 (h.al λb _ h=>h.al λb1 _ h=>⟨_,_,_,_,_,_,_,_,_,_,_,_,_,_,_,_,_,_,_,_,h.q 1,Ch h (r.rd _) λa c e h=>⟨_,_,_,_,rfl,_,h.r 2,h.st 1 rfl rfl ?_⟩⟩);intro i h;refine⟨_,_,_,_,_,_,_,_,_,_,_,_,_,h.q 1,k a c _ (h.o [0] 3)⟩
theorem Mw{n:Int}{o:Ot}(wc:WC o.2)(hs:o.1.hK.size<=1000000)(h:aA H F)(k:∀a c j,aA j (ay 5 1 a (cO (iR o)).length c ((cO (iR o)).map U8)::F)->K (.agg ⟨bV ⟨lX n o,a,c⟩⟩) j) : CF 252 #[aD n,.agg ⟨cR o⟩] H K:=by refine cM 252 4380 ?_;have m:=rM wc;have u:=VO o.1.hK;refine h.al λb _ h=>h.al λb1 _ h=>⟨_,h.r 1,Kv ez h λla lc B h=>⟨_,_,_,_,_,rfl,h.al λb2 _ h=>h.st 0 rfl rfl ?_⟩⟩;intro y h;refine⟨_,h.r 3,_,_,_,_,h.q 0,_,_,_,_,_,_,_,_,h.rdt (l:=[_,_]) 3 rfl rfl,Kf wc h λda dc w h=>⟨_,_,_,rfl,h.q 1,h.r 4,?_⟩⟩;have v:=vH h;refine Ch (f:=iR o) (x:={ la:=la,lc:=lc,da:=da,dc:=dc }) (evs:=[]) h ⟨rfl,⟨λH _=>fN H none,λe d=>cS d eh⟩,λH h=>h.a_ 2 rfl,λH h=>h.a_ 0 rfl,v,⟨λ_=>⟨rfl,rfl,rfl⟩,λh=>cS rfl h,λi s t h=>by rcases nine s t with rfl|rfl|rfl|rfl|rfl|rfl|rfl|rfl|rfl <;> first| rfl| exact cS (show _∈aU 8 by decide) h⟩,eh,λe d=>cS d eh,by show (fp o.1.hK).2.1.length<=_;omega,by show (dY o.2).length<=_;omega⟩ λa c C h=>⟨_,_,_,_,rfl,h.st 4 rfl rfl ?_⟩;intro A h;refine⟨_,_,_,_,_,_,_,_,_,_,_,_,_,h.q 4,k a c _ (h.o [0] 6)⟩
theorem Mx{c:Nat}{b:List DF}(hl:b.length<=1000000)(hw:∀e∈b,e.kind=4->WC e.out.2/\e.out.1.hK.size<=1000000)(h:aA H (Q::F))(ha:∀H,aA H F->aQ H a (flat dV b)) (k:∀Q' ys a' Y d,aH Q Q'->ys.map Oy.o=b.flatMap dp->(∀y∈ys,fP Q' y)->aA d (Q'::ay 266 11 a' ys.length Y (flat bV ys)::F)->K (.slice a' ys.length Y) d) : CF 216 #[.slice a b.length c] H K:=by
 refine cN 216 0x11215612399251151714171417417494c [[(3,sS)],[(3,sS)],[(3,sS)],[(3,sS)],[(3,sS),(10,sI)]] ⟨λla ln lc i d=>∃(j:Nat) (ys:List Oy) (Q':aF),i=j/\j<=b.length/\ln=ys.length/\ys.length<=j/\aH Q Q'/\ys.map Oy.o=(b.take j).flatMap dp/\(∀y∈ys,fP Q' y)/\aA d (Q'::ay 266 11 la ys.length lc (flat bV ys)::F),λ_ _ _ i _=>b.length-i.toNat,⟨0,[],Q,rfl,ez,rfl,eh,aH.refl Q,rfl,λy T=>cS T eh,(h.cp 266 11).o [1,0] 2⟩,?_⟩;rintro la ln lc i H1 ⟨j,ys,Q',rfl,hj,rfl,h6,s,x,C,h⟩;refine⟨λhc=>?_,λhc=>?_⟩
 .have n:j<b.length:=by grind
  have hr:=ha _ h.tl.tl;have S:i64.wrap ((j:Int)+1)=((j+1:Nat):Int):=by grind [aN]
  refine⟨ez,_,_,hr.some Mb ez n,_,_,_,_,_,_,_,_,_,_,_,_,_,_,_,_,_,_,_,_,_,_,_,hr.E6 Mb n,?_⟩;have O:=hw _ (qa n);have V:(b.take (j+1)).flatMap dp=(b.take j).flatMap dp++dp b[j]:=kM n;obtain⟨e,he⟩:∃e,b[j]=e:=⟨_,rfl⟩;rw[he]at O V ⊢;refine h.al λb1 _ h=>h.z_ 0 rfl rfl λH2 h=>?_;have h:aA H2 (ax b1 (dV e) 523::Q'::ay 266 11 la ys.length lc (flat bV ys)::F):=h;refine⟨_,h.r 0,?_⟩;intro Z hJ;have fin:∀(w:List Oy) I a2 c2 d,aH Q I->w.map Oy.o=(b.take j).flatMap dp++dp e->w.length<=j+1->(∀y∈w,fP I y)->aA d (I::ay 266 11 a2 w.length c2 (flat bV w)::F)->Z a2 w.length c2 d:=by intro w I a2 c2 d hs hm U hi h;exact hJ _ _ _ _ ⟨⟨j+1,w,I,S,n,rfl,U,hs,by grind,hi,h⟩,by grind⟩
  have one:∀(y:Oy) (A:aF) a2 c2 d,dp e=[y.o]->fP (A*Q') y->aA d (A::Q'::ay 266 11 a2 (ys.length+1) c2 (flat bV ys++bV y)::F)->Z a2 (ys.length+1) c2 d:=by
   intro y A a2 c2 d u T h;have e1:flat bV ys++bV y=flat bV (ys++[y]):=by grind [flat]
   have e2:ys.length+1=(ys++[y]).length:=eh;rw[e1,e2]at h;rw[e2];refine fin (ys++[y]) (A*Q') a2 c2 _ (s.trans (aH.add A Q')) (by grind) (by simp;omega) (λz E=>?_) (gZ.2 h);rcases C_.1 E with E|E;.exact (C z E).sub (aH.add A Q')
   rw [CU]at E;rw[E];exact T
  refine⟨λG=>?_,λG=>?_⟩
  .have G:=j_ G;have u:dp e=[iQ (nZ e.agent e.epoch e.boot)]:=by unfold dp;grind
   refine⟨_,h.r 0,_,h.r 0,h.al λb2 _ h=>h.st 0 rfl rfl ?_⟩;intro H5 h;refine⟨_,_,_,h.q 0,_,h.r 1,C7 (VL e.agent e.epoch e.boot) h λv f H6 h=>⟨_,_,_,_,_,_,_,_,_,_,_,_,_,rfl,h.al λb3 _ h=>h.append (m:=1) (ws:=bV ⟨iQ (nZ e.agent e.epoch e.boot),v,f⟩) TS 5 rfl (h.ew 0 rfl) rfl (qF _) ez ez λa5 c5 P h=>⟨_,_,_,rfl,one ⟨iQ (nZ e.agent e.epoch e.boot),v,f⟩ _ _ _ _ u ⟨DJ.sl (c:=f),h.CD 1 rfl⟩ (h.o [1,4,5] 6)⟩⟩⟩
  have G:=h_ G;intro h7 t;refine⟨λJ=>?_,λJ=>?_⟩
  .have J:=j_ J;have u:dp e=[iQ (od e.agent e.epoch e.next)]:=by unfold dp;grind
   refine⟨_,h.r 0,_,h.r 0,h.al λb2 _ h=>h.st 0 rfl rfl ?_⟩;intro H5 h;refine⟨_,_,_,h.q 0,_,h.r 1,C7 (VM e.agent e.epoch e.next) h λv f H6 h=>⟨_,_,_,_,_,_,_,_,_,_,_,_,_,rfl,h.al λb3 _ h=>h.append (m:=1) (ws:=bV ⟨iQ (od e.agent e.epoch e.next),v,f⟩) TS 5 rfl (h.ew 0 rfl) rfl (qF _) ez ez λa5 c5 P h=>⟨_,_,_,rfl,t _ _ _ _ (one ⟨iQ (od e.agent e.epoch e.next),v,f⟩ _ _ _ _ u ⟨DJ.sl (c:=f),h.CD 1 rfl⟩ (h.o [1,4,5] 6))⟩⟩⟩
  have J:=h_ J;intro h0 B;refine⟨λM=>?_,λM=>?_⟩
  .have M:=j_ M;obtain⟨o3,N⟩:∃o3:Ou,o3={ kind:=2,ida:=e.ida,ide:=e.ide,seq:=e.seq,reason:=e.reason,win:=e.win,lo:=e.XD.lo,hi:=e.XD.hi }:=⟨_,rfl⟩;have u:dp e=[o3]:=by unfold dp;grind
   refine⟨_,_,_,h.q 0,_,_,h.q 0,_,_,h.q 0,h.al λb3 _ h=>h.append (m:=1) (ws:=bV ⟨o3,none,0⟩) TS 3 rfl (h.ew 0 (by rw[N];rfl)) rfl (qF _) ez ez λa5 c5 P h=>⟨_,_,_,rfl,B _ _ _ _ (t _ _ _ _ (one ⟨o3,none,0⟩ emp _ _ _ u ?_ (l7 (h.o [2,3] 4))))⟩⟩;rw[N];exact⟨DJ.nil _ _,EG _⟩
  have M:=h_ M;intro h5 L;refine⟨λD=>?_,λD=>?_⟩
  .have D:=j_ D;have u:dp e=[lX e.number e.out]:=by unfold dp;grind
   let⟨wc,R⟩:=O D;refine⟨_,h.r 0,_,_,_,_,_,_,_,_,_,_,h.rdt (l:=[_,_,_,_,_,_,_,_,_,_,_,_,_]) 0 rfl rfl,Mw wc R h λv f H6 h=>⟨_,_,_,_,_,_,_,_,_,_,_,_,_,rfl,h.al λb3 _ h=>h.append (m:=1) (ws:=bV ⟨lX e.number e.out,v,f⟩) TS 4 rfl (h.ew 0 rfl) rfl (qF _) ez ez λa5 c5 P h=>⟨_,_,_,rfl,L _ _ _ _ (B _ _ _ _ (t _ _ _ _ (one ⟨lX e.number e.out,v,f⟩ _ _ _ _ u ⟨DJ.sl (c:=f),h.CD 1 rfl⟩ (h.o [1,3,4] 5))))⟩⟩⟩
  have D:=h_ D;have u:dp e=[]:=by unfold dp;grind
  exact L _ _ _ _ (B _ _ _ _ (t _ _ _ _ (fin ys Q' _ _ _ s (by grind) ez C h.tl)))
 have W:j=b.length:=by grind
 subst W;rw[FJ]at x;exact k Q' ys _ _ _ s x C h
structure Sn where
 bt:Int
 ct:Int
 ag:Int
 ep:Int
 at_:Int
variable {l:List Sn}
abbrev ir(s:Sn):Xa:=[aB s.bt,aB s.ct,aB s.ag,aB s.ep,aB s.at_]
theorem pM(s:Sn):(ir s).length=5:=rfl
theorem My(s:Sn):cU (ir s)=true:=rfl
structure Pb where
 boot:Int
 most:Int
 count:Int
 out:List Sn
 last:List (Int×Int)
variable {p:Pb}
def tmB(t:Int):Bool:=decide (0<=t)&&decide (t<=4611686018427387903)
structure kh(p:Pb):Prop where
 count:0<=p.count/\p.count<=1000000000000
 most:1<=p.most/\p.most<=1024
 out:p.out.length<=1024
 last:∀x∈p.last,0<=x.2/\x.2<=4611686018427387903
 boot:aG p.boot
def MA(p:Pb)(ag now period:Int):Bool:=tmB now&&tmB period&&(match aK ag p.last with|none=>true|some t=>decide (period<=now-t))
def YQ(ag ep now:Int):Bool:=decide (0<=ag)&&decide (ag<64)&&decide (1<=ep)&&decide (ep<=1099511627776)&&tmB now
def RC(p:Pb)(ag ep now:Int):Pb:=
 { p with count:=p.count+1,last:=eO ag now p.last,out:=if p.most<((p.out++[(⟨p.boot,p.count,ag,ep,now⟩:Sn)]).length:Int) then (p.out++[(⟨p.boot,p.count,ag,ep,now⟩:Sn)]).drop 1 else p.out++[(⟨p.boot,p.count,ag,ep,now⟩:Sn)] }
def isN(bt ct:Int)(s:Sn):Bool:=s.bt == bt&&(s.ct == ct&&true)
def fI(p:Pb)(ag ep bt ct:Int):Int×Int×Pb:=
 if bt≠p.boot then (-1,22,p) else match p.out.findIdx? (isN bt ct) with
 | none=>(-1,19,p)
 | some i=>match p.out[i]? with
  | none=>(-1,19,p)
  | some s=>if s.ag≠ag\/s.ep≠ep then (-1,10,p) else (s.at_,0,{ p with out:=p.out.take i++p.out.drop (i+1) })
theorem mtP:jB Tryz.prog 466 2 2 aD 0:=ny Tryz.underlying466 kf
theorem agW:Fs Tryz.prog 467 506 5 40:=fU kf
def FQ(pb:Nat)(p:Pb):aF:=F7 λx:KQ×Nat×Nat=>star [ax pb [aD p.boot,aD p.most,aD p.count,.slice x.1 p.out.length x.2.1,.map (some x.2.2)] 469,ay 506 5 x.1 p.out.length x.2.1 (flat ir p.out),mapA aD aD x.2.2 p.last]
theorem pN:aA H (FQ j p::F)↔∃a c m,aA H (ax j [aD p.boot,aD p.most,aD p.count,.slice a p.out.length c,.map (some m)] 469::ay 506 5 a p.out.length c (flat ir p.out)::mapA aD aD m p.last::F):=by
 unfold FQ;rw[cw];constructor;.intro⟨x,h⟩;exact⟨x.1,x.2.1,x.2.2,aA.open h⟩
 intro⟨a,c,m,h⟩;exact⟨(a,c,m),aA.shut [_,_,_] h⟩
theorem C8:bX Tryz.prog 277 #[aD v] H (.bool (tmB v)):=by unfold bX;exact cM 277 28 ⟨rfl,rfl⟩
theorem Mz(h:aA H F) (k1:¬(1<=v/\v<=1099511627776/\1<=m/\m<=1024)->K (.tuple #[.pointer none,aD 11]) H) (k2:1<=v/\v<=1099511627776/\1<=m/\m<=1024->∀b c,aA c (FQ b ⟨v,m,0,[],[]⟩::F)->K (.tuple #[PA b 0,aD 0]) c) : CF 171 #[aD v,aD m] H K:=by
 refine cM 171 476 ⟨λa=>k1 ?_,λa=>?_⟩;.grind
 simp only[E8,DC]at a;refine h.XE aD aD λmb _ h=>h.al λb d h=>k2 ez b _ (pN.2 ⟨none,0,mb,(h.cp 506 5).o [1,0,2] 3⟩)
theorem VP{ag now period:Int}(ok:kh p)(h:aA H (FQ j p::F)):bX Tryz.prog 203 #[PA j 0,aD ag,aD now,aD period] H (.bool (MA p ag now period)):=by
 unfold bX;let⟨a,c,m,h⟩:=pN.1 h;refine cM 203 7452 ⟨_,C8,_,λ_=>C8,λb=>?_,λb=>?_⟩
 .have e:MA p ag now period=false:=by unfold MA;grind
  rw[e];exact⟨rfl,rfl⟩
 simp only[E8,q2p]at b;have e:MA p ag now period=(match aK ag p.last with|none=>true|some t=>decide (period<=now-t)):=by grind [MA]
 rw[e];have f:=h.v_ mtP Ro.Fo (x:=ag) 2 rfl;refine⟨_,h.r 0,?_⟩;cases hm:aK ag p.last with
  | none=>refine⟨0,false,(f.2 hm).1,rfl,rfl⟩
  | some t=>refine⟨t,true,(f.1 t hm).1,?_,rfl⟩;have i:=ok.last (ag,t) (eD hm);have d:=b.1;unfold tmB at d;simp only[p_,za]at d;dsimp only at i;show Value.bool (!true||decide (period<=i64.wrap (now-t)))=_;rw[aN];rfl
theorem M0{c:Nat}{i:Nat}(f:v=j)(A:i<j)(D:j<=l.length)(h:aA H (ay 506 5 a l.length c (flat ir l)::F)) (k:∀d,aA d (ay 506 5 a (l.take i++l.drop j).length c (flat ir (l.take i++l.drop j))::F)->K (.slice a (l.take i++l.drop j).length c) d):CF 275 #[.slice a l.length c,aD i,aD v] H K:=by
 subst f;have y:=h.CD 0 rfl;have b:(l.take i++l.drop j).length=i+(l.length-j):=by grind
 refine cM 275 18682140 ⟨⟨ez,ez,ez,ez⟩,λu=>cS (j_ u) ez,λu=>⟨⟨ez,ez,ez⟩,⟨ez,ez,ez⟩,?_⟩⟩;have n:=h.a_ 0 rfl;have hs:=n.some pM ez (k:=0) ez;have e0:y_ a 0 c 5=a:=by unfold y_;rw[nO,hs,I_,iF];simp
 have s:=n.ael (k:=j) (c:=c) (sz:=5) (by rw[dS pM];omega);rw[tj pM]at s;have w:=h.GP 0 rfl i ez;show cv Tryz.prog (Builtin.append_ #[467,467] 467 #[.slice (y_ a 0 c 5) i c,.slice (y_ a j c 5) (l.length-j) (c-j)]) H _;rw[e0];refine aA.Hb agW w 0 rfl s (by rw[dS pM,W_]) (kz My _) ez λd x=>⟨_,_,_,rfl,⟨ez,ez,ez⟩,?_⟩;have e:(flat ir l).take (i*5)++flat ir (l.drop j)=flat ir (l.take i++l.drop j):=by rw[iX,<-Az pM]
 have m:aA d (ay 506 5 a (i+(l.length-j)) c ((flat ir l).take (i*5)++flat ir (l.drop j))::F):=x;rw[e,<-b]at m;have t:=k;rw[b]at t;rw[b]at m;exact aA.SD agW kf m 0 rfl ez λ_ C B=>t _ B
theorem VQ{s:Sn}(h:aA H F)(i:Nat)(c:aX i F=ax j [aD v,aD m] 393)(k:∀a,aA a F->K (.bool (isN v m s)) a) : CF 274 #[.agg ⟨ir s⟩,PA j 0] H K:=by refine cM 274 28 (h.al λb1 _ h=>?_);have e:=(uN (P:=Tryz.prog) (t:=393) (xs:=[aD s.bt,aD s.ct]) (ys:=[aD v,aD m]) (r:=(s.bt == v&&(s.ct == m&&true))) kf).1;exact⟨_,_,h.q 0,_,_,h.rds (i+1) c rfl,_,e,k _ h.tl⟩
theorem VR(B:l.length<=1000000)(h:aA H F)(i:Nat)(w:aX i F=ax j [aD v,aD m] 393)(n1:∀H,aA H F->aQ H a (flat ir l)) (k1:l.findIdx? (isN v m)=none->∀e,aA e F->K (aD (-1)) e) (k2:∀b,l.findIdx? (isN v m)=some b->∀e,aA e F->K (aD (b:Nat)) e) : CF 273 #[.slice a l.length c,.func (.func 274) #[] #[PA j 0]] H K:=by
 refine cN 273 0x1215612399251b4c [[(8,sI)]] ⟨λi e=>∃b:Nat,i=b/\b<=l.length/\(∀q (f:q<l.length),q<b->isN v m l[q]=false)/\aA e F,λi _=>l.length-i.toNat,⟨0,rfl,ez,λq _ f=>cS f ez,h⟩,?_⟩;rintro i E ⟨b,rfl,D,A,h⟩;refine⟨λy=>?_,λy=>?_⟩
 .have d:b<l.length:=by grind
  have k:=n1 _ h;refine⟨ez,_,_,k.some pM ez d,_,_,_,_,_,k.E6 pM d,rfl,VQ (s:=l[b]) h _ w λC h=>⟨_,rfl,λhm=>?_,λhm=>?_⟩⟩;.refine k2 b ?_ _ h;grind [List.findIdx?_eq_some_iff_getElem]
  have n0:i64.wrap ((b:Int)+1)=((b+1:Nat):Int):=by grind [aN]
  refine⟨⟨b+1,n0,d,λq f t=>?_,h⟩,by grind⟩;grind
 have n:b=l.length:=by grind
 refine k1 ?_ _ h;rw[List.findIdx?_eq_none_iff];intro x u;obtain⟨q,f,rfl⟩:=XV u;grind
theorem VS{n1:Int}(ok:kh p)(h:aA H (FQ c p::F)) (k:∀f,aA f (FQ c (fI p B v m n1).2.2::F)->K (.tuple #[aD (fI p B v m n1).1,aD (fI p B v m n1).2.1]) f) : CF 199 #[PA c 0,aD B,aD v,.agg #[aD m,aD n1]] H K:=by
 let⟨a,pb,n0,h⟩:=pN.1 h;refine cM 199 488447260 ?_;unfold fI at k;refine h.al λb _ h=>⟨_,h.r 0,_,h.r 1,λe=>?_,λe=>?_⟩;.rw [c_ (by grind)]at k;exact k _ (pN.2 ⟨a,pb,n0,h.tl⟩)
 rw[b_ (by grind)]at k;have ep:=ok.out;refine⟨_,_,_,h.r 1,VR ez h 0 rfl (λH h=>h.a_ 2 rfl) (λt w h=>⟨_,rfl,λ_=>?_,λe=>cS e eh⟩) λj s w h=>⟨_,rfl,λe=>cS (j_ e) ez,λ_=>?_⟩⟩;.rw [t]at k;exact k _ (pN.2 ⟨a,pb,n0,h.tl⟩)
 obtain⟨d,-,-⟩:=List.findIdx?_eq_some_iff_getElem.1 s;rw[s]at k;dsimp only at k;rw[List.getElem?_eq_getElem d]at k;dsimp only at k;have n:=h.a_ 2 rfl;refine⟨_,_,_,h.rd 1 rfl _,⟨ez,ez⟩,_,_,n.some pM ez d,_,_,_,_,_,n.E6 pM d,h.al λb2 _ h=>h.st 0 rfl rfl ?_⟩;intro y h;refine⟨_,h.r 0,_,λ_=>h.r 0,λe=>?_,λe=>?_⟩;.rw [c_ (by grind)]at k;exact k _ (pN.2 ⟨a,pb,n0,h.o [2,3,4] 5⟩)
 rw[b_ (by grind)]at k;refine⟨_,_,_,h.r 2,?_⟩;have u:i64.wrap ((j:Int)+1)=((j+1:Nat):Int):=by grind [aN]
 have h:=h.o [3,0,2,4] 5;refine M0 (i:=j) (j:=j+1) u ez ez h λA h=>⟨_,_,_,rfl,h.st 2 rfl rfl ?_⟩;intro x h;exact⟨_,h.r 1,k _ (pN.2 ⟨a,pb,n0,h.o [2,0,3] 4⟩)⟩
theorem M1{ep now:Int}(ok:kh p)(hs:YQ B ep now=true)(h:aA H (FQ c p::F)) (k:∀f,aA f (FQ c (RC p B ep now)::F)->K (.tuple #[.agg #[aD p.boot,aD p.count],aD 0]) f) : CF 204 #[PA c 0,aD B,aD ep,aD now] H K:=by
 let⟨a,pb,m,h⟩:=pN.1 h;have w:=ok.out;have D:=ok.count;unfold YQ at hs;simp only[p_,za]at hs;refine cN 204 31959155165468 [[]] (h.al λb _ h=>⟨_,λ_=>C8,λd=>?_,λd=>?_⟩);.exfalso;grind
 refine⟨_,h.r 1,_,h.r 1,h.al λb1 _ h=>⟨h.r 2,h.r 2,h.st 0 rfl rfl ?_⟩⟩;intro G h;refine⟨_,h.r 2,h.st 2 rfl rfl ?_⟩;intro E h;refine⟨_,_,_,h.r 2,_,_,h.q 0,h.al λb2 _ h=>⟨h.r 3,h.append (m:=1) (ws:=ir ⟨p.boot,p.count,B,ep,now⟩) agW 4 rfl (h.ew 0 rfl) rfl (My _) ez ez λa5 c5 J h=>⟨_,_,_,rfl,h.st 3 rfl rfl ?_⟩⟩⟩;intro x h;have ag:i64.wrap (p.count+1)=p.count+1:=aN;have C:flat ir p.out++ir ⟨p.boot,p.count,B,ep,now⟩=flat ir (p.out++[(⟨p.boot,p.count,B,ep,now⟩:Sn)]):=by grind [flat]
 obtain⟨o1,n⟩:∃o1,p.out++[(⟨p.boot,p.count,B,ep,now⟩:Sn)]=o1:=⟨_,rfl⟩;have s:p.out.length+1=o1.length:=by grind
 have h:aA x (ax b2 (ir ⟨p.boot,p.count,B,ep,now⟩) 506::ax b1 [aD p.boot,aD p.count] 393::ax b [aD 0,aD 0] 393::ax c [aD p.boot,aD p.most,aD (i64.wrap (p.count+1)),.slice a5 (p.out.length+1) c5,.map (some m)] 469::ay 506 5 a5 (p.out.length+1) c5 (flat ir p.out++ir ⟨p.boot,p.count,B,ep,now⟩)::mapA aD aD m p.last::F):=h;rw[ag,C,n,s]at h;refine⟨_,_,_,h.r 3,_,h.r 3,?_⟩;intro u y;have fin:∀(o2:List Sn) f,o2=(if p.most<(o1.length:Int) then o1.drop 1 else o1)->aA f (ax b1 [aD p.boot,aD p.count] 393::ax b [aD 0,aD 0] 393::ax c [aD p.boot,aD p.most,aD (p.count+1),.slice a5 o2.length c5,.map (some m)] 469::ay 506 5 a5 o2.length c5 (flat ir o2)::mapA aD aD m p.last::F)->u f:=by
  intro o2 f e h;refine y _ ⟨_,h.r 2,h.ix (α:=Int) (v:=now) mtP Ro.Fo 4 rfl λt h=>⟨_,_,h.q 0,h.st 1 rfl rfl ?_⟩⟩;intro A h;refine⟨_,_,h.q 1,?_⟩;have e2:RC p B ep now=⟨p.boot,p.most,p.count+1,o2,eO B now p.last⟩:=by grind [RC]
  rw[e2]at k;exact k _ (pN.2 ⟨a5,c5,m,h.o [2,3,4] 5⟩)
 refine⟨λd=>?_,λd=>?_⟩;.have d:=j_ d;refine⟨_,_,_,h.r 3,?_⟩;have h:=h.o [4,1,2,3,5] 6;refine M0 (i:=0) (j:=1) rfl ez ez h λI h=>⟨_,_,_,rfl,?_⟩;rw[YT,Hi]at h ⊢;refine h.st 3 rfl rfl ?_;intro t h;exact fin (o1.drop 1) _ (by grind) (h.o [1,2,3,0,4] 5)
 have d:=h_ d;exact fin o1 _ (by grind) (h.o [1,2,3,4,5] 6)
theorem C9{α:Type}:∀{l:List (Option α)} {i:Nat} {p:Int×Option α},p∈de i l->∃(k:Nat) (b:α),p=(((i+k:Nat):Int),some b)/\l[k]?=some (some b)
 | [],i,p,h=>by grind [de]
 | none::r,i,p,h=>by
  let⟨k,b,a,c⟩:=C9 (l:=r) (i:=i+1) h;exact⟨k+1,b,by rw[a,show i+1+k=i+(k+1) by omega],eu c⟩
 | some b::r,i,p,h=>by
  rcases DO.1 h with rfl|h
  .exact⟨0,b,rfl,rfl⟩
  .let⟨k,d,a,c⟩:=C9 (l:=r) (i:=i+1) h;exact⟨k+1,d,by rw[a,show i+1+k=i+(k+1) by omega],eu c⟩
theorem M3{k:Nat}{s:bC}(a:D[k]?=some (some j))(c:E[k]?=some (some s)) : B1 Q D E=Ft Q j s*B1 Q (D.set k none) (E.set k none):=by let⟨l1,e1⟩:=List.getElem?_eq_some_iff.1 a;let⟨l2,e2⟩:=List.getElem?_eq_some_iff.1 c;rw[qD (k:=k) (by grind) (by grind),q2v,q2v,<-e1,<-e2,q2a,q2a]
theorem iu{B:aF}:aA H ((Q*B)::F)↔aA H (Q::B::F):=by
 grind [aA,star]
theorem VT{s:aL}(V:s.kept.length<=1000000)(ok:cY s)(h:aA H (s_ Q c s::F))(k:∀M E,aA E (s_ Q M s::s_ Q c s::F)->K (PA M 0) E):CF 129 #[PA c 0] H K:=by
 let⟨p,h⟩:=di.1 h;refine RA ⟨_,_,_,_,_,_,_,_,_,_,_,_,_,_,_,_,_,_,_,_,_,_,h.x_ 0 rfl,h.al λb _ h=>h.z_ 0 rfl rfl λH1 h=>?_⟩;have h:aA _ (ax b (dx s p) 165::_):=h;refine⟨_,h.r 1,_,h.r 1,_,h.r 1,Ro.GF (h.o [2,3,0,1,4,5,6,7,8,9] 10) λx u H2 h=>⟨_,rfl,h.r 5,h.r 5,Ma.GF (h.o [6,7,0,1,2,3,4,5,8,9,10,11] 12) λA t H3 h=>⟨_,rfl,h.r 9,Tn (h.o [10,11,0,1,2,3,4,5,6,7,8,9,12,13] 14) λd n H4 h=>⟨_,rfl,h.st 12 rfl rfl λ_ h=>h.st 12 rfl rfl λ_ h=>h.st 12 rfl rfl λ_ h=>⟨_,_,_,h.r 13,K4 (l:=s.kept) h (λH h=>h.a_ 15 rfl) V λy B H8 h=>⟨_,_,_,rfl,h.st 13 rfl rfl λ_ h=>h.XE aD LB λb1 _ h=>h.st 14 rfl rfl λU h=>⟨_,h.r 15,?_⟩⟩⟩⟩⟩⟩⟩;have h:=h.o [16,0,14,1,2,3,4,5,6,7,8,9,10,11,12,13,15,17] 18;let⟨bl,hm,h⟩:=lW.1 h;have h0:bl.length=s.sts.length:=by have:=congrArg List.length hm;grind
 obtain⟨R,hR⟩:∃R:List aF,R=ay 184 74 y s.kept.length B (flat cR s.kept)::DK d n s.cfg.cells::cG n s.cm::DK p.hb p.hm s.cfg.cells::cG p.hm s.cm::Ma.f_ A t s.ms::Ma.kb t s.ms.m::Ma.f_ p.mb p.mm s.ms::Ma.kb p.mm s.ms.m:: Ro.mv x u s.cfg.agents::Ro.w_ u s.rows::Ro.mv p.rb p.rm s.cfg.agents::Ro.w_ p.rm s.rows::ax c (dx s p) 165::ay 184 74 p.ka s.kept.length p.kc (flat cR s.kept)::F:=⟨_,rfl⟩;have h:aA U (mapA aD LB p.tm (de 0 bl)::B1 Q bl s.sts::mapA aD LB b1 []::ax b (dx s ⟨x,u,A,t,d,n,b1,y,B⟩) 165::R):=by rw[hR];exact h
 refine h.F4 rV 0 rfl λS h4 h=>⟨S,rfl,⟨λE=>∃(dn:List (Int×Option Nat)) (sb:List (Option Nat)) (a:List (Option bC)),sb.map Option.isSome=a.map Option.isSome/\a.length=s.sts.length/\ (∀k:Nat,k<s.sts.length->a[k]?=if ((k:Nat):Int)∈aJ dn then s.sts[k]? else some none)/\ aA E (jt aD LB S p.tm (de 0 bl) dn::B1 Q bl s.sts::mapA aD LB b1 (de 0 sb)::B1 Q sb a::ax b (dx s ⟨x,u,A,t,d,n,b1,y,B⟩) 165::R),λE=>(de 0 bl).length-pu E S,⟨[],List.replicate 64 none,List.replicate 64 none,eh,by simp[ok.len],λk hk=>by rw[ok.len]at hk;grind,?_⟩,?_⟩⟩;.rw [Cr];have e:de 0 (List.replicate 64 (none:Option Nat))=[]:=ee;rw[e];exact (l7 h).o [1,2,3,0,4] 5
 intro H2 ⟨dn,sb,a,C,h3,O,h⟩;let⟨h7,h1⟩:=h.k_ 0 rfl;refine h.Fh 0 rfl (λhp=>.inl ⟨rfl,λZ=>(by cases Z),λ_=>?_⟩) λq W h6 H3 h=>.inr ⟨_,_,rfl,λ_=>?_,λZ=>(by cases Z)⟩
 .have h:=h.F5 0 rfl;have e:a=s.sts:=by
   apply q2b;intro i;rcases HZ i s.sts.length with hi|hi
   .rw [O i hi];split;.rfl
    rename_i hn;have hb:bl[i]?=some none:=by cases f:bl[i]? with
      | none=>grind
      | some o=>cases o with
       | none=>rfl
       | some b0=>exfalso;have hl:=vK (l:=bl) (i:=0) (k:=i);rw[f,CO]at hl;refine hn ?_;have:((i:Int),some b0)∈de 0 bl:=eD hl;grind
    have:=rW hm i;simp_all
   grind
  rw[e]at h C;subst hR;refine k b _ ?_;have h:=lW.2 ⟨bl,hm,h⟩;have h:=lW.2 ⟨sb,C,h.o [1,2,0,3] 4⟩;have h:=di.2 ⟨p,h.o [16,14,15,10,11,6,7,1,17,0,2,3,4,5,8,9,12,13] 18⟩;exact di.2 ⟨⟨x,u,A,t,d,n,b1,y,B⟩,h.o [2,8,9,6,7,4,5,1,3,0] 10⟩
 obtain⟨i,bk,rfl,f⟩:=C9 W;rw[CO]at *;have h2:i<s.sts.length:=by grind
 have w:∃st,s.sts[i]?=some (some st):=by have:=rW hm i;rw[f]at this;cases hs:s.sts[i]? with
   | none=>grind
   | some o=>rw[hs]at this;cases o with
    | none=>cases this
    | some st=>grind
 let⟨st,w⟩:=w;have G:=ok.sts st (LA w);have I:=aA.DU (P:=Tryz.prog) h 0 rfl;let⟨Y,N⟩:=h.k_ 0 rfl;rw[po,q29]at Y N;refine⟨_,_,I,?_⟩;have h:=h.o [1,0,2,3,4] 5;have h:aA H3 (B1 Q bl s.sts::_):=h;rw[M3 f w]at h;have h:=iu.1 h;let⟨cb,hb,h⟩:=io.1 h;refine⟨_,h.r 7,dj ⟨_,h.r 0,dj ⟨_,h.r 0,dj ⟨_,h.r 0,S1 (h.o [1,0,2,3,4,5,6,7] 8) (by have:=G.ck.len;omega) λT H5 h=>⟨_,rfl,h.r 2,h.r 2,h.r 8,KJ (h.o [3,0,1,2,4,5,6,7,8] 9) λd H6 h=>⟨_,rfl,h.r 4,h.r 9,h.al λb3 _ h=>⟨h.r 10,h.ix (v:=some b3) rV Fo 8 rfl λH7 h=>⟨?_,?_⟩⟩⟩⟩⟩⟩⟩⟩
 .have D:a[i]?=some none:=by grind
  have L:sb[i]?=some none:=by have:=rW C i;simp_all
  have J:i<sb.length:=(List.getElem?_eq_some_iff.1 L).1;refine⟨dn++[((i:Int),some bk)],sb.set i (some b3),a.set i (some st),?_,by grind,λj hj=>?_,?_⟩;.simp_all
  .grind
  have em:mapA aD LB b1 (eO ((i:Nat):Int) (some b3) (de 0 sb))=mapA aD LB b1 (de 0 (sb.set i (some b3))):=oH (by have:=y7 (b:=b3) (l:=sb) (i:=0) (k:=i) J;grind);rw[<-qD (b:=b3) (s:=st) L D,M3 f w];have h:=io.2 ⟨T,d,h.o [0,3,1,2,4,5,6,7,8,9,10] 11⟩;have h:=io.2 ⟨cb,hb,h.o [3,2,1,0,4,5,6,7,8] 9⟩;have h:=iu.2 (h.o [0,2,1,3,4,5,6] 7);have h:=iu.2 (h.o [1,4,0,2,3,5] 6);have h:=h.o [2,1,3,0,4] 5;rw[<-em];exact h
 let⟨h5,_⟩:=h.k_ 7 rfl;grind
theorem yJ:gh 64 []=0/\du []=[]/\jI []=0:=by
 have a:bG []=[]:=by cases h:bG [] with
   | nil=>rfl
   | cons f r=>grind [List.mem_cons_self,lw]
 grind [yq,gh,du]
theorem M4:∀{rs:List Ry} {H:aC} {F:List aF},aA H (qc rs::F)->∀r∈rs,r.y.a=none\/∃b o,r.y.a=some ⟨b,o,none⟩
 | [],_,_,_,r,c=>by cases c
 | x::rs,H,F,h,r,c=>by
  have d:aA H (FG x.y::qc rs::F):=iu.1 h
  rcases DO.1 c with rfl|c
  .exact vH d
  .exact M4 d.tl r c
structure TI(most:Int)(rows:DR)(syn:Nat)(s:RL)(j:Nat):Prop where
 rok:gB rows
 files:∀r∈rows,r.1<=s.hN
 syn:syn<=rows.length
 XQ:0<=s.hN
 hN:s.hN<=j
 len:rows.length<=300000*j
 next:s.next<=300000*j
 XJ:s.syn<=300000*j
 hm:s.most=most
 range:64<=most/\most<=1048576
theorem TI.ok{most:Int}{rows:DR}{syn:Nat}{s:RL}{j:Nat}(h:TI most rows syn s j)(a:j<=3200):s.ok:=by have c:=h.XQ;have d:=h.hN;have e:=h.next;have i:=h.XJ;have b:=h.hm;have f:=h.range;exact⟨ez,ez,ez,ez⟩
theorem TI.mono(h:TI v A c G j):TI v A c G (j+1):=⟨h.rok,h.files,h.syn,h.XQ,by have:=h.hN;omega,by have:=h.len;omega,by have:=h.next;omega,by have:=h.XJ;omega,h.hm,h.range⟩
theorem M5{rows:DR}{s:RL}{r:Rc}:s.hN<=(dD rows s r).hN/\(dD rows s r).hN<=s.hN+1/\(dD rows s r).next<=s.next+1/\(dD rows s r).syn=s.syn/\(dD rows s r).most=s.most:=by
 unfold dD;split;.exact⟨ez,ez,ez,rfl,rfl⟩
 dsimp only;split <;> exact⟨ez,ez,ez,rfl,rfl⟩
theorem TI.append{rows:DR}{s:RL}(h:TI B rows c s j)(f:j<=3200){r:Rc}(hb:aI r.data)(m:r.data.length<=262144) : TI B (gS rows s r) c (dD rows s r) (j+1):=by
 have hs:=M5 (rows:=rows) (s:=s) (r:=r);have syn:=adp (rows:=rows) (r:=r) (h.ok f);have i:=h.XQ;have k:=h.hN;have v:=h.next;have y:=h.XJ;have u:=h.len;have w:=h.files;have n:=h.syn;by_cases he:jf rows s r=0
 .have a:=Ce hb he;have d:=rS a;have e:gS rows s r=rows++(bR r).map λb=>((dD rows s r).hN,b):=by unfold gS;grind
  rw[e];refine⟨h.rok.app syn (tU a),λx t=>?_,by grind,ez,ez,by grind,ez,ez,by rw[hs.2.2.2.2];exact h.hm,h.range⟩;grind
 have e:gS rows s r=rows:=by unfold gS;grind
 have e2:dD rows s r=s:=by unfold dD;grind
 rw[e,e2];exact h.mono
theorem TI.sync{syn:Nat}(h:TI v A syn G j):TI v A A.length { G with syn:=G.next } (j+1):=⟨h.rok,h.files,yb _,h.XQ,by have:=h.hN;grind,by have:=h.len;omega,by have:=h.next;grind,by have:=h.next;grind,h.hm,h.range⟩
theorem TI.drop(h:TI v A c G j)(below:Int):TI v (jg below A) (jg below A).length G (j+1):=by have syn:(jg below A).length<=A.length:=List.length_filter_le _ _;have b:=h.len;exact⟨h.rok.filter _,λr a=>h.files r (q2s.1 a).1,yb _,h.XQ,by have:=h.hN;omega,ez,by have:=h.next;omega,by have:=h.XJ;omega,h.hm,h.range⟩
theorem abu{rows:DR}(h0:0<=v)(h:∀r∈rows,r.1<=v):jI rows<=v+1:=by cases hn:(bG rows).length with
  | zero=>grind [yq]
  | succ n=>let⟨f,c,d,a⟩:=vI hn.symm;obtain⟨r,b,rfl⟩:=Ax.1 (lw.1 a);grind
theorem VU(e:gB A):∀r∈A,r.1<=jI A:=by
 intro r d;have j:r.1∈bG A:=lw.2 (Ax.2 ⟨r,d,rfl⟩);let⟨i,hi,m⟩:=XV j;obtain⟨n,c⟩:∃n,n+1=(bG A).length:=⟨(bG A).length-1,ez⟩;let⟨f,b,k,s⟩:=vI c;have a:n<(bG A).length:=ez;rw[List.getElem?_eq_getElem a]at b;have b:=Option.some.inj b;rw[k,<-m,<-b];rcases HZ i n with h|h;.have:=q3e.1 (qx A) i n hi a h;omega
 have:i=n:=ez;subst this;omega
theorem TI.Z_{rows:DR}(h:TI v rows c G j)(d:j<=3200)(eS:Int) : TI v (eU rows c eS) (eU rows c eS).length ⟨v,jI (eU rows c eS),(du (eU rows c eS)).length,(du (eU rows c eS)).length⟩ (j+1)/\gh v (eU rows c eS)=0:=by have k:=U1 rows c eS;have e:=h.len;have i:=h.hN;have a:gB (eU rows c eS):=h.rok.take _;have hs:=abu (rows:=eU rows c eS) h.XQ λr b=>h.files r (K2 b);have syn:=Cf a;have b:=L0 a;refine⟨⟨a,VU a,yb _,b.1,by grind,ez,by grind,by grind,rfl,h.range⟩,?_⟩;have f:=h.range;unfold gh;grind
theorem ti0(h:gh v []=0):TI v [] 0 (LD v []) 0:=by
 let⟨_,c,b⟩:=yJ;have a:64<=v/\v<=1048576:=by grind [gh]
 unfold LD;rw[c,b];exact⟨λr a=>(by cases a),λr a=>(by cases a),yb _,GG _,GG _,yb _,yb _,yb _,rfl,a⟩
abbrev LG:=List (Int×Rc)
def fQ(L:LG):DR:=L.flatMap λx=>(bR x.2).map λb=>(x.1,b)
theorem M6(A B:LG):fQ (A++B)=fQ A++fQ B:=List.flatMap_append
theorem VV(x:Int×Rc):fQ [x]=(bR x.2).map λb=>(x.1,b):=by simp[fQ]
theorem sf(x:Int×Rc)(L:LG):fQ (x::L)=((bR x.2).map λb=>(x.1,b))++fQ L:=rfl
theorem M7(f:Int):∀L:LG,bytesOf f (fQ L)=((L.filter λx=>decide (x.1=f)).map Prod.snd).flatMap bR
 | []=>rfl
 | x::L=>by
  rw[sf,rP,M7 f L,q1x]
  by_cases e:x.1=f
  .rw [e,B9,c_ (V_ rfl)];rfl
  .rw [BA (λh=>e h.symm),b_ (by grind),Hi]
structure LG.ok(L:LG):Prop where
 recs:∀x∈L,x.2.ok
 up:L.Pairwise λx y=>x.1<=y.1
theorem M8{f:Int}:∀{L:LG},(L.Pairwise λx y=>x.1<=y.1)->(∀x∈L,f<=x.1)->L=L.filter (λx=>decide (x.1=f))++L.filter λx=>decide (x.1≠f)
 | [],_,_=>rfl
 | x::L,h,hf=>by
  rw[YW]at h
  by_cases e:x.1=f
  .have c:=M8 h.2 λy a=>hf y (DG _ a)
   grind
  .have b:f<x.1:=by grind
   have d:∀y∈x::L,¬y.1=f:=λy a=>by
    grind
   grind [List.filter_eq_nil_iff,List.filter_eq_self]
theorem M9:∀{fs:List Int} {L:LG},fs.Pairwise (·< ·)->(L.Pairwise λx y=>x.1<=y.1)->(∀x∈L,x.1∈fs)->fs.flatMap (λf=>L.filter λx=>decide (x.1=f))=L
 | [],[],_,_,_=>rfl
 | [],x::L,_,_,h=>by grind
 | f::fs,L,hr,hs,h=>by
  rw[YW]at hr;have d:∀x∈L,f<=x.1:=λx b=>by
   grind
  have j:=M8 hs d;have c:=M9 (fs:=fs) (L:=L.filter λx=>decide (x.1≠f)) hr.2 (hs.filter _) λx b=>by
   grind
  have e:fs.flatMap (λf'=>L.filter λx=>decide (x.1=f'))=fs.flatMap λf'=>(L.filter λx=>decide (x.1≠f)).filter λx=>decide (x.1=f'):=by
   have:∀l:List Int,(∀y∈l,f<y)->l.flatMap (λf'=>L.filter λx=>decide (x.1=f'))=l.flatMap λf'=>(L.filter λx=>decide (x.1≠f)).filter λx=>decide (x.1=f'):=by
    intro l
    induction l with
    | nil=>grind
    | cons y l c=>
     intro a;rw[PV,PV,c λz i=>a z (DG _ i)]
     congr 1;rw[List.filter_filter];refine List.filter_congr λx b=>?_
     have:=a y D_
     by_cases ex:x.1=y
     .grind
     grind
   exact this fs λy a=>hr.1 y a
  grind
theorem VW{L:LG}(c:∀x∈L,x.2.ok){x:Int×Rc}(a:x∈L):x.1∈(fQ L).map Prod.fst:=by
 have d:=rS (c x a);obtain⟨b,hb⟩:∃b,b∈bR x.2:=by
  cases h:bR x.2 with
  | nil=>grind
  | cons b r=>simp_all
 exact Ax.2 ⟨(x.1,b),q1z.2 ⟨x,a,Ax.2 ⟨b,hb,rfl⟩⟩,rfl⟩
theorem MB{L:LG}(c:L.ok){g:Int}{t:List Int}(i:aI t)(h:j5 t=none):du (fQ L++t.map λb=>(g,b))=L.map Prod.snd:=by
 have hb:∀f,(eV (bytesOf f (fQ L++t.map λb=>(g,b)))).1=(L.filter λx=>decide (x.1=f)).map Prod.snd:=by
  intro f;rw[rP,M7];have e:∀r∈(L.filter λx=>decide (x.1=f)).map Prod.snd,r.ok:=λr d=>by obtain⟨x,a,rfl⟩:=Ax.1 d;exact c.recs x (q2s.1 a).1
  grind [B9,Cb,BA,UD]
 unfold du;have e1:(λf=>(eV (bytesOf f (fQ L++t.map λb=>(g,b)))).1)=λf=>(L.filter λx=>decide (x.1=f)).map Prod.snd:=funext hb;rw[e1];have e2:=M9 (qx (fQ L++t.map λb=>(g,b))) c.up λx a=>by rw[lw,F6];exact q2z _ (VW c.recs a)
 have e3:=congrArg (List.map Prod.snd) e2;grind [List.map_flatMap]
theorem MC:∀(L:LG) (n:Nat),∃p g t,(fQ L).take n=fQ (L.take p)++(t.map λb=>(g,b))/\p<=L.length/\
  (t=[]\/∃r:Rc,(∃x∈L,r=x.2)/\∃k,k<(bR r).length/\t=(bR r).take k)/\∀m,m<=L.length->(fQ (L.take m)).length<=n->(∀x∈L,0<(bR x.2).length)->m<=p
 | [],n=>⟨0,0,[],by simp[fQ],EG _,.inl rfl,λm hm _ _=>hm⟩
 | x::L,n=>by
  rcases HZ n (bR x.2).length with h|h
  .refine⟨0,x.1,(bR x.2).take n,?_,EG _,.inr ⟨x.2,⟨x,D_,rfl⟩,n,h,rfl⟩,λm hm a c=>?_⟩
   .rw [sf,q3h (by grind),List.map_take];rfl
   .cases m with
    | zero=>grind
    | succ m=>
     grind [sf]
  .let⟨p,g,t,d,e,f,i⟩:=MC L (n-(bR x.2).length);refine⟨p+1,g,t,?_,by grind,?_,λm hm a c=>?_⟩
   .grind [sf,List.take_append,List.take_of_length_le]
   .grind
   .cases m with
    | zero=>omega
    | succ m=>
     grind [sf]
theorem MD(below:Int)(L:LG):jg below (fQ L)=fQ (L.filter λx=>decide (below<=x.1)):=by
 unfold jg;induction L with
  | nil=>rfl
  | cons x L ih=>
  rw[sf,List.filter_append,ih,q1x];by_cases e:below<=x.1;.rw [c_ (V_ e),sf,q31.2];grind
  rw [b_ (by grind),q2r.2,Hi];grind
theorem aQ.akg{cs:Xa}{k sz:Nat}(h:aQ H a cs)(s:cs.length<=c*sz):aQ H (y_ a k c sz) (cs.drop (k*sz)):=by
 intro j v m;have b:aT cs (k*sz+j)=Option.some v:=by grind [iE]
 have f:=qf b;let⟨i,n⟩:=h _ _ b;have d:c≠k:=λe=>by grind
 have e:y_ a k c sz=Option.some ⟨aV a,aS a+k*sz,none⟩:=by unfold y_;rw[b_ d,i,I_,iF];rfl
 rw[e];refine⟨rfl,?_⟩;grind [aV,aS]
theorem abT(h:64<=v/\v<=1048576)(hs:jI A<=2147483647):gh v A=0:=by unfold gh;grind
theorem VX(ok:gB A)(h:J.map Ry.rc=du A):J.length<=A.length/\∀r∈J,r.y.bs.length<=1099511627776:=by
 refine⟨?_,λr a=>?_⟩;.grind [Cf]
 have hm:r.rc∈du A:=by grind
 let⟨f,b,hm⟩:=q1z.1 hm;have:=((Cc (yb _) (ok.bytes f)).1 _ hm).len;grind [Ry.rc]
theorem acN:∀x∈A,x.1<jI A:=by intro r b;have c:r.1∈bG A:=lw.2 (Ax.2 ⟨r,b,rfl⟩);let⟨i,hi,j⟩:=XV c;obtain⟨n,a⟩:∃n,n+1=(bG A).length:=⟨(bG A).length-1,ez⟩;let⟨f,d,e,h⟩:=vI a;grind [List.pairwise_iff_getElem,qx]
def dK:List Rc->Option (List Int)×List Rc
 | []=>(none,[])
 | r::l=>if (dK l).1=none then (if r.kind=0 then (some r.data,l) else (none,r::l)) else dK l
theorem CE:∀{l:List Rc},(∀r∈l,r.kind≠0)->dK l=(none,l)
 | [],_=>rfl
 | r::l,h=>by have a:=CE λx b=>h x (DG _ b);rw[dK,a,c_ rfl,b_ (h r D_)]
theorem ME{r:Rc}{l:List Rc}(b:r.kind=0)(h:∀x∈l,x.kind≠0):∀a:List Rc,dK (a++r::l)=(some r.data,l)
 | []=>by rw[Hi,dK,CE h,c_ rfl,c_ b]
 | x::a=>by have c:=ME b h a;rw[q2m,dK,c,b_ eh]
def zy(bb rb:Nat)(saved:Bool)(num hN:Int):aF:=ax bb [.pointer (some ⟨rb,0,none⟩),.bool saved,.int .i64 num,.int .i64 hN] 274
structure pP(rs:List Ry)(fy:Fy)(has:Bool)(qs:List Ry):Prop where
 sub:∀q∈qs,q∈rs
 st:fy=Fy.z\/∃r∈rs,fy=r.y
 tell:dK (rs.map Ry.rc)=(if has then some fy.bs else none,qs.map Ry.rc)
 no:has=false->fy=Fy.z
theorem pP.none(h:∀r∈J,r.kind≠0):pP J Fy.z false J:=by
 refine⟨λq c=>c,.inl rfl,?_,λ_=>rfl⟩;rw[CE];.rfl
 intro r a;obtain⟨x,b,rfl⟩:=Ax.1 a;exact h x b
theorem pP.at{r:Ry}(hi:J[c]?=some r)(h0:r.kind=0)(h:∀x∈J.drop (c+1),x.kind≠0):pP J r.y true (J.drop (c+1)):=by
 let⟨i,j⟩:=List.getElem?_eq_some_iff.1 hi;refine⟨λq f=>q22 f,.inr ⟨r,LA hi,rfl⟩,?_,λb=>by cases b⟩;have e:J=J.take c++r::J.drop (c+1):=by grind [List.drop_eq_getElem_cons,List.take_append_drop]
 conv=>lhs;rw[e]
 rw[F6,HC,ME (r:=r.rc) h0];.rfl
 intro x a;obtain⟨y,d,rfl⟩:=Ax.1 a;exact h y d
theorem VY{rows:DR}{s:RL}(f:∀x∈rows,x.1<s.hN)(a:P.ok) : jf rows s P=0/\dD rows s P={ s with next:=s.next+1 }/\gS rows s P=(rows++(bR P).map λb=>(s.hN,b))/\YG rows s P=s.next:=by
 have e:bytesOf s.hN rows=[]:=by grind [bytesOf,List.filter_eq_nil_iff]
 have c:qA rows s (bR P).length=false:=by grind [qA]
 have d:jf rows s P=0:=by unfold jf;rw[UJ a,b_ ee,c];rfl
 have hs:dD rows s P={ s with next:=s.next+1 }:=by unfold dD;grind
 refine⟨d,hs,?_,?_⟩;.unfold gS;grind
 unfold YG;grind
section
variable {F L:List aF}{H:aC}{K:KE}{rb db bb:Nat}{rows:DR}{syn:Nat}{s:RL}{most:Int}
theorem VZ{a:KQ}{n c:Nat}(h:aA H F)(k:∀c0 d,aA d (ax c0 [.slice a n c] 344::F)->K (.func (.func 317) #[] #[.pointer (some ⟨c0,0,none⟩)]) d):CF 247 #[.slice a n c] H K:=by refine cM 247 28 (h.al λb _ h=>k b _ h)
theorem Wa{l c0:Nat}{pa:KQ}{pc:Nat}{rs:List Ry}(C:rs.length<=1099511627776)(A:Nat->aF)(m:aF) (h:aA H (A rs.length::ax c0 [.slice pa rs.length pc] 344::ay 457 2 pa rs.length pc (flat gA rs)::F)) (v:∀j (c:j<rs.length) (G:List aF) (d:aC) (e:KE),aA d (A (j+1)::G)->(∀b,aA b (A j::G)->e (.bool true) b)->(∀b,aA b (m::G)->e (.bool false) b)->fu Tryz.prog l [.int .i64 j,.agg #[.int .i64 rs[j].kind,cD rs[j].y]] d e) (k:∀a,aA a (A 0::ax c0 [.slice pa rs.length pc] 344::ay 457 2 pa rs.length pc (flat gA rs)::F)->K (.tuple #[]) a) (w:∀a,aA a (m::ax c0 [.slice pa rs.length pc] 344::ay 457 2 pa rs.length pc (flat gA rs)::F)->K (.tuple #[]) a) : CF 317 #[.func (.yield l) #[] #[],.pointer (some ⟨c0,0,none⟩)] H K:=by
 refine cN 317 96300973186693524 [[(3,sI)]] ?_;have u:i64.wrap ((rs.length:Int)-1)=(rs.length:Int)-1:=aN;refine⟨_,_,_,h.r 1,λi a=>∃j:Nat,i=(j:Int)-1/\j<=rs.length/\aA a (A j::ax c0 [.slice pa rs.length pc] 344::ay 457 2 pa rs.length pc (flat gA rs)::F),λi _=>(i+1).toNat,⟨rs.length,u,yb _,h⟩,?_⟩;rintro i d ⟨j,rfl,c,h⟩;refine⟨λB=>?_,λB=>?_⟩
 .obtain⟨q,rfl⟩:∃q,j=q+1:=⟨j-1,by grind⟩;have eq:((q+1:Nat):Int)-1=(q:Int):=ez;rw[eq];have n:=h.a_ 2 rfl;refine⟨_,_,_,h.rd 1 rfl _,⟨ez,ez⟩,_,_,n.some qz ez c,_,_,_,_,n.E6 qz c,v q c _ d _ h (λt s=>⟨true,rfl,λf=>(by cases f),λ_=>?_⟩) λt s=>⟨false,rfl,λ_=>w _ s,λf=>(by cases f)⟩⟩;conv=>whnf
  rw[aN (x:=(q:Int)-1)];grind
 obtain rfl:j=0:=by grind
 exact k _ h
theorem MF{a:KQ}{c:Nat}{d:List Ry}(h:aA H L)(j:∀H,aA H L->aQ H a (flat gA d))(w:d.length<=1099511627776) (k:∀i e f,aA f (ay 457 2 i d.length e (flat gA d)::L)->K (.slice i d.length e) f):CF 248 #[.slice a d.length c] H K:=by
 refine cM 248 476 ⟨λv=>?_,λv=>?_⟩
 .have:a=none:=by simp_all
  subst this;have x:=oJ (j H h);have:d=[]:=by cases d with
    | nil=>rfl
    | cons q r=>grind [mC]
  subst this;exact k none 0 H (h.cp 457 2)
 refine h.al λb y h=>?_;have u:=j _ h.tl;have s:=aA.E3 (cs:=[]) h 2 0 rfl;refine aA.append (m:=d.length) abn s 0 rfl u (dS qz _) (kz L3 _) ez ez λi e f t=>⟨_,_,_,rfl,?_⟩;have n:aA f (ay 457 2 i (0+d.length) e ([]++flat gA d)::L):=t;rw[CO,Hi]at n;have:=k i e f n;rw[<-CO d.length]at this;exact this
def boA(b1 b2 b3 l:Nat)(R:Loop)(a:KQ)(c:Nat)(rs:List Ry)(j:Nat):aF:=
 star [DA (∀r∈rs.drop j,r.kind≠0),ax b1 [.slice a rs.length c] 344,ax b2 [.slice none 0 0,.bool false,.slice none 0 0] 346,ax b3 [.slice a rs.length c] 344,pt l (.loop R)]
def boX(b1 b2 b3 l:Nat)(R:Loop)(a:KQ)(c:Nat)(rs:List Ry):aF:=
 F7 λp:Nat×Ry=>star [DA (rs[p.1]?=some p.2/\p.2.kind=0/\∀r∈rs.drop (p.1+1),r.kind≠0),ax b1 [.slice a rs.length c] 344,ax b2 [cD p.2.y,.bool true,.slice none 0 0] 346,
  ax b3 [.slice (y_ a (p.1+1) c 2) (rs.length-(p.1+1)) (c-(p.1+1))] 344,pt l (.loop { R with state:=.done,pending:=some (.exit 0) })]
theorem Wb{b1 b2 b3 j c:Nat}{a:KQ}{rs:List Ry}{d i:aC}{R:Loop}{G:List aF}{f:KE}(u:rs.length<=1099511627776)(w:rs.length<=c)(k:j<rs.length) (h:aA i (boA b1 b2 b3 (d.size+1) R a c rs (j+1)::G)) (m:∀e,aA e (boA b1 b2 b3 (d.size+1) R a c rs j::G)->f (.bool true) e) (t:∀e,aA e (boX b1 b2 b3 (d.size+1) R a c rs::G)->f (.bool false) e) : Jp.y1 b1 b2 b3 d R [.int .i64 j,.agg #[.int .i64 rs[j].kind,cD rs[j].y]] i f:=by
 let⟨s,h⟩:=aA.B3 h.open;have h:aA i (ax b1 [.slice a rs.length c] 344::ax b2 [.slice none 0 0,.bool false,.slice none 0 0] 346::ax b3 [.slice a rs.length c] 344::pt (d.size+1) (.loop R)::G):=h;have C:rs.drop j=rs[j]::rs.drop (j+1):=RU k;unfold Jp.y1;refine⟨_,_,_,_,_,rfl,h.eY 3 rfl,h.al λb4 _ h=>h.st 0 rfl rfl λ_ h=>⟨h.eY 4 rfl,h.Fu 4 rfl λA h=>⟨_,h.r 0,λb=>?_,λb=>?_⟩⟩⟩;.have h0:rs[j].kind=0:=j_ b;refine⟨_,_,_,h.r 0,h.st 2 rfl rfl λ_ h=>h.st 2 rfl rfl λ_ h=>⟨_,_,_,h.r 1,?_⟩⟩;rw[aN (x:=(j:Int)+1)];have n:((j:Int)+1).toNat=j+1:=ez;rw[n];refine⟨⟨ez,ez,ez⟩,h.st 3 rfl rfl λB h=>⟨h.eY 4 rfl,t _ ?_⟩⟩;have h:=h.n_ 4 rfl (.loop { R with state:=.done,pending:=some (.exit 0) });exact cw.2 ⟨(j,rs[j]),aA.shut [_,_,_,_,_] (aA.DA (h.o [1,2,3,4] 5) ⟨List.getElem?_eq_getElem k,h0,s⟩)⟩
 have h0:rs[j].kind≠0:=h_ b;refine⟨h.eY 4 rfl,m _ ?_⟩;have h:=h.n_ 4 rfl (.loop R);refine aA.shut [_,_,_,_,_] (aA.DA (h.o [1,2,3,4] 5) λr v=>?_);grind
theorem Wc(ok:gB rows)(U:rows.length<=1099511627776)(h:aA H (eG db rows syn::F)) (k1:gh most rows=0->∀(rs u:List Ry) (N:Fy) (m:Bool) a c bb rb n,rs.map Ry.rc=du rows->pP rs N m u->aA n (zy bb rb false 0 0::km rb db (LD most rows)::ay 457 2 a u.length c (flat gA u)::qc rs::eG db rows syn::F)->K (.tuple #[.pointer (some ⟨bb,0,none⟩),.agg #[cD N,.bool m,.slice a u.length c],.int .i64 0]) n) (k2:gh most rows≠0->∀n,aA n (eG db rows syn::F)->K (.tuple #[.pointer none,.agg #[.slice none 0 0,.bool false,.slice none 0 0],.int .i64 (gh most rows)]) n) : CF 169 #[.pointer (some ⟨db,0,none⟩),.int .i64 most] H K:=by
 refine cL 169 (.r (.r (.seq (.r (.cond (.r .no) .no)) (.r (.r (.seq (.r (.DT (.FH [sI,.agg [.int .i64,.slice]] [none,(some (.exit 0))] (.r .CA) (.DT (.r (.cond (.r (.r .no)) .no)))))) (.r (.r .no)))))))) (h.al λb H1 h=>UW (F:=ax b [.slice none 0 0,.bool false,.slice none 0 0] 346::F) ok U (h.o [1,0] 2) (λf rs a1 c1 rb W e h=>⟨_,_,_,_,_,rfl,?_⟩) λf W h=>⟨_,_,_,_,_,rfl,?_⟩)
 .let⟨O,M⟩:=VX ok e;have I:=h.CD 1 rfl;refine h.al λb1 Z h=>h.st 0 rfl rfl λT h=>⟨(λD=>by cases D),λ_=>h.al λb2 H5 h=>⟨_,_,_,h.r 1,h.al λb3 H6 h=>h.st 0 rfl rfl λH7 h=>⟨_,_,_,h.r 2,VZ h λc0 d h=>⟨_,_,rfl,rfl,λR E A V=>?_⟩⟩⟩⟩;have h:=h.FH R;have h0:aA ((d.push (.deferred (some []))).push (.loop R)) (boA b1 b2 b3 (d.size+1) R a1 c1 rs rs.length::ax c0 [.slice a1 rs.length c1] 344::ay 457 2 a1 rs.length c1 (flat gA rs)::pt d.size (.deferred (some []))::km rb db (LD most rows)::qc rs::eG db rows syn::ax b [.slice none 0 0,.bool false,.slice none 0 0] 346::F):=by
   refine aA.shut [_,_,_,_,_] (aA.DA ?_ ?_);.exact h.o [5,4,3,0,2,7,1,6,8,9,10] 11
   grind
  refine Wa ez (λj=>boA b1 b2 b3 (d.size+1) R a1 c1 rs j) (boX b1 b2 b3 (d.size+1) R a1 c1 rs) h0 (λj hj G H1 K1 S Q Y=>V _ _ _ (Wb ez I hj S Q Y)) (λv h=>?_) λv h=>?_;.let⟨t,h⟩:=aA.B3 h.open;have h:aA v (ax b1 [.slice a1 rs.length c1] 344::ax b2 [.slice none 0 0,.bool false,.slice none 0 0] 346::ax b3 [.slice a1 rs.length c1] 344::pt (d.size+1) (.loop R)::ax c0 [.slice a1 rs.length c1] 344::ay 457 2 a1 rs.length c1 (flat gA rs)::pt d.size (.deferred (some []))::km rb db (LD most rows)::qc rs::eG db rows syn::ax b [.slice none 0 0,.bool false,.slice none 0 0] 346::F):=h;rw[q2w]at t;refine⟨.ready,none,ee,by rw[lp E A];exact h.eY 3 rfl,h.Fu 3 rfl λB h=>Or.inl ⟨rfl,_,_,_,h.r 2,MF h (λH h=>h.a_ 5 rfl) ez λa5 c5 C h=>⟨_,_,_,rfl,h.st 2 rfl rfl λw h=>⟨_,_,_,_,_,_,_,h.q 2,h.al λb5 L h=>⟨h.q 3,h.st 12 rfl rfl λx h=>⟨h.eY 8 rfl,?_⟩⟩⟩⟩⟩⟩;have h:=h.n_ 8 rfl (.deferred none);refine⟨_,_,_,_,_,_,_,h.q 12,k1 f rs rs Fy.z false a5 c5 b5 rb _ e (pP.none t) (h.o [0,9,1,10,11] 13)⟩
  let⟨p,h⟩:=cw.1 h;let⟨t,h⟩:=aA.B3 h.open;let⟨i,r⟩:=p;let⟨hi,s,P⟩:=t;dsimp only at hi s P;have h:aA v (ax b1 [.slice a1 rs.length c1] 344::ax b2 [cD r.y,.bool true,.slice none 0 0] 346::ax b3 [.slice (y_ a1 (i+1) c1 2) (rs.length-(i+1)) (c1-(i+1))] 344::pt (d.size+1) (.loop { R with state:=.done,pending:=some (.exit 0) })::ax c0 [.slice a1 rs.length c1] 344::ay 457 2 a1 rs.length c1 (flat gA rs)::pt d.size (.deferred (some []))::km rb db (LD most rows)::qc rs::eG db rows syn::ax b [.slice none 0 0,.bool false,.slice none 0 0] 346::F):=h;refine⟨.done,some (.exit 0),ee,h.eY 3 rfl,h.Fu 3 rfl λB h=>Or.inr ⟨rfl,_,_,_,h.r 2,?_⟩⟩;have J:rs.length-(i+1)=(rs.drop (i+1)).length:=by grind
  rw[J];refine MF h (λH h=>by have:=aQ.akg (k:=i+1) (c:=c1) (sz:=2) (h.a_ 5 rfl) (by rw[dS qz];grind);rwa[tj qz]at this) (by grind) λa5 c5 C h=>⟨_,_,_,rfl,h.st 2 rfl rfl λw h=>⟨_,_,_,_,_,_,_,h.q 2,h.al λb5 L h=>⟨h.q 3,h.st 12 rfl rfl λx h=>⟨h.eY 8 rfl,?_⟩⟩⟩⟩;have h:=h.n_ 8 rfl (.deferred none);refine⟨_,_,_,_,_,_,_,h.q 12,k1 f rs (rs.drop (i+1)) r.y true a5 c5 b5 rb _ e (pP.at hi s P) (h.o [0,9,1,10,11] 13)⟩
 refine h.al λb1 Z h=>h.st 0 rfl rfl λT h=>⟨λ_=>?_,λD=>by simp[f]at D⟩;refine h.st 2 rfl rfl λH5 h=>⟨_,_,_,_,_,_,_,h.q 2,k2 f _ (h.o [1] 3)⟩
theorem Wd{a:KQ}{n c:Nat}{kind:Int}{saved:Bool}{num hN:Int}(h:aA H (zy bb rb saved num hN::F)) (k1:kind<=0->K (.tuple #[.int .i64 (-1),.int .i64 11]) H) (k2:¬kind<=0->CF 211 #[.pointer (some ⟨rb,0,none⟩),.int .i64 kind,.slice a n c] H λu d=>∃r r1:Int,u=.tuple #[.int .i64 r,.int .i64 r1]/\K (.tuple #[.int .i64 r,.int .i64 r1]) d) : CF 214 #[.pointer (some ⟨bb,0,none⟩),.int .i64 kind,.slice a n c] H K:=by refine cM 214 476 ⟨λb=>k1 (j_ b),λb=>⟨_,h.r 0,k2 (h_ b)⟩⟩
theorem We{a:KQ}{c:Nat}{parts:List Fy}{saved:Bool}{num hN:Int}(hs:s.ok)(L:s.hN<2147483647)(t:∀r∈rows,r.1<=s.hN)(Q:rows.length<=549755813888) (h:aA H (zy bb rb saved num hN::km rb db s::eG db rows syn::F)) (N:∀H,aA H F->aQ H a (parts.map cD)) (T:∀H,aA H F->∀y∈parts,aQ H y.a (y.bs.map U8)) (hb:aI (parts.flatMap Fy.bs)) (S:parts.length<=1099511627776) (J:(parts.flatMap Fy.bs).length<=262144) (k:∀A,aA A (zy bb rb true s.next (s.hN+1)::km rb db { s with hN:=s.hN+1,next:=s.next+1 }::eG db (rows++(bR ⟨0,parts.flatMap Fy.bs⟩).map λb=>(s.hN+1,b)) syn::F)->K (.tuple #[.int .i64 s.next,.int .i64 0]) A) : CF 126 #[.pointer (some ⟨bb,0,none⟩),.slice a parts.length c] H K:=by
 refine cN 126 0x112156123992511b421b1d1c [[(6,sI),(15,sI)]] ?_;have G:=hs.hN;have E:=hs.next;have f:∀j,((parts.take j).flatMap Fy.bs).length<=(parts.flatMap Fy.bs).length:=λj=>Lz _ _ _;refine⟨λsize i A=>∃j:Nat,i=j/\j<=parts.length/\size=(((parts.take j).flatMap Fy.bs).length:Nat)/\A=H,λ_ i _=>parts.length-i.toNat,⟨0,rfl,EG _,rfl,rfl⟩,?_⟩;rintro size i A ⟨j,rfl,hj,rfl,rfl⟩;refine⟨λO=>?_,λO=>?_⟩
 .have v:j<parts.length:=by grind
  have I:=(N _ h.tl.tl.tl).at v;have D:=BQ v;have C:=f (j+1);rw[D,po]at C;have P:i64.wrap ((((parts.take j).flatMap Fy.bs).length:Int)+(parts[j].bs.length:Int))=(((parts.take (j+1)).flatMap Fy.bs).length:Nat):=by grind [aN]
  refine⟨⟨ez,ez⟩,_,_,I.1,_,_,_,I.2,?_⟩;dsimp only;conv=>whnf
  rw[P];refine⟨λR=>?_,λ_=>?_⟩;.have:=j_ R;have:=f (j+1);omega
  conv=>whnf
  rw[aN (x:=(j:Int)+1)];grind
 refine⟨_,h.r 0,Lv (F:=zy bb rb saved num hN::eG db rows syn::F) G (h.o [1,0,2] 3) (λt=>cS t ez) λ_ U h=>⟨_,_,rfl,(λt=>by cases t),λ_=>⟨_,h.r 1,?_⟩⟩⟩;have B:({ s with hN:=s.hN+1 }:RL).ok:=⟨by grind,hs.most,E,hs.syn⟩;have w:(⟨0,parts.flatMap Fy.bs⟩:Rc).ok:=⟨GG 0,by grind,J,hb⟩;have e:=VY (rows:=rows) (s:={ s with hN:=s.hN+1 }) (λx O=>by grind) w;have M:=Lx (F:=zy bb rb saved num hN::F) (a:=a) (c:=c) (kind:=0) (parts:=parts) (rb:=rb) (db:=db) (syn:=syn) (H:=U) (K:=λu1 d=>∃r2 r3:Int,u1=(.tuple #[(.int .i64 r2),(.int .i64 r3)])/\ (((!decide (r3=0)))=true->K (.tuple #[(.int .i64 (-1)),(.int .i64 r3)]) d)/\ (((!decide (r3=0)))=false->∃v2:KQ,aM d bb 0=some (.pointer v2)/\ ∃r4:Int,bX Tryz.prog 212 #[(.pointer v2)] d (.int .i64 r4)/\ eA d bb (0+1) [(.bool true)]/\ ∀m:aC,m=fw d bb (0+1) [(.bool true)]->eA m bb (0+2) [(.int .i64 r2)]/\ ∀n:aC,n=fw m bb (0+2) [(.int .i64 r2)]->eA n bb (0+3) [(.int .i64 r4)]/\ ∀u:aC,u=fw n bb (0+3) [(.int .i64 r4)]->K (.tuple #[(.int .i64 r2),(.int .i64 0)]) u)) B Q (h.o [0,2,1] 3) (λH h=>N H h.tl) (λH h=>T H h.tl) hb S J;rw[e.1,e.2.1,e.2.2.1,e.2.2.2]at M;refine M λW h=>⟨_,_,rfl,(λt=>by cases t),λ_=>⟨_,h.r 2,_,Lu h,h.st 2 rfl rfl λY h=>h.st 2 rfl rfl λV h=>h.st 2 rfl rfl λZ h=>k _ (h.o [2,0,1] 3)⟩⟩
theorem Wf{saved:Bool}{num hN:Int}(f:rows.length<=1099511627776)(hs:syn<=rows.length)(h:aA H (zy bb rb saved num hN::km rb db s::eG db rows syn::F)) (k0:saved=false->K (.int .i64 19) H) (k1:saved=true->(s.syn:Int)<=num->K (.int .i64 21) H) (k2:saved=true->¬(s.syn:Int)<=num->syn<rows.length->∀c,aA c (zy bb rb saved num hN::km rb db s::eG db rows syn::F)->K (.int .i64 21) c) (k3:saved=true->¬(s.syn:Int)<=num->¬syn<rows.length->∀c,aA c (zy bb rb saved num hN::km rb db s::eG db (jg hN rows) (jg hN rows).length::F)->K (.int .i64 0) c) : CF 125 #[.pointer (some ⟨bb,0,none⟩)] H K:=by
 refine cM 125 7644 ⟨_,h.r 0,λi=>k0 (by grind),λi=>?_⟩;have b:saved=true:=by grind
 refine⟨_,h.r 0,_,UM (h.o [1,0,2] 3),_,h.r 0,λa=>k1 b (j_ a),λa=>⟨_,h.r 0,_,h.r 0,?_⟩⟩;have e:=h_ a;refine UT (F:=zy bb rb saved num hN::F) f hs (h.o [1,2,0] 3) (λd j h=>⟨_,rfl,k2 b e d _ (h.o [2,0,1] 3)⟩) λd j h=>⟨_,rfl,k3 b e d _ (h.o [2,0,1] 3)⟩
end
structure Opt where
 cfg:bM
 period:Int
 CS:Int
 g_:Int
 save:Int
abbrev kY(o:Opt):Xa:=[aB o.cfg.width,aB o.cfg.r_,aB o.cfg.most,aB o.cfg.hY,aB o.cfg.kl,aB o.cfg.zx,aB o.cfg.agents,aB o.cfg.cells,aB o.cfg.hold,aB o.period,aB o.CS,aB o.g_,aB o.save]
structure GAd where
 bb:Nat
 rb:Nat
 sb:Nat
 pv:Value
 pa:KQ
 pc:Nat
abbrev lY(o:Opt)(x:GAd)(n:Nat)(recs:Int):Xa:=[aB o.cfg.width,aB o.cfg.r_,aB o.cfg.most,aB o.cfg.hY,aB o.cfg.kl,aB o.cfg.zx,aB o.cfg.agents,aB o.cfg.cells,aB o.cfg.hold,aB o.period,aB o.CS,aB o.g_,aB o.save,
 PA x.bb 0,PA x.sb 0,x.pv,.slice x.pa n x.pc,aB recs]
theorem ub(h:(bU s r).2.2=0):r.right=true:=by grind [bU]
theorem Wg(h:(bU s r).2.2≠0):(bU s r).1=s/\(bU s r).2.1=[]:=by
 unfold bU at h ⊢;split;.grind
 split;.grind
 split;.grind
 split;.rename_i a b c d;rw[b_ a,b_ b,b_ c,c_ d]at h;unfold iP at h ⊢;grind
 grind
theorem Rp.E_(r:Rp):r.bytes.length<=100000:=by
 unfold Rp.bytes;split;.rename_i b;have a:=Rp.DN b;have c:=dP [r.kind];have l1:=KM r (cA r.kind);have lo:=yi r.kind;have l2:=B6 r.evs;have l3:=dP [(r.evs.length:Int)];grind
 simp
theorem Rp.Ha(r:Rp):aI r.bytes:=by
 unfold Rp.bytes;split
 .refine dM (dM (dM (gR _) (jU λi _=>gR _)) ?_) (jU λe _=>vy e);split;.exact gR _
  exact jE
 exact jE
theorem CG{rows:DR}{s:RL}(hs:s.hN<2147483647)(a:r.right=true):jf rows s ⟨r.kind,r.bytes⟩=0:=by
 have b:1<=r.kind/\r.kind<=7:=by unfold Rp.right at a;grind
 have c:=Rp.E_ r;have h0:je r.kind r.bytes.length=0:=by unfold je;grind
 unfold jf;grind
theorem MG{db:Nat}{x:GAd}{o:Opt}{recs:Int}{ys:List Oy}{saved:Bool}{rows:DR}{syn:Nat}(ok:cY s)(D:s.sunk<=4611686018427387903)(h0:s.kept.length<=1000000)(k:pJ Q F r a L) (S:∀e∈(bU s r).2.1,e.kind=4->WC e.out.2/\e.out.1.hK.size<=1000000) (N:(bU s r).2.1.length<=1000000) (M:G.ok) (u:rows.length<=549755813888) (A:G.hN<2147483647) (R:0<=recs/\recs<=1000000000) (Z:ys.length<=1000000000) (J:∀y∈ys,fP Q y) (h:aA H (Q::ax j (lY o x ys.length recs) 271::s_ Q x.sb s::ay 266 11 x.pa ys.length x.pc (flat bV ys)::zy x.bb x.rb saved v B::km x.rb db G::eG db rows syn::F)) (k1:(bU s r).2.2≠0->∀Q' hN,aH Q Q'->aA hN (Q'::ax j (lY o x ys.length recs) 271::s_ Q' x.sb s::ay 266 11 x.pa ys.length x.pc (flat bV ys)::zy x.bb x.rb saved v B::km x.rb db G::eG db rows syn::F)->K (aD (bU s r).2.2) hN) (k2:(bU s r).2.2=0->∀Q' C pa pc hN,aH Q Q'->C.map Oy.o=ys.map Oy.o++(bU s r).2.1.flatMap dp->(∀y∈C,fP Q' y)->aA hN (Q'::ax j (lY o { x with pa:=pa,pc:=pc } C.length (recs+1)) 271::s_ Q' x.sb (bU s r).1::ay 266 11 pa C.length pc (flat bV C)::zy x.bb x.rb saved v B::km x.rb db (dD rows G ⟨r.kind,r.bytes⟩)::eG db (gS rows G ⟨r.kind,r.bytes⟩) syn::F)->K (aD 0) hN) : CF 127 #[PA j 0,.agg ⟨dq r a c⟩] H K:=by
 refine cN 127 0x11217491d21b111c [[(5,sP)]] (h.al λb _ h=>⟨some ⟨x.sb,0,none⟩,h.r 2,some ⟨x.bb,0,none⟩,h.r 2,some ⟨x.rb,0,none⟩,h.r 5,⟨_,Lu (h.o [6,0,1,2,3,4,5,7] 8),?_⟩⟩);intro Jn V;refine⟨λnum=>cS (j_ num) ez,λ_=>V _ _ ⟨_,_,_,_,_,_,_,_,_,_,_,_,_,_,h.q 0,?_⟩⟩;have h:=h.o [1,3,0,2,4,5,6,7] 8;have rl:pJ Q (ax b (dq r a c) 281::ax j (lY o x ys.length recs) 271::ay 266 11 x.pa ys.length x.pc (flat bV ys)::zy x.bb x.rb saved v B::km x.rb db G::eG db rows syn::F) r a L:=⟨k.eq,λH h=>k.rd H (h.o [] 6),k.labs,k.len,k.GK⟩;refine Mh ok D ez rl h λE ea ec H2 gb h=>⟨_,_,_,_,rfl,λnum=>?_,λnum=>?_⟩
 .have t:(bU s r).2.2≠0:=by grind
  have e1:=(Wg t).1;rw[e1]at h;exact k1 t E _ gb (h.o [0,4,2,5,6,7,8] 9)
 have t:(bU s r).2.2=0:=by grind
 have P:=ub t;have hA:=CG (rows:=rows) A P;have hk:1<=r.kind/\r.kind<=7:=by unfold Rp.right at P;grind
 obtain⟨d,hf⟩:∃d,(bU s r).2.1=d:=⟨_,rfl⟩;rw[hf]at h S N k2 ⊢;have T:=Rp.E_ r;refine⟨some ⟨x.bb,0,none⟩,h.r 4,_,h.r 3,_,_,_,_,_,_,_,_,_,_,_,_,_,_,h.q 3,Uc k.eq h ⟨λH h=>k.rd H (h.o [] 9),λe t H h=>((k.labs e t).sub gb).at h 0 rfl⟩ (by have:=k.len;omega) λda dc H3 h=>⟨_,_,_,rfl,h.r 4,h.r 5,h.al λb1 _ h=>⟨h.r 5,h.r 6,?_⟩⟩⟩;have h:=h.o [8,9,10,0,1,2,3,4,5,6,7] 11;refine Wd h (λW=>cS W ez) λ_=>?_;have h:=h.o [1,2,0,3,4,5,6,7,8,9,10] 11;have f:([(⟨da,dc,r.bytes⟩:Fy)]:List Fy).flatMap Fy.bs=r.bytes:=eh;refine Lx (parts:=[⟨da,dc,r.bytes⟩]) (kind:=r.kind) M u h (λH h=>h.ew 1 rfl) (λH h y n=>by rw[CU]at n;subst n;exact h.a_ 2 rfl) (by rw[f];exact Rp.Ha r) eh (by grind) λH4 h=>⟨_,_,rfl,_,_,rfl,λnum=>?_,λnum=>?_⟩;.rw [f,hA]at num;exact cS num eh
 rw[f]at h;refine h.st 9 rfl rfl ?_;intro H5 h;refine⟨_,h.r 9,h.st 9 rfl rfl ?_⟩;intro H6 h;refine⟨_,_,_,h.r 9,?_⟩;have hw:i64.wrap (recs+1)=recs+1:=aN;have h:aA H6 (_::_::_::_::_::E::ay 523 87 ea d.length ec (flat dV d)::_::_::ax j (lY o x ys.length (i64.wrap (recs+1))) 271::ay 266 11 x.pa ys.length x.pc (flat bV ys)::F):=h;rw[hw]at h;have h:=h.o [5,6,7,9,10,2,0,1] 11;refine Mx N S h (λH h=>h.a_ 0 rfl) λO i wa wc H7 w hm evs h=>⟨_,_,_,rfl,h.r 4,?_⟩;have Y:i.length<=1000000:=by
  have e1:i.length=(d.flatMap dp).length:=by grind
  have:∀l:List DF,(l.flatMap dp).length<=l.length:=by intro l;induction l with
    | nil=>simp
    | cons e l ih=>rw[PV,po,CV];grind [dp]
  grind
 refine h.append (m:=i.length) (ws:=flat bV i) TS 5 rfl (h.a_ 1 rfl) (dS yI _) (kz qF _) ez ez λpa pc H8 h=>⟨_,_,_,rfl,h.st 4 rfl rfl ?_⟩;intro U h;have e2:ys.length+i.length=(ys++i).length:=by grind
 have h:aA U (O::_::_::s_ E x.sb (bU s r).1::ax j (lY o { x with pa:=pa,pc:=pc } (ys.length+i.length) (recs+1)) 271::ay 266 11 pa (ys.length+i.length) pc (flat bV ys++flat bV i)::_):=h;rw[e2,<-iX]at h;have h:=h.o [0,4,3,5,6,7,8] 9;have I:=tZ w (h.o [2,0,1,3,4,5,6] 7);refine k2 t O (ys++i) pa pc _ (gb.trans w) (by grind) (λy n=>?_) (I.o [1,2,0,3,4,5,6] 7);rcases C_.1 n with n|n;.exact (J y n).sub (gb.trans w)
 exact evs y n
def gF(o:Opt):Bool:=fH o.cfg&&decide (1<=o.CS/\o.CS<=1024)&&decide (1<=o.period/\o.period<=1099511627776)&&decide (64<=o.g_/\o.g_<=1048576)&&decide (1<=o.save/\o.save<=1048576)
theorem MH{o:Opt}(h:aA H F)(k:∀a,aA a F->K (.bool (gF o)) a):CF 168 #[.agg ⟨kY o⟩] H K:=by
 refine cM 168 284 (h.al λb _ h=>⟨_,h.r 0,?_⟩);have key:∀(r1:Int) a,(r1=0↔1<=o.CS/\o.CS<=1024)->aA a F->K (.bool (((((((fH o.cfg&&(decide (r1=0)))&&(decide (1<=o.period)))&&(decide (o.period<=1099511627776)))&&(decide (64<=o.g_)))&&(decide (o.g_<=1048576)))&&(decide (1<=o.save)))&&(decide (o.save<=1048576)))) a:=by
  intro r1 a d h;have e:(((((((fH o.cfg&&(decide (r1=0)))&&(decide (1<=o.period)))&&(decide (o.period<=1099511627776)))&&(decide (64<=o.g_)))&&(decide (o.g_<=1048576)))&&(decide (1<=o.save)))&&(decide (o.save<=1048576)))=gF o:=by
   unfold gF;rw[q24];simp only[p_,za];rw[d];constructor;.intro⟨⟨⟨⟨⟨⟨⟨h1,h2⟩,h3⟩,h4⟩,h5⟩,h6⟩,h7⟩,h8⟩;exact⟨⟨⟨⟨h1,h2⟩,h3,h4⟩,h5,h6⟩,h7,h8⟩
   intro⟨⟨⟨⟨h1,h2⟩,h3,h4⟩,h5,h6⟩,h7,h8⟩;exact⟨⟨⟨⟨⟨⟨⟨h1,h2⟩,h3⟩,h4⟩,h5⟩,h6⟩,h7⟩,h8⟩
  rw[e];exact k _ h
 refine Mz h (λi=>⟨_,_,rfl,?_⟩) λj pb m h=>⟨_,_,rfl,?_⟩;.refine⟨_,_,_,_,_,_,_,_,_,h.q 0,Cw (c:=o.cfg) h λf h=>⟨_,rfl,_,λ_=>h.r 0,_,λ_=>h.r 0,_,λ_=>h.r 0,_,λ_=>h.r 0,_,λ_=>h.r 0,_,λ_=>h.r 0,key 11 _ ez h.tl⟩⟩
 refine⟨_,_,_,_,_,_,_,_,_,h.q 1,Cw (c:=o.cfg) h λf h=>⟨_,rfl,_,λ_=>h.r 1,_,λ_=>h.r 1,_,λ_=>h.r 1,_,λ_=>h.r 1,_,λ_=>h.r 1,_,λ_=>h.r 1,key 0 _ ez h.tl.tl⟩⟩
theorem bvI(x:Int):(BitVec.ofInt 64 x).toNat=(x%18446744073709551616).toNat:=by simp_all
theorem afF:BitVec.ofInt 64 (18446744073709551615:Int)=BitVec.allOnes 64:=ee
theorem adb:BitVec.ofInt 64 (-1:Int)=BitVec.allOnes 64:=ee
theorem Wh(h:0<=v/\v<18446744073709551616):aZ .xor .u64 v 0=v:=by unfold aZ;show u64.wrap ((BitVec.ofInt 64 v^^^BitVec.ofInt 64 0).toNat:Int)=v;grind [bvI,eF]
theorem Wi(h:0<=v/\v<18446744073709551616):aZ .xor .u64 v 18446744073709551615=18446744073709551615-v:=by unfold aZ;show u64.wrap ((BitVec.ofInt 64 v^^^BitVec.ofInt 64 18446744073709551615).toNat:Int)=_;rw[afF,BitVec.xor_allOnes,BitVec.toNat_not,bvI,eF];omega
theorem Wj(h:aG v):aZ .xor .i64 v 0=v:=by unfold aZ aG at *;show i64.wrap ((BitVec.ofInt 64 v^^^BitVec.ofInt 64 0).toNat:Int)=v;grind [bvI,kA]
theorem Wk(h:aG v):aZ .xor .i64 v (-1)=-v-1:=by unfold aZ aG at *;show i64.wrap ((BitVec.ofInt 64 v^^^BitVec.ofInt 64 (-1)).toNat:Int)=_;rw[adb,BitVec.xor_allOnes,BitVec.toNat_not,bvI,kA];omega
theorem adt(h:c<18446744073709551616):aZ .and .u64 (c:Int) 1=((c%2:Nat):Int):=by rw[show (1:Int)=((1:Nat):Int) from rfl,agG h ee,Nat.and_one_is_mod]
theorem aa4(h:aG v):rK v=if 0<=v then 2*v else -2*v-1:=by
 unfold rK;show aZ .xor .u64 (u64.wrap (u64.wrap v*2^1)) (u64.wrap (Int.fdiv v (2^63)))=_;unfold aG at h;have e2:((2:Int)^63)=9223372036854775808:=ee;have e1:((2:Int)^1)=2:=ee;rw[e1,e2];split
 .have a:Int.fdiv v 9223372036854775808=0:=by grind
  rw[a,show u64.wrap 0=0 from rfl,Wh (vp _),eF,eF];omega
 have a:Int.fdiv v 9223372036854775808=-1:=by grind
 rw[a,show u64.wrap (-1)=18446744073709551615 from rfl,Wi (vp _),eF,eF];omega
theorem Wl(h:c<18446744073709551616):tL c=if c%2=0 then ((c/2:Nat):Int) else -((c/2:Nat):Int)-1:=by
 unfold tL;show aZ .xor .i64 (i64.wrap (Int.fdiv c (2^1))) (i64.wrap (0-i64.wrap (aZ .and .u64 c 1)))=_;have e1:((2:Int)^1)=2:=ee;rw[e1,adt h,q3a _ ee];have b:i64.wrap ((c:Int)/2)=((c/2:Nat):Int):=by grind [kA]
 rw[b];split;.rename_i h0;rw[h0];show aZ .xor .i64 _ 0=_;grind [Wj,aG]
 rename_i h0;have a:c%2=1:=ez;rw[a];show aZ .xor .i64 _ (-1)=_;grind [Wk,aG]
theorem CI(h:aG v):tL (Hr v)=v:=by grind [Wl,Bg,aa4,aG]
theorem CJ(h:c<18446744073709551616)(r:List Int):Fv 0 0 (bS c++r)=.ok c (bS c).length:=by grind [xC]
theorem oe(h:c<18446744073709551616)(r:List Int):bQ ⟨0,bS c++r⟩=(c,⟨0,r⟩):=by unfold bQ;rw[b_ eh,CJ h];simp
theorem MI(h:aG v):i64.wrap ((GO v:Nat):Int)=v:=by unfold aG at h;have:=yj v;grind [eF,kA]
theorem aej(v:Int):aP [v]=bS (GO v):=by simp[aP]
theorem vU(v:Int)(l:List Int):aP (v::l)=aP [v]++aP l:=by simp[aP]
theorem CK(v:Int):dg [v]=bS (Hr v):=by simp[dg]
theorem MJ(h:0<=v)(a:v<18446744073709551616):((GO v:Nat):Int)=v:=by rw[<-yj,eF];omega
theorem uc(h:0<=v)(a:v<18446744073709551616)(r:List Int):eT ⟨0,aP [v]++r⟩=.ok (v,⟨0,r⟩):=by unfold eT;rw[aej,oe (rN v),MJ h a];rfl
theorem l9(h:aG v)(r:List Int):cQ ⟨0,aP [v]++r⟩=.ok (v,⟨0,r⟩):=by unfold cQ;rw[aej,oe (rN v),MI h];rfl
theorem vV(h:aG v)(r:List Int):gz ⟨0,dg [v]++r⟩=.ok (v,⟨0,r⟩):=by unfold gz dC;rw[CK,oe (vq v),CI h];rfl
theorem CN(h:(c:Int)<=m)(a:c<18446744073709551616)(r:List Int):cx m ⟨0,bS c++r⟩=((c:Int),⟨0,r⟩):=by unfold cx;rw[b_ eh,CJ a];grind
theorem ud(h:(c:Int)<=m)(a:c<9223372036854775808)(r:List Int):dZ m ⟨0,aP [(c:Int)]++r⟩=.ok ((c:Int),⟨0,r⟩):=by
 unfold dZ;have e:GO (c:Int)=c:=by grind [MJ]
 rw[aej,e,CN h ez];rfl
theorem vW(h:0<=v/\v<=m)(a:aG v)(r:List Int):Hg m ⟨0,aP [v]++r⟩=.ok (v,⟨0,r⟩):=by unfold Hg;rw[l9 a];grind
theorem Wm(s:Fb):(fj s).length=s.size:=by unfold fj;simp
theorem ue(h:(t.size:Int)<=m)(a:t.size<18446744073709551616)(r:List Int):bg m ⟨0,dh t++r⟩=(fj t,⟨0,r⟩):=by unfold bg dh;rw[b_ eh,FB,CJ a];dsimp only;have b:=Wm t;grind
theorem yK(s:Fb):bN (fj s)=s:=by
 unfold bN;apply ByteArray.ext;apply Array.toList_inj.1;rw[strOfNums_data];unfold fj;apply XS;.simp
 simp_all
abbrev bL(l:List UInt8):Fb:=⟨l.toArray⟩
theorem sg(l:List UInt8):bi (bL l)=l:=by grind
theorem si(s:Fb):bL (bi s)=s:=by grind
theorem uf{s:Fb}(h:bi s=bi t):s=t:=by rw[<-si s,<-si t,h]
theorem yL(s t:Fb):bi (s++t)=bi s++bi t:=by simp_all
theorem ug(s:Fb)(i j:Nat):bi (s.extract i j)=((bi s).drop i).take (j-i):=by unfold bi;simp_all
theorem ML{c:UInt8}{a b:List UInt8}(h:c∉a):df c (a++c::b)=a.length:=by unfold df;grind
theorem MM{c:UInt8}{a:List UInt8}(h:c∉a):df c a=-1:=by unfold df;grind
theorem MN{c:UInt8}{a b:List UInt8}(e:bi t=a++c::b)(h:c∉a):gu c t=(bL a,bL b,true):=by
 unfold gu;have hs:t.size=a.length+(b.length+1):=by grind [nJ]
 rw[e,ML h,pO];congr 1;.apply uf;rw[ug,e,sg];simp
 congr 1;apply uf;rw[ug,e,sg];have:((a.length:Int)).toNat+1=a.length+1:=ez;rw[this,<-List.drop_drop,List.drop_left,List.drop_one,List.tail_cons];grind [List.take_of_length_le]
theorem afw{c:UInt8}(h:c∉bi t):gu c t=(t,⟨#[]⟩,false):=by unfold gu;rw[MM h,b_ ee]
theorem aek{c:UInt8}{a:List UInt8}(e:bi t=a++[c]):nN c t=(bL a,true):=by
 unfold nN;have hs:t.size=a.length+1:=by grind [nJ]
 have b:t.extract (t.size-1) t.size=(⟨#[c]⟩:Fb):=by apply uf;rw[ug,e,hs];simp
 rw[b,c_ (by simp;omega)];congr 1;apply uf;rw[ug,e,sg,hs];simp
theorem acC(p q:List UInt8)(r:List (List UInt8)):Go.Lib.join (p::q::r) [44]=p++44::Go.Lib.join (q::r) [44]:=by grind [Go.Lib.join_cons,Go.Lib.joinTail]
theorem MO:∀{ps:List (List UInt8)} {n:Nat} {s:Fb},ps≠[]->(∀p∈ps,(44:UInt8)∉p)->ps.length<=n+1->bi s=Go.Lib.join ps [44]->jz n s=ps.map bL
 | [],_,_,h,_,_,_=>cS rfl h
 | [p],n,s,_,hp,_,e=>by
  have e:bi s=p:=by rw[e,Go.Lib.join_one]
  have a:(44:UInt8)∉bi s:=by grind
  have c:s=bL p:=by rw[<-e,si]
  cases n with
  | zero=>grind [jz]
  | succ n=>
   unfold jz;rw[MM a,c_ ee,c];rfl
 | p::q::r,0,s,_,_,hl,_=>by simp at hl
 | p::q::r,n+1,s,_,hp,hl,e=>by
  have e:bi s=p++44::Go.Lib.join (q::r) [44]:=by rw[e,acC]
  have a:=hp p (D_ ..);have hs:s.size=p.length+((Go.Lib.join (q::r) [44]).length+1):=by grind [nJ]
  unfold jz;rw[e,ML a,nO];have e1:s.extract 0 ((p.length:Int)).toNat=bL p:=by
   apply uf;rw[ug,e,sg];simp
  have e2:bi (s.extract (((p.length:Int)).toNat+1) s.size)=Go.Lib.join (q::r) [44]:=by
   rw[ug,e,Fw,<-List.drop_drop,List.drop_left,List.drop_one,List.tail_cons]
   grind [List.take_of_length_le]
  rw[e1,MO (n:=n) eh (λx b=>hp x (DG _ b)) (eu hl) e2]
  rfl
theorem CR{c:UInt8}(h:qr c=true):c≠44/\c≠61/\c≠123/\c≠125:=by unfold qr X6 at h;refine⟨?_,?_,?_,?_⟩ <;> (intro rfl;grind)
theorem aaZ{c:UInt8}(h:KB c=true):c≠44/\c≠61/\c≠123/\c≠125:=by unfold KB at h;grind
theorem CZ(h:kK t=true):∀c∈bi t,qr c=true:=by unfold kK at h;grind
theorem MQ{l:bO}(h:iL l=true):(∀c∈bi l.value,KB c=true)/\kK l.name=true:=by unfold iL at h;grind
theorem yM(l:bO):bi (fF l)=bi l.name++61::bi l.value:=by grind [fF,yL]
theorem abO{l:bO}(h:iL l=true):(44:UInt8)∉bi (fF l):=by let⟨a,b⟩:=MQ h;rw[yM];simp only[C_,DO,not_or];exact⟨λhm=>(CR (CZ b _ hm)).1 rfl,ee,λhm=>(aaZ (a _ hm)).1 rfl⟩
theorem MT:∀{ps:List (List UInt8)},(∀p∈ps,1<=p.length)->ps.length<=(Go.Lib.join ps [44]).length
 | [],_=>eh
 | [p],h=>by grind [Go.Lib.join_one]
 | p::q::r,h=>by have b:=MT (ps:=q::r) λx a=>h x (DG _ a);rw[acC];simp only[CV,po]at *;omega
theorem Wn(c:∀l∈C,iL l=true)(f:C.length<=8):lv (C.map fF)=some C:=by
 have key:∀j,j<=C.length->lv ((C.take j).map fF)=some (C.take j):=by intro j;induction j with
   | zero=>intro _;rfl
   | succ j b=>intro e;have b:=b ez;have a:j<C.length:=ez;rw[q27,List.getElem?_eq_getElem a,Option.toList_some,F6];unfold lv at b ⊢;rw[List.foldl_append,b];show tP (some (C.take j)) (fF C[j])=_;have c:=c _ (qa a);have d:(61:UInt8)∉bi C[j].name:=λhm=>(CR (CZ (MQ c).2 _ hm)).2.1 rfl;unfold tP;rw[MN (yM C[j]) d];dsimp only;rw[YU,c_ (by simp;omega),si,si]
 have:=key C.length (yb _);grind
theorem Wo(h:dB t C=true):fp (gP t C)=(t,C,true):=by
 have e:=lQ h;have c:(123:UInt8)∉bi t:=λhm=>(CR (CZ e.named _ hm)).2.2.1 rfl;unfold gP;rw[c_ h];split;.rename_i h0;subst h0;unfold fp;rw[afw c];grind
 rename_i h0;have i:bi (kL C)=Go.Lib.join ((C.map fF).map bi) [44]:=sg _;have e1:bi (((t++(⟨#[123]⟩:Fb))++kL C)++(⟨#[125]⟩:Fb))=bi t++123::(bi (kL C)++[125]):=by simp_all
 have f:il (kL C)=C.map fF:=by
  have d:∀p∈(C.map fF).map bi,(44:UInt8)∉p/\1<=p.length:=by intro p a;obtain⟨b,hb,rfl⟩:=Ax.1 a;obtain⟨l,j,rfl⟩:=Ax.1 hb;exact⟨abO (e.val l j),by grind [yM]⟩
  have:=MT (ps:=(C.map fF).map bi) λp a=>(d p a).2;have:=MO (ps:=(C.map fF).map bi) (n:=(kL C).size) (s:=kL C) (by grind) (λp a=>(d p a).1) (by grind [nJ]) i;grind [il,List.map_congr_left]
 unfold fp;rw[MN e1 c];dsimp only;rw[c_ rfl,aek (sg _)];dsimp only;rw[c_ rfl,si,f,Wn e.val e.len,si];grind
theorem MV{labs:List bO}(b:∀l∈labs,iL l=true)(r:List Int):∀j,j<=labs.length->dO j ⟨0,labs.flatMap jy++r⟩=(labs.take j,⟨0,(labs.drop j).flatMap jy++r⟩)
 | 0,_=>rfl
 | j+1,h=>by
  have c:=MV b r j ez;have a:j<labs.length:=ez
  have hs:=tK (b _ (qa a));have e:(labs.drop j).flatMap jy++r=dh labs[j].name++(dh labs[j].value++((labs.drop (j+1)).flatMap jy++r)):=by
   rw[RU a,PV];simp[jy]
  unfold dO;rw[c];dsimp only;rw[e,ue (m:=64) ez ez];dsimp only;rw[ue (m:=64) ez ez,yK,yK,q27,List.getElem?_eq_getElem a];rfl
theorem Da(h:dB t C=true)(r:List Int):cV ⟨0,gQ t C++r⟩=⟨t,C,0,⟨0,r⟩⟩:=by
 have a:=lQ h;have hs:=tJ a.named;unfold gQ;rw[c_ h];have e:XP t C++r=dh t++(bS C.length++(C.flatMap jy++r)):=by grind [XP]
 unfold cV;rw[e,ue (m:=64) ez ez];dsimp only;have b:=a.len;rw[CN (m:=8) ez ez];dsimp only;rw[Fw,MV a.val r C.length (yb _),FJ,WD];dsimp only;rw[b_ eh,yK,c_ h];rfl
end Go.Proofs.YtlmphkpeajnhjaaGreatDoor
