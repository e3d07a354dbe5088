/-
  Lemmas for FleetRefuses: part 9 of what it rests on. Conditions: none.
-/
import Derived.Test.YtlmphkpeajnhjaaGreatDoorPR8
set_option linter.unusedVariables false
set_option linter.unusedSimpArgs false
set_option maxRecDepth 100000
set_option maxHeartbeats 16000000
open Go.IntKind (i64 u64 i8 u8 i32 u32 i16 u16)
namespace Go.Proofs.YtlmphkpeajnhjaaGreatDoor
open Go
structure mh(o:Ot):Prop where
 ch:CH o.2
 win:0<=o.1.win/\o.1.win<=4611686018427387903
 g_:(fp o.1.g_).2.2=true
 size:o.1.g_.size<=5000
variable {H:aC}{F:List aF}{s:aL}{c:bM}{K:KE}{Q:aF}{r:Rp}{n k:Nat}{a v e:Int}{E:List DF}{R B:DR}{L:LG}{f:Fq}{m:CM}{x:Rc}{b:MS}{d:List Int}{t:Bool}{A:List Rc}{C:List Pv}{D:KQ}{G:RL}{I:Nat->Int}{J:List bO}{M:List Ry}{O:List Rp}{P:List Ev}{T:Type}{U:Fb}
theorem kj.l{o:Ot}(h:kj o):mh o:=⟨h.ch,h.win,h.g_,h.size⟩
theorem mh.g{o:Ot}(h:mh o)(wc:WC o.2)(rt:gr o.2=true):kj o:=⟨wc,rt,h.ch,h.win,h.g_,h.size⟩
theorem CH.z:CH Cl.z:=λi _=>rfl
theorem CH.note{c:Cl}(h:CH c)(b:Bool):CH (ii c b).1:=by
 unfold ii;split;.exact CH.z
 split
 .split;.exact CH.z
  exact h
 split;.exact CH.z
 exact h
theorem CH.add{c:Cl}(h:CH c)(a:aG v):CH (kG c v).1:=by
 unfold kG;split;.exact CH.z
 split;.exact CH.z
 split;.exact CH.z
 split;.exact CH.z
 rename_i h0;intro i hi;dsimp only;have h0:(jD c.h v).2=0:=Decidable.not_not.1 h0;unfold jD at h0 ⊢;split at h0;.simp at h0
 rename_i b;rw[b_ b];split at h0;.simp at h0
 rename_i d;rw[b_ d];have:=qq a;dsimp only;unfold fO;rw[nO];exact h i hi
theorem Ob{B:Nat}:∀{ps:List (List UInt8)},(∀p∈ps,p.length<=B)->(Go.Lib.join ps [44]).length<=(B+1)*ps.length
 | [],_=>by simp[Go.Lib.join_nil]
 | [p],h=>by grind [Go.Lib.join_one]
 | p::q::r,h=>by have b:=Ob (ps:=q::r) λx a=>h x (DG _ a);grind [acy,Nat.mul_succ]
theorem WZ(h:dB U J=true):(gP U J).size<=5000:=by
 have c:=lQ h;have i:=tJ c.named;unfold gP;rw[c_ h];split;.omega
 have d:=Ob (ps:=(J.map fF).map bi) (B:=129) (by intro p a;obtain⟨b,hb,rfl⟩:=zb.1 a;obtain⟨l,f,rfl⟩:=zb.1 hb;have:=tK (c.val l f);grind [yM,nJ]);rw[FW,FW]at d;have j:=c.len;rw[<-nJ,yL,yL,yL];have e:bi (kL J)=Go.Lib.join ((J.map fF).map bi) [44]:=sg _;simp only[qa,e];rw[nJ];grind
structure ajQ(g_:Fb):Prop where
 ok:(fp g_).2.2=true
 size:g_.size<=5000
theorem aet{e:Pv}(h:gw e=true):ajQ (gP e.name e.labs):=by let⟨_,a⟩:=Dm h;exact⟨by rw[Wo a],WZ a⟩
theorem ahc(h:∀p∈m,mh p)(hs:ajQ U)(f:0<=a)(j:e<=4611686018427387903):∀p∈(kI v m a e U).1,mh p:=by
 unfold kI;split;.exact h
 split;.exact h
 split;.exact h
 intro p b;rcases NS b with b|b
 .let⟨w,d,e1,e2,e3⟩:=Cs b;unfold cC at d;obtain⟨i,first,rfl⟩:=zb.1 d;have first:=List.mem_range.1 first;have last:CH (fZ m ⟨a+(i:Int),U⟩):=by unfold fZ;cases hm:aK (⟨a+(i:Int),U⟩:Ky) m with
    | none=>exact CH.z
    | some c=>exact (h _ (eD hm)).ch
  exact⟨by rw[e2];exact last.note _,by grind,by rw[e1];exact hs.ok,by rw[e1];exact hs.size⟩
 exact h p b
theorem afu{k:Ky}(h:∀p∈m,mh p)(b:aG v):∀p∈(nI m k v).1,mh p:=by
 unfold nI;split;.exact h
 rename_i c d;split;.exact h
 intro p a;rcases ly a with rfl|a;.have:=h (k,c) (eD d);exact⟨this.ch.add b,this.win,this.g_,this.size⟩
 exact h p a
structure MsJ(lim:Int)(ms ms':MS):Prop where
 now:ms'.now=ms.now
 value:ms'.value=ms.value
 keys:∀a,(aK a ms'.m).isSome=(aK a ms.m).isSome
 fl:∀p∈ms'.m,p.2.t<=lim
theorem Oc{t:Int}(h:∀p∈b.m,p.2.t<=v)(c:t<=v):MsJ v b (b.raise a t).1:=by have r1:=WM b a t;refine⟨r1.2,r1.1,λms=>?_,abF h c⟩;grind [MS.raise,pm]
theorem MsJ.trans{now:Int}{a b c:MS}(h:MsJ now a b)(d:MsJ now b c):MsJ now a c:=⟨d.now.trans h.now,d.value.trans h.value,λk=>(d.keys k).trans (h.keys k),d.fl⟩
theorem afk(h:E6 b)(a:Int):0<=(bJ b a).t:=by
 unfold bJ
 cases e:aK a b.m with
 | none=>exact F_ _
 | some x=>exact (h.rows _ (eD e)).2.1
theorem acu{a:Int}{st:bC}{e:Pv}(ms:c.gd.ok)(i:Fx v)(hm:E6 b)(n:gw e=true)(j:aG e.value)(f:∀p∈b.m,p.2.t<=v)(s:∀p∈m,mh p) : MsJ v b (eW c v a st b m e).ms/\∀p∈(eW c v a st b m e).cm,mh p:=by
 have same:MsJ v b b:=⟨rfl,rfl,λ_=>rfl,f⟩;unfold eW;split;.grind
 split;.grind
 rename_i k d;have d:(cW st.ck (bJ b a) v e.stamp).2=0:=Decidable.not_not.1 (not_or.1 d).1;let⟨t1,t2,t3⟩:=NR d;have h:=afk hm a;generalize cW st.ck (bJ b a) v e.stamp=T at *;have r:=Oc (a:=a) (t:=T.1.lo) f ez;split;.grind
 have w:=WN (g:=c.gd) (x:=T.1) (.inr trivial) ms t1;rw[w];dsimp only;have w0:0<=fY c.gd T.1.lo:=by rw[NQ ms (by unfold isV Fx at *;omega)];exact Int.ediv_nonneg ez (by have:=ms.1;omega)
 have w1:fY c.gd T.1.hi<=4611686018427387903:=by rw[NQ ms (by unfold isV Fx at *;omega)];have:=Int.ediv_le_self (a:=T.1.hi) c.gd.width ez;grind
 grind [ahc,aet,afu]
theorem Od{c:bM}{now a ep first:Int}{evs:List Pv}{x:JS}(f:c.gd.ok)(d:Fx now)(hm:E6 x.ms)(h:∀e∈evs,gw e=true/\aG e.value)(i:∀p∈x.ms.m,p.2.t<=now)(k:∀p∈x.cm,mh p):∀n,n<=evs.length->E6 (dI c now a ep first evs x n).1.ms/\MsJ now x.ms (dI c now a ep first evs x n).1.ms/\∀p∈(dI c now a ep first evs x n).1.cm,mh p
 | 0,_=>⟨hm,⟨rfl,rfl,λ_=>rfl,i⟩,k⟩
 | n+1,hl=>by let⟨i1,i2,i3⟩:=Od (ep:=ep) (first:=first) (a:=a) f d hm h i k n ez;have b:=h (evs.getD n Pv.z) (by rw[xS _ ez];exact s_ _);have j:=acu (a:=a) (st:=(dI c now a ep first evs x n).1.st) (e:=evs.getD n Pv.z) f d i1 b.1 b.2 i2.fl i3;have hm:=Ml (c:=c) (now:=now) (a:=a) (st:=(dI c now a ep first evs x n).1.st) (cm:=(dI c now a ep first evs x n).1.cm) (e:=evs.getD n Pv.z) i1;exact⟨hm.1,i2.trans j.1,j.2⟩
theorem Oe{lim:Int}{m:FM}:∀(a:List Int) (s:Int×Bool),lim<=s.1->lim<=(jY lim m a s).1
 | [],s,h=>h
 | k::r,s,h=>by refine Oe r _ ?_;grind [oW]
theorem cmG(ok:cY s)(h:∀p∈s.cm,mh p):∀p∈s.cm,kj p:=λp a=>(h p a).g (ok.sh.wc p a) (ok.sh.rt p a)
theorem FB.cl(R:FB s):∀p∈s.cm,mh p:=λp a=>(R.cm p a).l
theorem Of(ok:jZ c):FB (cz c) where
 ok:=rZ ok
 sunk:=by show (0:Int)<=_;decide
 ab4:=⟨F_ _,F_ _⟩
 val:=by have:=ok.h_;show (0:Int)-c.h_<=-c.h_/\-c.h_<=0;omega
 keys:=λa=>by
  have:bI (cz c).rows a=En.z:=by
   grind [bI,cz]
  rw[this];rfl
 fl:=λp b=>cS b (by simp[cz,MS.new])
 rows:=λa h=>by
  grind [bI,cz,En.z]
 ag:=(abO ok).ag
 cm:=λp b=>cS b (by simp[cz])
 kept:=λp b=>cS b (by simp[cz])
theorem wh{s:aL}(R:FB s)(hv:∀e∈r.evs,aG e.value):FB (ld s r):=by
 have d:cY (ld s r):=adh R.ok hv;have ok:=R.ok;have U:=R.ab4;have Q:=R.val;unfold ld at *;revert d;have j:∀{n:Int},s.now<=n->(0<=s.ms.now/\s.ms.now<=n)/\∀p∈s.ms.m,p.2.t<=n:=λh=>⟨ez,λp A=>by have:=R.fl p A;omega⟩;refine qH (P:=λq=>cY q.1->FB q.1) (λ_ _=>R) (λ_ _ _=>R) (λ_ _ _ d=>⟨d,R.sunk,R.ab4,R.val,R.keys,R.fl,R.rows,R.ag,R.cm,R.kept⟩) (λC u B d=>?_) (λC u B d=>?_) (λC u B d=>?_) (λC u B d=>?_) (λC u B d=>?_) λC u B d=>?_
 .have v:=kU C;have i:=wd ez ez u;rw[nO]at i;let⟨u1,u2⟩:=j i;have S:=Cv (most:=s.cfg.agents) ok.rows r.ag r.bt r.nw;revert d;unfold iP;split;.exact λ_=>R
  rename_i K;have K:=Decidable.not_not.1 K;have hb:¬bad r.ag r.bt r.nw:=by intro hb;unfold cP at K;grind
  split
  .rename_i u;intro d;rcases S with ⟨-,g2,g3,g4,g5⟩|⟨g1,_⟩
   .have J:r.ag.toNat<s.rows.length:=by rw[ok.rows.len];grind
    have E:¬((bI s.rows r.ag).epoch=0/\full s.cfg.agents s.rows)/\(cP s.cfg.agents s.rows r.ag r.bt r.nw).2.1.time=r.nw/\(cP s.cfg.agents s.rows r.ag r.bt r.nw).2.1.boot=r.bt:=by unfold cP at u K ⊢;grind
    have N:=(aeQ (s:=s) ok R.ag v.ag E.1 g2);generalize (cP s.cfg.agents s.rows r.ag r.bt r.nw)=G at *;have D:∀a,bI G.1 a=if a=r.ag then G.2.1 else bI s.rows a:=by
     intro a;rw[g2];by_cases e:a=r.ag;.rw [c_ e,e,NP v.ag.1 J]
     rw [b_ e];unfold bI;grind
    have hold:(iq s r.ag).now=s.ms.now/\(iq s r.ag).value=s.ms.value/\(∀p∈(iq s r.ag).m,p.2.t<=r.nw)/\aK r.ag (iq s r.ag).m=none/\∀a,a≠r.ag->aK a (iq s r.ag).m=aK a s.ms.m:=by
     unfold iq;cases hs:iO s r.ag with
      | none=>
      dsimp only;refine⟨rfl,rfl,u2,?_,λ_ _=>rfl⟩;have B:=R.keys r.ag;have h0:¬0<(bI s.rows r.ag).epoch:=by
       intro h;have L:r.ag.toNat<64:=by grind
       have e1:((r.ag.toNat:Nat):Int)=r.ag:=by grind
       have e2:bI s.rows r.ag=s.rows[r.ag.toNat]:=by grind [yY]
       let⟨st,_,h2⟩:=R.str L (by grind);grind
      simp_all
      | some st=>
      dsimp only;unfold MS.leave;split;.grind
      refine⟨rfl,rfl,λp A=>u2 p (nt.1 A).1,?_,λa ha=>?_⟩;.dsimp only;rw[xa,c_ rfl]
      dsimp only;rw[xa,b_ ha]
    let⟨o1,o2,o3,o4,o5⟩:=hold;have M:(iq s r.ag).join r.ag r.nw=({ iq s r.ag with m:=eO r.ag ⟨r.nw,false,false,false⟩ (iq s r.ag).m },0):=by unfold MS.join;grind
    rw[M]at d ⊢;refine⟨d,R.sunk,by grind,by grind,λa=>?_,λp A=>?_,λa h=>?_,N,R.cm,R.kept⟩
    .dsimp only;rw[D,pm];by_cases e:a=r.ag;.grind
     rw [b_ e,b_ e,o5 a e];exact R.keys a
    .rcases ly A with rfl|A;.grind
     grind
    dsimp only at h ⊢;rw[D]at h ⊢;by_cases e:a=r.ag;.grind
    rw [b_ e]at h ⊢;exact R.rows a h
   rw [g1]at u;cases u
  rename_i u;intro d;rcases S with ⟨g1,_⟩|⟨-,g2,_⟩;.exact cS g1 u
  rw [g2]at d ⊢;exact⟨d,R.sunk,u1,R.val,R.keys,u2,R.rows,R.ag,R.cm,R.kept⟩
 .have v:=kU C;have i:=wd ez ez u;rw[c_ B]at i;let⟨u1,u2⟩:=j i;let⟨st,y⟩:=oY ok v u (.inl B);revert d;unfold pK;rw[y];intro d;have hh:∀b,(s.ms.hold r.ag b).1.now=s.ms.now/\(s.ms.hold r.ag b).1.value=s.ms.value/\(∀a,(aK a (s.ms.hold r.ag b).1.m).isSome=(aK a s.ms.m).isSome)/\∀p∈(s.ms.hold r.ag b).1.m,p.2.t<=r.sm.came:=by
   intro b;unfold MS.hold;split;.grind
   rename_i x hx;refine⟨rfl,rfl,λa=>?_,λp A=>?_⟩;.grind [pm]
   rcases ly A with rfl|A;.have:=u2 (r.ag,x) (eD hx);exact this
   grind
  let⟨h1,h2,h3,h4⟩:=hh (lL st.ck r.sm).1.held;refine⟨d,R.sunk,?_,?_,λa=>?_,h4,R.rows,R.ag,R.cm,R.kept⟩;.grind
  .grind
  dsimp only;rw[h3];exact R.keys a
 .have v:=kU C;have i:=wd ez ez u;rw[nO]at i;let⟨u1,u2⟩:=j i;let⟨st,y⟩:=oY ok v u (.inr (.inl B));have H:=ok.sts st (KI y);have hb:=v.evs B;unfold gy at hb;simp only[q_,v_,XQ]at hb;let⟨⟨h5,W⟩,⟨⟨h8,h6⟩,h9⟩,Z⟩:=hb;have hm:=vw (s:=st.hs) (first:=r.nx) (items:=r.evs);have Xj:∀e∈(st.hs.offer r.nx r.evs).2.1,gw e=true/\aG e.value:=by
   intro e Y;rcases hm.1 e Y with h|⟨q,h,rfl⟩;.grind
   exact (H.rows q h).2
  have M:=Od (c:=s.cfg) (now:=r.nw) (a:=r.ag) (ep:=r.ep) (first:=st.hs.next) (evs:=(st.hs.offer r.nx r.evs).2.1) (x:=⟨{ st with hs:=(st.hs.offer r.nx r.evs).1 },s.ms,s.cm⟩) ok.cfg.gd v.nw ok.ms Xj u2 R.cl _ (w_ _);revert d;unfold iN;rw[y];dsimp only;unfold nX;generalize dI s.cfg r.nw r.ag r.ep st.hs.next (st.hs.offer r.nx r.evs).2.1 ⟨{ st with hs:=(st.hs.offer r.nx r.evs).1 },s.ms,s.cm⟩ (st.hs.offer r.nx r.evs).2.1.length=G at *;intro d;let⟨j1,w,V⟩:=M;refine⟨d,R.sunk,?_,?_,λa=>?_,w.fl,R.rows,R.ag,cmG d V,R.kept⟩;.dsimp only at w ⊢;rw[w.now];exact u1
  .dsimp only at w ⊢;rw[w.now,w.value];exact R.val
  dsimp only at w ⊢;rw[w.keys];exact R.keys a
 .have v:=kU C;have i:=wd ez ez u;rw[nO]at i;let⟨u1,u2⟩:=j i;let⟨st,y⟩:=oY ok v u (.inr (.inr B));revert d;unfold oX;rw[y];dsimp only;split;.exact λd=>⟨d,R.sunk,u1,R.val,R.keys,u2,R.rows,R.ag,R.cm,R.kept⟩
  split;.exact λd=>⟨d,R.sunk,u1,R.val,R.keys,u2,R.rows,R.ag,R.cm,R.kept⟩
  rename_i hT;intro d;let⟨t1,t2,t3⟩:=NR (Decidable.not_not.1 hT);have w:=Oc (a:=r.ag) (t:=(cW st.ck (bJ s.ms r.ag) r.nw r.st).1.lo) u2 ez;refine⟨d,R.sunk,?_,?_,λa=>?_,w.fl,R.rows,R.ag,R.cm,R.kept⟩;.dsimp only;rw[w.now];exact u1
  .dsimp only;rw[w.now,w.value];exact R.val
  dsimp only;rw[w.keys];exact R.keys a
 .have v:=kU C;have i:=wd ez ez u;rw[nO]at i;let⟨u1,u2⟩:=j i;have I:=v.nw;have T:=ok.ms.l1;have h7:=ok.h_;have ht:s.ms.tick r.nw=({ s.ms with now:=r.nw,value:=ae2 s.ms.value (jY (r.nw-s.ms.h_) s.ms.m (i_ (aJ s.ms.m)) (r.nw-s.ms.h_,false)).1,m:=s.ms.m.map λp=>(p.1,kS (r.nw-s.ms.h_) p.2) },0):=by unfold MS.tick;grind
  have f1:=NT (lim:=r.nw-s.ms.h_) u2 I.1 (i_ (aJ s.ms.m)) (r.nw-s.ms.h_,false) (by grind);have f2:=Oe (lim:=r.nw-s.ms.h_) (m:=s.ms.m) (i_ (aJ s.ms.m)) (r.nw-s.ms.h_,false) (F_ _);revert d;unfold lz gD;rw[ht];intro d;have O:∀p∈oS s.cm (fY s.cfg.gd (ae2 s.ms.value (jY (r.nw-s.ms.h_) s.ms.m (i_ (aJ s.ms.m)) (r.nw-s.ms.h_,false)).1)),kj p:=λp A=>R.cm p (WK.1 A).1;refine⟨d,R.sunk,⟨I.1,F_ _⟩,?_,λa=>?_,λp A=>?_,R.rows,R.ag,O,λo F=>?_⟩;.grind
  .dsimp only;have:=yz (f:=λ(_:Int)=>kS (r.nw-s.ms.h_)) (k:=a) (m:=s.ms.m);rw[this,<-R.keys a];grind
  .obtain⟨q,hq,rfl⟩:=zb.1 A;exact u2 q hq
  rcases DA.1 F with F|F;.exact R.kept o F
  exact R.cm o (yZ (yE F))
 revert d;unfold pL;split;.intro d;have v:=kU C;exact⟨d,by have:=v.nx;grind,R.ab4,R.val,R.keys,R.fl,R.rows,R.ag,R.cm,λo F=>R.kept o (q22 F)⟩
 exact λ_=>R
theorem FB.g_(R:FB s):sj s:=⟨λp a=>(R.cm p a).size,λo b=>(R.kept o b).size⟩
structure Rx where
 kind:Int
 ag:Int
 ep:Int
 bt:Int
 nx:Int
 st:Int
 nw:Int
 sm:bT
 ea:KQ
 ec:Nat
 evs:List Ev
variable {N:List Rx}
abbrev ajw(x:Rx):Xa:=[aB x.kind,aB x.ag,aB x.ep,aB x.bt,aB x.nx,aB x.st,aB x.nw,aB x.sm.asked,aB x.sm.CV,aB x.sm.hY,aB x.sm.came,.slice x.ea x.evs.length x.ec]
theorem Og(x:Rx):(ajw x).length=12:=rfl
structure RxK(Q:aF)(x:Rx):Prop where
 rd:DE Q x.ea (flat bH x.evs)
 labs:∀e∈x.evs,ge Q e
 val:∀e∈x.evs,aG e.value
 ll:∀e∈x.evs,e.labs.length<=maxLen
structure XsK(Q:aF)(a:KQ)(xs:List Rx):Prop where
 rd:DE Q a (flat ajw xs)
 rx:∀x∈xs,RxK Q x
 ll:xs.length<=maxLen
def grL(l:bO):Bool:=decide (300<(l.name.size:Int))||decide (300<(l.value.size:Int))
def grS(name:Fb)(labs:List bO):Bool:=decide (100<(labs.length:Int))||decide (300<(name.size:Int))||labs.any grL
def grE(evs:List Ev):Bool:=decide (100<(evs.length:Int))||evs.any λe=>grS e.name e.labs
def grC(c:bM)(n:Nat):Bool:=decide (80<(n:Int))||(decide (200<c.cells)&&decide (c.cells<=1024))
def grR(c:bM)(xs:List Rx):Bool:=grC c xs.length||xs.any λx=>grE x.evs
theorem Du{p:T->Bool}{l:List T}(h:∀q (b:q<l.length),p l[q]=false):l.any p=false:=by rw[List.any_eq_false];intro x a;obtain⟨q,b,rfl⟩:=XR a;grind
theorem Dv{p:T->Bool}{l:List T}(a:n<l.length)(h:p l[n]=true):l.any p=true:=List.any_eq_true.2 ⟨_,s_ a,h⟩
def dv(s:aL)(rs:List Rp):aL:=rs.foldl (λs r=>(bU s r).1) s
theorem Ya(s:aL)(rs:List Rp)(r:Rp):dv s (rs++[r])=(bU (dv s rs) r).1:=by grind [dv]
theorem Dw{name:Fb}{labs:List bO}(h:aA H F)(u:∀H,aA H F->aQ H D (flat cJ labs))(A:labs.length<=maxLen)(k:∀e,aA e F->K (.bool (grS name labs)) e) : CF 43 #[.agg #[.string name,.slice D labs.length n]] H K:=by
 refine cN 43 0x1d21562139925b4c [[(3,sI)]] ?_;unfold grS at k;refine h.al λb _ h=>⟨_,_,_,h.r 0,_,λ_=>h.r 0,λf=>?_,λf=>?_⟩;.rw [f,Bool.true_or]at k;exact k _ h.tl
 rw[f,q33]at k;rw[E5,C5]at f;refine⟨λi e=>∃j:Nat,i=j/\j<=labs.length/\(∀q (t:q<labs.length),q<j->grL labs[q]=false)/\aA e (ax b [.string name,.slice D labs.length n] 62::F),λi _=>labs.length-i.toNat,⟨0,rfl,ez,λq _ h=>ez,h⟩,?_⟩;rintro i e ⟨j,rfl,B,t,h⟩;refine⟨_,_,_,h.r 0,λf=>?_,λf=>?_⟩
 .have d:j<labs.length:=by grind
  have c:=u e h.tl;have e1:=c.el0 iI d (v:=.string labs[j].name) rfl;have e2:=c.el iI d 1 (v:=.string labs[j].value) rfl;refine⟨_,_,_,h.r 0,ez,_,_,c.some iI ez d,_,e1,_,_,_,λ_=>h.r 0,λ_=>ez,_,_,λ_=>c.some iI ez d,_,λ_=>e2,λs=>?_,λs=>?_⟩;.rw [Dv d s]at k;exact k _ h.tl
  conv=>whnf
  rw[aN ez (by grind)];refine⟨⟨j+1,ez,d,λq m w=>?_,h⟩,by grind⟩;rcases HU q j with x|x;.grind
  obtain rfl:q=j:=ez;exact s
 have y:labs.length<=j:=by grind
 rw[Du λq m=>t q m ez]at k;exact k _ h.tl
theorem Yb{evs:List Ev}(h:aA H F)(A:∀H,aA H F->aQ H D (flat bH evs))(hb:∀e∈evs,(∀H,aA H F->aQ H e.la (flat cJ e.labs))/\e.labs.length<=maxLen)(k:∀m,aA m F->K (.bool (grE evs)) m) : CF 178 #[.agg #[aD 0,aD 0,aD 0,aD 0,aD 0,aD 0,aD 0,aD 0,aD 0,aD 0,.slice D evs.length n,.string ⟨#[]⟩,.slice none 0 0,.slice none 0 0]] H K:=by
 refine cN 178 0x12283c921562139925b4c [[(3,sI)],[(18,sB)]] ?_;unfold grE at k;refine h.al λb _ h=>?_;intro E w;refine⟨_,_,_,h.r 0,_,_,_,λ_=>h.r 0,_,_,_,_,λ_=>h.q 0,λs=>?_,λs=>?_⟩
 .have f:decide (100<(evs.length:Int))=false:=(E5.1 s).1;rw[f,q33]at k;refine Dw (labs:=[]) h (λH _=>fN H _) eh λa h=>⟨_,rfl,w _ _ ⟨λu=>cS u ee,λ_=>?_⟩⟩;rw[C5]at f;refine⟨λi m=>∃j:Nat,i=j/\j<=evs.length/\(∀q (y:q<evs.length),q<j->grS evs[q].name evs[q].labs=false)/\aA m (ax b [aD 0,aD 0,aD 0,aD 0,aD 0,aD 0,aD 0,aD 0,aD 0,aD 0,.slice D evs.length n,.string ⟨#[]⟩,.slice none 0 0,.slice none 0 0] 99::F),λi _=>evs.length-i.toNat,⟨0,rfl,ez,λq _ h=>ez,h⟩,?_⟩;rintro i m ⟨j,rfl,G,y,h⟩;refine⟨_,_,_,h.r 0,λs=>?_,λs=>?_⟩
  .have d:j<evs.length:=by grind
   have t:=A m h.tl;have e1:=t.el dU d 2 (v:=.string evs[j].name) rfl;have e2:=t.el dU d 3 (v:=.slice evs[j].la evs[j].labs.length evs[j].lc) rfl;let⟨g1,g2⟩:=hb _ (s_ d);refine⟨_,_,_,h.r 0,ez,_,_,t.some dU ez d,_,_,_,_,⟨e1,e2⟩,Dw (name:=evs[j].name) (labs:=evs[j].labs) h (λH h=>g1 H h.tl) g2 λa h=>⟨_,rfl,λx=>?_,λx=>?_⟩⟩;.rw [Dv (p:=λe=>grS e.name e.labs) d x]at k;exact k _ h.tl
   conv=>whnf
   rw[aN];refine⟨⟨j+1,ez,d,λq c B=>?_,h⟩,by grind⟩;grind
  have C:evs.length<=j:=by grind
  rw[Du (p:=λe=>grS e.name e.labs) λq c=>y q c ez]at k;exact k _ h.tl
 have f:decide (100<(evs.length:Int))=true:=by grind
 rw[f,Bool.true_or]at k;refine w _ _ ⟨λ_=>k _ h.tl,λu=>cS u ee⟩
theorem Yc{cf:bM}{a:KQ}{c:Nat}{xs:List Rx}(h:aA H (Q::F))(A:XsK Q a xs)(k:∀n,aA n (Q::F)->K (.bool (grR cf xs)) n) : CF 100 #[.agg ⟨pI cf⟩,.slice a xs.length c] H K:=by
 refine cN 100 0x1d21562139925b4c [[(5,sI)]] ?_;unfold grR grC at k;refine h.al λb _ h=>⟨_,λ_=>h.r 0,_,λ_=>h.r 0,λs=>?_,λs=>?_⟩;.rw [s,Bool.true_or]at k;exact k _ h.tl
 rw[s,q33]at k;refine⟨λi n=>∃j:Nat,i=j/\j<=xs.length/\(∀q (u:q<xs.length),q<j->grE xs[q].evs=false)/\aA n (ax b (pI cf) 23::Q::F),λi _=>xs.length-i.toNat,⟨0,rfl,ez,λq _ h=>ez,h⟩,?_⟩;rintro i n ⟨j,rfl,E,u,h⟩;refine⟨λs=>?_,λs=>?_⟩
 .have d:j<xs.length:=by grind
  have y:=A.rd.at h 1 rfl;have e1:=y.el Og d 11 (v:=.slice xs[j].ea xs[j].evs.length xs[j].ec) rfl;refine⟨ez,_,_,y.some Og ez d,_,_,_,e1,?_⟩;have f:=A.rx _ (s_ d);refine Yb (evs:=xs[j].evs) h (λH h=>f.rd.at h 1 rfl) (λe w=>⟨λH h=>(f.labs e w).at h 1 rfl,f.ll e w⟩) λD h=>⟨_,rfl,λt=>?_,λt=>?_⟩;.rw [Dv (p:=λx=>grE x.evs) d t]at k;exact k _ h.tl
  conv=>whnf
  rw[aN ez (by grind)];refine⟨⟨j+1,ez,d,λq m C=>?_,h⟩,by grind⟩;grind
 have B:xs.length<=j:=by grind
 rw[Du (p:=λx=>grE x.evs) λq m=>u q m ez]at k;exact k _ h.tl
section
variable {H:Type}{enc:TypeId×Value->H}{W:World}
theorem HH{P:Program}{w:World}{r:Reach}{a:Nat}{t:TypeId}{v:Value}{fs:Array Field}(b:P.underlying t=some (.struct fs))(h:Value.okWide P w r a t v):∃cs,v=.agg cs:=by grind [Value.okWide]
theorem Yd{cs:Xa}(h:jC enc Tryz.prog W 23 cs):∃cf:bM,cs=pI cf:=by let⟨b,c⟩:=tn Tryz.underlying23 h;have c2:Tryz.prog.cellsOf 2=1:=kf;have c3:Tryz.prog.cellsOf 3=1:=kf;have a:Tryz.prog.cellsOf 23=9:=kf;rw[a]at b;simp only[DL,q2j,or_false,forall_eq_or_imp,forall_eq,c2,c3]at c;let⟨f1,f2,f3,f4,f5,f6,f7,f8,f9⟩:=c;match cs,b with
  | [x1,x2,x3,x4,x5,x6,x7,x8,x9],_=>simp only[q2w,q2f,q26,q32]at f1 f2 f3 f4 f5 f6 f7 f8 f9;let⟨n1,e1,_,_⟩:=fV Tryz.underlying2 f1;let⟨n2,e2,_,_⟩:=fV Tryz.underlying3 f2;let⟨n3,e3,_,_⟩:=fV Tryz.underlying2 f3;let⟨n4,e4,_,_⟩:=fV Tryz.underlying2 f4;let⟨n5,e5,_,_⟩:=fV Tryz.underlying2 f5;let⟨n6,e6,_,_⟩:=fV Tryz.underlying3 f6;let⟨n7,e7,_,_⟩:=fV Tryz.underlying3 f7;let⟨n8,e8,_,_⟩:=fV Tryz.underlying3 f8;let⟨n9,e9,_,_⟩:=fV Tryz.underlying3 f9;simp only[List.cons.injEq,and_true]at e1 e2 e3 e4 e5 e6 e7 e8 e9;subst e1 e2 e3 e4 e5 e6 e7 e8 e9;exact⟨⟨n1,n2,n3,n4,n5,n6,n7,n8,n9⟩,rfl⟩
theorem abC{cs:Xa}(h:jC enc Tryz.prog W 63 cs):∃a c bs,cs=[.slice a (List.length bs) c]/\bs.length<=maxLen/\aQ W.heap a (bs.map U8)/\aI bs:=by
 let⟨a,c,xs,j,k,f,m⟩:=AB (ec:=λx:Int=>[U8 x]) (Q:=λx=>0<=x/\x<256) Tryz.underlying63 kf ee h (λs i _=>by let⟨n,e,b,d⟩:=fV Tryz.underlying5 i;have b:0<=n:=b;have d:n<=255:=d;grind) (λ_=>rfl);have e:∀l:List Int,flat (λx=>[U8 x]) l=l.map U8:=λl=>by induction l with
   | nil=>rfl
   | cons x r ih=>grind [mC]
 rw[e]at f;exact⟨a,c,xs,j,k,f,m⟩
theorem Ye{cs:Xa}(h:jC enc Tryz.prog W 60 cs):∃a c b,cs=[.slice a (List.length b) c]/\b.length<=maxLen/\aQ W.heap a (flat cJ b):=by let⟨a,c,xs,j,k,m,_⟩:=AB (ec:=cJ) (Q:=λ_=>True) Tryz.underlying60 (sz:=2) kf ee h (λi e f=>by let⟨_,d⟩:=tn Tryz.underlying223 e;have c9:Tryz.prog.cellsOf 9=1:=kf;simp only[DL,q2j,or_false,forall_eq_or_imp,forall_eq,c9]at d;let⟨f1,f2⟩:=d;match i,f with
   | [x1,x2],_=>simp only[q2w,q2f,q26,q32]at f1 f2;let⟨s1,e1,_⟩:=AA Tryz.underlying9 f1;let⟨s2,e2,_⟩:=AA Tryz.underlying9 f2;simp only[List.cons.injEq,and_true]at e1 e2;subst e1 e2;exact⟨⟨s1,s2⟩,rfl,trivial⟩) iI;grind
end
theorem zc{f:Nat->Int}{is:List Nat}(h:∀i∈is,aG (f i))(r:List Int):∀j,j<=is.length->j4 j ⟨0,(is.flatMap λi=>aP [f i])++r⟩=.ok ((is.take j).map f,⟨0,((is.drop j).flatMap λi=>aP [f i])++r⟩)
 | 0,_=>rfl
 | j+1,hj=>by have a:j<is.length:=ez;unfold j4;rw[zc h r j ez];dsimp only;rw[RF a,O_,Fw,l9 (h _ (s_ a))];dsimp only;rw[q27,List.getElem?_eq_getElem a,F4];rfl
theorem Oh{l:List Pv}(h:∀e∈l,gw e=true/\aG e.value)(r:List Int):∀j,j<=l.length->lS j ⟨0,l.flatMap E7++r⟩=.ok (l.take j,⟨0,(l.drop j).flatMap E7++r⟩)
 | 0,_=>rfl
 | j+1,hj=>by have a:j<l.length:=ez;have hm:=h _ (s_ a);unfold lS;rw[Oh h r j ez];dsimp only;rw[RF a,O_,Fw,N5 hm.1 hm.2];dsimp only;rw[q27,List.getElem?_eq_getElem a];rfl
theorem afG:atV a ((cA a).map I) n=if n∈cA a then I n else 0:=by grind [atV]
theorem aeU(a:adA r)(i:Nat):aG (r.nums i):=by
 have d:=a.ag;have e:=a.ep;have f:=a.bt;have j:=a.nx;have c:=a.st;have h:=a.nw;have b:=a.sm.wf;unfold bT.wf at b;unfold Fx at *;unfold Rp.nums
 split <;> first|exact b.1|exact b.2.1|exact b.2.2.1|exact b.2.2.2|(unfold aG;omega)
theorem abA(b:r.right=true)(n:∀e∈r.evs,aG e.value):aak r.bytes=.ok r:=by
 have f:=kU b;have j:=WL b;have u:=f.kind;have d:(r.kind=4->r.evs.length<=64/\∀e∈r.evs,gw e=true/\aG e.value)/\(¬r.kind=4->r.evs=[]):=by
  refine⟨λc=>?_,λc=>?_⟩;.have hb:=f.evs c;unfold gy at hb;grind
  unfold Rp.right at b;grind
 have e:r.bytes=aP [r.kind]++(((cA r.kind).flatMap λi=>aP [r.nums i])++((if r.kind=4 then aP [((r.evs.length:Nat):Int)] else [])++(r.evs.flatMap E7++[]))):=by unfold Rp.bytes;grind
 have a:lT r.kind ((cA r.kind).map r.nums) r.evs=r:=by
  unfold Rp.HG at j;simp only[q_,v_]at j;have key:∀i x,r.nums i=x->HT r.kind i x=0->atV r.kind ((cA r.kind).map r.nums) i=x:=by intro i x s k;rw[afG];unfold HT at k;grind
  unfold lT;let⟨⟨⟨⟨⟨⟨z1,z2⟩,z3⟩,z4⟩,z5⟩,z6⟩,⟨⟨z7,z8⟩,z9⟩,h⟩:=j;rw[key 1 r.ag rfl z1,key 2 r.ep rfl z2,key 3 r.bt rfl z3,key 4 r.nx rfl z4,key 5 r.st rfl z5,key 6 r.nw rfl z6,key 7 r.sm.asked rfl z7,key 8 r.sm.CV rfl z8,key 9 r.sm.hY rfl z9,key 10 r.sm.came rfl h]
 unfold aak;rw[e,uc ez ez];dsimp only;rw[nO,zc (λi _=>aeU f i) _ _ (w_ _),FE,V_];dsimp only;have fin:Xl r.kind ⟨0,([]:List Nat).flatMap (λi=>aP [r.nums i])++((if r.kind=4 then aP [((r.evs.length:Nat):Int)] else [])++(r.evs.flatMap E7++[]))⟩=.ok (r.evs,⟨0,[]⟩):=by
  unfold Xl;split;.rename_i c;let⟨t,m⟩:=d.1 c;have ec:dZ 64 ⟨0,([]:List Nat).flatMap (λi=>aP [r.nums i])++(aP [((r.evs.length:Nat):Int)]++(r.evs.flatMap E7++[]))⟩=.ok (((r.evs.length:Nat):Int),⟨0,r.evs.flatMap E7++[]⟩):=ud ez ez _;rw[ec];dsimp only;rw[Fu,Oh m _ _ (w_ _),FE,V_];rfl
  grind
 rw[fin];dsimp only;rw[show (dG ⟨0,[]⟩).e=0 from rfl,b_ eh,a,b,c_ rfl]
namespace Al
def c0:bM:=⟨10,0,1000,100,100,2,4,40,8⟩
end Al
theorem Yf(h:aA H F)(k:∀a,aA a F->K (.agg ⟨pI Al.c0⟩) a):CF 172 #[] H K:=by refine cM 172 28 (h.al λb _ h=>h.st 0 rfl rfl ?_);intro c h;exact⟨_,_,_,_,_,_,_,_,_,h.q 0,k _ h.tl⟩
theorem Oi{s:aL}(ok:cY s)(g_:sj s)(d:s.kept.length<=900000):(Fs s).length<=10000000000:=by
 have i:=Nc (s:=s);have j:=pQ (f:=eL s) (l:=aW 0 s.rows) (B:=345000) λp _=>yO ok p;have c:=yy ok.rows;have t:=pQ (f:=DU) (l:=bB s.cm) (B:=10100) λo a=>by let⟨q,b,e⟩:=Dc a;exact yP (yD ok.sh _ a) (by rw[<-e];exact g_.cm q b)
 have m:=pQ (f:=DU) (l:=s.kept) (B:=10100) λo a=>yP (ok.kept o a) (g_.kept o a);have n:=vm s.cm;have k:=ok.sh.len;have h:=ok.sh.m2;have q1:=dP [(s.cm.length:Int)];have q2:=dP [(s.kept.length:Int)];have m1:345000*(aW 0 s.rows).length<=345000*64:=q35 _ c;have m2:10100*(bB s.cm).length<=10100*1024:=q35 _ ez;have m3:10100*s.kept.length<=10100*900000:=q35 _ d;unfold Fs lZ jM;simp only[qa,CU,HE]at *;omega
theorem Yg(ok:cY s):(ld s r).cfg=s.cfg/\(ld s r).kept.length<=s.kept.length+s.cfg.cells.toNat:=by
 unfold ld;have a:s.cfg=s.cfg/\s.kept.length<=s.kept.length+s.cfg.cells.toNat:=⟨rfl,ez⟩;refine qH (P:=λx=>x.1.cfg=s.cfg/\x.1.kept.length<=s.kept.length+s.cfg.cells.toNat) (λ_=>a) (λ_ _=>a) (λ_ _ _=>a) (λ_ _ _=>?_) (λ_ _ _=>?_) (λ_ _ _=>?_) (λ_ _ _=>?_) (λ_ _ _=>?_) (λ_ _ _=>?_);.grind [iP]
 .grind [pK]
 .grind [iN]
 .grind [oX]
 .dsimp only;unfold lz gD;have b:(ja s.cm (fY s.cfg.gd (s.ms.tick r.nw).1.value)).length<=(bB s.cm).length:=by grind [ja,List.takeWhile_sublist]
  have c:(bB s.cm).length=s.cm.length:=by unfold bB;rw[FW,vl];grind
  have d:=ok.sh.len;grind
 dsimp only;unfold pL;grind
theorem Oj{c:bM}{now a ep first:Int}{evs:List Pv}{x:JS}:∀n,(dI c now a ep first evs x n).2.length=n
 | 0=>rfl
 | n+1=>by show ((dI c now a ep first evs x n).2++[_]).length=_;rw[qa,Oj n];rfl
theorem Ol{st:bC}(a:mN c st):st.hs.rows.length<=256:=by have b:=a.hs.rows.length;have d:=a.hs.GV;omega
theorem Dx(ok:cY s)(h:r.evs.length<=100):(lf s r).length<=2000:=by
 unfold lf;refine qH (P:=λx=>x.2.1.length<=2000) (λ_=>eh) (λ_ _=>eh) (λ_ _ _=>eh) (λ_ _ _=>?_) (λ_ _ _=>eh) (λ_ _ _=>?_) (λ_ _ _=>eh) (λ_ _ _=>?_) (λ_ _ _=>eh)
 .unfold iP;split;.simp
  split
  .have:(kV s r.ag).length<=256:=by
    unfold kV;split
    .rename_i st b;have hm:some st∈s.sts:=by grind [iO]
     have:=Ol (ok.sts st hm);grind
    simp
   grind
  simp
 .dsimp only;unfold iN;split;.rename_i st c;have a:=Ol (ok.sts st (KI c));grind [KF,nX,Oj]
  simp
 dsimp only;unfold lz;dsimp only;rw[qE];unfold gD;have a:(ja s.cm (fY s.cfg.gd (s.ms.tick r.nw).1.value)).length<=(bB s.cm).length:=by grind [ja,List.takeWhile_sublist]
 have d:(bB s.cm).length=s.cm.length:=by unfold bB;rw[FW,vl];grind
 have e:=ok.sh.len;have f:=ok.sh.m2;omega
structure MK(s:aL)(c:bM)(n:Nat):Prop where
 R:FB s
 cfg:s.cfg=c
 kept:s.kept.length<=c.cells.toNat*n
theorem abr(h:jZ c):MK (cz c) c 0:=⟨Of h,rfl,by simp[cz]⟩
theorem MK.step{r:Rp}(h:MK s c n)(b:∀e∈r.evs,aG e.value):MK (bU s r).1 c (n+1):=by have a:=Yg (r:=r) h.R.ok;refine⟨wh h.R b,a.1.trans h.cfg,?_⟩;have f:=h.kept;have d:=a.2;rw[h.cfg]at d;grind
theorem MK.run(h:MK s c n):∀{rs:List Rp},(∀r∈rs,∀e∈r.evs,aG e.value)->MK (dv s rs) c (n+rs.length):=by intro rs;induction rs generalizing s n with
  | nil=>intro _;exact h
  | cons r rs ih=>intro a;have:=ih (h.step (r:=r) (a r (DT ..))) λx b=>a x (DG _ b);rw[CU,show n+(rs.length+1)=n+1+rs.length by omega];exact this
theorem Yh{xs:List Rx}(a:fH c=true)(e:grR c xs=false):c.cells.toNat<=200:=by
 have b:=(vQ a);have d:1<=c.cells/\c.cells<=1024:=by unfold fH at a;grind
 grind [grR,grC]
theorem MK.few(h:MK s c n)(b:c.cells.toNat<=200)(a:n<=4000):s.kept.length<=800000:=by have:=h.kept;have d:c.cells.toNat*n<=200*4000:=Nat.mul_le_mul b a;omega
theorem Dy{H0:aC}(hs:aH (old H0) Q)(h:aA H (Q::F)):eB H0 H:=(KG.old H0).sub hs H F h
structure Gg where
 o:ZX
 s:aL
 p:Pb
 pend:List Ou
 recs:Int
 saved:Bool
 num:Int
 hS:Int
 rl:RL
 rows:DR
 syn:Nat
def cI(g:Gg)(r:Rp):Gg×Int:=
 if (bU g.s r).2.2≠0 then (g,(bU g.s r).2.2) else
 ({ g with s:=(bU g.s r).1,pend:=g.pend++(bU g.s r).2.1.flatMap dp,recs:=g.recs+1,rl:=dD g.rows g.rl ⟨r.kind,r.bytes⟩,rows:=gS g.rows g.rl ⟨r.kind,r.bytes⟩ },0)
structure iT(g:Gg):Prop where
 R:FB g.s
 kept:g.s.kept.length<=800000
 rl:g.rl.ok
 rows:g.rows.length<=549755813888
 hS:g.rl.hS<2147483647
 recs:0<=g.recs/\g.recs<=1000000000
 pend:g.pend.length<=1000000000
 o_:kh g.p
structure GA where
 x:GAd
 pb:Nat
 ys:List Oy
def kx(Q:aF)(gb db:Nat)(g:Gg):aF:=F6 λy:GA=>star [DB (y.x.pv=PA y.pb 0/\y.ys.map Oy.o=g.pend/\∀z∈y.ys,fP Q z),ax gb (lY g.o y.x y.ys.length g.recs) 271,p_ Q y.x.sb g.s,
 ay 266 11 y.x.pa y.ys.length y.x.pc (flat bV y.ys),zx y.x.bb y.x.rb g.saved g.num g.hS,km y.x.rb db g.rl,eG db g.rows g.syn,FN y.pb g.p]
section
variable {F L:List aF}{H:aC}{K:KE}{Q:aF}{gb db:Nat}{g:Gg}
theorem iv:aA H (kx Q gb db g::F)↔∃(x:GAd) (pb:Nat) (ys:List Oy),x.pv=PA pb 0/\ys.map Oy.o=g.pend/\(∀z∈ys,fP Q z)/\ aA H (ax gb (lY g.o x ys.length g.recs) 271::p_ Q x.sb g.s::ay 266 11 x.pa ys.length x.pc (flat bV ys)::zx x.bb x.rb g.saved g.num g.hS::km x.rb db g.rl::eG db g.rows g.syn::FN pb g.p::F):=by
 unfold kx;rw[cw];constructor;.intro⟨y,h⟩;let⟨a,h⟩:=qe.1 (aA.open h);exact⟨y.x,y.pb,y.ys,a.1,a.2.1,a.2.2,h⟩
 intro⟨x,pb,ys,h1,h2,h3,h⟩;exact⟨⟨x,pb,ys⟩,aA.shut [_,_,_,_,_,_,_,_] (h.DB ⟨h1,h2,h3⟩)⟩
theorem qI{A B:aF}(h:aA H (B::A::F)):aA H (A::B::F):=h.o [1,0] 2
theorem Dz{s:aL}{r:Rp}(R:FB s)(j:∀e∈r.evs,aG e.value):(∀e∈(bU s r).2.1,e.kind=4->WC e.out.2/\e.out.1.g_.size<=1000000)/\(bU s r).2.1.length<=1000000:=by
 constructor
 .refine qH (P:=λq=>∀e∈q.2.1,e.kind=4->WC e.out.2/\e.out.1.g_.size<=1000000) (λ_ e a=>cS a eh) (λ_ _ e a=>cS a eh) (λ_ _ _ e a=>cS a eh) (λ_ _ _ e a f=>?_) (λ_ _ _ e a=>cS a eh) (λ_ _ _ e a f=>?_) (λ_ _ _ e a=>cS a eh) (λ_ _ _ e a f=>?_) (λ_ _ _ e a=>cS a eh);.grind [WH]
  .grind [WG]
  obtain⟨q,c,rfl⟩:=XR a;have c:q<(ip s.next (gD s r.nw) (gD s r.nw).length).length:=c;have b:q<(gD s r.nw).length:=by grind [qE]
  have h:(ip s.next (gD s r.nw) (gD s r.nw).length)[q].out=(gD s r.nw)[q]:=by grind [Dp]
  have hm:(gD s r.nw)[q]∈s.cm:=yZ (yE (s_ b));have d:=R.cm _ hm;show WC (ip s.next (gD s r.nw) (gD s r.nw).length)[q].out.2/\(ip s.next (gD s r.nw) (gD s r.nw).length)[q].out.1.g_.size<=1000000;rw[h];have:=d.size;exact⟨d.wc,ez⟩
 cases hR:r.right with
  | false=>
  have:(bU s r).2.1=[]:=by unfold bU;grind
  grind
  | true=>have i:=Rp.DK hR;have:(bU s r).2.1.length<=2000:=Dx R.ok ez;omega
theorem D1{r:Rp}{a:KQ}{c:Nat}{evs:List Ev}(ok:iT g)(b:pJ Q F r a evs)(h:aA H (Q::kx Q gb db g::F)) (k:∀Q' d,aH Q Q'->aA d (Q'::kx Q' gb db (cI g r).1::F)->K (aD (cI g r).2) d):CF 127 #[PA gb 0,.agg ⟨dq r a c⟩] H K:=by
 let⟨x,pb,ys,e1,e2,e3,h⟩:=iv.1 (h.o [1,0] 2);have m:ys.length=g.pend.length:=by grind
 have i:=Dz (r:=r) ok.R b.GJ;have f:pJ Q (FN pb g.p::F) r a evs:=⟨b.eq,λH h=>b.rd H h.tl,b.labs,b.len,b.GJ⟩;have h:=h.o [7,0,1,2,3,4,5,6] 8;refine MG ok.R.ok (by have:=ok.R.sunk;omega) (by have:=ok.kept;omega) f i.1 i.2 ok.rl ok.rows ok.hS ok.recs (by have:=ok.pend;omega) e3 h (λj Q' d hs h=>?_) λj Q' n pa pc d hs hm e h=>?_;.unfold cI at k;rw[c_ j]at k;refine k Q' _ hs ?_;have h:=h.o [1,2,3,4,5,6,7,0] 8;exact qI (iv.2 ⟨x,pb,ys,e1,e2,λz s=>(e3 z s).sub hs,h⟩)
 unfold cI at k;rw[b_ (by grind)]at k;refine k Q' _ hs ?_;have h:=h.o [1,2,3,4,5,6,7,0] 8;exact qI (iv.2 ⟨{ x with pa:=pa,pc:=pc },pb,n,e1,by rw[hm,e2],e,h⟩)
def pT(next:Int):Rp:=⟨7,0,0,0,next,0,0,bT.z,[]⟩
def fK(now:Int):Rp:=⟨6,0,0,0,0,0,now,bT.z,[]⟩
theorem ag6{r:Rp}(h:r.evs=[]):pJ Q F r none []:=⟨by rw[h];rfl,λH _=>fN H none,λe a=>cS a eh,eh,λe a=>by rw[h]at a;cases a⟩
theorem Yi{next:Int}(ok:iT g)(h:aA H (Q::kx Q gb db g::F)) (k:∀Q' a,aH Q Q'->aA a (Q'::kx Q' gb db (cI g (pT next)).1::F)->K (aD (cI g (pT next)).2) a):CF 64 #[PA gb 0,aD next] H K:=by refine cM 64 28 (D1 (r:=pT next) ok (ag6 rfl) h λQ' a hs h=>⟨_,rfl,k Q' _ hs h⟩)
theorem Om(ok:iT g)(h:aA H (kx Q gb db g::F))(k:∀sb a,aA a (p_ Q sb g.s::kx Q gb db g::F)->K (PA sb 0) a):CF 67 #[PA gb 0] H K:=by let⟨x,pb,ys,e1,e2,e3,h⟩:=iv.1 h;refine cM 67 28 ⟨some ⟨x.sb,0,none⟩,h.r 0,?_⟩;have h:=h.o [1,0,2,3,4,5,6] 7;refine VT (by have:=ok.kept;omega) ok.R.ok h λsb b h=>⟨_,rfl,k sb _ ?_⟩;have h:=h.o [2,1,3,4,5,6,7,0] 8;exact qI (iv.2 ⟨x,pb,ys,e1,e2,e3,h⟩)
def lg(f:Fq)(agent now asked:Int):Rp:=
 if f.kind=1 then ⟨2,agent,f.ep,f.bt,0,0,now,bT.z,[]⟩ else
 if f.kind=4 then ⟨3,agent,f.ep,0,0,0,0,⟨asked,f.CV,f.hY,now⟩,[]⟩ else
 if f.kind=5 then ⟨4,agent,f.ep,0,f.next,0,now,bT.z,f.evs⟩ else ⟨5,agent,f.ep,0,f.next,f.stamp,now,bT.z,[]⟩
def mP(g:Gg)(f:Fq)(agent now:Int):Gg×Int:=
 if ¬(f.kind=1\/f.kind=4\/f.kind=5\/f.kind=7) then (g,16) else
 if f.ag≠agent then (g,10) else
 if f.kind=4 then
  if (fI g.p agent f.ep f.bt f.ct).2.1≠0 then ({ g with p:=(fI g.p agent f.ep f.bt f.ct).2.2 },(fI g.p agent f.ep f.bt f.ct).2.1)
  else cI { g with p:=(fI g.p agent f.ep f.bt f.ct).2.2 } (lg f agent now (fI g.p agent f.ep f.bt f.ct).1)
 else cI g (lg f agent now 0)
def om(g:Gg)(agent now:Int)(bs:List Int):Gg×Int:=match cX bs with
 | .error e=>(g,e)
 | .ok f=>mP g f agent now
theorem D2{p:Pb}(h:kh p)(ag ep n0 n1:Int):kh (fI p ag ep n0 n1).2.2:=by
 unfold fI;split;.exact h
 split;.exact h
 split;.exact h
 split;.exact h
 refine⟨h.count,h.most,?_,h.last,h.boot⟩;have:=h.out;grind
theorem wi{Q':aF}(hs:aH Q Q')(h:aA H (kx Q gb db g::F)):aA H (kx Q' gb db g::F):=by let⟨x,pb,ys,e1,e2,e3,h⟩:=iv.1 h;have h:=tZ hs (h.o [1,0,2,3,4,5,6] 7);exact iv.2 ⟨x,pb,ys,e1,e2,λz a=>(e3 z a).sub hs,h.o [1,0,2,3,4,5,6] 7⟩
theorem On:∀{n:Nat} {s s':RS} {l:List Pv},j6 n s=.ok (l,s')->∀e∈l,aG e.value
 | 0,s,s',l,h=>by cases h;simp
 | n+1,s,s',l,h=>by
  unfold j6 at h
  split at h
  .cases h
  .rename_i d s1 c
   split at h
   .cases h
   .rename_i v s2 b
    cases h
    intro e a
    rcases DA.1 a with a|a
    .exact On c e a
    .rw [CS]at a;subst a;unfold evQ FO at b
     split at b
     .cases b
     .cases b
      exact tM _
theorem D3{bs:List Int}{f:Fq}(h:cX bs=.ok f):dQ f=true:=by
 unfold cX at h;split at h;.cases h
 split at h;.cases h
 unfold nR at h;split at h;.cases h
 split at h;.cases h
 unfold Xm at h;grind
theorem Oo{bs:List Int}{f:Fq}(h:cX bs=.ok f):∀e∈f.evs,aG e.value:=by
 unfold cX at h;split at h;.cases h
 split at h;.cases h
 unfold nR at h;split at h;.cases h
 split at h;.cases h
 rename_i d s1 j x2 i s2 k;unfold Xm at h;split at h;.cases h
 rename_i f' s3 a;split at h;.cases h
 split at h
 .cases h;let⟨a1,a2,a3,a4,a5⟩:=yu (aU d) i { kind:=d };unfold lV at a;split at a
  .split at a;.cases a
   rename_i l s4 c;cases a;unfold mM at c;split at c;.cases c
   exact On c
  split at a
  .split at a;.cases a
   unfold FO at a;split at a;.cases a
   cases a;intro e b;dsimp only at b;rw[a2]at b;cases b
  cases a;intro e b;rw[a2]at b;cases b
 cases h
theorem Yj{agent now:Int}{a:KQ}{c:Nat}{bs:List Int}(ok:iT g)(h:aA H (Q::kx Q gb db g::F))(ha:∀H,aA H (Q::F)->aQ H a (bs.map U8))(hb:aI bs)(v:bs.length<=c)
  (k:∀Q' w,aH Q Q'->aA w (Q'::kx Q' gb db (om g agent now bs).1::F)->K (aD (om g agent now bs).2) w) :
  CF 117 #[PA gb 0,aD agent,aD now,.slice a bs.length c] H K:=by
 refine cN 117 0x11d1215174174174134cd2171d49c [[],[],[],[]] (yF h (λH h=>ha H (h.o [0] 2)) hb v ?_)
 unfold om at k
 cases hd:cX bs with
 | error e=>
  rw[hd]at k;intro Q' H1 j hs h;refine⟨_,_,_,_,_,_,_,_,_,_,_,_,_,_,_,_,_,_,_,_,_,rfl,h.al λb _ h=>h.st 0 rfl rfl λH2 h=>⟨λ_=>?_,λv=>cS (by grind) j⟩⟩
  exact k Q' _ hs (qI (wi hs (qI h.tl)))
 | ok f=>
  rw[hd]at k;dsimp only at k;have G:=Oo hd;intro Q' x evs H1 hs h6 h8 J h;refine⟨_,_,_,_,_,_,_,_,_,_,_,_,_,_,_,_,_,_,_,_,_,rfl,h.al λb _ h=>h.st 0 rfl rfl λH2 h=>⟨λv=>cS v eh,λ_=>⟨_,h.r 0,h.al λb1 _ h=>h.st 0 rfl rfl λH3 h=>⟨_,h.r 1,?_⟩⟩⟩⟩
  have h:aA H3 (ax b1 (dq ⟨0,agent,f.ep,0,0,0,now,bT.z,[]⟩ none 0) 281::ax b (cT f x) 99::Q'::ay 69 4 x.ea evs.length x.ec (flat bH evs)::kx Q gb db g::F):=h;have h:=wi hs (h.o [4,0,1,2,3] 5);have h:=h.o [1,2,3,4,0] 5;have r0:f.evs.length=evs.length:=by grind
  have U:evs.length<=1000000:=by
   by_cases A:f.kind=5
   .grind [L5,D3]
   .have:=(J.ev A).1
    grind
  intro Jn hJ;have W:∀(Z:Gg) (r:Rp) (n:KQ) (rc:Nat) (s:List Ev) w,iT Z->mP g f agent now=cI Z r->r.evs=s.map Ev.p->(s=[]/\n=none\/s=evs/\n=x.ea)->(∀e∈r.evs,aG e.value)->
    aA w (ax b1 (dq r n rc) 281::ax b (cT f x) 99::Q'::ay 69 4 x.ea evs.length x.ec (flat bH evs)::kx Q' gb db Z::F)->
    ∃f0 f1 f2 f3 f4 f5 f6 f7 f8 f9 V P S O,bE w b1 0 [aD f0,aD f1,aD f2,aD f3,aD f4,aD f5,aD f6,aD f7,aD f8,aD f9,aD V,.slice P S O]/\
     CF 127 #[PA gb 0,.agg #[aD f0,aD f1,aD f2,aD f3,aD f4,aD f5,aD f6,aD f7,aD f8,aD f9,aD V,.slice P S O]] w λu H2=>∃M,u=aD M/\K (aD M) H2:=by
   intro Z r n rc s w j3 m j d hv h;refine⟨_,_,_,_,_,_,_,_,_,_,_,_,_,_,h.q 0,?_⟩;have h:=h.o [2,4,0,1,3] 5;have hr:pJ Q' (ax b1 (dq r n rc) 281::ax b (cT f x) 99::ay 69 4 x.ea evs.length x.ec (flat bH evs)::F) r n s:=by
    rcases d with ⟨rfl,rfl⟩|⟨rfl,rfl⟩
    .exact⟨j,λH h=>fN H none,λe j=>cS j eh,eh,hv⟩
    .exact⟨j,λH h=>h.a_ 2 rfl,h8,U,hv⟩
   refine D1 j3 hr h λQ2 H2 j1 h=>⟨_,rfl,?_⟩
   rw[m]at k;exact k Q2 _ (hs.trans j1) (h.o [0,1] 5)
  have C:f.kind=1\/f.kind=4\/f.kind=5\/f.kind=7->f.ag=agent->f.kind≠4->mP g f agent now=cI g (lg f agent now 0):=by
   intro B h2 h3;unfold mP
   grind
  have rest:∀(r:Rp) (n:KQ) (rc:Nat) (s:List Ev) w,(f.kind=1\/f.kind=4\/f.kind=5\/f.kind=7)->(f.kind≠4->r=lg f agent now 0)->(f.kind=4->r=⟨3,agent,f.ep,0,0,0,0,bT.z,[]⟩)->r.evs=s.map Ev.p->(s=[]/\n=none\/s=evs/\n=x.ea)->(∀e∈r.evs,aG e.value)->
    aA w (ax b1 (dq r n rc) 281::ax b (cT f x) 99::Q'::ay 69 4 x.ea evs.length x.ec (flat bH evs)::kx Q' gb db g::F)->Jn w:=by
   intro r n rc s w hk j2 t j d hv h;refine hJ _ ⟨_,h.r 1,λv=>?_,λv=>?_⟩
   .have m:mP g f agent now=(g,10):=by unfold mP;grind
    rw[m]at k;exact k Q' _ hs (h.o [2,4] 5)
   have h0:f.ag=agent:=by grind
   refine⟨_,h.r 1,?_⟩;intro l6 L;refine⟨λi=>?_,λi=>L _ ?_⟩
   .have i:=ke i;have hr:=t i;subst hr;have N:s=[]:=by grind
    have h9:n=none:=by
     rcases d with ⟨_,e⟩|⟨e1,e2⟩
     .exact e
     .rw [e2];exact (J.ev ez).2.1
    subst N h9;obtain⟨y,pb,ys,e1,e2,e3,h⟩:=iv.1 (h.o [4,0,1,2,3] 5);refine⟨some ⟨pb,0,none⟩,(h.r 0).trans (by show some y.pv=_;rw[e1]),_,h.r 8,_,h.r 8,_,h.r 8,?_⟩;have h:=h.o [6,0,1,2,3,4,5,7,8,9,10] 11;have m:mP g f agent now=if (fI g.p agent f.ep f.bt f.ct).2.1≠0 then ({ g with p:=(fI g.p agent f.ep f.bt f.ct).2.2 },(fI g.p agent f.ep f.bt f.ct).2.1) else cI { g with p:=(fI g.p agent f.ep f.bt f.ct).2.2 } (lg f agent now (fI g.p agent f.ep f.bt f.ct).1):=by
     unfold mP
     grind
    refine VS ok.o_ h λY h=>⟨_,_,rfl,λv=>?_,λv=>?_⟩
    .have v:(fI g.p agent f.ep f.bt f.ct).2.1≠0:=by grind
     rw[c_ v]at m;rw[m]at k;refine k Q' _ hs (qI ((iv (g:={ g with p:=(fI g.p agent f.ep f.bt f.ct).2.2 })).2 ⟨y,pb,ys,e1,e2,e3,h.o [1,2,3,4,5,6,0,9] 11⟩))
    have v:(fI g.p agent f.ep f.bt f.ct).2.1=0:=by grind
    rw[b_ (by grind)]at m;refine⟨_,h.r 8,_,h.r 8,h.st 7 rfl rfl λH5 h=>⟨h.r 8,h.r 8,h.st 7 rfl rfl λH6 h=>⟨h.r 8,h.st 7 rfl rfl λH7 h=>h.st 7 rfl rfl λH8 h=>L _ ?_⟩⟩⟩
    have hg:=(iv (g:={ g with p:=(fI g.p agent f.ep f.bt f.ct).2.2 })).2 ⟨y,pb,ys,e1,e2,e3,h.o [1,2,3,4,5,6,0,7,8,9,10] 11⟩;have eR:lg f agent now (fI g.p agent f.ep f.bt f.ct).1=⟨3,agent,f.ep,0,0,0,0,⟨(fI g.p agent f.ep f.bt f.ct).1,f.CV,f.hY,now⟩,[]⟩:=by
     unfold lg
     grind
    rw[eR]at m;exact W { g with p:=(fI g.p agent f.ep f.bt f.ct).2.2 } _ none rc [] _ ⟨ok.R,ok.kept,ok.rl,ok.rows,ok.hS,ok.recs,ok.pend,D2 ok.o_ _ _ _ _⟩ m rfl (.inl ⟨rfl,rfl⟩) (λe j=>cS j eh) (hg.o [1,2,3,4,0] 5)
   .have i:=ix i;have m:=C hk h0 i;rw[<-j2 i]at m;exact W g r n rc s _ ok m j d hv h
  refine⟨λB=>?_,λB=>?_⟩
  .have B:=ke B;refine⟨_,h.r 1,h.st 0 rfl rfl λY h=>⟨h.r 1,h.st 0 rfl rfl λH5 h=>rest ⟨2,agent,f.ep,f.bt,0,0,now,bT.z,[]⟩ none 0 [] _ (.inl B) (λ_=>by unfold lg;grind) (λt=>ez) rfl (.inl ⟨rfl,rfl⟩) (λe j=>cS j eh) h⟩⟩
  have B:=ix B;intro l0 E;refine⟨λt=>?_,λt=>?_⟩
  .have t:=ke t;refine h.st 0 rfl rfl λY h=>h.st 0 rfl rfl λH5 h=>E _ (rest ⟨3,agent,f.ep,0,0,0,0,bT.z,[]⟩ none 0 [] _ (.inr (.inl t)) (λhn=>cS t hn) (λ_=>rfl) rfl (.inl ⟨rfl,rfl⟩) (λe j=>cS j eh) h)
  have t:=ix t;intro l5 T;refine⟨λA=>?_,λA=>⟨λI=>?_,λI=>?_⟩⟩
  .have A:=ke A;refine⟨_,h.r 1,_,_,_,h.r 1,h.st 0 rfl rfl λY h=>⟨h.r 1,h.r 1,h.st 0 rfl rfl λH5 h=>⟨h.r 1,h.st 0 rfl rfl λH6 h=>T _ (E _ (rest ⟨4,agent,f.ep,0,f.next,0,now,bT.z,f.evs⟩ x.ea x.ec evs _ (.inr (.inr (.inl A))) (λ_=>by unfold lg;grind) (λD=>cS D t) h6 (.inr ⟨rfl,rfl⟩) G h))⟩⟩⟩
  .have I:=ke I;have A:=ix A;refine⟨_,h.r 1,_,h.r 1,h.st 0 rfl rfl λY h=>⟨h.r 1,h.r 1,h.st 0 rfl rfl λH5 h=>⟨h.r 1,h.st 0 rfl rfl λH6 h=>T _ (E _ (rest ⟨5,agent,f.ep,0,f.next,f.stamp,now,bT.z,[]⟩ none 0 [] _ (.inr (.inr (.inr I))) (λ_=>by unfold lg;grind) (λD=>cS D t) rfl (.inl ⟨rfl,rfl⟩) (λe j=>cS j eh) h))⟩⟩⟩
  .have A:=ix A;have I:=ix I;have m:mP g f agent now=(g,16):=by unfold mP;grind
   rw[m]at k;exact k Q' _ hs (h.o [2,4] 5)
end
theorem su{g:Ag}{rd:Int}(ok:dJ g):dJ (bD g rd).1:=by
 unfold bD;split;.exact ok
 split;.exact ok
 rename_i h;refine⟨ok.id,ok.most,ok.boot,ok.ep,?_,ok.seq,ok.kept,ok.o_,ok.drop,λe a=>?_⟩;.have:=ok.ck;grind
 have:=ok.evs e a;grind
theorem afg(h:cX d=.ok f)(a:f.kind=6):0<=f.next/\f.next<=4611686018427387903:=by have h:=D3 h;unfold dQ at h;simp only[q_,XQ]at h;have:=h.1.2 7 (by unfold aU;grind);simpa[Hp,Fq.nums] using this
theorem Yk{g:Ag}{rd:Int}(ok:dJ g)(h:aA H (Q::FQ Q n g::F))(M:∀H,aA H (Q::F)->aQ H D (d.map U8))(hb:aI d)(w:d.length<=k) (c:∀Q' bs,aH Q Q'->aA bs (Q'::FQ Q' n (kX g rd d).1::F)->K (aD (kX g rd d).2) bs) : CF 119 #[PA n 0,aD rd,.slice D d.length k] H K:=by
 let⟨x,evs,I,J,h⟩:=dr.1 (h.o [1,0] 2);let⟨o1,o2,o3,o4,o5,o6,o7,o8⟩:=se g rd;have ab:=su (rd:=rd) ok;refine cM 119 0x121b1ddd21513cbc (C0 (rd:=rd) h λC h=>⟨_,rfl,?_⟩);unfold kX at c;have h:=bY (dr.2 ⟨x,evs,o1.symm▸I,J,by rw[o1,o2];exact h.o [0,1,2,3] 4⟩);refine⟨λw=>?_,λw=>?_⟩;.rw [c_ (by grind)]at c;exact c Q _ (aH.refl Q) h
 rw[b_ (by grind)]at c;refine yF h (λH h=>M H (h.o [0] 2)) hb ‹_› ?_;generalize (bD g rd).1=G at *;cases hd:cX d with
  | error e=>rw[hd]at c;intro Q' C L hs h;refine⟨_,_,_,_,_,_,_,_,_,_,_,_,_,_,_,_,_,_,_,_,_,rfl,h.al λb _ h=>h.st 0 rfl rfl λu h=>⟨λ_=>?_,λB=>cS (by grind) L⟩⟩;exact c Q' _ hs (bY (yG hs (h.o [2,1] 3)))
  | ok f=>
  rw[hd]at c;intro Q' y v C hs E N a h;refine⟨_,_,_,_,_,_,_,_,_,_,_,_,_,_,_,_,_,_,_,_,_,rfl,h.al λb _ h=>h.st 0 rfl rfl λu h=>⟨λB=>cS B eh,λ_=>?_⟩⟩;have h:aA u (ax b (cT f y) 99::Q'::ay 69 4 y.ea v.length y.ec (flat bH v)::FQ Q n G::F):=h;have h:=yG hs (h.o [3,0,1] 4);have fin:∀(r:Ag×Int) bs,r=TP G f->aA bs (FQ Q' n r.1::ax b (cT f y) 99::Q'::F)->K (aD r.2) bs:=by intro r bs rfl h;exact c Q' _ hs (h.o [2,0] 3)
  refine⟨_,h.r 1,_,λ_=>h.r 1,_,λ_=>h.r 1,λA=>?_,λA=>?_⟩;.exact fin (G,16) _ (by unfold TP;grind) h
  have A:¬¬(f.kind=2\/f.kind=3\/f.kind=6):=by grind
  let⟨z,s,z1,z2,h⟩:=dr.1 h;refine⟨_,h.r 3,_,h.r 0,?_⟩;have h:=dr.2 ⟨z,s,z1,z2,h⟩;refine⟨λt=>?_,λt=>?_⟩;.exact fin (G,10) _ (by unfold TP;grind) h
  have t:¬f.ag≠G.id:=by grind
  refine⟨_,h.r 1,λj=>?_,λj=>?_⟩;.have j:=ke j;refine⟨_,_,_,_,_,_,_,_,_,_,_,_,_,_,_,_,_,_,_,_,h.q 1,agc h λbs r i h=>⟨_,rfl,fin r _ ?_ h⟩⟩;rw[i];unfold TP;grind
  have j:=ix j;refine⟨λm=>?_,λm=>?_⟩;.have m:=ke m;refine⟨_,_,_,_,_,_,_,_,_,_,_,_,_,_,_,_,_,_,_,_,h.q 1,afW ab h λbs r i h=>⟨_,rfl,fin r _ ?_ h⟩⟩;rw[i];unfold TP;grind
  have m:=ix m;refine⟨_,_,_,_,_,_,_,_,_,_,_,_,_,_,_,_,_,_,_,_,h.q 1,ake ab (afg hd ez).1 h λbs r i h=>⟨_,rfl,fin r _ ?_ h⟩⟩;rw[i];unfold TP;grind
theorem jW.on{L:List aF}{x:QA}(h:jW F f x P)(m:∀H,aA H L->aA H F):jW L f x P:=⟨h.eq,⟨λH a=>h.ev.rd H (m H a),λe b H a=>h.ev.labs e b H (m H a)⟩,λH a=>h.lab H (m H a),λH a=>h.dat H (m H a),h.dA,h.sh,h.el,h.ll,h.sl,h.dl⟩
def oo(Q:aF)(ys:List Fy):Prop:=∀y∈ys,DE Q y.a (y.bs.map U8)
theorem oo.sub{Q Q':aF}{ys:List Fy}(h:oo Q ys)(hs:aH Q Q'):oo Q' ys:=λy a=>(h y a).sub hs
abbrev ag9(ob:Nat)(oa:KQ)(oc:Nat)(ys:List Fy):aF:=ax ob [.slice oa ys.length oc] 42
abbrev ED(oa:KQ)(oc:Nat)(ys:List Fy):aF:=ay 63 1 oa ys.length oc (ys.map cD)
theorem D4(p:As):(l8 p).length=3:=rfl
theorem agY:Fh Tryz.prog 42 63 1 24:=fU kf
section
variable {F L:List aF}{H:aC}{K:KE}{Q Q':aF}{g:Ag}{ab ob:Nat}{x:AgX}
theorem zd{kd:Int}(h:aA H L)(i:Nat)(c:aX i L=ax ab (eZ g x) 208)(k:∀a,aA a L->K (.agg ⟨cT { kind:=kd,ag:=g.id,ep:=g.ep } {}⟩) a):CF 197 #[PA ab 0,aD kd] H K:=by
 refine cM 197 28 (h.al λb _ h=>⟨_,h.rd (i+1) c _,_,h.rd (i+1) c _,h.st 0 rfl rfl λd h=>⟨_,_,_,_,_,_,_,_,_,_,_,_,_,_,_,_,_,_,_,_,h.q 0,k _ h.tl⟩⟩)
theorem Yl{f:Fq}{y:QA}{evs:List Ev}{u:KQ}{t:Nat}{ys:List Fy}(r:jW (Q::F) f y evs)(D:ys.length<=1000)(v:oo Q ys)(h:aA H (Q::ag9 ob u t ys::ED u t ys::F)) (k:∀Q' s d i x,aH Q Q'->s.map Fy.bs=ys.map Fy.bs++j7 f->(jK f≠0->Q'=Q/\s=ys/\d=u/\i=t)->oo Q' s->aA x (Q'::ag9 ob d i s::ED d i s::F)->K (aD (jK f)) x):CF 195 #[.agg ⟨cT f y⟩,PA ob 0] H K:=by
 refine cN 195 287405212 [[]] (h.al λb _ h=>⟨_,_,_,_,_,_,_,_,_,_,_,_,_,_,_,_,_,_,_,_,h.q 0,Ch h (r.on λH h=>h.o [1] 4) λc a G h=>⟨_,_,_,_,rfl,?_⟩⟩);intro E w;refine⟨λj=>?_,λj=>w _ ?_⟩
 .have j:=ke j;refine⟨_,_,_,h.r 3,h.al λb1 _ h=>h.append (m:=1) (ws:=[cD ⟨c,a,cO f⟩]) agY 5 rfl (h.ew 0 rfl) rfl rfl ez ez λa5 c5 C h=>⟨_,_,_,rfl,h.st 4 rfl rfl λB h=>w _ ?_⟩⟩;have e:ys.length+1=(ys++[(⟨c,a,cO f⟩:Fy)]).length:=eh;have e2:ys.map cD++[cD ⟨c,a,cO f⟩]=(ys++[(⟨c,a,cO f⟩:Fy)]).map cD:=eh;have h:aA B (ax b1 [cD ⟨c,a,cO f⟩] 63::ay 5 1 c (cO f).length a ((cO f).map U8)::ax b (cT f y) 99::Q::ax ob [.slice a5 (ys.length+1) c5] 42::ay 63 1 a5 (ys.length+1) c5 (ys.map cD++[cD ⟨c,a,cO f⟩])::F):=h;rw[e,e2]at h;refine k (ay 5 1 c (cO f).length a ((cO f).map U8)*Q) (ys++[(⟨c,a,cO f⟩:Fy)]) a5 c5 _ (aH.add _ Q) (by unfold j7;grind) (λA=>cS j A) (λz n=>?_) ?_
  .rcases DA.1 n with n|n;.exact (v z n).sub (aH.add _ Q)
   rw [CS]at n;subst n;exact DE.sl
  have h:=h.o [1,3,4,5] 6;exact iu.2 h
 have j:=ix j;exact k Q ys u t _ (aH.refl Q) (by unfold j7;grind) (λ_=>⟨rfl,rfl,rfl,rfl⟩) v (h.o [2,3,4] 5)
theorem fq0{F:List aF}{f:Fq}(b:f.evs=[])(j:f.sn=⟨#[]⟩)(c:f.sl=[])(d:f.data=[])(h:∀i,1<=i->i<=9->i∉aU f.kind->f.nums i=0):jW F f {} []:=
 ⟨b,⟨λH _=>fN H none,λe a=>cS a eh⟩,λH _=>by rw[c];exact fN H none,λH _=>by rw[d];exact fN H none,.inl rfl,⟨λ_=>⟨b,rfl,rfl⟩,λ_=>⟨j,c,rfl,rfl,d,rfl,rfl⟩,h⟩,eh,λe a=>cS a eh,by grind,by grind⟩
theorem ze{P:Nat->Prop}(h:P 1/\P 2/\P 3/\P 4/\P 5/\P 6/\P 7/\P 8/\P 9):∀i,1<=i->i<=9->P i:=by let⟨a,b,c,d,e,f,g,h,j⟩:=h;intro i k m;match i,k,m with
  | 1,_,_=>exact a|2,_,_=>exact b|3,_,_=>exact c|4,_,_=>exact d|5,_,_=>exact e|6,_,_=>exact f|7,_,_=>exact g|8,_,_=>exact h|9,_,_=>exact j
abbrev MA(Q0:aF)(ob:Nat)(H:aC)(G:List aF)(l:List (List Int)):Prop:=∃Q' ys oa oc,aH Q0 Q'/\ys.map Fy.bs=l/\oo Q' ys/\aA H (Q'::ag9 ob oa oc ys::ED oa oc ys::G)
theorem wj(f:Fq):(j7 f).length<=1:=by grind [j7]
theorem D5{α:Type}(f:α->Fq)(l:List α):(l.flatMap λp=>j7 (f p)).length<=l.length:=by
 induction l with
 | nil=>simp
 | cons a l ih=>grind [wj]
theorem Ym{rd:Int}(ok:dJ g)(h:aA H (Q::FQ Q ab g::F))
  (k:∀Q' ys a c d,aH Q Q'->ys.map Fy.bs=(gU g rd).2.1->oo Q' ys->aA d (Q'::ED a c ys::FQ Q' ab (gU g rd).1::F)->K (.tuple #[.slice a ys.length c,aD (gU g rd).2.2]) d) :
  CF 116 #[PA ab 0,aD rd] H K:=by
 obtain⟨x,evs,O,S,h⟩:=dr.1 (h.o [1,0] 2);obtain⟨o1,o2,o3,o4,o5,o6,o7,o8⟩:=se g rd;have b:=su (rd:=rd) ok;refine RK ?_;refine C0 (rd:=rd) h λH1 h=>⟨_,rfl,?_⟩
 unfold gU at k;rw[<-o4]at k;rw[<-o1,<-o2]at h;rw[<-o1]at O;generalize hG:(bD g rd).1=G at *;refine⟨λL=>?_,λL=>?_⟩
 .rw [c_ (by grind)]at k;have h:=h.o [3,0,1,2] 4;exact k Q [] none 0 _ (aH.refl Q) rfl (λy N=>cS N (by simp)) (((h.o [1,2,3,0] 4) |> λh=>bY (dr.2 ⟨x,evs,O,S,h⟩)).cp 63 1 |> bY)
 rw[b_ (by grind)]at k;have l5:G.kept.length=evs.length:=by grind
 have b2:=b.kept;have b3:=b.o_;have b4:=b.seq;have b5:=b.evs;refine h.al λob _ h=>?_
 have h0:MA Q ob _ (ax ab (eZ G x) 208::ay 69 4 x.ka G.kept.length x.kc (flat bH evs)::ay 356 3 x.pa G.o_.length x.pc (flat l8 G.o_)::F) []:=
  ⟨Q,[],none,0,aH.refl Q,rfl,λy N=>cS N (by simp),(h.cp 63 1).o [5,1,0,2,3,4] 6⟩
 have snd:∀{f:Fq} {y:QA} {I:List Ev} {fb:Nat} {l:List (List Int)} {M:List aF} {d:aC} {J:KE},(∀Q',aH Q Q'->jW (Q'::M) f y I)->l.length<=500->MA Q ob d M l->(∀B,MA Q ob B M (l++j7 f)->(jK f≠0->MA Q ob B M l)->J (aD (jK f)) B)->CF 195 #[.agg ⟨cT f y⟩,PA ob 0] d J:=by
  rintro f y I fb l M d J r hl ⟨Q',ys,n,i,s1,s2,s3,h⟩ kk;have j2:ys.length=l.length:=by grind
  exact Yl (r Q' s1) (by omega) s3 h λQ2 zs h3 h9 B t1 t2 t3 t4 h5=>kk B ⟨Q2,zs,h3,h9,s1.trans t1,by rw[t2,s2],t4,h5⟩ λZ=>by
   obtain⟨e1,e2,e3,e4⟩:=t3 Z;subst e1 e2 e3 e4;exact⟨_,_,_,_,s1,s2,s3,h5⟩
 refine⟨_,h.r 1,λA=>?_,λA=>?_⟩
 .have A:=ke A;rw[c_ A]at k;refine zd h 1 rfl λB h=>⟨_,_,_,_,_,_,_,_,_,_,_,_,_,_,_,_,_,_,_,_,rfl,h.al λb1 _ h=>h.st 0 rfl rfl λW h=>⟨_,h.r 2,h.st 0 rfl rfl λP h=>⟨_,_,_,_,_,_,_,_,_,_,_,_,_,_,_,_,_,_,_,_,h.q 0,by kernel_rfl,?_⟩⟩⟩
  have h0:MA Q ob P (ax ab (eZ G x) 208::ay 69 4 x.ka G.kept.length x.kc (flat bH evs)::ay 356 3 x.pa G.o_.length x.pc (flat l8 G.o_)::F) []:=
   ⟨Q,[],none,0,aH.refl Q,rfl,λy N=>cS N (by simp),(h.tl.cp 63 1).o [5,1,0,2,3,4] 6⟩
  refine snd (f:={ kind:=1,ag:=G.id,ep:=G.ep,bt:=G.boot }) (y:={}) (I:=[]) (fb:=0) (λ_ _=>fq0 rfl rfl rfl rfl (ze (by grind [aU,Fq.nums]))) (by simp) h0 λH5 D _=>⟨_,rfl,?_⟩
  obtain⟨Q',ys,n,i,s1,s2,s3,h⟩:=D;refine⟨_,_,_,h.r 1,k Q' ys n i _ s1 ?_ s3 ?_⟩
  .rw [s2];unfold vT;grind
  .have:=dr.2 ⟨x,evs,O,λe E=>(S e E).sub s1,h.o [3,4,5,0,2] 6⟩
   exact this.o [1,2,0] 3
 have A:=ix A;rw[b_ A]at k;refine⟨_,_,_,h.r 1,?_⟩;refine⟨λt d=>∃j:Nat,t=j/\j<=G.o_.length/\MA Q ob d (ax ab (eZ G x) 208::ay 69 4 x.ka G.kept.length x.kc (flat bH evs)::ay 356 3 x.pa G.o_.length x.pc (flat l8 G.o_)::F) ((G.o_.take j).flatMap λp=>j7 (J_ G p)),λt _=>G.o_.length-t.toNat,⟨0,rfl,by omega,h0⟩,?_⟩
 rintro t B ⟨j,rfl,hj,w,ys,n,i,s1,s2,s3,h⟩;refine⟨λC=>?_,λC=>?_⟩
 .have v:j<G.o_.length:=by grind
  have T:=(h.a_ 5 rfl);have r0:=D5 (J_ G) (G.o_.take j);refine⟨⟨by omega,by omega⟩,_,_,T.some D4 (by decide) v,_,_,_,T.E8 D4 v,h.al λb3 _ h=>h.st 0 rfl rfl λW h=>?_⟩
  refine zd h 4 rfl λP h=>⟨_,_,_,_,_,_,_,_,_,_,_,_,_,_,_,_,_,_,_,_,rfl,h.al λb4 _ h=>h.st 0 rfl rfl λH5 h=>⟨_,h.r 1,_,h.r 1,_,h.r 1,_,h.r 5,h.st 0 rfl rfl λH6 h=>⟨h.r 5,h.r 1,h.r 1,h.st 0 rfl rfl λH7 h=>⟨h.r 5,h.r 1,h.st 0 rfl rfl λH8 h=>⟨h.r 5,h.st 0 rfl rfl λH9 h=>⟨_,_,_,_,_,_,_,_,_,_,_,_,_,_,_,_,_,_,_,_,h.q 0,by kernel_rfl,?_⟩⟩⟩⟩⟩⟩
  refine snd (f:=J_ G G.o_[j]) (y:={}) (I:=[]) (fb:=0) (l:=(G.o_.take j).flatMap λp=>j7 (J_ G p)) (λ_ _=>fq0 rfl rfl rfl rfl (ze (by grind [aU,Fq.nums,J_]))) (by grind) ⟨w,ys,n,i,s1,s2,s3,h.tl.tl⟩ λh7 D _=>⟨_,rfl,?_⟩
  have hw:i64.wrap ((j:Int)+1)=((j+1:Nat):Int):=by grind [aN]
  refine⟨⟨j+1,hw,v,?_⟩,by grind⟩;rw[q1c v,List.flatMap_append,O_,List.flatMap_nil,Hz];exact D
 have C:=ix C;obtain rfl:j=G.o_.length:=by omega
 rw[FE]at s2;have l6:=D5 (J_ G) G.o_;refine h.st 3 rfl rfl λW h=>⟨_,_,_,h.r 3,?_⟩
 generalize hR:(G.o_.flatMap λp=>j7 (J_ G p))=R at *
 have D:MA Q ob W (ax ab (eZ { G with o_:=[] } { x with pa:=none,pc:=0 }) 208::ay 69 4 x.ka G.kept.length x.kc (flat bH evs)::F) R:=
  ⟨w,ys,n,i,s1,s2,s3,h.o [0,1,2,3,4] 6⟩
 clear h
 intro Jn hJ;have fin:∀d,MA Q ob d (ax ab (eZ { G with o_:=[] } { x with pa:=none,pc:=0 }) 208::ay 69 4 x.ka G.kept.length x.kc (flat bH evs)::F) (R++jh G (min G.kept.length 64))->Jn d:=by
  rintro d ⟨w,ys,n,i,s1,s2,s3,h⟩;have j3:(jh G (min G.kept.length 64)).length<=1:=by
   generalize min G.kept.length 64=m
   induction m with
   | zero=>simp[jh]
   | succ m ih=>grind [jh,wj]
  refine hJ _ (zd (g:={ G with o_:=[] }) h 3 rfl λP h=>⟨_,_,_,_,_,_,_,_,_,_,_,_,_,_,_,_,_,_,_,_,rfl,h.al λb4 _ h=>h.st 0 rfl rfl λH5 h=>⟨_,h.r 4,_,h.r 4,h.st 0 rfl rfl λH6 h=>⟨h.r 4,h.st 0 rfl rfl λH7 h=>⟨_,_,_,_,_,_,_,_,_,_,_,_,_,_,_,_,_,_,_,_,h.q 0,by kernel_rfl,?_⟩⟩⟩⟩)
  refine snd (f:={ kind:=7,ag:=G.id,ep:=G.ep,next:=G.seq,stamp:=G.ck }) (y:={}) (I:=[]) (fb:=0) (λ_ _=>fq0 rfl rfl rfl rfl (ze (by grind [aU,Fq.nums]))) (by grind) ⟨w,ys,n,i,s1,s2,s3,h.tl⟩ λh7 D _=>⟨_,rfl,?_⟩
  obtain⟨Q',ys,n,i,s1,s2,s3,h⟩:=D;refine⟨_,_,_,h.r 1,k Q' ys n i _ s1 ?_ s3 ?_⟩
  .rw [s2];unfold vT;grind
  .have h:=(h.cp 356 3).o [4,5,0,1,3] 6;have:=(dr (g:={ G with o_:=[] })).2 ⟨{ x with pa:=none,pc:=0 },evs,O,λe E=>(S e E).sub s1,h⟩
   exact this.o [1,2,0] 3
 have V:(if (64:Int)<(G.kept.length:Int) then 64 else (G.kept.length:Int))=((min G.kept.length 64:Nat):Int):=by grind
 refine⟨λt d=>∃j:Nat,t=j/\j<=min G.kept.length 64/\jh G (min G.kept.length 64)=jh G j/\MA Q ob d (ax ab (eZ { G with o_:=[] } { x with pa:=none,pc:=0 }) 208::ay 69 4 x.ka G.kept.length x.kc (flat bH evs)::F) R,λt _=>t.toNat,⟨_,V,w_ _,rfl,D⟩,?_⟩
 rintro t P ⟨j,rfl,hj,hb,w,ys,n,i,s1,s2,s3,h⟩;refine⟨λC=>?_,λC=>fin _ ?_⟩
 .obtain⟨m,rfl⟩:∃m,j=m+1:=⟨j-1,by grind⟩;refine zd (g:={ G with o_:=[] }) h 3 rfl λH5 h=>⟨_,_,_,_,_,_,_,_,_,_,_,_,_,_,_,_,_,_,_,_,rfl,h.al λb4 _ h=>h.st 0 rfl rfl λH6 h=>⟨_,Mu (g:={ G with o_:=[] }) ⟨b.id,b.most,b.boot,b.ep,b.ck,b.seq,b.kept,by simp,b.drop,b.evs⟩ h 4 rfl,_,_,_,h.r 4,?_⟩⟩
  have j1:G.kept.length<=x.kc:=h.CD 5 rfl;refine⟨⟨by omega,by omega,by grind⟩,h.st 0 rfl rfl λH7 h=>⟨h.r 4,h.st 0 rfl rfl λH8 h=>⟨_,_,_,_,_,_,_,_,_,_,_,_,_,_,_,_,_,_,_,_,h.q 0,by kernel_rfl,?_⟩⟩⟩
  have T:=h.a_ 5 rfl;have hs:=T.some dU (by decide) (k:=0) (by omega);have e0:y_ x.ka 0 x.kc 4=x.ka:=by
   unfold y_;rw[nO,hs,HV,iF];simp
  have l0:((m+1:Nat):Int).toNat=(evs.take (m+1)).length:=by grind
  have U:(mO G (m+1)).evs.length=m+1:=by grind [mO]
  have h6:cT (mO G (m+1)) { ea:=x.ka,ec:=x.kc }=[aD 5,aD G.id,aD G.ep,aD 0,aD 0,aD 0,aD 0,aD (G.seq-G.kept.length),aD 0,aD 0,.slice (y_ x.ka 0 x.kc 4) ((m+1:Nat):Int).toNat x.kc,.string ⟨#[]⟩,.slice none 0 0,.slice none 0 0]:=by
   unfold cT;rw[U,e0];rfl
  have s:=snd (f:=mO G (m+1)) (y:={ ea:=x.ka,ec:=x.kc }) (I:=evs.take (m+1)) (fb:=0) (l:=R) (M:=ax ab (eZ { G with o_:=[] } { x with pa:=none,pc:=0 }) 208::ay 69 4 x.ka G.kept.length x.kc (flat bH evs)::F) (d:=H8)
   (J:=λu H_=>∃r,u=aD r/\((!decide (r=17))=true->Jn H_)/\((!decide (r=17))=false->(∃j:Nat,i64.wrap (((m+1:Nat):Int)-1)=j/\j<=min G.kept.length 64/\jh G (min G.kept.length 64)=jh G j/\MA Q ob H_ (ax ab (eZ { G with o_:=[] } { x with pa:=none,pc:=0 }) 208::ay 69 4 x.ka G.kept.length x.kc (flat bH evs)::F) R)/\(i64.wrap (((m+1:Nat):Int)-1)).toNat<((m+1:Nat):Int).toNat))
   (λQ2 h4=>⟨by grind [mO,List.map_take],⟨λH Y=>?_,λe E H Y=>(S e (RE E)).sub h4 |>.at Y 0 rfl⟩,λH _=>fN H none,λH _=>fN H none,.inl rfl,⟨λZ=>cS rfl Z,λ_=>⟨rfl,rfl,rfl,rfl,rfl,rfl,rfl⟩,ze (by grind [aU,Fq.nums])⟩,by grind,λe E=>?_,by simp[mO],by simp[mO]⟩) (by omega) ⟨w,ys,n,i,s1,s2,s3,h.tl⟩ λH9 t1 t2=>⟨_,rfl,λL=>?_,λL=>?_⟩
  .rw [h6]at s;exact s
  .have hq:=(Y.a_ 2 rfl).take ((m+1)*4);rw[Az dU]at hq;exact hq
  .have:=b5 e.p (by grind);have:=this.1;unfold dB at this;simp only[q_,v_]at this;have h8:e.labs.length<=8:=this.1.2;omega
  .have L:¬jK (mO G (m+1))=17:=by grind
   refine fin _ ?_;rw[hb];unfold jh;rw[b_ L];exact t1
  .have L:jK (mO G (m+1))=17:=by grind
   have hw:i64.wrap (((m+1:Nat):Int)-1)=(m:Int):=by grind [aN]
   refine⟨⟨m,hw,by omega,?_,t2 (by grind)⟩,by grind⟩;rw[hb];show (if _ then _ else _)=_
   grind
 .have C:=ix C;obtain rfl:j=0:=by omega
  rw[hb];unfold jh;rw[Hz];exact⟨w,ys,n,i,s1,s2,s3,h⟩
end
def gH(g:Gg):DR:=if g.saved=true/\¬((g.rl.next:Int)<=g.num) then jg g.hS g.rows else g.rows
def j9(g:Gg):Gg:=
 if g.o.save<=g.recs/\(Fs g.s).length<=262144 then
  { g with pend:=[],recs:=0,saved:=true,num:=g.rl.next,hS:=g.rl.hS+1,rl:={ g.rl with syn:=g.rl.next,hS:=g.rl.hS+1,next:=g.rl.next+1 },rows:=gH g++(bR ⟨0,Fs g.s⟩).map λb=>(g.rl.hS+1,b),syn:=(gH g).length }
 else { g with pend:=[],rl:={ g.rl with syn:=g.rl.next },rows:=gH g,syn:=(gH g).length }
theorem Yn(g:Gg):∀r∈gH g,r∈g.rows:=by
 unfold gH;split;.intro r a;exact (q2s.1 a).1
 grind
theorem Yo(g:Gg):(gH g).length<=g.rows.length:=by
 unfold gH;split;.exact List.length_filter_le _ _
 grind
theorem Yp{b c j:Nat}(h:aA H F)(i:Nat)(s:aX i F=ax b [.slice D n c] 63)(t:262144<n)(f:n<=1099511627776)(bb:K (.tuple #[aD (-1),aD 17]) H) : CF 126 #[PA k 0,.slice (some ⟨b,0,none⟩) 1 j] H K:=by
 refine cN 126 0x112156123992511b421b1d1c [[(6,sI),(15,sI)]] ⟨λsize i e=>size=0/\i=0/\e=H,λ_ _ _=>0,⟨rfl,rfl,rfl⟩,?_⟩;rintro size i e ⟨rfl,rfl,rfl⟩;refine⟨λ_=>?_,λm=>cS m ee⟩;refine⟨ee,_,_,rfl,_,_,_,h.rd i s _,λd=>?_,λd=>?_⟩;.exact bb
 have d:=ix d;rw[aN]at d;omega
theorem ad2{rb:Nat}(f:B.length<=1099511627776)(h:aA H (zx k rb t v a::km rb n G::eG n B B.length::F)) (bb:∀e hS R,R=(if t=true/\¬((G.syn:Int)<=v) then jg a B else B)->aA hS (zx k rb t v a::km rb n G::eG n R R.length::F)->K (aD e) hS):CF 125 #[PA k 0] H K:=by
 refine Wf f (w_ _) h (λb=>bb 19 H B ?_ h) (λb c=>bb 21 H B ?_ h) (λb c d=>cS d ez) λb c d hS h=>bb 0 hS (jg a B) ?_ h;.grind
 .grind
 grind
theorem Yq{Q:aF}{g:Gg}(ok:iT g)(L:∀r∈g.rows,r.1<=g.rl.hS)(h:aA H (Q::kx Q n k g::F)) (db:∀ys a c D,ys.map Oy.o=g.pend->(∀y∈ys,fP Q y)->aA D (Q::ay 266 11 a ys.length c (flat bV ys)::kx Q n k (j9 g)::F)->K (.slice a ys.length c) D) : CF 63 #[PA n 0] H K:=by
 let⟨x,pb,ys,e1,e2,e3,h⟩:=iv.1 (qI h);refine cN 63 76861503970953628 [[],[]] ⟨some ⟨x.bb,0,none⟩,h.r 0,some ⟨x.rb,0,none⟩,h.r 3,?_⟩;have h:=h.o [4,5,0,1,2,3,6,7] 8;refine Lw h λT h=>⟨rfl,some ⟨x.bb,0,none⟩,h.r 2,?_⟩;have h:=h.o [5,0,1,2,3,4,6,7] 8;have J:=Yo g;refine ad2 (by have:=ok.rows;omega) h λe N R v h=>⟨_,rfl,?_⟩;have v:R=gH g:=v;subst v;refine⟨_,_,_,h.r 3,h.st 3 rfl rfl λI h=>⟨_,h.r 3,_,h.r 3,?_⟩⟩;have h:aA I (zx x.bb x.rb g.saved g.num g.hS::km x.rb k { g.rl with syn:=g.rl.next }::eG k (gH g) (gH g).length::ax n (lY g.o { x with pa:=none,pc:=0 } 0 g.recs) 271::p_ Q x.sb g.s::ay 266 11 x.pa ys.length x.pc (flat bV ys)::FN pb g.p::Q::F):=h;have d:=λ{H:aC} {F:List aF} (h:aA H F)=>h.cp 266 11;intro O A;refine⟨λgb=>?_,λgb=>A _ ?_⟩
 .have gb:=ke gb;refine⟨some ⟨x.bb,0,none⟩,h.r 3,some ⟨x.sb,0,none⟩,h.r 3,?_⟩;have h:=h.o [7,4,0,1,2,3,5,6] 8;refine Nd ok.R.ok ok.R.g_ (by have:=ok.kept;omega) h λba bc M h=>⟨_,_,_,rfl,h.r 6,h.al λb1 _ h=>⟨h.r 7,?_⟩⟩;by_cases hl:(Fs g.s).length<=262144
  .have h:=h.o [4,5,6,0,1,2,3,7,8,9] 10;have f:([(⟨ba,bc,Fs g.s⟩:Fy)]:List Fy).flatMap Fy.bs=Fs g.s:=eh;have u:({ g.rl with syn:=g.rl.next }:RL).ok:=⟨ok.rl.hS,ok.rl.most,ok.rl.next,ok.rl.next⟩;refine We (parts:=[⟨ba,bc,Fs g.s⟩]) u ok.hS (λr G=>L r (Yn g r G)) (by have:=ok.rows;omega) h (λH h=>h.ew 0 rfl) (λH h y C=>by rw[CS]at C;subst C;exact h.a_ 1 rfl) (by rw[f];exact yT _) eh (by grind) λP h=>⟨_,_,rfl,?_⟩;rw[f]at h;intro w i;refine⟨λ_=>?_,λB=>cS B eh⟩;refine h.st 7 rfl rfl λS h=>i _ (A _ ?_);have m:j9 g={ g with pend:=[],recs:=0,saved:=true,num:=g.rl.next,hS:=g.rl.hS+1,rl:={ g.rl with syn:=g.rl.next,hS:=g.rl.hS+1,next:=g.rl.next+1 },rows:=gH g++(bR ⟨0,Fs g.s⟩).map λb=>(g.rl.hS+1,b),syn:=(gH g).length }:=by unfold j9;grind
   have h:=(d (h.o [7,6,0,1,2,9,5,8] 10)).o [1,2,0,3,4,5,6,7,8] 9;have j:=(iv (Q:=Q) (g:=j9 g)).2 ⟨{ x with pa:=none,pc:=0 },pb,[],e1,by grind,λz t=>cS t eh,by rw[m];exact h⟩;exact db ys _ _ _ e2 e3 (j.o [1,2,0] 3)
  have E:=Oi ok.R.ok ok.R.g_ (by have:=ok.kept;omega);refine Yp h 0 rfl ez ez ⟨_,_,rfl,?_⟩;intro w i;refine⟨λB=>cS B ee,λ_=>i _ (A _ ?_)⟩;have m:j9 g={ g with pend:=[],rl:={ g.rl with syn:=g.rl.next },rows:=gH g,syn:=(gH g).length }:=by unfold j9;grind
  have h:=(d (h.o [7,3,4,5,6,9,2,8] 10)).o [1,2,0,3,4,5,6,7,8] 9;have j:=(iv (Q:=Q) (g:=j9 g)).2 ⟨{ x with pa:=none,pc:=0 },pb,[],e1,by grind,λz t=>cS t eh,by rw[m];exact h⟩;exact db ys _ _ _ e2 e3 (j.o [1,2,0] 3)
 have gb:=ix gb;have m:j9 g={ g with pend:=[],rl:={ g.rl with syn:=g.rl.next },rows:=gH g,syn:=(gH g).length }:=by unfold j9;grind
 have h:=(d (h.o [3,4,0,1,2,6,7,5] 8)).o [1,2,0,3,4,5,6,7,8] 9;have j:=(iv (Q:=Q) (g:=j9 g)).2 ⟨{ x with pa:=none,pc:=0 },pb,[],e1,by grind,λz t=>cS t eh,by rw[m];exact h⟩;exact db ys _ _ _ e2 e3 (j.o [1,2,0] 3)
def dR(s:aL)(now period:Int)(p:Pb):Nat->Pb×List Ou
 | 0=>(p,[])
 | n+1=>if (kW s (n:Nat)).2=true/\LB (dR s now period p n).1 (n:Nat) now period=true then
   (QE (dR s now period p n).1 (n:Nat) (kW s (n:Nat)).1.en.epoch now,(dR s now period p n).2++[iQ (jL (n:Nat) (dR s now period p n).1.boot (dR s now period p n).1.count)])
  else dR s now period p n
def dm(g:Gg)(now:Int):Gg×List Ou×Int:=
 if (cI g (fK now)).2≠0 then ((cI g (fK now)).1,[],(cI g (fK now)).2) else
 ({ (cI g (fK now)).1 with p:=(dR (cI g (fK now)).1.s now g.o.period g.p 64).1 },(dR (cI g (fK now)).1.s now g.o.period g.p 64).2,0)
theorem ab7{m:List (Int×Int)}{x:Int×Int}(h:x∈eO a v m):x=(a,v)\/x∈m:=by
 unfold eO at h;rcases DL.1 h with h|h;.grind
 exact .inr (q2s.1 h).1
theorem aem{p:Pb}(h:kh p)(f:p.count<1000000000000)(b:0<=e/\e<=4611686018427387903):kh (QE p v a e):=by
 have c:=h.count;have d:=h.out;have now:=h.most;refine⟨?_,h.most,?_,λx ep=>?_,h.boot⟩;.show 0<=p.count+1/\p.count+1<=1000000000000;omega
 .grind [QE]
 rcases ab7 ep with rfl|ep;.exact b
 exact h.last x ep
theorem D6{s:aL}{now period:Int}{p:Pb}(h:kh p)(b:p.count+64<=1000000000000)(a:0<=now/\now<=4611686018427387903):∀n,n<=64->kh (dR s now period p n).1/\(dR s now period p n).1.count<=p.count+n/\(dR s now period p n).2.length<=n
 | 0,_=>⟨h,by show p.count<=p.count+((0:Nat):Int);omega,w_ _⟩
 | n+1,hl=>by
  obtain⟨a1,a2,a3⟩:=D6 h b a n ez;unfold dR
  split
  .refine⟨aem a1 ez a,?_,?_⟩
   .show (dR s now period p n).1.count+1<=_;omega
   .simp only[qa,CU,HE];omega
  .exact⟨a1,ez,ez⟩
theorem Yr{Q:aF}{g:Gg}{now:Int}(ok:iT g)(V:iT (cI g (fK now)).1)(hc:g.p.count+64<=1000000000000)(P:(cI g (fK now)).2=0->0<=now/\now<=4611686018427387903)
  (S:∀a:Nat,a<64->(kW (cI g (fK now)).1.s a).2=true->1<=(kW (cI g (fK now)).1.s a).1.en.epoch/\(kW (cI g (fK now)).1.s a).1.en.epoch<=1099511627776)
  (h:aA H (Q::kx Q n k g::F))
  (db:∀Q' ys a c f,aH Q Q'->ys.map Oy.o=(dm g now).2.1->(∀y∈ys,fP Q' y)->aA f (Q'::ay 266 11 a ys.length c (flat bV ys)::kx Q' n k (dm g now).1::F)->K (.tuple #[.slice a ys.length c,aD (dm g now).2.2]) f) :
  CF 121 #[PA n 0,aD now] H K:=by
 refine cN 121 0x121b12156123992a11213992821399144c [[(11,sA),(12,sI)],[(7,sS)],[(7,sS),(21,sI)]] (D1 (r:=fK now) ok (ag6 rfl) h λQ1 H1 Y h=>⟨_,rfl,λhx=>?_,λhx=>?_⟩)
 .have he:(cI g (fK now)).2≠0:=by grind
  unfold dm at db;rw[c_ he]at db;exact db Q1 [] none 0 _ Y rfl (λy hy=>cS hy eh) ((h.cp 266 11).o [1,0,2] 3)
 have he:(cI g (fK now)).2=0:=by grind
 have hn:=P he;have ep:(cI g (fK now)).1.p=g.p:=by grind [cI]
 have eo:(cI g (fK now)).1.o=g.o:=by grind [cI]
 unfold dm at db;rw[b_ (by grind)]at db;obtain⟨g1,h1⟩:∃g1,(cI g (fK now)).1=g1:=⟨_,rfl⟩;rw[h1]at db h V S ep eo;have h2:kh g.p:=ok.o_;refine⟨λla ln lc i f=>∃(j:Nat) (ys:List Oy) (Q':aF),i=j/\j<=64/\ln=ys.length/\aH Q Q'/\ys.map Oy.o=(dR g1.s now g.o.period g.p j).2/\(∀y∈ys,fP Q' y)/\
   aA f (Q'::ay 266 11 la ys.length lc (flat bV ys)::kx Q' n k { g1 with p:=(dR g1.s now g.o.period g.p j).1 }::F),
  λ_ _ _ i _=>64-i.toNat,⟨0,[],Q1,rfl,ez,rfl,Y,rfl,λy hy=>cS hy eh,?_⟩,?_⟩
 .have e:({ g1 with p:=(dR g1.s now g.o.period g.p 0).1 }:Gg)=g1:=by
   show ({ g1 with p:=g.p }:Gg)=g1;rw[<-ep]
  rw[e];exact (h.cp 266 11).o [1,0,2] 3
 rintro la ln lc i H2 ⟨j,ys,d,rfl,hj,rfl,I,hm,J,h⟩;let⟨Z,pc,pl⟩:=D6 (s:=g1.s) (period:=g.o.period) h2 hc hn j hj;have h5:ys.length<=64:=by
  grind
 refine⟨λu=>?_,λu=>?_⟩
 .have u:j<64:=by grind
  have hw:i64.wrap ((j:Int)+1)=((j+1:Nat):Int):=by grind [aN]
  intro Jn hJ;obtain⟨p,hp⟩:∃p,(dR g1.s now g.o.period g.p j).1=p:=⟨_,rfl⟩;rw[hp]at h Z pc;let⟨x,pb,gb,e1,e2,e3,h⟩:=iv.1 (h.o [2,0,1] 3);refine⟨some ⟨x.sb,0,none⟩,h.r 0,?_⟩;have h:=h.o [1,0,2,3,4,5,6,7,8] 9;refine Mr (s:=g1.s) V.R.ok h λH3 h=>⟨_,_,_,_,_,_,_,_,_,_,_,_,rfl,?_⟩
  have T:=S j u;obtain⟨A,hA⟩:∃A,kW g1.s (j:Nat)=A:=⟨_,rfl⟩;have w:dR g1.s now g.o.period g.p (j+1)=if A.2=true/\LB p (j:Nat) now g.o.period=true then (QE p (j:Nat) A.1.en.epoch now,(dR g1.s now g.o.period g.p j).2++[iQ (jL (j:Nat) p.boot p.count)]) else dR g1.s now g.o.period g.p j:=by
   grind [dR]
  rw[hA]at T ⊢;refine h.al λb _ h=>h.st 0 rfl rfl λH4 h=>?_
  have skip:¬(A.2=true/\LB p (j:Nat) now g.o.period=true)->∀f,aA f (p_ d x.sb g1.s::ax n (lY g1.o x gb.length g1.recs) 271::ay 266 11 x.pa gb.length x.pc (flat bV gb)::zx x.bb x.rb g1.saved g1.num g1.hS::km x.rb k g1.rl::eG k g1.rows g1.syn::FN pb p::d::ay 266 11 la ys.length lc (flat bV ys)::F)->Jn la ys.length lc f:=by
   intro W f h;rw[b_ W]at w;refine hJ _ _ _ _ ⟨⟨j+1,ys,d,hw,u,rfl,I,by grind,J,?_⟩,by grind⟩;rw[w,hp];have hg:=(iv (g:={ g1 with p:=p })).2 ⟨x,pb,gb,e1,e2,e3,h.o [1,0,2,3,4,5,6,7,8] 9⟩;exact hg.o [1,2,0] 3
  have G:∀{f},aA f (ax b (afr A.1) 262::p_ d x.sb g1.s::ax n (lY g1.o x gb.length g1.recs) 271::ay 266 11 x.pa gb.length x.pc (flat bV gb)::zx x.bb x.rb g1.saved g1.num g1.hS::km x.rb k g1.rl::eG k g1.rows g1.syn::FN pb p::d::ay 266 11 la ys.length lc (flat bV ys)::F)->aM f n (0+15)=some (PA pb 0):=λh=>(h.r 2).trans (by show some x.pv=_;rw[e1])
  have U:g1.o.period=g.o.period:=by rw[eo]
  have h:aA H4 (ax b (afr A.1) 262::p_ d x.sb g1.s::ax n (lY g1.o x gb.length g1.recs) 271::ay 266 11 x.pa gb.length x.pc (flat bV gb)::zx x.bb x.rb g1.saved g1.num g1.hS::km x.rb k g1.rl::eG k g1.rows g1.syn::FN pb p::d::ay 266 11 la ys.length lc (flat bV ys)::F):=h;have D:=VP (ag:=(j:Nat)) (now:=now) (period:=g.o.period) Z (h.o [7,0,1,2,3,4,5,6,8,9] 10);refine⟨λ_=>trivial,some ⟨pb,0,none⟩,λ_=>G h,λ_=>trivial,_,λ_=>h.r 2,LB p (j:Nat) now g.o.period,λ_=>by rw[<-U]at D ⊢;exact D,λhx=>?_,λhx=>?_⟩
  .refine skip (λW=>?_) _ h.tl
   grind
  have C:A.2=true/\LB p (j:Nat) now g.o.period=true:=by
   grind
  rw[c_ C]at w;have h7:=T C.1;have L:YR (j:Nat) A.1.en.epoch now=true:=by
   unfold YR tmB
   grind
  intro h3 h0;have N:∀(nb:Nat) (R:aF) f,aA f (ax nb [aD p.boot,aD p.count] 393::ax b (afr A.1) 262::p_ d x.sb g1.s::ax n (lY g1.o x gb.length g1.recs) 271::ay 266 11 x.pa gb.length x.pc (flat bV gb)::zx x.bb x.rb g1.saved g1.num g1.hS::km x.rb k g1.rl::eG k g1.rows g1.syn::FN pb (QE p (j:Nat) A.1.en.epoch now)::d::ay 266 11 la ys.length lc (flat bV ys)::F)->h3 nb 0 0 f:=by
   intro nb R f h;refine h0 _ _ _ _ ⟨λhc=>cS hc ee,λ_=>h.al λb1 _ h=>h.st 0 rfl rfl λH8 h=>⟨_,_,_,h.q 0,_,h.r 1,_,h.r 1,C7 (VN (j:Nat) p.boot p.count) h λB v H9 h=>⟨_,_,_,_,_,_,_,_,_,_,_,_,_,rfl,h.al λb2 _ h=>h.append (m:=1) (ws:=bV ⟨iQ (jL (j:Nat) p.boot p.count),B,v⟩) TR 13 rfl (h.ew 0 rfl) rfl (qF _) ez ez λa5 c5 h6 h=>⟨_,_,_,rfl,?_⟩⟩⟩⟩
   have f1:flat bV ys++bV ⟨iQ (jL (j:Nat) p.boot p.count),B,v⟩=flat bV (ys++[⟨iQ (jL (j:Nat) p.boot p.count),B,v⟩]):=by grind [flat]
   have f2:ys.length+1=(ys++[(⟨iQ (jL (j:Nat) p.boot p.count),B,v⟩:Oy)]).length:=eh
   have h:=h.o [1,12,13,6,5,7,8,9,10,11] 14;rw[f1,f2]at h;rw[f2];have O:fP (ay 5 1 B (cO (jL (j:Nat) p.boot p.count)).length v ((cO (jL (j:Nat) p.boot p.count)).map U8)*d) ⟨iQ (jL (j:Nat) p.boot p.count),B,v⟩:=⟨DE.sl (c:=v),h.CD 0 rfl⟩;have h:=iu.2 h;generalize ay 5 1 B (cO (jL (j:Nat) p.boot p.count)).length v ((cO (jL (j:Nat) p.boot p.count)).map U8)=M at h O;have t:aH d (M*d):=aH.add M d;have h:=tZ t (h.o [3,2,4,5,6,7,8,0,1] 9);have hg:=(iv (Q:=M*d) (g:={ g1 with p:=QE p (j:Nat) A.1.en.epoch now })).2 ⟨x,pb,gb,e1,e2,λz E=>(e3 z E).sub t,h.o [1,0,2,3,4,5,6,7,8] 9⟩
   refine hJ _ _ _ _ ⟨⟨j+1,ys++[⟨iQ (jL (j:Nat) p.boot p.count),B,v⟩],M*d,hw,u,rfl,I.trans t,by grind,λz E=>?_,?_⟩,by grind⟩
   .rcases DA.1 E with E|E
    .exact (J z E).sub t
    .rw [CS]at E;rw[E];exact O
   .rw [w];exact hg.o [1,2,0] 3
  refine⟨some ⟨pb,0,none⟩,G h,_,h.r 0,?_,?_⟩
  .have h:=h.o [7,0,1,2,3,4,5,6,8,9] 10;refine M1 Z L h λH6 h=>⟨_,_,_,rfl,h.al λb3 _ h=>h.st 0 rfl rfl λH7 h=>N b3 emp _ (h.o [0,2,3,4,5,6,7,8,1,9,10] 11)⟩
  .refine h.al λb4 _ h=>⟨h.r 1,G h.tl,?_⟩
   have h:=h.o [8,0,1,2,3,4,5,6,7,9,10] 11;refine M1 Z L h λH6 h=>⟨_,_,_,rfl,h.st 1 rfl rfl λH7 h=>N b4 emp _ (h.o [1,2,3,4,5,6,7,8,0,9,10] 11)⟩
 .have h4:j=64:=by grind
  subst h4;exact db d ys _ _ _ I hm J h
def lC(s:aL):Nat->List Ou
 | 0=>[]
 | n+1=>lC s n++[lX (s.sunk+(n:Nat)) (s.kept.getD n Ot.z)]
def KB(s:aL)(rs:List Rp):Nat->List Ou
 | 0=>lC s s.kept.length
 | n+1=>KB s rs n++(match rs[n]? with|some r=>(bU (dv s (rs.take n)) r).2.1.flatMap dp|none=>[])
theorem abg(R:FB s)(h:aA H (p_ Q n (kr s)::F)):aA H (p_ Q n s::F):=by let⟨p,h⟩:=di.1 h;have a:=wg R;have e1:Ma.j_ p.mm (kr s).ms.m=Ma.j_ p.mm s.ms.m:=oH a.1.symm;have e2:cG p.hm (kr s).cm=cG p.hm s.cm:=oH a.2.symm;rw[e1,e2]at h;exact di.2 ⟨p,h⟩
theorem D7(s:aL):∀n,(lC s n).length=n
 | 0=>rfl
 | n+1=>by rw[lC,qa,D7 s n];rfl
theorem adz{s0:aL}{rs:List Rp}{s:List Ry}{v:Fy}{R:KQ}{T:Nat}(hcf:fH c=true)(E:FB s0)(hc0:s0.cfg=c) (hst:t=false/\s0=cz c\/t=true/\v.bs=Fs s0) (h5:s.map Ry.rc=rs.map λr=>⟨r.kind,r.bytes⟩) (hv:∀r∈rs,∀e∈r.evs,aG e.value) (l0:∀j (hj:j<rs.length),(bU (dv s0 (rs.take j)) rs[j]).2.2=0) (hk0:s0.kept.length<=800000) (hk:∀j,j<=rs.length->(dv s0 (rs.take j)).kept.length<=1000000) (hrl:rs.length<=100000) (hq:∀H,aA H F->aQ H R (flat gA s)) (hqd:∀H,aA H F->∀q∈s,aQ H q.y.a (q.y.bs.map U8)) (hfy:∀H,aA H F->aQ H v.a (v.bs.map U8)) (hfa:v.a=none\/∃k o,v.a=some ⟨k,o,none⟩) (h:aA H (Q::F)) (k:∀Q' sb ys a c' N,aH Q Q'->ys.map Oy.o=KB s0 rs rs.length->(∀y∈ys,fP Q' y)->aA N (Q'::ay 266 11 a ys.length c' (flat bV ys)::p_ Q' sb (dv s0 rs)::F)->K (.tuple #[PA sb 0,.slice a ys.length c',aD 0]) N) : CF 170 #[.agg ⟨pI c⟩,.agg #[cD v,.bool t,.slice R s.length T]] H K:=by
 have hql:s.length=rs.length:=by have:=congrArg List.length h5;grind
 refine cN 170 0x1121749d1215612399251442156123992511d1d44c [[(9,sS),(54,sI)],[(9,sS),(36,sI)],[(7,sP),(8,sI)]] (h.al λb _ h=>h.al λb1 _ h=>⟨_,_,_,_,_,_,_,_,_,h.q 1,Mn (Q:=Q) h (λhn=>cS hn (by grind)) λ_ sb H1 h=>⟨some ⟨sb,0,none⟩,_,rfl,_,h.r 1,?_⟩⟩);intro Jn hJ;have fin:∀(Q1:aF) (sb:Nat) N,aH Q Q1->aA N (Q1::p_ Q1 sb s0::ax b1 [cD v,.bool t,.slice R s.length T] 346::F)->Jn (some ⟨sb,0,none⟩) 0 N:=by
  intro Q1 sb H2 hs1 h;refine hJ _ _ _ ⟨λhc=>cS hc ee,λ_=>VG ez (h.o [1,0,2] 3) λka kc H3 h=>⟨_,_,_,rfl,⟨λla ln lc i N=>∃(j:Nat) (ys:List Oy) (Q':aF),i=j/\j<=s0.kept.length/\ln=ys.length/\aH Q Q'/\ys.map Oy.o=lC s0 j/\(∀y∈ys,fP Q' y)/\ aA N (Q'::ay 266 11 la ys.length lc (flat bV ys)::ay 184 74 ka s0.kept.length kc (flat cR s0.kept)::p_ Q' sb s0::ax b1 [cD v,.bool t,.slice R s.length T] 346::F),λ_ _ _ i _=>s0.kept.length-i.toNat,⟨0,[],Q1,rfl,ez,rfl,hs1,rfl,λy U=>cS U eh,(h.cp 266 11).o [3,0,1,2,4] 5⟩,?_⟩⟩⟩;rintro la ln lc i H4 ⟨j,ys,S,rfl,hj,rfl,h3,hm,h7,h⟩;have y2:ys.length=j:=by grind [D7]
  refine⟨λf=>?_,λf=>?_⟩
  .have f:j<s0.kept.length:=by grind
   have hw:i64.wrap ((j:Int)+1)=((j+1:Nat):Int):=by grind [aN]
   have V:=h.a_ 2 rfl;have hsk:=E.sunk;have alv:=E.ok.sunk;have h9:=E.kept _ (s_ f);refine⟨ez,_,_,V.some jx ez f,_,_,_,_,_,_,_,_,_,_,V.E8 jx f,h.al λb3 _ h=>h.zy 0 rfl rfl λH5 h=>?_⟩;have h:aA H5 (ax b3 (cR s0.kept[j]) 184::S::ay 266 11 la ys.length lc (flat bV ys)::ay 184 74 ka s0.kept.length kc (flat cR s0.kept)::p_ S sb s0::ax b1 [cD v,.bool t,.slice R s.length T] 346::F):=h;refine⟨_,VF (h.o [4,0,1,2,3,5] 6),_,_,_,_,_,_,_,_,_,_,h.u_ 0 rfl,?_⟩;have hn:i64.wrap (s0.sunk+(j:Int))=s0.sunk+(j:Int):=aN;refine Mw (n:=i64.wrap (s0.sunk+(j:Int))) (o:=s0.kept[j]) h9.wc (by have:=h9.size;omega) h λP L H6 h=>⟨_,_,_,_,_,_,_,_,_,_,_,_,_,rfl,h.al λb4 _ h=>h.append (m:=1) (ws:=bV ⟨lX (i64.wrap (s0.sunk+(j:Int))) s0.kept[j],P,L⟩) TR 4 rfl (h.ew 0 rfl) rfl (qF _) ez ez λa5 c5 H9 h=>⟨_,_,_,rfl,?_⟩⟩;have f1:flat bV ys++bV ⟨lX (i64.wrap (s0.sunk+(j:Int))) s0.kept[j],P,L⟩=flat bV (ys++[⟨lX (i64.wrap (s0.sunk+(j:Int))) s0.kept[j],P,L⟩]):=by grind [flat]
   have f2:ys.length+1=(ys++[(⟨lX (i64.wrap (s0.sunk+(j:Int))) s0.kept[j],P,L⟩:Oy)]).length:=eh;have h:=h.o [1,3,4,5,6,7] 8;rw[f1,f2]at h;have h2:fP (ay 5 1 P (cO (iR s0.kept[j])).length L ((cO (iR s0.kept[j])).map U8)*S) ⟨lX (i64.wrap (s0.sunk+(j:Int))) s0.kept[j],P,L⟩:=⟨DE.sl (c:=L),h.CD 0 rfl⟩;have h:=iu.2 h;generalize ay 5 1 P (cO (iR s0.kept[j])).length L ((cO (iR s0.kept[j])).map U8)=M at h h2;have C:aH S (M*S):=aH.add M S;have h:=tZ C (h.o [3,0,1,2,4] 5);refine⟨⟨j+1,ys++[(⟨lX (i64.wrap (s0.sunk+(j:Int))) s0.kept[j],P,L⟩:Oy)],M*S,hw,f,f2,h3.trans C,?_,λz Z=>?_,?_⟩,by grind⟩;rotate_left 2;.exact h.o [1,2,3,0,4] 5
   .grind [lC]
   rcases DA.1 Z with Z|Z;.exact (h7 z Z).sub C
   rw [CS]at Z;rw[Z];exact h2
  have hge:j=s0.kept.length:=by grind
  rw[hge]at hm y2;refine⟨_,_,_,h.r 4,⟨λla ln lc i N=>∃(j:Nat) (u:List Oy) (Q':aF),i=j/\j<=rs.length/\ln=u.length/\u.length<=900000+2000*j/\aH Q Q'/\u.map Oy.o=KB s0 rs j/\(∀y∈u,fP Q' y)/\FB (dv s0 (rs.take j))/\ aA N (Q'::ay 266 11 la u.length lc (flat bV u)::p_ Q' sb (dv s0 (rs.take j))::ax b1 [cD v,.bool t,.slice R s.length T] 346::F),λ_ _ _ i _=>rs.length-i.toNat,⟨0,ys,S,rfl,ez,rfl,ez,h3,hm,h7,E,h.o [0,1,3,4] 5⟩,?_⟩⟩;rintro h4 ln2 r8 i2 H5 ⟨d,u,Q3,rfl,hj2,rfl,hzl,h8,hm3,l5,Rj,h⟩;refine⟨λf=>?_,λf=>?_⟩
  .have J:d<s.length:=by grind
   have f:d<rs.length:=ez;have hw:i64.wrap ((d:Int)+1)=((d+1:Nat):Int):=by grind [aN]
   have l6:s[d].rc=⟨rs[d].kind,rs[d].bytes⟩:=by have:=congrArg (λl=>l[d]?) h5;grind
   have hkd:s[d].kind=rs[d].kind:=congrArg Rc.kind l6;have A:s[d].y.bs=rs[d].bytes:=congrArg Rc.data l6;have V:=hq _ h.tl.tl.tl.tl;refine⟨ez,_,_,V.some qz ez J,_,_,_,_,V.E8 qz J,?_⟩;have hR:=ub (l0 d f);have I:=hv _ (s_ f);have hkj:=hk d hj2;have hE:=Dz (r:=rs[d]) Rj I;have hA:=l0 d f;have hqm:s[d]∈s:=s_ J;have hbl:=Rp.E9 rs[d];have x:(bU (dv s0 (rs.take d)) rs[d]).2.1.length<=2000:=Dx Rj.ok (by grind [Rp.DK]);have Y:dv s0 (rs.take (d+1))=(bU (dv s0 (rs.take d)) rs[d]).1:=by grind [List.take_succ_eq_append_getElem,Ya]
   have h1:KB s0 rs (d+1)=KB s0 rs d++(bU (dv s0 (rs.take d)) rs[d]).2.1.flatMap dp:=by grind [KB]
   refine h.al λb6 _ h=>h.st 0 rfl rfl λH6 h=>⟨_,_,_,h.r 0,?_⟩;have h:aA H6 (ax b6 [aD s[d].kind,.slice s[d].y.a s[d].y.bs.length s[d].y.c] 457::Q3::ay 266 11 h4 u.length r8 (flat bV u)::p_ Q3 sb (dv s0 (rs.take d))::ax b1 [cD v,.bool t,.slice R s.length T] 346::F):=h;have h:=h.o [1,0,2,3,4] 5;have u8:aI s[d].y.bs:=by rw[A];exact Rp.GY _
   refine Us h (λH h=>hqd H h.tl.tl.tl.tl.tl _ hqm) u8 (by grind) ?_;rw[A,abA hR I];obtain⟨r,V⟩:∃r,rs[d]=r:=⟨_,rfl⟩;rw[V]at hR I hE hA x Y h1 hkd ⊢;intro Q4 evs ea ec H7 W hev hkl h;refine⟨_,_,_,_,_,_,_,_,_,_,_,_,_,_,_,rfl,h.al λb7 _ h=>h.st 0 rfl rfl λH8 h=>⟨_,λ_=>h.r 0,_,λ_=>h.r 3,λhx=>?_,λ_=>?_⟩⟩;.exfalso;grind
   have h:aA H8 (ax b7 (dq r ea ec) 281::Q4::ay 69 4 ea evs.length ec (flat bH evs)::ax b6 [aD s[d].kind,.slice s[d].y.a r.bytes.length s[d].y.c] 457::ay 266 11 h4 u.length r8 (flat bV u)::p_ Q3 sb (dv s0 (rs.take d))::ax b1 [cD v,.bool t,.slice R s.length T] 346::F):=h;refine⟨_,_,_,_,_,_,_,_,_,_,_,_,_,_,h.q 0,?_⟩;have h:=tZ W (h.o [5,1,0,2,3,4,6] 7);have h:=h.o [1,0,3,2,4,5,6] 7;have alB:evs.length<=64:=by grind [Rp.DK]
   have h6:∀G:List aF,pJ Q4 (ay 69 4 ea evs.length ec (flat bH evs)::G) r ea evs:=λG=>⟨hev,λH h=>h.a_ 0 rfl,hkl,ez,I⟩;refine Mh Rj.ok (by have:=Rj.sunk;omega) ez (h6 _) h λQ5 fa fc H9 r0 h=>⟨_,_,_,_,rfl,λhx=>?_,λ_=>?_⟩;.exfalso;grind
   obtain⟨w,hf⟩:∃w,(bU (dv s0 (rs.take d)) r).2.1=w:=⟨_,rfl⟩;rw[hf]at h hE x h1 ⊢;refine Mx hE.2 hE.1 h (λH h=>h.a_ 0 rfl) λQ6 O wa wc H10 B hm6 y3 h=>⟨_,_,_,rfl,?_⟩;have hwl:O.length<=w.length:=by
    have e1:O.length=(w.flatMap dp).length:=by grind
    have:∀l:List DF,(l.flatMap dp).length<=l.length:=by intro l;induction l with
      | nil=>simp
      | cons e l ih=>grind [dp]
    grind
   refine h.append (m:=O.length) (ws:=flat bV O) TR 7 rfl (h.a_ 1 rfl) (dS yI _) (kz qF _) ez ez λpa pc H11 h=>⟨_,_,_,rfl,?_⟩;have e2:u.length+O.length=(u++O).length:=by grind
   have h:=h.o [3,0,7,8] 9;rw[e2,<-iX]at h;have h:=tZ B h;refine⟨⟨d+1,u++O,Q6,hw,f,e2,by grind,((h8.trans W).trans r0).trans B,by grind,λy U=>?_,by rw[Y];exact wh Rj I,?_⟩,by grind⟩
   .rcases DA.1 U with U|U;.exact (l5 y U).sub ((W.trans r0).trans B)
    exact y3 y U
   rw [Y];exact h.o [1,2,0,3] 4
  have j3:d=rs.length:=by grind
  subst j3;rw[FE]at h;exact k Q3 sb u _ _ _ h8 hm3 l5 (h.o [0,1,2] 4)
 refine⟨λhb=>?_,λhb=>?_⟩
 .have A:v.bs=Fs s0:=by grind
  refine⟨_,_,_,_,_,_,_,_,_,h.q 2,_,_,_,h.r 1,?_⟩;have h0:me c v.bs=.ok (kr s0):=by grind [WQ]
  have j1:qG c v.bs=.ok (kr s0):=by unfold qG;rw[b_ (by grind),h0];dsimp only;rw[A,c_ (WY E)]
  have hll:=Oi E.ok E.g_ ez;have h:=h.o [3,0,1,2] 4;refine WE (c:=c) h (λH h=>hfy H h.tl.tl.tl) hfa (by rw[A];exact yT _) (by grind) (λ_ s' D=>?_) (λhR=>cS hR (by grind)) (λ_ e he=>by rw[j1]at he;cases he) λ_ s' D=>?_;.rw [h0]at D;cases D;exact⟨⟨λp hp=>(E.g_).cm p ((wg E).2.mem_iff.2 hp),E.g_.kept⟩,by show s0.kept.length<=_;omega⟩
  rw[j1]at D;cases D;intro Q6 tb H6 B h;refine⟨_,_,rfl,?_⟩;have h:=abg E (h.o [1,0,3] 5);exact fin Q6 tb _ B (h.o [1,0,2] 3)
 have r9:s0=cz c:=by grind
 rw[<-r9]at h;exact fin Q sb _ (aH.refl Q) (h.o [3,0,1] 4)
structure Pk where
 up:Bool
 ag:Int
 hY:Int
 a:KQ
 c:Nat
 bs:List Int
variable {p:Pk}
def Pk.z:Pk:=⟨false,0,0,none,0,[]⟩
abbrev mQ(p:Pk):Xa:=[.bool p.up,aB p.ag,aB p.hY,.slice p.a p.bs.length p.c]
abbrev jO(p:Pk):Value:=.agg #[.bool p.up,aB p.ag,aB p.hY,.slice p.a p.bs.length p.c]
abbrev Wpc:=Bool×Int×Int×List Int
def Pk.core(p:Pk):Wpc:=(p.up,p.ag,p.hY,p.bs)
structure Pk.In(Q:aF)(p:Pk):Prop where
 rd:DE Q p.a (p.bs.map U8)
 le:p.bs.length<=p.c
theorem Pk.In.sub{Q Q':aF}{p:Pk}(h:p.In Q)(hs:aH Q Q'):p.In Q':=⟨h.1.sub hs,h.2⟩
abbrev PM:=List (Int×Pk)
def gl(a:PM):List (Int×Wpc):=a.map λx=>(x.1,x.2.core)
theorem Oq(n:Int)(a:PM):gl (bF n a)=bF n (gl a):=by unfold gl bF;rw[List.filter_map];rfl
theorem wk(n:Int):∀a:PM,aK n (gl a)=(aK n a).map Pk.core
 | []=>rfl
 | (x1,x2)::r=>by
  have b:=wk n r;show aK n ((x1,x2.core)::gl r)=_;simp only[aK]
  split
  .rfl
  .exact b
structure Wr where
 most:Int
 next:Int:=0
 m:List (Int×Wpc):=[]
variable {w:Wr}
def aay(c:Wpc):Bool:=decide (c.2.1<0)||decide (64<=c.2.1)||decide (c.2.2.1<0)||decide (4611686018427387903<c.2.2.1)
def iw(w:Wr)(c:Wpc):Wr×Int×Int:=if aay c=true then (w,-1,10) else if w.most-w.m.length<1 then (w,-1,20) else ({ w with next:=w.next+1,m:=eO w.next c w.m },w.next,0)
def lD(w:Wr)(n:Int):Wr×Int×Int:=match aK n w.m with|none=>(w,-1,19)|some c=>iw w c
def gI(w:Wr)(n:Int):Wr×Wpc×Int:=match aK n w.m with|none=>(w,(false,0,0,[]),19)|some c=>({ w with m:=bF n w.m },c,0)
structure ft(w:Wr):Prop where
 most:1<=w.most/\w.most<=4096
 len:(w.m.length:Int)<=w.most
 keys:∀p∈w.m,0<=p.1/\p.1<w.next
 next:0<=w.next/\w.next<=1000000000000
 bs:∀p∈w.m,aI p.2.2.2.2/\p.2.2.2.2.length<=1000000/\0<=p.2.2.1/\p.2.2.1<64
theorem zf(p:Pk):(mQ p).length=4:=rfl
theorem mtW:jB Tryz.prog 151 2 92 jO Pk.z:=ny Tryz.underlying151 kf
def ma(Q:aF)(wb:Nat)(w:Wr):aF:=F6 λy:Nat×PM=>star [DB (gl y.2=w.m/\∀p∈y.2,p.2.In Q),ax wb [aD w.most,aD w.next,.map (some y.1)] 153,mapA aD jO y.1 y.2]
theorem jk:aA H (ma Q n w::F)↔∃mb m,gl m=w.m/\(∀p∈m,p.2.In Q)/\aA H (ax n [aD w.most,aD w.next,.map (some mb)] 153::mapA aD jO mb m::F):=by
 unfold ma;rw[cw];constructor;.intro⟨y,h⟩;let⟨a,h⟩:=qe.1 (aA.open h);exact⟨y.1,y.2,a.1,a.2,h⟩
 intro⟨x,evs,h1,h2,h⟩;exact⟨⟨x,evs⟩,aA.shut [_,_,_] (h.DB ⟨h1,h2⟩)⟩
theorem sw{Q':aF}(hs:aH Q Q')(h:aA H (ma Q n w::F)):aA H (ma Q' n w::F):=by let⟨mb,m,a,b,h⟩:=jk.1 h;exact jk.2 ⟨mb,m,a,λe c=>(b e c).sub hs,h⟩
theorem Ov(h:aA H F)(k1:v<1\/4096<v->K (.tuple #[.pointer none,aD 11]) H) (k2:1<=v/\v<=4096->∀wb a,aA a (ma Q wb ⟨v,0,[]⟩::F)->K (.tuple #[PA wb 0,aD 0]) a):CF 92 #[aD v] H K:=by refine cM 92 476 ⟨λb=>k1 (by grind),λb=>h.YF aD jO λmb _ h=>h.al λwb _ h=>k2 (by grind) _ _ (jk.2 ⟨mb,[],rfl,λp c=>cS c eh,h⟩)⟩
theorem D8(h:aA H (Q::F))(j:∀H,aA H (Q::F)->aQ H p.a (p.bs.map U8))(i:p.bs.length<=1000000) (k:∀Q' e c,aH Q Q'->e.In Q'->e.core=p.core->aA c (Q'::F)->K (jO e) c):CF 84 #[jO p] H K:=by refine cM 84 284 (h.al λb _ h=>h.al λb1 _ h=>⟨_,_,_,h.r 1,tC h (λH h=>j H (h.o [2] 3)) ez λm f c h=>⟨_,_,_,rfl,?_⟩⟩);have d:=h.CD 0 rfl;refine h.st 2 rfl rfl λ_ h=>⟨_,_,_,_,_,_,h.q 2,h.st 1 rfl rfl λn h=>⟨_,_,_,_,_,_,h.q 1,?_⟩⟩;have h:=h.o [0,3] 4;exact k _ ⟨p.up,p.ag,p.hY,m,f,p.bs⟩ _ (aH.add _ Q) ⟨DE.sl,d⟩ rfl (iu.2 h)
theorem Ow{p:Pk}{lc:Nat}(ok:ft w)(A:∀H,aA H (Q::F)->aQ H D (flat mQ [p]))(G:∀Q' H,aH Q Q'->aA H (Q'::F)->aQ H p.a (p.bs.map U8))(hb:p.bs.length<=1000000)(h:aA H (Q::ma Q n w::F)) (k:∀Q' c,aH Q Q'->aA c (Q'::ma Q' n (iw w p.core).1::F)->K (.tuple #[aD (iw w p.core).2.1,aD (iw w p.core).2.2]) c):CF 120 #[PA n 0,.slice D 1 lc] H K:=by
 let⟨mb,m,e1,e2,h⟩:=jk.1 (bY h);have o1:=ok.most;have o2:=ok.len;have o3:=ok.next;have C:m.length=w.m.length:=by grind [gl]
 have d:∀{c},aA c (ax n [aD w.most,aD w.next,.map (some mb)] 153::mapA aD jO mb m::Q::F)->aA c (Q::ma Q n w::F):=λh=>bY (jk.2 ⟨mb,m,e1,e2,h⟩);refine cN 120 0x1215612399251b4d1215612399251144c [[(55,sI)],[(13,sI)]] ⟨λi c=>(i=0\/i=1/\aay p.core=false)/\aA c (ax n [aD w.most,aD w.next,.map (some mb)] 153::mapA aD jO mb m::Q::F),λi _=>1-i.toNat,⟨.inl rfl,h⟩,?_⟩;intro i I ⟨hi,h⟩;refine⟨λE=>?_,λE=>?_⟩
 .obtain rfl:i=0:=by grind
  have wb:=A I (h.o [2] 3);refine⟨⟨ez,ez⟩,_,_,wb.some zf ee (k:=0) eh,_,_,_,_,_,_,wb.E8 zf (k:=0) eh,h.al λb1 _ h=>h.st 0 rfl rfl λu h=>⟨_,h.r 0,_,λ_=>h.r 0,_,λ_=>h.r 0,_,λ_=>h.r 0,λb=>?_,λb=>?_⟩⟩
  .have e:iw w p.core=(w,-1,10):=by unfold iw;rw[c_ (show aay p.core=true from b)]
   rw[e]at k;exact k Q _ (aH.refl Q) (d h.tl)
  exact⟨⟨.inr ⟨ee,b⟩,h.tl⟩,by dsimp only;decide⟩
 have hi:aay p.core=false:=by grind
 have y:i64.wrap (w.most-(m.length:Int))=w.most-w.m.length:=by grind [aN]
 refine⟨_,h.r 0,_,h.r 0,_,h.F5 mtW 1 rfl,?_⟩;conv=>whnf
 rw[y];refine⟨λb=>?_,λb=>⟨_,h.r 0,?_⟩⟩
 .have e:iw w p.core=(w,-1,20):=by unfold iw;grind
  rw[e]at k;exact k Q _ (aH.refl Q) (d h)
 have e:iw w p.core=({ w with next:=w.next+1,m:=eO w.next p.core w.m },w.next,0):=by unfold iw;grind
 rw[e]at k;refine⟨λi c=>i=0/\aA c (ax n [aD w.most,aD w.next,.map (some mb)] 153::mapA aD jO mb m::Q::F)\/i=1/\∃Q',aH Q Q'/\aA c (Q'::ma Q' n { w with next:=w.next+1,m:=eO w.next p.core w.m }::F),λi _=>1-i.toNat,.inl ⟨rfl,h⟩,?_⟩;clear h;intro i u h;refine⟨λf=>?_,λf=>?_⟩
 .rcases h with ⟨rfl,h⟩|⟨rfl,_⟩
  .have wb:=A u (h.o [2] 3);refine⟨⟨ez,ez⟩,_,_,wb.some zf ee (k:=0) eh,_,_,_,_,_,_,wb.E8 zf (k:=0) eh,h.al λb1 _ h=>h.st 0 rfl rfl λu h=>⟨_,h.r 1,_,h.r 1,_,_,_,_,_,_,h.q 0,D8 (p:=p) (h.o [3,1,2,0] 4) (λH h=>G Q H (aH.refl Q) (h.o [0] 4)) hb λla B L j x s h=>⟨_,_,_,_,_,_,rfl,h.r 1,h.r 1,h.ji (α:=Pk) (v:=B) mtW Fm 2 rfl λJ h=>⟨_,h.r 1,?_⟩⟩⟩⟩;have y:i64.wrap (w.next+1)=w.next+1:=aN;conv=>whnf
   rw[y];refine h.st 1 rfl rfl λM h=>⟨.inr ⟨ee,la,j,bY (jk.2 ⟨mb,eO w.next B m,?_,λq t=>?_,h.o [1,2,0] 4⟩)⟩,by dsimp only;decide⟩;.grind [gl,eO,Oq]
   rcases DL.1 t with rfl|t;.exact x
   exact (e2 q (nt.1 t).1).sub j
  exact cS f ee
 rcases h with ⟨rfl,_⟩|⟨rfl,Q',hs,h⟩;.exact cS f ee
 exact k Q' _ hs h
theorem Ox(h:aA H (ma Q n w::F))(k:∀p d,p.In Q->p.core=(gI w v).2.1->aA d (ma Q n (gI w v).1::F)->K (.tuple #[jO p,aD (gI w v).2.2]) d):CF 58 #[PA n 0,aD v] H K:=by
 let⟨mb,m,e1,e2,h⟩:=jk.1 h;have c:=wk v m;rw[e1]at c;refine cM 58 72988 (h.al λb _ h=>⟨_,h.r 1,?_⟩);have hm:=h.yb (x:=v) mtW Fm 2 rfl;cases hx:aK v m with
  | none=>
  rw[hx]at c;have e:gI w v=(w,(false,0,0,[]),19):=by grind [gI]
  rw[e]at k;refine⟨_,_,_,_,_,_,_,(hm.2 hx).1,h.al λb1 _ h=>h.st 0 rfl rfl λi h=>⟨λ_=>h.st 1 rfl rfl λj h=>⟨_,_,_,_,_,_,h.q 1,?_⟩,λa=>cS a eh⟩⟩;exact k Pk.z _ ⟨DE.nil Q _,w_ _⟩ rfl (jk.2 ⟨mb,m,e1,e2,h.tl.tl⟩)
  | some p=>
  rw[hx]at c;have e:gI w v=({ w with m:=bF v w.m },p.core,0):=by grind [gI]
  rw[e]at k;refine⟨_,_,_,_,_,_,_,(hm.1 p hx).1,h.al λb1 _ h=>h.st 0 rfl rfl λi h=>⟨λa=>cS a eh,λ_=>⟨_,h.r 2,h.DN (α:=Pk) mtW Fm 3 rfl λj h=>⟨_,_,_,_,_,_,h.q 0,h.st 1 rfl rfl λs h=>⟨_,_,_,_,_,_,h.q 1,k p _ (e2 _ (eD hx)) rfl (jk.2 ⟨mb,bF v m,by grind [Oq],λq f=>e2 q (nt.1 f).1,h.tl.tl⟩)⟩⟩⟩⟩⟩
theorem Ys{F:List aF}(ok:ft w)(h:aA H (Q::ma Q n w::F)) (k:∀Q' i,aH Q Q'->aA i (Q'::ma Q' n (lD w v).1::F)->K (.tuple #[aD (lD w v).2.1,aD (lD w v).2.2]) i):CF 59 #[PA n 0,aD v] H K:=by
 let⟨mb,m,e1,e2,h⟩:=jk.1 (bY h);have a:=wk v m;rw[e1]at a;refine cM 59 4572 ⟨_,h.r 0,?_⟩;have hm:=h.yb (x:=v) mtW Fm 1 rfl;cases hx:aK v m with
  | none=>
  rw[hx]at a;have e:lD w v=(w,-1,19):=by grind [lD]
  rw[e]at k;refine⟨_,_,_,_,_,_,_,(hm.2 hx).1,h.al λb1 _ h=>h.st 0 rfl rfl λj h=>⟨λ_=>?_,λc=>cS c eh⟩⟩;exact k Q _ (aH.refl Q) (bY (jk.2 ⟨mb,m,e1,e2,h.tl⟩))
  | some p=>
  rw[hx]at a;have e:lD w v=iw w p.core:=by grind [lD]
  rw[e]at k;have f:=e2 _ (eD hx);have d:=(ok.bs (v,p.core) (eD a)).2.1;refine⟨_,_,_,_,_,_,_,(hm.1 p hx).1,h.al λb _ h=>h.st 0 rfl rfl λj h=>⟨λc=>cS c eh,λ_=>⟨_,_,_,_,_,_,h.q 0,h.al λb1 _ h=>?_⟩⟩⟩;have h:=h.o [2,3,4,0] 5;have h:=(jk.2 ⟨mb,m,e1,e2,h⟩).o [1,0,2] 3;refine Ow (p:=p) (F:=ax b1 (mQ p) 92::F) ok (λH h=>by have:=h.ew 1 rfl;simpa[flat] using this) (λQ' H hs h=>(f.rd.sub hs).at h 0 rfl) d h λQ' s hs h=>⟨_,_,rfl,k Q' _ hs (h.o [0,1] 3)⟩
structure G_ where
 ag:Int
 ep:Int
 sq:Int
deriving DecidableEq
structure Vd where
 re:Int
 win:Int
deriving DecidableEq
abbrev mi(i:G_):Xa:=[aB i.ag,aB i.ep,aB i.sq]
abbrev mc(i:G_):Value:=.agg ⟨mi i⟩
abbrev ZH(v:Vd):Xa:=[aB v.re,aB v.win]
abbrev CW(v:Vd):Value:=.agg ⟨ZH v⟩
def afE(i:G_)(v:Vd):Bool:=decide (i.ag<0)||decide (i.ep<0)||decide (i.sq<0)||decide (v.re<0)||decide (6<v.re)||((!decide (v.re=0))&&(!decide (v.win=0)))
abbrev Ldg:=List (G_×Vd)
variable {S:Ldg}
def jl(l:Ldg)(i:G_)(v:Vd):Ldg×Int:=if afE i v=true then (l,10) else match aK i l with
 | none=>(eO i v l,0)
 | some o=>if o≠v then (l,18) else (eO i v l,0)
theorem mtL:jB Tryz.prog 237 50 52 CW ⟨0,0⟩:=ny Tryz.underlying237 kf
theorem mR:lH Tryz.prog 50 mc:=A9 (enc:=mi) Tryz.underlying50 (λx y h=>by cases x;simp_all) (λx y=>by have h:pq Tryz.prog 50 (mi x) (mi y)=some (x.ag == y.ag&&(x.ep == y.ep&&(x.sq == y.sq&&true))):=kf;rw[h];congr 1;rw[q24];simp only[Bool.and_true,q_,beq_iff_eq,v_];cases x;cases y;simp) (λx=>kf) (λx n=>by unfold Instr.sameBits;simp[Instr.sameBits])
def CY(lb:Nat)(l:Ldg):aF:=F6 λmb:Nat=>star [ax lb [.map (some mb)] 240,mapA mc CW mb l]
theorem oq:aA H (CY n S::F)↔∃mb,aA H (ax n [.map (some mb)] 240::mapA mc CW mb S::F):=by grind [CY,cw,aA.open,aA.shut]
theorem Yt(h:aA H F)(k:∀lb a,aA a (CY lb []::F)->K (PA lb 0) a):CF 90 #[] H K:=by refine cM 90 28 (h.YF mc CW λmb _ h=>h.al λlb _ h=>k _ _ (oq.2 ⟨mb,h⟩))
theorem zg{i:G_}(h:aA H (CY n S::F))(k:∀a,aA a (CY n S::F)->K (.tuple #[CW ((aK i S).getD ⟨0,0⟩),.bool (aK i S).isSome]) a):CF 95 #[PA n 0,mc i] H K:=by let⟨mb,h⟩:=oq.1 h;refine cM 95 284 (h.al λb _ h=>h.al λb1 _ h=>⟨_,h.r 2,_,_,_,h.q 1,?_⟩);have hm:=h.yb (x:=i) mtL mR 3 rfl;cases hx:aK i S with
  | none=>rw[hx]at k;refine⟨_,_,_,(hm.2 hx).1,h.al λb2 _ h=>⟨((h.yb (x:=i) mtL mR 4 rfl).2 hx).1,h.q 2,h.r 3,h.st 0 rfl rfl λd h=>⟨_,_,h.q 0,h.st 1 rfl rfl λc h=>⟨_,_,h.q 1,k _ (oq.2 ⟨mb,h.tl.tl.tl⟩)⟩⟩⟩⟩
  | some v=>rw[hx]at k;refine⟨_,_,_,(hm.1 v hx).1,h.al λb2 _ h=>⟨((h.yb (x:=i) mtL mR 4 rfl).1 v hx).1,h.q 2,h.r 3,h.st 0 rfl rfl λd h=>⟨_,_,h.q 0,h.st 1 rfl rfl λc h=>⟨_,_,h.q 1,k _ (oq.2 ⟨mb,h.tl.tl.tl⟩)⟩⟩⟩⟩
theorem ajg(o v:Vd):i8 Tryz.prog .neq 52 (CW o) (CW v) (!decide (o=v)):=by
 have h:pq Tryz.prog 52 (ZH o) (ZH v)=some (o.re == v.re&&(o.win == v.win&&true)):=kf;have e:(o.re == v.re&&(o.win == v.win&&true))=decide (o=v):=by rw[q24];simp only[Bool.and_true,q_,beq_iff_eq,v_];cases o;cases v;simp
 rw[e]at h;exact (uN h).2
theorem Yu{i:G_}{v:Vd}(h:aA H (CY n S::F))(k:∀d,aA d (CY n (jl S i v).1::F)->K (aD (jl S i v).2) d):CF 123 #[PA n 0,mc i,CW v] H K:=by
 let⟨mb,h⟩:=oq.1 h;refine cM 123 30546716 (h.al λb _ h=>h.al λb1 _ h=>⟨_,h.r 1,_,λ_=>h.r 1,_,λ_=>h.r 1,_,λ_=>h.r 0,_,λ_=>h.r 0,_,λ_=>h.r 0,_,λ_=>h.r 0,λc=>?_,λc=>⟨_,h.r 2,_,_,_,h.q 1,?_⟩⟩)
 .have e:jl S i v=(S,10):=by unfold jl;rw[c_ (show afE i v=true from c)]
  rw[e]at k;exact k _ (oq.2 ⟨mb,h.tl.tl⟩)
 have c:¬afE i v=true:=by grind [afE]
 have hm:=h.yb (x:=i) mtL mR 3 rfl;cases hx:aK i S with
  | none=>
  have e:jl S i v=(eO i v S,0):=by unfold jl;grind
  rw[e]at k;refine⟨_,_,_,(hm.2 hx).1,h.al λb2 _ h=>⟨((h.yb (x:=i) mtL mR 4 rfl).2 hx).1,h.q 2,h.r 3,h.st 0 rfl rfl λj h=>⟨0,0,λa=>cS a eh,0,0,λa=>cS a eh,false,λa=>cS a eh,λa=>cS a eh,λ_=>⟨_,h.r 3,_,_,_,h.q 2,_,_,h.q 1,h.ji (x:=i) (v:=v) mtL mR 4 rfl λf h=>k _ (oq.2 ⟨mb,h.tl.tl.tl⟩)⟩⟩⟩⟩
  | some o=>
  refine⟨_,_,_,(hm.1 o hx).1,h.al λb2 _ h=>⟨((h.yb (x:=i) mtL mR 4 rfl).1 o hx).1,h.q 2,h.r 3,h.st 0 rfl rfl λj h=>⟨_,_,λ_=>h.q 0,_,_,λ_=>h.q 1,_,λ_=>ajg o v,λa=>?_,λa=>⟨_,h.r 3,_,_,_,h.q 2,_,_,h.q 1,?_⟩⟩⟩⟩
  .have e:jl S i v=(S,18):=by unfold jl;grind
   rw[e]at k;exact k _ (oq.2 ⟨mb,h.tl.tl.tl⟩)
  have e:jl S i v=(eO i v S,0):=by unfold jl;grind
  rw[e]at k;exact h.ji (x:=i) (v:=v) mtL mR 4 rfl λf h=>k _ (oq.2 ⟨mb,h.tl.tl.tl⟩)
open  Go.Shelf Go.RowKit Go.Lib Go.Sort
def or3(a b c:Int):Int:=if a≠0 then a else if b≠0 then b else c
theorem ajf(a b c:Int)(k:Nat)(W:World)(h0:W.cell? ⟨k,0,none⟩=some (.int .i64 a))(u:W.cell? ⟨k,1,none⟩=some (.int .i64 b))(v:W.cell? ⟨k,2,none⟩=some (.int .i64 c)) : Calls Tryz.prog 189 #[.slice (some ⟨k,0,none⟩) 3 3] W λe m=>e=.returned (.int .i64 (or3 a b c))/\m=W:=by
 obtain⟨r,h⟩:∃r,r=or3 a b c:=⟨_,rfl⟩;rw[<-h];have HS:Hid (r=or3 a b c):=h;clear h;go_enter Tryz.func189,Tryz.ntmps189;go_wp2;go_loop [8] (λi=>∃n:Nat,i=.int .i64 n/\n<=3/\(1<=n->a=0)/\(2<=n->b=0)/\(3<=n->c=0)) (λi=>3-(intOf i).toNat);case atStart=>grind
 case round=>
  obtain⟨n,rfl,t,q1,q2,q3⟩:=hrel;have j:n=0\/n=1\/n=2\/n=3:=ez;rcases j with rfl|rfl|rfl|rfl
  .go_wp2
   .go_ret;have f:a≠0:=by grind
    exact⟨by rw[show r=a from by rw[HS.out];unfold or3;grind];rfl,rfl⟩
   go_round;case rel=>grind
   case measure=>simp[intOf]
  .have d:Hid (a=0):=q1 ez;clear q1 q2 q3;go_wp2
   .go_ret;have f:b≠0:=by grind
    exact⟨by rw[show r=b from by rw[HS.out];unfold or3;rw[b_ (by rw[d.out];simp),c_ f]];rfl,rfl⟩
   go_round;case rel=>exact⟨2,rfl,ez,λ_=>d.out,λ_=>by grind,ez⟩
   case measure=>simp[intOf]
  .have d:Hid (a=0):=q1 ez;have hb:Hid (b=0):=q2 ez;clear q1 q2 q3;go_wp2;.go_ret;exact⟨by rw[show r=c from by rw[HS.out];unfold or3;rw[b_ (by rw[d.out];simp),b_ (by rw[hb.out];simp)]];rfl,rfl⟩
   go_round;case rel=>exact⟨3,rfl,ez,λ_=>d.out,λ_=>hb.out,λ_=>by grind⟩
   case measure=>simp[intOf]
  have d:Hid (a=0):=q1 ez;have hb:Hid (b=0):=q2 ez;have s:Hid (c=0):=q3 ez;clear q1 q2 q3;go_wp2;go_ret;exact⟨by rw[show r=0 from by rw[HS.out];unfold or3;rw[b_ (by rw[d.out];simp),b_ (by rw[hb.out];simp),s.out]];rfl,rfl⟩
def pe(x y:G_):Int:=or3 (lu x.ag y.ag) (lu x.ep y.ep) (lu x.sq y.sq)
theorem ahB(x y:G_)(W:World):Calls Tryz.prog 109 #[.agg #[.int .i64 x.ag,.int .i64 x.ep,.int .i64 x.sq],.agg #[.int .i64 y.ag,.int .i64 y.ep,.int .i64 y.sq]] W λe a=>e=.returned (.int .i64 (pe x y))/\∃q d,a=grow (W.drewN q) d:=by
 obtain⟨r,f⟩:∃r,r=pe x y:=⟨_,rfl⟩;rw[<-f];have HS:Hid (r=pe x y):=f
 clear f
 unfold pe at HS;have h:=λc=>xO x.ag y.ag c
 have i:=λc=>xO x.ep y.ep c
 have j:=λc=>xO x.sq y.sq c
 generalize lu x.ag y.ag=r1 at *;generalize lu x.ep y.ep=r2 at *;generalize lu x.sq y.sq=r3 at *
 go_enter Tryz.func109,Tryz.ntmps109
 go_wp2
 have e1:∀n,W.heap.size+1+n≠W.heap.size:=λn=>by omega
 go_region_held3 (λa=>a.cell? ⟨W.heap.size,0,none⟩=some (.int .i64 x.ag)/\a.cell? ⟨W.heap.size,1,none⟩=some (.int .i64 x.ep)/\a.cell? ⟨W.heap.size,2,none⟩=some (.int .i64 x.sq)/\a.cell? ⟨W.heap.size+1,0,none⟩=some (.int .i64 y.ag)/\a.cell? ⟨W.heap.size+1,1,none⟩=some (.int .i64 y.ep)/\a.cell? ⟨W.heap.size+1,2,none⟩=some (.int .i64 y.sq)) (go_keep)
  (first|(go_at_call_of 190 (Value.int .i64 x.ag);refine (h _).mono ?_;rintro e a ⟨rfl,rfl⟩)|(go_at_call_of 190 (Value.int .i64 x.ep);refine (i _).mono ?_;rintro e a ⟨rfl,rfl⟩)|(go_at_call_of 190 (Value.int .i64 x.sq);refine (j _).mono ?_;rintro e a ⟨rfl,rfl⟩)|(go_at_call 189;refine (ajf r1 r2 r3 _ _ ?_ ?_ ?_).mono ?_;(simp[go_sem]);(simp[go_sem]);(simp[go_sem]);rintro e a ⟨rfl,rfl⟩))
 all_goals go_wp2
 all_goals (go_ret;exact⟨by rw[HS.out];rfl,_,_,by rw[alloc_eq_grow,alloc_eq_grow,alloc_eq_grow,grow_grow,grow_grow];rfl⟩)
theorem ae5(x y:G_):ltOf pe x y=true↔x.ag<y.ag\/x.ag=y.ag/\(x.ep<y.ep\/x.ep=y.ep/\x.sq<y.sq):=by unfold ltOf pe or3 lu;grind
theorem aiI:SWO (ltOf pe) where
 irrefl x:=by rw[q2q,Ne,ae5];omega
 trans x y z h1 h2:=by grind [ae5]
 ntrans x y z h1 h2:=by rw[q2q,Ne,ae5]at *;omega
theorem aiG(x y:G_)(b:ltOf pe x y=false)(a:ltOf pe y x=false):x=y:=by rw[q2q,Ne,ae5]at b a;cases x;cases y;grind
instance:Inhabited G_:=⟨⟨0,0,0⟩⟩
theorem D9(x:G_):(mi x).length=3:=rfl
theorem akk:Fh Tryz.prog 241 50 3 24:=fU kf
theorem Yv:∀args w,(callFunc 109 args).run Tryz.prog w=.ok (.enter 109 args) w:=λargs w=>kf
theorem Yw{xs:List G_}(h:aA H F)(i:Nat)(j:aX i F=ay 50 3 D xs.length n (flat mi xs))(d:xs.length<4611686018427387904) (k:∀ys b,ys.Perm xs->aA b (put i (ay 50 3 D ys.length n (flat mi ys)) F)->K (.tuple #[]) b) : CF 187 #[.slice D xs.length n,.func (.func 109) #[] #[]] H K:=JN Tryz.agX Tryz.isAgg50 Tryz.sizeOf50 D9 (λx v e=>by simp[mi]at e;rcases e with rfl|rfl|rfl <;> rfl) aiI Yv ahB aiG h i j d λb h=>by have f:=List.mergeSort_perm xs λx y=>!(ltOf pe) y x;exact k _ b f (by rw[f.length_eq];exact h)
theorem Yx(h:aA H F)(i:Nat)(c:aX i F=mapA mc CW n S)(k:∀b a,aA a (mapA mc CW b S::F)->K (.map (some b)) a):CF 106 #[.map (some n)] H K:=uX Tryz.afv h i c λa h _=>k _ a h
theorem pP.rd{e:List Ry}{c:Fy}(h:pP M c t e)(hs:aA H (oi M::F)):aQ H c.a (c.bs.map U8):=by
 rcases h.st with rfl|⟨r,d,rfl⟩;.exact fN _ _
 exact Cd hs r d
theorem TI.save(h:TI v R n G k)(m:k<=3200)(c:x.ok)(i:x.data.length<=262144) : TI v (R++(bR x).map λb=>(G.hS+1,b)) n { G with hS:=G.hS+1,next:=G.next+1 } (k+1):=by
 have e:=h.XL;have f:=h.hS;have t:=h.next;have u:=h.XE;have syn:=h.len;have j:=h.syn;have d:=rS c;refine⟨h.rok.app ⟨ez,ez⟩ (tU c),λr a=>?_,by grind,by grind,by grind,by grind,by grind,by grind,h.hm,h.range⟩;rcases DA.1 a with a|a;.have:=h.files r a;grind
 grind
def fL:Rp:=⟨1,0,0,0,0,0,0,bT.z,[]⟩
def mS(o:ZX)(s:aL)(rows:DR):Gg:=
 ⟨o,(bU s fL).1,⟨(bU s fL).1.boots,o.CO,0,[],[]⟩,[],0,false,0,0,{ dD rows (KT o.f_ rows) ⟨1,fL.bytes⟩ with syn:=(dD rows (KT o.f_ rows) ⟨1,fL.bytes⟩).next },
  gS rows (KT o.f_ rows) ⟨1,fL.bytes⟩,(gS rows (KT o.f_ rows) ⟨1,fL.bytes⟩).length⟩
theorem aeB(R:FB s):∀{rs:List Rp},(∀r∈rs,∀e∈r.evs,aG e.value)->FB (dv s rs):=by
 intro rs
 induction rs generalizing s with
 | nil=>intro _;exact R
 | cons r rs ih=>intro h;exact ih (wh R (h r (DT ..))) λx a=>h x (DG _ a)
theorem Yy{Q:aF}{o:ZX}(f:gF o=true)(ok:gB R)(hB:R.length<=549755813888)(w:gh o.f_ R=0)(db:(KT o.f_ R).hS<2147483647)(G:(KT o.f_ R).ok) (R0:FB s) (V:s.cfg=o.cfg) (N:dK (du R)=(none,O.map λr=>⟨r.kind,r.bytes⟩)/\s=cz o.cfg\/dK (du R)=(some (Fs s),O.map λr=>⟨r.kind,r.bytes⟩)) (hv:∀r∈O,∀e∈r.evs,aG e.value) (rs:∀j (hj:j<O.length),(bU (dv s (O.take j)) O[j]).2.2=0) (rows:s.kept.length<=800000) (hk:∀j,j<=O.length->(dv s (O.take j)).kept.length<=1000000) (U:O.length<=100000) (t:(bU (dv s O) fL).2.2=0) (m:1<=(bU (dv s O) fL).1.boots/\(bU (dv s O) fL).1.boots<=1099511627776) (h:aA H (Q::eG n R k::F)) (syn:∀Q' gb ys a c H',aH Q Q'->ys.map Oy.o=KB s O O.length->(∀y∈ys,fP Q' y)->aA H' (Q'::ay 266 11 a ys.length c (flat bV ys)::kx Q' gb n (mS o (dv s O) R)::F)->K (.tuple #[PA gb 0,.slice a ys.length c,aD 0]) H'):CF 93 #[PA n 0,.agg ⟨kY o⟩] H K:=by
 refine cM 93 8194785019629852 ?_;have C:fH o.cfg=true:=by unfold gF at f;grind
 refine h.al λb _ h=>⟨_,_,_,_,_,_,_,_,_,_,_,_,_,h.q 0,MH (o:=o) h λH1 h=>⟨_,rfl,λd=>?_,λ_=>?_⟩⟩;.rw [f]at d;cases d
 refine⟨_,h.r 0,?_⟩;have h:=h.o [2,0,1] 3;refine Wc ok ez h (λ_ h4 qs L s0 a c bb rb H2 h0 v h=>⟨_,_,_,_,_,_,_,_,_,rfl,?_⟩) λE=>cS w E;refine h.al λb1 _ h=>h.st 0 rfl rfl λH3 h=>⟨λd=>cS d eh,λ_=>⟨_,_,_,_,_,_,_,_,_,h.q 6,_,_,_,_,_,_,_,h.q 0,?_⟩⟩;have h:=h.o [7,4,3,0,1,2,5,6] 8;have h6:=v.tell;have D:s0=false/\s=cz o.cfg\/s0=true/\L.bs=Fs s:=by grind
 have P:qs.map Ry.rc=O.map λr=>⟨r.kind,r.bytes⟩:=by grind
 have W:L.a=none\/∃syn o,L.a=some ⟨syn,o,none⟩:=by
  rcases v.st with rfl|⟨r,hr,rfl⟩;.exact .inl rfl
  exact M4 h.tl r hr
 refine adz C R0 V D P hv rs rows hk U (λH h=>h.a_ 1 rfl) (λH h q hq=>Cd h q (v.sub q hq)) (λH h=>v.rd h) W h λQ1 sb ys oa oc H4 Y hm S h=>⟨_,_,_,_,_,rfl,λd=>cS d eh,λ_=>?_⟩;have A:=aeB R0 hv;have i:=hk O.length (w_ _);rw[FE]at i;obtain⟨J,I⟩:∃J,dv s O=J:=⟨_,rfl⟩;rw[I]at A i t m syn h;refine⟨_,_,_,_,_,_,_,_,_,_,_,_,_,h.q 9,h.al λb2 H5 h=>?_⟩;have h:=h.cp 266 11;have h:=h.o [2,1,4,0,8,9,10,3,11] 12;have w:=Dz (r:=fL) A (λe B=>cS B (by simp[fL]));refine MG (r:=fL) (x:=⟨bb,rb,sb,.pointer none,none,0⟩) (o:=o) (recs:=0) (ys:=[]) A.ok (by have:=A.sunk;omega) i (ag6 rfl) w.1 w.2 G hB db ez eh (λy M=>cS M eh) h (λB=>cS t B) λ_ Z zs pa pc H6 u h5 h3 h=>⟨_,rfl,λd=>cS d ee,λ_=>⟨some ⟨bb,0,none⟩,h.r 1,some ⟨rb,0,none⟩,h.r 4,?_⟩⟩;have h:=h.o [5,6,0,1,2,3,4,7,8] 9;refine Lw h λH7 h=>⟨rfl,h.st 3 rfl rfl λH8 h=>h.st 3 rfl rfl λH9 h=>⟨some ⟨sb,0,none⟩,h.r 3,⟨_,Mp (h.o [4,0,1,2,3,5,6,7,8] 9),_,h.r 8,?_⟩⟩⟩;have T:1<=o.CO/\o.CO<=1024:=by unfold gF at f;grind
 refine Mz h (λE=>cS ⟨m.1,m.2,T⟩ E) λ_ pb h2 h=>⟨_,_,rfl,h.st 4 rfl rfl λh1 h=>?_⟩;have h:=(h.o [4,5,7,1,2,0,3,8] 10).cp 266 11;have h:=h.o [1,2,0,3,4,5,6,7,8] 9;have hg:=(iv (Q:=Z) (g:=mS o J R)).2 ⟨⟨bb,rb,sb,PA pb 0,none,0⟩,pb,[],rfl,rfl,λz hz=>cS hz eh,h⟩;exact syn Z b2 ys oa oc _ (Y.trans u) hm (λy M=>(S y M).sub u) (hg.o [1,2,0] 3)
theorem Yz(h:∀r∈R,∀x∈B,r.1<x.1):bG (R++B)=bG R++bG B:=by
 refine BF (qx _) ?_ λx=>?_;.rw [List.pairwise_append];refine⟨qx R,qx B,λa c b hb=>?_⟩;obtain⟨r,d,rfl⟩:=zb.1 (lw.1 c);obtain⟨y,e,rfl⟩:=zb.1 (lw.1 hb);grind
 grind [lw]
theorem Oz{X:DR}(h:∀x∈X,x.1≠a):bytesOf a X=[]:=by grind [bytesOf,List.filter_eq_nil_iff]
theorem O0{β:Type}{l:List T}{f g:T->List β}(h:∀x∈l,f x=g x):l.flatMap f=l.flatMap g:=by grind [List.map_congr_left]
theorem Y0{X:DR}(h:∀r∈R,∀x∈X,r.1<x.1):du (R++X)=du R++du X:=by
 unfold du;rw[Yz h,List.flatMap_append];congr 1;.refine O0 λf a=>?_;obtain⟨r,c,rfl⟩:=zb.1 (lw.1 a);rw[rP,Oz (X:=X) λx b=>by grind,Hz]
 refine O0 λf a=>?_;obtain⟨x,b,rfl⟩:=zb.1 (lw.1 a);rw[rP,Oz (X:=R) λr c=>by grind,Hc]
structure jP(rows:DR)(syn:Nat)(s:RL)(R:DR)(L:LG)(n0:Int)(k:Nat):Prop where
 rows':rows=R++fQ L
 ok:L.ok
 low:∀r∈R,r.1<s.hS
 ae6:∀r∈R,∀x∈L,r.1<x.1
 hS:∀x∈L,x.1<=s.hS
 next:s.next=n0+L.length
 kle:k<=L.length
 XE:s.syn=n0+k
 syn:syn=R.length+(fQ (L.take k)).length
theorem jP.push(h:jP B n G R L v k){g:Int}(f:G.hS<=g)(d:x.ok) : jP (B++(bR x).map λb=>(g,b)) n { G with hS:=g,next:=G.next+1 } R (L++[(g,x)]) v k:=by
 refine⟨by rw[M6,VV,h.rows',Fw],⟨λr c=>?_,?_⟩,λx d=>by have:=h.low x d;grind,λx d r c=>?_,λr c=>?_,?_,by rw[qa];have:=h.kle;omega,h.XE,by rw[q3h h.kle];exact h.syn⟩
 .rcases DA.1 c with c|c;.exact h.ok.recs r c
  rw [CS]at c;subst c;exact d
 .rw [List.pairwise_append];refine⟨h.ok.up,List.pairwise_singleton _ _,λa e b hb=>?_⟩;rw[CS]at hb;subst hb;have:=h.hS a e;grind
 .rcases DA.1 c with c|c;.exact h.ae6 x d r c
  rw [CS]at c;subst c;have:=h.low x d;grind
 .rcases DA.1 c with c|c;.have:=h.hS r c;grind
  grind
 rw [qa];have:=h.next;grind
theorem jP.append{rows:DR}{s:RL}(h:jP rows n s R L v k){r:Rc}(hb:aI r.data)(a:jf rows s r=0) : jP (gS rows s r) n (dD rows s r) R (L++[((dD rows s r).hS,r)]) v k:=by
 have hs:=M5 (rows:=rows) (s:=s) (r:=r);have e1:gS rows s r=rows++(bR r).map λb=>((dD rows s r).hS,b):=by unfold gS;grind
 have e2:dD rows s r={ s with hS:=(dD rows s r).hS,next:=s.next+1 }:=by unfold dD;grind
 have:=h.push hs.1 (Ce hb a);rw[<-e1,<-e2]at this;exact this
theorem jP.sync{syn:Nat}(h:jP B syn G R L a k):jP B B.length { G with syn:=G.next } R L a L.length:=⟨h.rows',h.ok,h.low,h.ae6,h.hS,h.next,w_ _,h.next,by rw[FE,h.rows',qa]⟩
theorem jP.trim{rows:LG}(h:jP B B.length G R (L++(v,⟨0,d⟩)::rows) a k)(hs:G.syn=G.next)(j:∀x∈L,x.1<v) : jP (jg v B) (jg v B).length G [] ((v,⟨0,d⟩)::rows) (a+L.length) (rows.length+1):=by
 have c:=h.ok.up;rw[List.pairwise_append]at c;let⟨u1,u2,u3⟩:=c;have f:∀x∈(v,(⟨0,d⟩:Rc))::rows,v<=x.1:=λx n0=>by
  rcases DL.1 n0 with rfl|n0;.grind
  grind [List.pairwise_cons]
 have e:jg v B=fQ ((v,⟨0,d⟩)::rows):=by
  rw[h.rows',M6];unfold jg;rw[List.filter_append,List.filter_append,q2r.2 λr b=>?_,Hc];.have a1:=MD v L;have a2:=MD v ((v,⟨0,d⟩)::rows);unfold jg at a1 a2;rw[a1,a2,q2r.2 λx n0=>by grind,q31.2 λx n0=>RD (f x n0)];rfl
  have:=h.ae6 r b (v,⟨0,d⟩) eh;grind
 have i:=h.next;rw[qa,CU]at i;refine⟨by rw[e];rfl,⟨λx n0=>h.ok.recs x (q2l _ n0),u2⟩,λr b=>cS b eh,λr b=>cS b eh,λx n0=>h.hS x (q2l _ n0),?_,w_ _,?_,?_⟩;.grind
 .omega
 grind
theorem jP.cut(h:jP B n G R L a k)(eS:Int):∃p,k<=p/\p<=L.length/\du (eU B n eS)=du R++(L.take p).map Prod.snd:=by
 unfold eU;obtain⟨syn,i⟩:∃syn,n+(min (max eS 0) ((B.length:Int)-n)).toNat=syn:=⟨_,rfl⟩;rw[i];have f:=h.syn;let⟨p,g,t,m,u,rows,D⟩:=MC L (syn-R.length);have c:∀x∈L,0<(bR x.2).length:=λx n0=>by have:=rS (h.ok.recs x n0);omega
 have C:=D k h.kle ez c;have d:LG.ok (L.take p):=⟨λx n0=>h.ok.recs x (RE n0),h.ok.up.take⟩;refine⟨p,C,u,?_⟩;have e:∀r∈R,∀x∈(fQ L).take (syn-R.length),r.1<x.1:=λr w x n0=>by let⟨y,v,n0⟩:=q1z.1 (RE n0);obtain⟨b,_,rfl⟩:=zb.1 n0;exact h.ae6 r w y v
 rw[h.rows',List.take_append,FL ez,Y0 e,m];congr 1;rcases rows with rfl|⟨r,⟨x,n0,rfl⟩,j,A,rfl⟩;.exact MB d (g:=g) (t:=[]) (λx n0=>by cases n0) rfl
 exact MB d (uZ _ (tU (h.ok.recs x n0))) (UA (h.ok.recs x n0) A)
theorem Y1{rows:DR}(most:Int):jP rows rows.length (KT most rows) rows [] (du rows).length 0:=by unfold KT;exact⟨by simp[fQ],⟨λx a=>cS a eh,List.Pairwise.nil⟩,acJ,λr b x a=>cS a eh,λx a=>cS a eh,eh,w_ _,eh,by simp[fQ]⟩
theorem aa3:∀{l:List Rc},(dK l).1=none->dK l=(none,l)
 | [],_=>rfl
 | r::l,h=>by rw[dK]at h ⊢;grind
theorem DV:∀(a b:List Rc),dK (a++b)=if (dK b).1=none then ((dK a).1,(dK a).2++b) else dK b
 | [],b=>by
  by_cases e:(dK b).1=none
  .rw [c_ e,Hc,aa3 e];rfl
  grind
 | r::a,b=>by
  rw[q2m,dK,DV a b]
  by_cases e:(dK b).1=none
  .simp only[c_ e];rw[dK]
   grind
  grind
theorem O1(l:List Rc)(x:Rc):dK (l++[x])=if x.kind=0 then (some x.data,[]) else ((dK l).1,(dK l).2++[x]):=by
 rw[DV];by_cases h:x.kind=0;.rw [c_ h,b_] <;> simp[dK,h]
 rw [b_ h,c_] <;> simp[dK,h]
theorem Y2(a:List Rc)(h:x.kind=0)(b:List Rc):dK (a++x::b)=dK (x::b):=by rw[DV,b_];grind [dK]
def jA(s:aL):List Rp->List DF
 | []=>[]
 | r::rs=>lf s r++jA (ld s r) rs
theorem DW(r:Rp):∀(rs:List Rp) (s:aL),jA s (rs++[r])=jA s rs++lf (dv s rs) r
 | [],s=>by simp[jA,dv]
 | x::rs,s=>by rw[q2m,jA,DW r rs,jA,Fw];rfl
theorem Y3(s:aL)(rs:List Rp)(r:Rp):dv s (rs++[r])=ld (dv s rs) r:=by grind [dv]
def okE(e:DF):Prop:=(e.kind=1->dQ (nZ e.agent e.epoch e.boot)=true)/\(e.kind=2->dQ (od e.agent e.epoch e.next)=true)/\(e.kind=4->kj e.out)
structure Hs(c:bM)(n:Nat)(s:aL)(E:List DF):Prop where
 R:MK s c n
 sunk:0<=s.sunk
 boots:s.boots<=n
 rgt:∀e∈E,okE e
 len:E.length<=2000*n
theorem Hs.mono(h:Hs c n s E)(hm:n<=k):Hs c k s E:=⟨⟨h.R.R,h.R.cfg,DC h.R.kept (q35 _ hm)⟩,h.sunk,by have:=h.boots;omega,h.rgt,by have:=h.len;omega⟩
theorem Hs.new(a:fH c=true):Hs c 0 (cz c) []:=⟨abr (vQ a),by simp[cz],by simp[cz],λe b=>cS b eh,eh⟩
theorem Y4:(ld s r).boots<=s.boots+1:=by
 refine qH (P:=λq=>q.1.boots<=s.boots+1) (λ_=>?_) (λ_ _=>?_) (λ_ _ _=>?_) (λ_ _ _=>?_) (λ_ _ _=>?_) (λ_ _ _=>?_) (λ_ _ _=>?_) (λ_ _ _=>?_) (λ_ _ _=>?_);.dsimp only;omega
 .dsimp only;omega
 .dsimp only;omega
 .unfold iP;split;.dsimp only;omega
  split <;> (dsimp only;omega)
 .unfold pK;split <;> (dsimp only;omega)
 .unfold iN;split <;> (dsimp only;omega)
 .unfold oX;split
  .split;.dsimp only;omega
   split <;> (dsimp only;omega)
  dsimp only;omega
 .unfold lz;dsimp only;omega
 unfold pL;split <;> (dsimp only;omega)
theorem Y5(h:0<=s.sunk):0<=(ld s r).sunk:=by
 refine qH (P:=λq=>0<=q.1.sunk) (λ_=>?_) (λ_ _=>?_) (λ_ _ _=>?_) (λ_ _ _=>?_) (λ_ _ _=>?_) (λ_ _ _=>?_) (λ_ _ _=>?_) (λ_ _ _=>?_) (λ_ _ _=>?_);.exact h
 .exact h
 .exact h
 .unfold iP;split;.exact h
  split <;> exact h
 .unfold pK;split <;> exact h
 .unfold iN;split <;> exact h
 .unfold oX;split
  .split;.exact h
   split <;> exact h
  exact h
 .exact h
 unfold pL;split;.dsimp only;omega
 exact h
theorem O4(b:0<=a/\a<=63)(c:0<=v/\v<=1099511627776)(d:0<=e/\e<=1099511627776):dQ (nZ a v e)=true:=by grind [dQ,nZ,aU,gg,Fq.nums]
theorem aey(c:0<=a/\a<=63)(d:0<=v/\v<=1099511627776)(b:0<=e/\e<=1099511627776):dQ (od a v e)=true:=by simp[dQ,od,aU,gg,Fq.nums,b.2];omega
theorem O5{e:DF}(a:e.kind≠1)(b:e.kind≠2)(c:e.kind≠4):okE e:=⟨λh=>cS h a,λh=>cS h b,λh=>cS h c⟩
theorem abT{r:Rp}(R:FB s)(A:∀e∈r.evs,aG e.value):∀e∈lf s r,okE e:=by
 have b:=wh R A (r:=r);revert b;unfold lf ld;refine qH (P:=λq=>FB q.1->∀e∈q.2.1,okE e) (λ_ _ e a=>cS a eh) (λ_ _ _ e a=>cS a eh) (λ_ _ _ _ e a=>cS a eh) (λv d y b=>?_) (λ_ _ _ _ e a=>cS a eh) (λv d y b=>?_) (λ_ _ _ _ e a=>cS a eh) (λ_ _ _ _ e a=>?_) (λ_ _ _ _ e a=>cS a eh)
 .have c:=kU v;have x:=Cv (most:=s.cfg.agents) R.ok.rows r.ag r.bt r.nw;have i:r.ag.toNat<s.rows.length:=by rw[R.ok.rows.len];have:=c.ag;omega
  revert b;unfold iP;split;.intro _ e a;cases a
  rename_i u;have u:=Decidable.not_not.1 u;split
  .rename_i d;intro b e a;rcases x with ⟨-,g2,g3,g4,g5⟩|⟨g1,_⟩
   .rcases DA.1 a with a|a;.have:=NJ e a;exact O5 ez ez ez
    rw [CS]at a;subst a;have e1:=NP (e:=(cP s.cfg.agents s.rows r.ag r.bt r.nw).2.1) c.ag.1 i;have f:=b.rows r.ag;have j:=b.ok.rows.ep (cP s.cfg.agents s.rows r.ag r.bt r.nw).2.1;dsimp only at f j;rw[g2,e1]at f;rw[g2]at j;have w:=j (List.mem_iff_getElem.2 ⟨r.ag.toNat,by grind,by grind⟩);have C:=f g3;exact⟨λ_=>O4 c.ag (by dsimp only;omega) (by dsimp only;omega),λh=>cS h (show ¬(1:Int)=2 by decide),λh=>cS h (show ¬(1:Int)=4 by decide)⟩
   rw [g1]at d;cases d
  rename_i d;intro b e a;rcases x with ⟨g1,_⟩|⟨-,g2,g3⟩;.exact cS g1 d
  let⟨g4,g5⟩:=g3 u;rw[CS]at a;subst a;have f:=R.rows r.ag g5;have w:=R.ok.rows.at r.ag;rw[g4];exact⟨λ_=>O4 c.ag (by dsimp only;omega) (by dsimp only;omega),λh=>cS h (show ¬(1:Int)=2 by decide),λh=>cS h (show ¬(1:Int)=4 by decide)⟩
 .have c:=kU v;let⟨st,m⟩:=oY R.ok c d (.inr (.inl y));have i:r.ag.toNat<s.sts.length:=(List.getElem?_eq_some_iff.1 m).1;revert b;unfold iN;rw[m];intro b e a;dsimp only at a b;rcases DA.1 a with a|a;.have:=Do _ e a;exact O5 ez ez ez
  rw [CS]at a;subst a;have B:(nX s r st).1.st.hs=(st.hs.offer r.nx r.evs).1:=by
   unfold nX;generalize (st.hs.offer r.nx r.evs)=O;have:∀n,(dI s.cfg r.nw r.ag r.ep st.hs.next O.2.1 ⟨{ st with hs:=O.1 },s.ms,s.cm⟩ n).1.st.hs=O.1:=by intro n;induction n with
     | zero=>rfl
     | succ n ih=>exact (Ct s.cfg r.nw r.ag (dI s.cfg r.nw r.ag r.ep st.hs.next O.2.1 ⟨{ st with hs:=O.1 },s.ms,s.cm⟩ n).1.st (dI s.cfg r.nw r.ag r.ep st.hs.next O.2.1 ⟨{ st with hs:=O.1 },s.ms,s.cm⟩ n).1.ms (dI s.cfg r.nw r.ag r.ep st.hs.next O.2.1 ⟨{ st with hs:=O.1 },s.ms,s.cm⟩ n).1.cm (O.2.1.getD n Pv.z)).2.1.trans ih
   grind
  have hs:=b.ok.sts (nX s r st).1.st (List.mem_iff_getElem.2 ⟨r.ag.toNat,by grind,by grind⟩);have f:=hs.next;have j:=hs.hs.GS;rw[B]at f j;have w:=c.ep.2;exact⟨λh=>cS h (show ¬(2:Int)=1 by decide),λ_=>aey c.ag w (by dsimp only;omega),λh=>cS h (show ¬(2:Int)=4 by decide)⟩
 obtain⟨q,t,rfl⟩:=XR a;have t:q<(ip s.next (gD s r.nw) (gD s r.nw).length).length:=t;show okE (ip s.next (gD s r.nw) (gD s r.nw).length)[q];rw[Dp];refine⟨λh=>cS h (show ¬(4:Int)=1 by decide),λh=>cS h (show ¬(4:Int)=2 by decide),λ_=>?_⟩;have k:q<(gD s r.nw).length:=by rw[qE]at t;exact t
 dsimp only;rw[List.getD_eq_getElem?_getD,List.getElem?_eq_getElem k];exact R.cm _ (yZ (yE (s_ k)))
theorem O6(ok:cY s):(lf s r).length<=2000:=by
 cases hR:r.right with
 | false=>
  have:lf s r=[]:=by unfold lf bU;grind
  grind
 | true=>grind [Dx,Rp.DK]
theorem Hs.step{c:bM}{n:Nat}{s:aL}{E:List DF}(h:Hs c n s E){r:Rp}(b:∀e∈r.evs,aG e.value):Hs c (n+1) (ld s r) (E++lf s r):=by
 refine⟨h.R.step b,Y5 h.sunk,?_,λe a=>?_,by rw[qa];have:=h.len;have:=O6 (r:=r) h.R.R.ok;omega⟩;.have:=Y4 (s:=s) (r:=r);have:=h.boots;omega
 rcases DA.1 a with a|a;.exact h.rgt e a
 exact abT h.R.R b e a
theorem Hs.run{c:bM}:∀{rs:List Rp} {n:Nat} {s:aL} {E:List DF},Hs c n s E->(∀r∈rs,∀e∈r.evs,aG e.value)->Hs c (n+rs.length) (dv s rs) (E++jA s rs)
 | [],n,s,E,h,_=>by rw[jA,Hz];exact h
 | r::rs,n,s,E,h,hv=>by have:=Hs.run (h.step (hv r (DT ..))) λx a=>hv x (DG _ a);rw[jA,<-Fw,CU,show n+(rs.length+1)=n+1+rs.length by omega];exact this
def rcO(r:Rp):Rc:=⟨r.kind,r.bytes⟩
structure Led(c:bM)(n:Nat)(l:List Rc)(s0:aL)(E0:List DF)(rs:List Rp)(m:Nat):Prop where
 h0:Hs c m s0 E0
 len:m+rs.length<=n
 tell:dK l=(none,rs.map rcO)/\s0=cz c/\E0=[]\/dK l=(some (Fs s0),rs.map rcO)
 GJ:∀r∈rs,∀e∈r.evs,aG e.value
 oks:∀j (hj:j<rs.length),(bU (dv s0 (rs.take j)) rs[j]).2.2=0
def fA(c:bM)(n:Nat)(l:List Rc)(s:aL)(E E0:List DF):Prop:=∃s0 rs m,Led c n l s0 E0 rs m/\s=dv s0 rs/\E=E0++jA s0 rs
theorem fA.hs{a:List DF}(h:fA c n A s E a):Hs c n s E:=by obtain⟨s0,b,m,h,rfl,rfl⟩:=h;exact (h.h0.run h.GJ).mono h.len
theorem fA.mono{a:List DF}(h:fA c n A s E a)(d:n<=k):fA c k A s E a:=by let⟨s0,f,m,h,e⟩:=h;exact⟨s0,f,m,⟨h.h0,DC h.len d,h.tell,h.GJ,h.oks⟩,e⟩
theorem fA.same{b:List Rc}{a:List DF}(h:fA c n A s E a)(e:dK A=dK b):fA c n b s E a:=by let⟨s0,f,m,h,d⟩:=h;exact⟨s0,f,m,⟨h.h0,h.len,by rw[<-e];exact h.tell,h.GJ,h.oks⟩,d⟩
theorem fA.pre{a:List DF}(h:fA c n A s E a):a <+: E:=by obtain⟨s0,b,m,h,rfl,rfl⟩:=h;grind
theorem fA.new{c:bM}(b:fH c=true):fA c 0 [] (cz c) [] []:=⟨cz c,[],0,⟨Hs.new b,w_ _,.inl ⟨rfl,rfl,rfl⟩,λr a=>cS a eh,λj d=>cS d eh⟩,rfl,rfl⟩
theorem fA.rec{d:List DF}(h:fA c n A s E d)(k:∀e∈r.evs,aG e.value)(t:(bU s r).2.2=0):fA c (n+1) (A++[rcO r]) (ld s r) (E++lf s r) d:=by
 obtain⟨s0,i,m,h,rfl,rfl⟩:=h;have v:r.kind≠0:=by have u:=ub t;unfold Rp.right at u;grind
 refine⟨s0,i++[r],m,⟨h.h0,by rw[qa];have:=h.len;grind,?_,λx a=>?_,λj f=>?_⟩,(Y3 _ _ _).symm,by grind [DW]⟩
 .rw [O1,b_ (show ¬(rcO r).kind=0 from v)];rcases h.tell with ⟨t1,t2⟩|t1;.grind
  grind
 .rcases DA.1 a with a|a;.exact h.GJ x a
  rw [CS]at a;subst a;exact k
 rw [qa]at f;simp only[CU,HE]at f;rcases HU j i.length with b|b;.rw [q3h ez];have:=h.oks j b;grind
 grind
theorem fA.YC{a:List DF}(h:fA c n A s E a):fA c n (A++[⟨0,Fs s⟩]) s E E:=⟨s,[],n,⟨h.hs,w_ _,.inr (by rw[O1,c_ rfl];rfl),λr b=>cS b eh,λj d=>cS d eh⟩,rfl,by grind [jA]⟩
theorem O7(s:aL)(rs:List Rp):∀n,KB s rs n=lC s s.kept.length++(jA s (rs.take n)).flatMap dp
 | 0=>by simp[KB,jA]
 | n+1=>by rw[KB,O7 s rs n];cases h:rs[n]? with
  | none=>rw[List.take_add_one,h];simp
  | some r=>rw[List.take_add_one,h,Option.toList_some,DW,List.flatMap_append,Fw]
theorem DX(h:f.kind≠5)(c:f.kind≠8)(b:iM { kind:=f.kind } (aU f.kind) ((aU f.kind).map f.nums)=f)(d:dQ f=true):cX (cO f)=.ok f:=by
 have hb:gC f=aP [f.kind]++PL f (aU f.kind):=by unfold gC jJ;grind
 have m:(gC f).length<=100:=by have j:=dP [f.kind];have l1:=Cg f (aU f.kind);grind [vC]
 have hs:(ei (gC f)).length<=104:=by grind [rR]
 have a:=d;unfold dQ at a;simp only[q_,v_,XQ]at a;have e:cO f=ei (gC f):=by unfold cO;grind
 unfold cX;rw[e,nO,BT,b_ eh];dsimp only;unfold nR pH;have e2:aP [f.kind]++PL f (aU f.kind)=aP [f.kind]++(((aU f.kind).flatMap λi=>aP [f.nums i])++[]):=by grind
 rw[hb,e2,uc ez ez];dsimp only;rw[nO];dsimp only;rw[zc (λi hi=>by have:=a.1.2 i hi;unfold aG;omega) _ _ (w_ _),FE,V_];dsimp only;unfold lV;rw[b,b_ h,b_ c];unfold Xm;dsimp only;have k:dG ⟨0,([]:List Nat).flatMap (λi=>aP [f.nums i])++[]⟩=⟨0,[]⟩:=rfl;grind
theorem Y6(h:dQ (nZ a e v)=true):cX (cO (nZ a e v))=.ok (nZ a e v):=DX (show (2:Int)≠5 by decide) (show (2:Int)≠8 by decide) rfl h
theorem adt(h:dQ (od a e v)=true):cX (cO (od a e v))=.ok (od a e v):=DX (show (6:Int)≠5 by decide) (show (6:Int)≠8 by decide) rfl h
theorem Y7(h:dQ (jL a e v)=true):cX (cO (jL a e v))=.ok (jL a e v):=DX (show (3:Int)≠5 by decide) (show (3:Int)≠8 by decide) rfl h
structure GI(g:Gg)(j:Nat)(r_:List aL)(Ek E:List DF)(R:DR)(L:LG)(n0:Int)(k:Nat):Prop where
 opt:gF g.o=true
 few:g.o.cfg.cells.toNat<=200
 ti:TI g.o.f_ g.rows g.syn g.rl j
 log:jP g.rows g.syn g.rl R L n0 k
 bk:g.saved=true->∃A d B,L=A++(g.hS,⟨0,d⟩)::B/\(∀x∈A,x.1<g.hS)/\g.num=n0+A.length
 all:∀p,k<=p->p<=L.length->∃s E1 E0,fA g.o.cfg j (du R++(L.take p).map Prod.snd) s E1 E0/\Ek <+: E1/\E1 <+: E/\E0 <+: Ek/\s∈r_
 top:∃E0,fA g.o.cfg j (du R++L.map Prod.snd) g.s E E0/\E0 <+: Ek
 pend:∃E',E=Ek++E'/\g.pend=E'.flatMap dp
 last:g.s∈r_
 recs:0<=g.recs/\g.recs<=j
 aan:g.pend.length<=2000*j
 o_:kh g.p
 count:g.p.count<=64*j
 boot:g.p.boot=g.s.boots
section
variable {g:Gg}{j:Nat}{r_:List aL}{Ek E:List DF}{R:DR}{L:LG}{n0:Int}{k:Nat}
theorem GI.hs(h:GI g j r_ Ek E R L n0 k):Hs g.o.cfg j g.s E:=by let⟨b,a,_⟩:=h.top;exact a.hs
theorem GI.ok(h:GI g j r_ Ek E R L n0 k)(f:j<=3000):iT g:=by have b:=h.hs.R;have a:=h.ti;have c:=a.len;have i:=a.hS;have d:=h.recs;have e:=h.aan;exact⟨b.R,b.few h.few ez,a.ok ez,ez,ez,ez,ez,h.o_⟩
theorem GI.mono(h:GI g j r_ Ek E R L n0 k):GI g (j+1) r_ Ek E R L n0 k:=by let⟨c,e,f⟩:=h.top;refine⟨h.opt,h.few,h.ti.mono,h.log,h.bk,λp a b=>?_,⟨c,e.mono (YU _),f⟩,h.pend,h.last,by have:=h.recs;omega,by have:=h.aan;omega,h.o_,by have:=h.count;omega,h.boot⟩;let⟨s,d,c,a1,a2⟩:=h.all p a b;exact⟨s,d,c,a1.mono (YU _),a2⟩
theorem GI.up(I:GI g j r_ Ek E R L n0 k){i:Nat}(h:j<=i):GI g i r_ Ek E R L n0 k:=by obtain⟨d,rfl⟩:∃d,i=j+d:=⟨i-j,ez⟩;clear h;induction d with
  | zero=>exact I
  | succ d ih=>exact ih.mono
theorem GI.agm(h:GI g j r_ Ek E R L n0 k){p:Pb}(a:kh p)(b:p.count<=64*j)(c:p.boot=g.p.boot):GI { g with p:=p } j r_ Ek E R L n0 k:=⟨h.opt,h.few,h.ti,h.log,h.bk,h.all,h.top,h.pend,h.last,h.recs,h.aan,a,b,c.trans h.boot⟩
theorem Y8{s:aL}{r:Rp}(a:r.kind≠1):(ld s r).boots=s.boots:=by
 refine qH (P:=λq=>q.1.boots=s.boots) (λ_=>rfl) (λ_ _=>rfl) (λ_ _ h=>cS h a) (λ_ _ _=>?_) (λ_ _ _=>?_) (λ_ _ _=>?_) (λ_ _ _=>?_) (λ_ _ _=>rfl) (λ_ _ _=>?_);.grind [iP]
 .grind [pK]
 .grind [iN]
 .grind [oX]
 grind [pL]
theorem O8(l:List DF):(l.flatMap dp).length<=l.length:=by induction l with
  | nil=>simp
  | cons e l ih=>grind [dp]
theorem GI.cmt(h:GI g j r_ Ek E R L n0 k)(N:j<=3000){r:Rp}(v:∀e∈r.evs,aG e.value)(D:r.kind≠1)(x:(cI g r).2=0) : ∃f H,GI (cI g r).1 (j+1) (r_++[(cI g r).1.s]) Ek f R H n0 k/\(cI g r).1.syn=g.syn/\g.rows.length<(cI g r).1.rows.length:=by
 have u:(bU g.s r).2.2=0:=by unfold cI at x;grind
 have K:(cI g r).1={ g with s:=(bU g.s r).1,pend:=g.pend++(bU g.s r).2.1.flatMap dp,recs:=g.recs+1,rl:=dD g.rows g.rl ⟨r.kind,r.bytes⟩,rows:=gS g.rows g.rl ⟨r.kind,r.bytes⟩ }:=by unfold cI;grind
 have y:=ub u;have w:=h.ti.hS;have t:=CG (rows:=g.rows) (s:=g.rl) ez y;let⟨n,t1,t2⟩:=h.top;let⟨f,p1,p2⟩:=h.pend;have hb:=Rp.GY r;have M:=Rp.E9 r;have c:=h.log.append (r:=⟨r.kind,r.bytes⟩) hb t;have m:gS g.rows g.rl ⟨r.kind,r.bytes⟩=g.rows++(bR ⟨r.kind,r.bytes⟩).map λb=>((dD g.rows g.rl ⟨r.kind,r.bytes⟩).hS,b):=by unfold gS;grind
 have I:=rS (Ce (r:=⟨r.kind,r.bytes⟩) hb t);have t3:=t1.rec v u;have G:=O6 (r:=r) h.hs.R.R.ok;have C:=O8 (lf g.s r);rw[K];refine⟨E++lf g.s r,L++[((dD g.rows g.rl ⟨r.kind,r.bytes⟩).hS,⟨r.kind,r.bytes⟩)],⟨h.opt,h.few,h.ti.append ez hb (by grind),c,λhs=>?_,λp a b=>?_,⟨n,?_,t2⟩,⟨f++lf g.s r,by grind,?_⟩,q2l _ (CS.2 rfl),?_,?_,h.o_,?_,?_⟩,rfl,?_⟩;.let⟨A,d,B,b1,b2,b3⟩:=h.bk hs;grind
 .rw [qa]at b;simp only[CU,HE]at b;rcases HU L.length p with i|i;.obtain rfl:p=L.length+1:=ez;rw[FL eh,F4,<-Fw];exact⟨_,_,n,t3,by grind,N_,t2,q2l _ (CS.2 rfl)⟩
  rw [q3h i];let⟨s,J,F,a1,a2,a3,a4,a5⟩:=h.all p a i;exact⟨s,J,F,a1.mono (YU _),a2,a3.trans (List.prefix_append _ _),a4,q2z _ a5⟩
 .rw [F4,<-Fw];exact t3
 .grind
 .have:=h.recs;grind
 .have:=h.aan;grind
 .have:=h.count;grind
 .exact h.boot.trans (Y8 D).symm
 grind
theorem GI.sync(h:GI g j r_ Ek E R L n0 k)(J:j<=3000):∃D F t G,GI (j9 g) (j+3) [g.s] E E D F t G/\(j9 g).s=g.s/\(j9 g).o=g.o/\(j9 g).pend=[]:=by
 let⟨m,t1,t2⟩:=h.top;let⟨I,p1,p2⟩:=h.pend;have e:m <+: E:=t1.pre;obtain⟨R1,c,m0,l1,l2,l3⟩:∃R1 c m0,jP (gH g) (gH g).length { g.rl with syn:=g.rl.next } R1 c m0 c.length/\(g.saved=true->∃A d B,c=A++(g.hS,⟨0,d⟩)::B/\(∀x∈A,x.1<g.hS)/\g.num=m0+A.length)/\ fA g.o.cfg j (du R1++c.map Prod.snd) g.s E m:=by
  unfold gH;split;.rename_i n;let⟨A,d,B,b1,b2,b3⟩:=h.bk n.1;have v:=h.log.sync;rw[b1]at v;refine⟨[],(g.hS,⟨0,d⟩)::B,n0+A.length,v.trim rfl b2,λ_=>⟨[],d,B,rfl,λx u=>cS u eh,by grind⟩,t1.same ?_⟩;rw[b1,F4,Hy,<-Fw,Y2 _ rfl,show du []=[] from yJ.2.1,Hc]
  exact⟨R,L,n0,h.log.sync,h.bk,t1⟩
 have i:TI g.o.f_ (gH g) (gH g).length { g.rl with syn:=g.rl.next } (j+2):=by
  unfold gH;split;.exact h.ti.sync.drop g.hS
  exact h.ti.sync.mono
 have y:=h.recs;have w:=h.count;unfold j9;split
 .rename_i n;have f:(⟨0,Fs g.s⟩:Rc).ok:=⟨F_ 0,by grind,n.2,yT _⟩;have l4:=l1.push (g:=g.rl.hS+1) (by grind) f;have C:=l3.YC;refine⟨R1,_,m0,c.length,⟨h.opt,h.few,i.save ez f n.2,l4,λ_=>⟨c,Fs g.s,[],rfl,λx u=>?_,l1.next⟩,λp a b=>?_,⟨E,?_,N_⟩,⟨[],eh,rfl⟩,CS.2 rfl,?_,eh,h.o_,?_,h.boot⟩,rfl,rfl,rfl⟩;.have:=l1.hS x u;grind
  .rw [qa]at b;simp only[CU,HE]at b;rcases HU c.length p with H|H;.obtain rfl:p=c.length+1:=ez;rw[FL eh,F4,<-Fw];exact⟨_,_,E,C.mono ez,N_,N_,N_,CS.2 rfl⟩
   obtain rfl:p=c.length:=ez;rw[List.take_left];exact⟨_,_,m,l3.mono ez,N_,N_,e,CS.2 rfl⟩
  .rw [F4,<-Fw];exact C.mono ez
  .grind
  grind
 refine⟨R1,c,m0,c.length,⟨h.opt,h.few,i.mono,l1,l2,λp a b=>?_,⟨m,l3.mono ez,e⟩,⟨[],eh,rfl⟩,CS.2 rfl,?_,eh,h.o_,?_,h.boot⟩,rfl,rfl,rfl⟩;.obtain rfl:p=c.length:=ez;rw[FE];exact⟨_,_,m,l3.mono ez,N_,N_,e,CS.2 rfl⟩
 .grind
 grind
theorem GI.ZI(h:GI g j r_ Ek E R L n0 k)(c:j<=3000)(eS:Int):∃s a b,fA g.o.cfg j (du (eU g.rows g.syn eS)) s a b/\Ek <+: a/\a <+: E/\b <+: Ek/\s∈r_/\ TI g.o.f_ (eU g.rows g.syn eS) (eU g.rows g.syn eS).length (KT g.o.f_ (eU g.rows g.syn eS)) (j+1)/\gh g.o.f_ (eU g.rows g.syn eS)=0:=by let⟨p,p1,p2,p3⟩:=h.log.cut eS;let⟨s,a,b,a1,a2,a3,a4,a5⟩:=h.all p p1 p2;have d:=h.ti.ZI ez eS;grind
theorem O9{s:aL}(h:s.boots<1099511627776):bU s fL=({ s with boots:=s.boots+1 },[],0):=by unfold bU;rw[b_ ee,b_,c_ (show fL.kind=1 from rfl)];unfold gE;rw[c_ (show fL.kind=1 from rfl),nO];decide
theorem OA{o:ZX}(m:gF o=true)(y:o.cfg.cells.toNat<=200){rows:DR}{s:aL}{k:List DF}(c:fA o.cfg j (du rows) s E k)(t:TI o.f_ rows rows.length (KT o.f_ rows) j)(D:j<=3000) : ∃x,GI (mS o s rows) (j+2) [ld s fL] E E rows x (du rows).length 1:=by
 have hb:s.boots<1099511627776:=by have:=c.hs.boots;omega
 have n:=O9 hb;have u:(bU s fL).2.2=0:=by rw[n]
 have w:=t.hS;have A:=CG (rows:=rows) (s:=KT o.f_ rows) ez (ub u);have d:=Rp.GY fL;have v:=Rp.E9 fL;have l1:=((Y1 (rows:=rows) o.f_).append (r:=⟨1,fL.bytes⟩) d A).sync;have l2:=c.rec (r:=fL) (λe i=>cS i (by simp[fL])) u;have i:lf s fL=[]:=by grind
 rw[i,Hz]at l2;have C:=c.hs.R.R.ok.boots;have f:1<=o.CO/\o.CO<=1024:=by unfold gF at m;grind
 refine⟨[((dD rows (KT o.f_ rows) ⟨1,fL.bytes⟩).hS,⟨1,fL.bytes⟩)],⟨m,y,?_,l1,λh=>cS h (by simp[mS]),λp a b=>?_,⟨k,l2.mono ez,c.pre⟩,⟨[],eh,rfl⟩,CS.2 rfl,?_,by simp[mS],?_,?_,rfl⟩⟩;.exact (t.append ez d (by grind)).sync
 .have B:p=1:=by grind
  subst B;exact⟨_,_,k,l2.mono ez,N_,N_,c.pre,CS.2 rfl⟩
 .show (0:Int)<=0/\(0:Int)<=_;omega
 .refine⟨by show (0:Int)<=0/\(0:Int)<=1000000000000;omega,f,by simp[mS],by simp[mS],?_⟩;show aG (bU s fL).1.boots;rw[n];unfold aG;grind
 show (0:Int)<=_;omega
theorem Y9(p:Pb)(a e b c:Int):(fI p a e b c).2.2.boot=p.boot/\(fI p a e b c).2.2.count=p.count:=by unfold fI;grind
theorem DY(f:Fq)(a n x:Int):(lg f a n x).kind≠1/\((lg f a n x).evs=f.evs\/(lg f a n x).evs=[]):=by unfold lg;grind
theorem uk{α:Type}{s:RS}{v:α}{e:Int}(h:FO s v=.error e):e≠0:=by grind [FO]
theorem abV{s:RS}{e:Int}(h:eT s=.error e):e≠0:=uk h
theorem OB:∀{n:Nat} {s:RS} {e:Int},j4 n s=.error e->e≠0
 | 0,_,_,h=>by cases h
 | n+1,s,e,h=>by
  unfold j4 at h
  split at h
  .rename_i a;cases h;exact OB a
  .split at h
   .rename_i b;cases h;exact uk b
   .cases h
theorem OC:∀{n:Nat} {s:RS} {e:Int},j6 n s=.error e->e≠0
 | 0,_,_,h=>by cases h
 | n+1,s,e,h=>by
  unfold j6 at h
  split at h
  .rename_i a;cases h;exact OC a
  .split at h
   .rename_i b;cases h;exact uk b
   .cases h
theorem acR{x:Except Int (Fq×RS)}(a:∀e,x=.error e->e≠0){e:Int}(h:Xm x=.error e):e≠0:=by unfold Xm at h;grind
theorem acY{bs:List Int}{e:Int}(h:cX bs=.error e):e≠0:=by
 unfold cX at h;split at h;.grind
 split at h;.grind
 unfold nR at h;split at h;.grind [pH,abV]
 split at h;.grind [OB]
 refine acR (λe a=>?_) h;unfold lV at a;split at a
 .split at a
  .rename_i b;cases a;unfold mM at b;split at b;.rename_i c;cases b;exact uk c
   grind [OC]
  cases a
 split at a
 .split at a;.rename_i b;cases a;exact uk b
  grind [uk]
 cases a
def um(g:Gg)(x:Gg×Int):Prop:=∃p,kh p/\p.boot=g.p.boot/\p.count=g.p.count/\((x.1={ g with p:=p }/\x.2≠0)\/∃r:Rp,x=cI { g with p:=p } r/\r.kind≠1/\∀e∈r.evs,aG e.value)
theorem YY(b:kh g.p)(a n:Int)(bs:List Int):um g (om g a n bs):=by
 unfold om;cases hd:cX bs with
  | error e=>exact⟨g.p,b,rfl,rfl,.inl ⟨rfl,acY hd⟩⟩
  | ok f=>
  have d:=Oo hd;have key:∀x,∀e∈(lg f a n x).evs,aG e.value:=λx e c=>by
   rcases (DY f a n x).2 with h|h;.rw [h]at c;exact d e c
   rw [h]at c;cases c
  show um g (mP g f a n);unfold mP;split;.exact⟨g.p,b,rfl,rfl,.inl ⟨rfl,show (16:Int)≠0 by decide⟩⟩
  split;.exact⟨g.p,b,rfl,rfl,.inl ⟨rfl,show (10:Int)≠0 by decide⟩⟩
  split
  .have hs:=Y9 g.p a f.ep f.bt f.ct;split;.rename_i c;exact⟨_,D2 b a f.ep f.bt f.ct,hs.1,hs.2,.inl ⟨rfl,c⟩⟩
   exact⟨_,D2 b a f.ep f.bt f.ct,hs.1,hs.2,.inr ⟨_,rfl,(DY f a n _).1,key _⟩⟩
  exact⟨g.p,b,rfl,rfl,.inr ⟨_,rfl,(DY f a n _).1,key _⟩⟩
theorem YZ(a:kh g.p)(n:Int):um g (cI g (pT n)):=⟨g.p,a,rfl,rfl,.inr ⟨_,rfl,show (7:Int)≠1 by decide,λe b=>cS b (by simp[pT])⟩⟩
theorem GI.call(h:GI g j r_ Ek E R L n0 k)(i:j<=3000){x:Gg×Int}(d:um g x):∃a c,GI x.1 (j+1) (if x.2=0 then r_++[x.1.s] else r_) Ek a R c n0 k/\x.1.syn=g.syn/\x.1.o=g.o/\(x.2=0->g.rows.length<x.1.rows.length)/\ (x.2≠0->x.1.s=g.s/\x.1.pend=g.pend/\x.1.rows=g.rows):=by
 let⟨p,p1,p2,p3,d⟩:=d;have b:=h.agm p1 (by have:=h.count;omega) p2;rcases d with ⟨e1,e2⟩|⟨r,rfl,m,f⟩;.refine⟨E,L,?_,by rw[e1],by rw[e1],λh=>cS h e2,λ_=>by grind⟩;rw[b_ e2,e1];exact b.mono
 by_cases he:(cI { g with p:=p } r).2=0
 .let⟨a,c,a1,a2,a3⟩:=b.cmt i f m he;refine⟨a,c,?_,a2,?_,λ_=>a3,λh=>cS he h⟩;.rw [c_ he];exact a1
  grind [cI]
 have e:(cI { g with p:=p } r).1={ g with p:=p }:=by unfold cI at he ⊢;grind
 refine⟨E,L,?_,by rw[e],by rw[e],λh=>cS h he,λ_=>by grind⟩;rw[b_ he,e];exact b.mono
theorem wl{s:aL}{now period:Int}{p:Pb}:∀n,(dR s now period p n).1.boot=p.boot
 | 0=>rfl
 | n+1=>by
  rw[dR]
  split
  .exact wl n
  .exact wl n
theorem OD{s:aL}{now period:Int}{p:Pb}(b:0<=p.count/\p.count+64<=1000000000000)(hb:0<=p.boot/\p.boot<=1099511627776):∀n,n<=64->p.count<=(dR s now period p n).1.count/\(dR s now period p n).1.count<=p.count+n/\
  ∀o∈(dR s now period p n).2,o.kind=1/\∃f:Fq,cX o.bs=.ok f/\f.kind=3/\f.bt=p.boot/\f.ag=o.ag
 | 0,_=>⟨F_ _,by show p.count<=p.count+((0:Nat):Int);omega,λo a=>cS a (by simp[dR])⟩
 | n+1,hn=>by
  let⟨a1,a2,a3⟩:=OD (s:=s) (now:=now) (period:=period) b hb n ez;rw[dR]
  split
  .refine⟨?_,?_,λo a=>?_⟩
   .show _<=(dR s now period p n).1.count+1;omega
   .show (dR s now period p n).1.count+1<=_;omega
   .rcases DA.1 a with a|a
    .grind
    .rw [CS]at a;subst a;refine⟨rfl,_,Y7 ?_,rfl,wl n,rfl⟩;have c:=wl (s:=s) (now:=now) (period:=period) (p:=p) n;simp[dQ,jL,aU,gg,Fq.nums];omega
  grind
theorem OE{s:aL}{now:Int}(h:(bU s (fK now)).2.2=0):0<=now/\now<=4611686018427387903:=(kU (ub h)).nw
theorem GI.step(h:GI g j r_ Ek E R L n0 k)(t:j<=3000)(now:Int):∃b c,GI (dm g now).1 (j+1) (if (dm g now).2.2=0 then r_++[(dm g now).1.s] else r_) Ek b R c n0 k/\(dm g now).1.syn=g.syn/\(dm g now).1.o=g.o/\ ((dm g now).2.2=0->g.rows.length<(dm g now).1.rows.length)/\((dm g now).2.2≠0->(dm g now).1.s=g.s/\(dm g now).1.pend=g.pend/\(dm g now).1.rows=g.rows)/\ ∀o∈(dm g now).2.1,o.kind=1/\∃f:Fq,cX o.bs=.ok f/\f.kind=3/\f.bt=g.s.boots/\f.ag=o.ag:=by
 have u:um g (cI g (fK now)):=⟨g.p,h.o_,rfl,rfl,.inr ⟨_,rfl,show (6:Int)≠1 by decide,λe a=>cS a (by simp[fK])⟩⟩;let⟨b,c,a1,a2,a3,a4,a5⟩:=h.call t u;have d:=h.count;have ep:(cI g (fK now)).1.p=g.p:=by grind [cI]
 unfold dm;by_cases a:(cI g (fK now)).2=0
 .rw [b_ (by grind)];have i:=OE (s:=g.s) (now:=now) (by unfold cI at a;grind);have v:=D6 (s:=(cI g (fK now)).1.s) (period:=g.o.period) h.o_ ez i 64 (w_ _);have hb:0<=g.p.boot/\g.p.boot<=1099511627776:=by rw[h.boot];exact h.hs.R.R.ok.boots
  have n:=OD (s:=(cI g (fK now)).1.s) (now:=now) (period:=g.o.period) ⟨h.o_.count.1,ez⟩ hb 64 (w_ _);refine⟨b,c,?_,a2,a3,λ_=>a4 a,λw=>cS rfl w,λo m=>?_⟩;.rw [c_ a]at a1;rw[c_ rfl];exact a1.agm v.1 (by grind) (by grind [wl])
  have:=n.2.2 o m;rw[h.boot]at this;exact this
 grind
end
end Go.Proofs.YtlmphkpeajnhjaaGreatDoor
