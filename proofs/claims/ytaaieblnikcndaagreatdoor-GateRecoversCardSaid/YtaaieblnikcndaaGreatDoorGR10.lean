/-
  Lemmas for GateRecovers: part 10 of what it rests on. Conditions: none.
-/
import Derived.Test.YtaaieblnikcndaaGreatDoorGR9
set_option linter.unusedVariables false
set_option linter.unusedSimpArgs false
set_option maxRecDepth 100000
set_option maxHeartbeats 16000000
open Go.IntKind (i64 u64 i8 u8 i32 u32 i16 u16)
namespace Go.Proofs.YtaaieblnikcndaaGreatDoor
open Go
def iI(s:aH):Nat->List Ou
 | 0=>[]
 | n+1=>iI s n++[jC (s.sunk+(n:Nat)) (s.kept.getD n Ot.z)]
def recT(s:aH)(rs:List Rp):Nat->List Ou
 | 0=>iI s s.kept.length
 | n+1=>recT s rs n++(match rs[n]? with|some r=>(bO (dH s (rs.take n)) r).2.1.flatMap cI|none=>[])
section
variable {F L:List aE}{H:aC}{K:KE}{Q:aE}
theorem stA_perm{sb:Nat}{s:aH}(R:Rch s)(h:aA H (stA Q sb (jG s)::F)):aA H (stA Q sb s::F):=by
 obtain⟨p,h⟩:=cX.1 h;have a:=uQ R;have e1:Ma.mapF p.mm (jG s).ms.m=Ma.mapF p.mm s.ms.m:=nC a.1.symm;have e2:cz p.hm (jG s).cm=cz p.hm s.cm:=nC a.2.symm;rw[e1,e2]at h;exact cX.2 ⟨p,h⟩
theorem uS(s:aH):∀n,(iI s n).length=n
 | 0=>rfl
 | n+1=>by rw[iI,V7,uS s n];rfl
theorem Rec_spec{c:bD}{s0:aH}{rs:List Rp}{s:List Ry}{v:Fy}{has:Bool}{O:KQ}{Y:Nat}(Z:fC c=true)(A:Rch s0)(hc0:s0.cfg=c)
  (r0:has=false/\s0=bT c\/has=true/\v.bs=stB s0) (h8:s.map Ry.rc=rs.map λr=>⟨r.kind,r.bytes⟩) (hv:∀r∈rs,∀e∈r.evs,aF e.value)
  (h1:∀j (hj:j<rs.length),(bO (dH s0 (rs.take j)) rs[j]).2.2=0) (hk0:s0.kept.length<=40000) (hk:∀j,j<=rs.length->(dH s0 (rs.take j)).kept.length<=1000000) (hrl:rs.length<=100000)
  (hq:∀H,aA H F->aP H O (flat fW s)) (hqd:∀H,aA H F->∀q∈s,aP H q.y.a (q.y.bs.map U8)) (hfy:∀H,aA H F->aP H v.a (v.bs.map U8)) (hfa:v.a=none\/∃k o,v.a=some ⟨k,o,none⟩)
  (h:aA H (Q::F))
  (k:∀Q' sb ys a c' J,aM Q Q'->ys.map Oy.o=recT s0 rs rs.length->(∀y∈ys,fQ Q' y)->aA J (Q'::slA 91 11 a ys.length c' (flat bJ ys)::stA Q' sb (dH s0 rs)::F)->K (.tuple #[PA sb 0,.slice a ys.length c',aD 0]) J) :
  CF 46 #[.agg ⟨oA c⟩,.agg #[dV v,.bool has,.slice O s.length Y]] H K:=by
 have hql:s.length=rs.length:=by have:=congrArg List.length h8;grind
 refine cN 46 0x1121749d1215612399251442156123992511d1d44c [[(9,sS),(54,sI)],[(9,sS),(36,sI)],[(7,sP),(8,sI)]] ?_;refine h.al λb _ h=>?_
 refine h.al λb1 _ h=>⟨_,_,_,_,_,_,_,_,_,h.q 1,?_⟩
 refine K0 (Q:=Q) h (λhn=>V6 hn (by rw[Z];simp)) λ_ sb H1 h=>⟨some ⟨sb,0,none⟩,_,rfl,_,h.r 1,?_⟩
 intro Jn hJ;have fin:∀(Q1:aE) (sb:Nat) J,aM Q Q1->aA J (Q1::stA Q1 sb s0::cellsA b1 [dV v,.bool has,.slice O s.length Y] 129::F)->Jn (some ⟨sb,0,none⟩) 0 J:=by
  intro Q1 sb H2 hs1 h;refine hJ _ _ _ ⟨λhc=>V6 hc (by decide),λ_=>?_⟩
  refine TW (by omega) (h.o [1,0,2] 3) λka kc H3 h=>⟨_,_,_,rfl,?_⟩
  refine⟨λla ln lc i J=>∃(j:Nat) (ys:List Oy) (Q':aE),i=j/\j<=s0.kept.length/\ln=ys.length/\aM Q Q'/\ys.map Oy.o=iI s0 j/\(∀y∈ys,fQ Q' y)/\
    aA J (Q'::slA 91 11 la ys.length lc (flat bJ ys)::slA 164 74 ka s0.kept.length kc (flat cJ s0.kept)::stA Q' sb s0::cellsA b1 [dV v,.bool has,.slice O s.length Y] 129::F),
   λ_ _ _ i _=>s0.kept.length-i.toNat,⟨0,[],Q1,rfl,by omega,rfl,hs1,rfl,λy U=>V6 U (by simp),(h.sl_nil 91 11).o [3,0,1,2,4] 5⟩,?_⟩
  rintro la ln lc i H4 ⟨j,ys,P,rfl,hj,rfl,h0,hm,h7,h⟩;have hyl:ys.length=j:=by rw[<-uS s0 j,<-hm,VM]
  refine⟨λd=>?_,λd=>?_⟩
  .have d:j<s0.kept.length:=by grind
   have hw:i64.wrap ((j:Int)+1)=((j+1:Nat):Int):=by grind [aJ]
   have V:=h.sl_rd 2 rfl;have hsk:=A.sunk;have hsk0:=A.ok.sunk;have l0:=A.kept _ (VL d);refine⟨by omega,_,_,V.some iW (by omega) d,_,_,_,_,_,_,_,_,_,_,V.els iW d,?_⟩;refine h.al λb3 _ h=>?_
   refine h.sta 0 rfl rfl λH5 h=>?_
   have h:aA H5 (cellsA b3 (cJ s0.kept[j]) 164::P::slA 91 11 la ys.length lc (flat bJ ys)::slA 164 74 ka s0.kept.length kc (flat cJ s0.kept)::stA P sb s0::cellsA b1 [dV v,.bool has,.slice O s.length Y] 129::F):=h;refine⟨_,TV (h.o [4,0,1,2,3,5] 6),_,_,_,_,_,_,_,_,_,_,h.rda 0 rfl,?_⟩;have hn:i64.wrap (s0.sunk+(j:Int))=s0.sunk+(j:Int):=aJ;refine K6 (n:=i64.wrap (s0.sunk+(j:Int))) (o:=s0.kept[j]) l0.wc (by have:=l0.size;omega) h λR L H6 h=>⟨_,_,_,_,_,_,_,_,_,_,_,_,_,rfl,?_⟩
   refine h.al λb4 _ h=>?_
   refine h.append (m:=1) (ws:=bJ ⟨jC (i64.wrap (s0.sunk+(j:Int))) s0.kept[j],R,L⟩) slOy 4 rfl (h.ce_rd 0 rfl) rfl (pD _) (by omega) (by omega) λa5 c5 H9 h=>⟨_,_,_,rfl,?_⟩
   have f1:flat bJ ys++bJ ⟨jC (i64.wrap (s0.sunk+(j:Int))) s0.kept[j],R,L⟩=flat bJ (ys++[⟨jC (i64.wrap (s0.sunk+(j:Int))) s0.kept[j],R,L⟩]):=by grind [flat]
   have f2:ys.length+1=(ys++[(⟨jC (i64.wrap (s0.sunk+(j:Int))) s0.kept[j],R,L⟩:Oy)]).length:=by simp
   have h:=h.o [1,3,4,5,6,7] 8;rw[f1,f2]at h;have l6:fQ (slA 5 1 R (cA (pE s0.kept[j])).length L ((cA (pE s0.kept[j])).map U8)*P) ⟨jC (i64.wrap (s0.sunk+(j:Int))) s0.kept[j],R,L⟩:=⟨KIn.sl (c:=L),h.sl_nc 0 rfl⟩;have h:=oC.2 h;generalize slA 5 1 R (cA (pE s0.kept[j])).length L ((cA (pE s0.kept[j])).map U8)=M at h l6;have D:aM P (M*P):=aM.add M P;have h:=qM D (h.o [3,0,1,2,4] 5);refine⟨⟨j+1,ys++[(⟨jC (i64.wrap (s0.sunk+(j:Int))) s0.kept[j],R,L⟩:Oy)],M*P,hw,d,f2,h0.trans D,?_,λz hz=>?_,?_⟩,by grind⟩
   rotate_left 2
   .exact h.o [1,2,3,0,4] 5
   .rw [VW,hm,iI,hn,Yp,List.getElem?_eq_getElem d];rfl
   .rcases VV.1 hz with hz|hz
    .exact (h7 z hz).sub D
    .rw [VI]at hz;rw[hz];exact l6
  have hge:j=s0.kept.length:=by grind
  rw[hge]at hm hyl;refine⟨_,_,_,h.r 4,?_⟩;refine⟨λla ln lc i J=>∃(j:Nat) (w:List Oy) (Q':aE),i=j/\j<=rs.length/\ln=w.length/\w.length<=100000+2000*j/\aM Q Q'/\w.map Oy.o=recT s0 rs j/\(∀y∈w,fQ Q' y)/\Rch (dH s0 (rs.take j))/\
    aA J (Q'::slA 91 11 la w.length lc (flat bJ w)::stA Q' sb (dH s0 (rs.take j))::cellsA b1 [dV v,.bool has,.slice O s.length Y] 129::F),
   λ_ _ _ i _=>rs.length-i.toNat,⟨0,ys,P,rfl,by omega,rfl,by omega,h0,hm,h7,A,h.o [0,1,3,4] 5⟩,?_⟩
  rintro j1 ln2 h9 i2 H5 ⟨f,w,Q3,rfl,hj2,rfl,hzl,j3,r9,u8,Rj,h⟩;refine⟨λd=>?_,λd=>?_⟩
  .have x:f<s.length:=by grind
   have d:f<rs.length:=by omega
   have hw:i64.wrap ((f:Int)+1)=((f+1:Nat):Int):=by grind [aJ]
   have l5:s[f].rc=⟨rs[f].kind,rs[f].bytes⟩:=by
    have:=congrArg (λl=>l[f]?) h8
    grind
   have h3:s[f].kind=rs[f].kind:=congrArg Rc.kind l5;have t:s[f].y.bs=rs[f].bytes:=congrArg Rc.data l5;have V:=hq _ h.tl.tl.tl.tl;refine⟨by omega,_,_,V.some pg (by omega) x,_,_,_,_,V.els pg x,?_⟩;have hR:=sJ (h1 f d);have E:=hv _ (VL d);have hkj:=hk f hj2;have hE:=BF (r:=rs[f]) Rj E;have hA:=h1 f d;have hqm:s[f]∈s:=VL x;have hbl:=Rp.bytes_len rs[f];have B:(bO (dH s0 (rs.take f)) rs[f]).2.1.length<=2000:=BC Rj.ok (by grind [Rp.right_len]);have T:dH s0 (rs.take (f+1))=(bO (dH s0 (rs.take f)) rs[f]).1:=by rw[Wn d,UY]
   have S:recT s0 rs (f+1)=recT s0 rs f++(bO (dH s0 (rs.take f)) rs[f]).2.1.flatMap cI:=by grind [recT]
   refine h.al λb6 _ h=>?_
   refine h.st 0 rfl rfl λH6 h=>⟨_,_,_,h.r 0,?_⟩
   have h:aA H6 (cellsA b6 [aD s[f].kind,.slice s[f].y.a s[f].y.bs.length s[f].y.c] 234::Q3::slA 91 11 j1 w.length h9 (flat bJ w)::stA Q3 sb (dH s0 (rs.take f))::cellsA b1 [dV v,.bool has,.slice O s.length Y] 129::F):=h;have h:=h.o [1,0,2,3,4] 5;have hbb:aI s[f].y.bs:=by rw[t];exact Rp.bytes_by _
   refine Ti h (λH h=>hqd H h.tl.tl.tl.tl.tl _ hqm) hbb (by rw[t];omega) ?_
   rw[t,rec_back hR E];obtain⟨r,V⟩:∃r,rs[f]=r:=⟨_,rfl⟩;rw[V]at hR E hE hA B T S h3 ⊢;intro Q4 evs ea ec H7 W h5 hkl h;refine⟨_,_,_,_,_,_,_,_,_,_,_,_,_,_,_,rfl,?_⟩;refine h.al λb7 _ h=>?_
   refine h.st 0 rfl rfl λH8 h=>⟨_,λ_=>h.r 0,_,λ_=>h.r 3,λhx=>?_,λ_=>?_⟩
   .exfalso;grind
   have h:aA H8 (cellsA b7 (de r ea ec) 61::Q4::slA 99 4 ea evs.length ec (flat cx evs)::cellsA b6 [aD s[f].kind,.slice s[f].y.a r.bytes.length s[f].y.c] 234::slA 91 11 j1 w.length h9 (flat bJ w)::stA Q3 sb (dH s0 (rs.take f))::cellsA b1 [dV v,.bool has,.slice O s.length Y] 129::F):=h;refine⟨_,_,_,_,_,_,_,_,_,_,_,_,_,_,h.q 0,?_⟩;have h:=qM W (h.o [5,1,0,2,3,4,6] 7);have h:=h.o [1,0,3,2,4,5,6] 7;have hell:evs.length<=64:=by have:=Rp.right_len hR;grind
   have r8:∀G:List aE,oB Q4 (slA 99 4 ea evs.length ec (flat cx evs)::G) r ea evs:=λG=>⟨h5,λH h=>h.sl_rd 0 rfl,hkl,by omega,E⟩
   refine Ba Rj.ok (by have:=Rj.sunk;omega) (by omega) (r8 _) h λQ5 fa fc H9 h6 h=>⟨_,_,_,_,rfl,λhx=>?_,λ_=>?_⟩
   .exfalso;grind
   obtain⟨u,hf⟩:∃u,(bO (dH s0 (rs.take f)) r).2.1=u:=⟨_,rfl⟩;rw[hf]at h hE B S ⊢;refine K7 hE.2 hE.1 h (λH h=>h.sl_rd 0 rfl) λQ6 N wa wc H10 C h2 hwi h=>⟨_,_,_,rfl,?_⟩
   have hwl:N.length<=u.length:=by
    have e1:N.length=(u.flatMap cI).length:=by rw[<-h2,VM]
    have:∀l:List bH,(l.flatMap cI).length<=l.length:=by
     intro l
     induction l with
     | nil=>simp
     | cons e l ih=>
      rw[Wg,V7,VE];grind [cI]
    grind
   refine h.append (m:=N.length) (ws:=flat bJ N) slOy 7 rfl (h.sl_rd 1 rfl) (fg kH _) (lC pD _) (by omega) (by omega) λpa pc H11 h=>⟨_,_,_,rfl,?_⟩
   have e2:w.length+N.length=(w++N).length:=by rw[V7]
   have h:=h.o [3,0,7,8] 9;rw[e2,<-dS]at h;have h:=qM C h;refine⟨⟨f+1,w++N,Q6,hw,d,e2,by grind,((j3.trans W).trans h6).trans C,by grind,λy U=>?_,by rw[T];exact uR Rj E,?_⟩,by grind⟩
   .rcases VV.1 U with U|U
    .exact (u8 y U).sub ((W.trans h6).trans C)
    .exact hwi y U
   .rw [T];exact h.o [1,2,0,3] 4
  .have h4:f=rs.length:=by grind
   subst h4;rw[Wi]at h;exact k Q3 sb w _ _ _ j3 r9 u8 (h.o [0,1,2] 4)
 refine⟨λhb=>?_,λhb=>?_⟩
 .have t:v.bs=stB s0:=by
   grind
  refine⟨_,_,_,_,_,_,_,_,_,h.q 2,_,_,_,h.r 1,?_⟩;have y3:kK c v.bs=.ok (jG s0):=by
   grind [UO]
  have y2:pH c v.bs=.ok (jG s0):=by
   unfold pH;rw[V4 (by rw[Z];simp),y3];dsimp only;rw[t,V5 (UW A)]
  have hll:=BB A.ok A.ser (by omega);have h:=h.o [3,0,1,2] 4;refine UE (c:=c) h (λH h=>hfy H h.tl.tl.tl) hfa (by rw[t];exact xG _) (by rw[t];omega) (λ_ s' I=>?_) (λhR=>V6 hR (by rw[Z];simp)) (λ_ e he=>by rw[y2]at he;cases he) λ_ s' I=>?_
  .rw [y3]at I
   cases I
   exact⟨⟨λp hp=>(A.ser).cm p ((uQ A).2.mem_iff.2 hp),A.ser.kept⟩,by show s0.kept.length<=_;omega⟩
  rw[y2]at I
  cases I
  intro Q6 tb H6 C h;refine⟨_,_,rfl,?_⟩;have h:=stA_perm A (h.o [1,0,3] 5);exact fin Q6 tb _ C (h.o [1,0,2] 3)
 .have hs0:s0=bT c:=by
   grind
  rw[<-hs0]at h;exact fin Q sb _ (aM.refl Q) (h.o [3,0,1] 4)
end
def dI:Rp:=⟨1,0,0,0,0,0,0,bQ.z,[]⟩
def jH(o:Opt)(s:aH)(rows:DR):Gg:=
 ⟨o,(bO s dI).1,⟨(bO s dI).1.boots,o.probes,0,[],[]⟩,[],0,false,0,0,{ dp rows (opS o.segment rows) ⟨1,dI.bytes⟩ with syn:=(dp rows (opS o.segment rows) ⟨1,dI.bytes⟩).next },
  fY rows (opS o.segment rows) ⟨1,dI.bytes⟩,(fY rows (opS o.segment rows) ⟨1,dI.bytes⟩).length⟩
theorem rch_run{s:aH}(R:Rch s):∀{rs:List Rp},(∀r∈rs,∀e∈r.evs,aF e.value)->Rch (dH s rs):=by
 intro rs
 induction rs generalizing s with
 | nil=>intro _;exact R
 | cons r rs ih=>intro h;exact ih (uR R (h r (VO ..))) λx a=>h x (VQ _ a)
section
variable {F L:List aE}{H:aC}{K:KE}{Q:aE}{o:Opt}{db:Nat}{rows:DR}{syn:Nat}
theorem Vl{s0:aH}{rs:List Rp}(f:fe o=true)(ok:fX rows)(hB:rows.length<=549755813888)(B:fk o.segment rows=0)(w:(opS o.segment rows).seg<2147483647)(L:(opS o.segment rows).ok)
  (R0:Rch s0) (U:s0.cfg=o.cfg) (i:dw (di rows)=(none,rs.map λr=>⟨r.kind,r.bytes⟩)/\s0=bT o.cfg\/dw (di rows)=(some (stB s0),rs.map λr=>⟨r.kind,r.bytes⟩))
  (hv:∀r∈rs,∀e∈r.evs,aF e.value) (G:∀j (hj:j<rs.length),(bO (dH s0 (rs.take j)) rs[j]).2.2=0) (V:s0.kept.length<=40000) (hk:∀j,j<=rs.length->(dH s0 (rs.take j)).kept.length<=1000000) (Y:rs.length<=100000)
  (v:(bO (dH s0 rs) dI).2.2=0) (t:1<=(bO (dH s0 rs) dI).1.boots/\(bO (dH s0 rs) dI).1.boots<=1099511627776)
  (h:aA H (Q::diskX db rows syn::F))
  (k:∀Q' gb ys a c H',aM Q Q'->ys.map Oy.o=recT s0 rs rs.length->(∀y∈ys,fQ Q' y)->aA H' (Q'::slA 91 11 a ys.length c (flat bJ ys)::gateA Q' gb db (jH o (dH s0 rs) rows)::F)->K (.tuple #[PA gb 0,.slice a ys.length c,aD 0]) H'):CF 16 #[PA db 0,.agg ⟨io o⟩] H K:=by
 refine cM 16 8194785019629852 ?_;have W:fC o.cfg=true:=by
  unfold fe at f;grind
 refine h.al λb _ h=>⟨_,_,_,_,_,_,_,_,_,_,_,_,_,h.q 0,?_⟩
 refine Bk (o:=o) h λH1 h=>⟨_,rfl,λn=>?_,λ_=>?_⟩
 .rw [f]at n;cases n
 refine⟨_,h.r 0,?_⟩;have h:=h.o [2,0,1] 3;refine QV ok (by omega) h (λ_ h1 qs Z has a c bb rb H2 m A h=>⟨_,_,_,_,_,_,_,_,_,rfl,?_⟩) λS=>V6 B S
 refine h.al λb1 _ h=>?_
 refine h.st 0 rfl rfl λH3 h=>⟨λn=>V6 n (by simp),λ_=>⟨_,_,_,_,_,_,_,_,_,h.q 6,_,_,_,_,_,_,_,h.q 0,?_⟩⟩
 have h:=h.o [7,4,3,0,1,2,5,6] 8;have d:=A.tell;have J:has=false/\s0=bT o.cfg\/has=true/\Z.bs=stB s0:=by
  grind
 have R:qs.map Ry.rc=rs.map λr=>⟨r.kind,r.bytes⟩:=by
  grind
 have N:Z.a=none\/∃k o,Z.a=some ⟨k,o,none⟩:=by
  rcases A.st with rfl|⟨r,hr,rfl⟩
  .exact .inl rfl
  .exact If h.tl r hr
 refine Rec_spec W R0 U J R hv G V hk Y (λH h=>h.sl_rd 1 rfl) (λH h q hq=>zT h q (A.sub q hq)) (λH h=>A.rd h) N h λQ1 sb ys oa oc H4 T hm P h=>⟨_,_,_,_,_,rfl,λn=>V6 n (by simp),λ_=>?_⟩
 have C:=rch_run R0 hv;have s:=hk rs.length (VF _);rw[Wi]at s;obtain⟨E,I⟩:∃E,dH s0 rs=E:=⟨_,rfl⟩;rw[I]at C s v t k h;refine⟨_,_,_,_,_,_,_,_,_,_,_,_,_,h.q 9,?_⟩;refine h.al λb2 H5 h=>?_
 have h:=h.sl_nil 91 11;have h:=h.o [2,1,4,0,8,9,10,3,11] 12;have B:=BF (r:=dI) C (λe O=>V6 O (by simp[dI]))
 refine KH (r:=dI) (x:=⟨bb,rb,sb,.pointer none,none,0⟩) (o:=o) (recs:=0) (ys:=[]) C.ok (by have:=C.sunk;omega) s (recN rfl) B.1 B.2 L hB w (by omega) (by simp) (λy M=>V6 M (by simp)) h (λO=>V6 v O) λ_ Q2 zs pa pc H6 u h4 h3 h=>?_
 refine⟨_,rfl,λn=>V6 n (by decide),λ_=>?_⟩
 refine⟨some ⟨bb,0,none⟩,h.r 1,some ⟨rb,0,none⟩,h.r 4,?_⟩;have h:=h.o [5,6,0,1,2,3,4,7,8] 9;refine GU h λH7 h=>⟨rfl,?_⟩
 refine h.st 3 rfl rfl λH8 h=>?_
 refine h.st 3 rfl rfl λH9 h=>⟨some ⟨sb,0,none⟩,h.r 3,?_⟩
 refine⟨_,Bd (h.o [4,0,1,2,3,5,6,7,8] 9),_,h.r 8,?_⟩;have D:1<=o.probes/\o.probes<=1024:=by
  unfold fe at f;grind
 refine K9 h (λS=>V6 ⟨t.1,t.2,D⟩ S) λ_ pb h0 h=>⟨_,_,rfl,?_⟩
 refine h.st 4 rfl rfl λh2 h=>?_
 have h:=(h.o [4,5,7,1,2,0,3,8] 10).sl_nil 91 11;have h:=h.o [1,2,0,3,4,5,6,7,8] 9;have hg:=(gm (Q:=Q2) (g:=jH o E rows)).2 ⟨⟨bb,rb,sb,PA pb 0,none,0⟩,pb,[],rfl,rfl,λz hz=>V6 hz (by simp),h⟩
 exact k Q2 b2 ys oa oc _ (T.trans u) hm (λy M=>(P y M).sub u) (hg.o [1,2,0] 3)
end
structure I3 where
 a:Int
 e:Int
 n:Int
deriving DecidableEq
structure I2 where
 a:Int
 e:Int
deriving DecidableEq
structure VG where
 v:List (I3×Int)
 g:List (I2×Int)
def VG.vv(x:VG)(k:I3):Int:=(aK k x.v).getD 0
def VG.gg(x:VG)(k:I2):Int:=(aK k x.g).getD 0
def ackOk(x:VG)(a e next:Int):Prop:=∀n:Int,0<=n->n<next->n<10000->x.vv ⟨a,e,n⟩=1
inductive OneE:VG->bH->VG->Prop
 | grant {x e}:e.kind=1->OneE x e { x with g:=mset ⟨e.agent,e.epoch⟩ (x.gg ⟨e.agent,e.epoch⟩+1) x.g }
 | verdict {x e}:e.kind=3->x.vv ⟨e.ida,e.ide,e.seq⟩=0->1<=x.gg ⟨e.ida,e.ide⟩->OneE x e { x with v:=mset ⟨e.ida,e.ide,e.seq⟩ 1 x.v }
 | ack {x e}:e.kind=2->ackOk x e.agent e.epoch e.next->OneE x e x
 | emit {x e}:e.kind=4->OneE x e x
inductive fS:VG->List bH->VG->Prop
 | nil {x}:fS x [] x
 | snoc {x l y e z}:fS x l y->OneE y e z->fS x (l++[e]) z
theorem fS.append{x y z:VG}{a b:List bH}(h:fS x a y)(c:fS y b z):fS x (a++b) z:=by
 induction c with
 | nil=>rw[We];exact h
 | snoc h3 h4 ih=>rw[<-VK];exact ih.snoc h4
theorem qT{x:VG}{k a:I3}{v:Int}:({ x with v:=mset k v x.v }:VG).vv a=if a=k then v else x.vv a:=by
 grind [VG.vv, lD]
theorem xQ{x:VG}{k a:I2}{v:Int}:({ x with g:=mset k v x.g }:VG).gg a=if a=k then v else x.gg a:=by
 grind [VG.gg, lD]
structure lY(s:aH)(x:VG)(B:Int):Prop where
 cur:∀a st,dL s a=some st->∀n,x.vv ⟨a,(bg s.rows a).epoch,n⟩=if 0<=n/\n<st.hs.next then 1 else 0
 gr:∀a,0<(bg s.rows a).epoch->1<=x.gg ⟨a,(bg s.rows a).epoch⟩
 new:∀a e n,(bg s.rows a).epoch<e->x.vv ⟨a,e,n⟩=0
 b:∀k,0<=x.gg k/\x.gg k<=B
theorem Mu{c:bD}{now a ep first:Int}{evs:List Pv}{j:JS}{x:VG}(i:∀n,x.vv ⟨a,ep,n⟩=if 0<=n/\n<first then 1 else 0)(t:0<=first)(b:1<=x.gg ⟨a,ep⟩):∀n,∃y,fS x (dh c now a ep first evs j n).2 y/\
  y.g=x.g/\(∀m,y.vv ⟨a,ep,m⟩=if 0<=m/\m<first+n then 1 else 0)/\∀k,¬(k.a=a/\k.e=ep)->y.vv k=x.vv k
 | 0=>⟨x,.nil,rfl,by grind,λ_ _=>rfl⟩
 | n+1=>by
  obtain⟨y,s,d,f,u⟩:=Mu (c:=c) (now:=now) (evs:=evs) (j:=j) i t b n;refine⟨_,.snoc s (.verdict rfl ?_ ?_),d,λm=>?_,λk h=>?_⟩
  .show y.vv ⟨a,ep,first+n⟩=0;rw[f,nO]
  .show 1<=y.gg ⟨a,ep⟩;grind [VG.gg]
  .rw [qT];show (if (⟨a,ep,m⟩:I3)=⟨a,ep,first+n⟩ then (1:Int) else y.vv ⟨a,ep,m⟩)=_
   grind
  .rw [qT,V4,u k h];intro e;exact h (by rw[e];exact⟨rfl,rfl⟩)
theorem Mv{a ep:Int}{x:VG}(b:1<=x.gg ⟨a,ep⟩):∀{ks:List Int},ks.Nodup->(∀n∈ks,x.vv ⟨a,ep,n⟩=0)->∃y,fS x (ks.reverse.map (pC a ep)).reverse.reverse y/\
  y.g=x.g/\(∀n,n∉ks->y.vv ⟨a,ep,n⟩=x.vv ⟨a,ep,n⟩)/\∀k,¬(k.a=a/\k.e=ep)->y.vv k=x.vv k
 | [],_,_=>⟨x,.nil,rfl,λ_ _=>rfl,λ_ _=>rfl⟩
 | n::r,hn,h=>by
  rw[WW]at hn;obtain⟨y,f,c,d,j⟩:=Mv b hn.2 λm hm=>h m (VQ _ hm)
  rw[List.reverse_reverse]at f ⊢;rw[List.reverse_cons,VW];refine⟨_,.snoc f (.verdict rfl ?_ ?_),c,λm hm=>?_,λk i=>?_⟩
  .show y.vv ⟨a,ep,n⟩=0;grind
  .show 1<=y.gg ⟨a,ep⟩;grind [VG.gg]
  .simp only[VN,not_or]at hm;rw[qT,V4 (by show ¬(⟨a,ep,m⟩:I3)=⟨a,ep,n⟩;simp[hm.1]),d m hm.2]
  .rw [qT,V4,j k i];intro e;exact i (by rw[e];exact⟨rfl,rfl⟩)
theorem Vm{a ep:Int}{x:VG}(f:1<=x.gg ⟨a,ep⟩){ks:List Int}(c:ks.Nodup)(h:∀n∈ks,x.vv ⟨a,ep,n⟩=0):∃y,fS x (ks.map (pC a ep)) y/\
  y.g=x.g/\∀k,¬(k.a=a/\k.e=ep)->y.vv k=x.vv k:=by
 obtain⟨y,b,d,j,i⟩:=Mv (ks:=ks.reverse) f (List.pairwise_reverse.2 (c.imp λh=>h.symm)) λn hm=>h n (List.mem_reverse.1 hm)
 grind
theorem lY.same{s f:aH}{x:VG}{B:Int}(I:lY s x B)(d:f.rows=s.rows)(hs:∀a c,dL f a=some c->∃st,dL s a=some st/\st.hs.next=c.hs.next):lY f x (B+1) where
 cur a c h:=by
  obtain⟨st,j,i⟩:=hs a c h;rw[d,<-i];exact I.cur a st j
 gr a h:=by rw[d]at h ⊢;exact I.gr a h
 new a e n h:=by rw[d]at h;exact I.new a e n h
 b k:=by have:=I.b k;omega
theorem BK{s:aH}{k:Nat}{st:br}{now:Int}{ms:MS}{cm:CM}(b:k<s.sts.length)(a:Int) :
  dL { s with now:=now,ms:=ms,cm:=cm,sts:=s.sts.set k (some st) } a=if a=(k:Int) then some st else dL s a:=by
 unfold dL;grind
theorem lY.setStr{s:aH}{x:VG}{B:Int}(I:lY s x B){k:Nat}{st b:br}{now:Int}{ms:MS}{cm:CM}(i:s.sts[k]?=some (some st))(h:b.hs.next=st.hs.next) :
  lY { s with now:=now,ms:=ms,cm:=cm,sts:=s.sts.set k (some b) } x (B+1):=by
 have d:k<s.sts.length:=(List.getElem?_eq_some_iff.1 i).1;refine I.same rfl λa f c=>?_
 rw[BK d]at c
 split at c
 .rename_i e
  cases c
  refine⟨st,?_,h.symm⟩;unfold dL;grind
 grind
theorem Vn{s:aH}{r:Rp}{x:VG}{B:Int}(ok:cR s)(I:lY s x B):∃y,fS x (dG s r) y/\lY (fR s r) y (B+1):=by
 unfold dG fR;have d:∀S:aH,S.rows=s.rows->S.sts=s.sts->lY S x (B+1):=λS A w=>I.same A λa W h=>⟨W,by grind [dL],rfl⟩
 refine oH (P:=λq=>∃y,fS x q.2.1 y/\lY q.1 y (B+1)) (λ_=>⟨x,.nil,d s rfl rfl⟩) (λ_ _=>⟨x,.nil,d s rfl rfl⟩) (λ_ _ _=>⟨x,.nil,d _ rfl rfl⟩) (λF i D=>?_) (λF i D=>?_) (λF i D=>?_) (λF i D=>?_) (λ_ _ _=>?_) λF i D=>?_
 .
  have t:=iF F;have hg:=xx (most:=s.cfg.agents) ok.rows r.ag r.bt r.nw;unfold fB
  split
  .exact⟨x,.nil,d s rfl rfl⟩
  rename_i hn;have hn:=Decidable.not_not.1 hn
  split
  .rename_i i
   rcases hg with ⟨-,g2,g3,g4,g5⟩|⟨g1,_⟩
   .have K:r.ag.toNat<s.sts.length:=by rw[ok.len];have:=t.ag;omega
    have N:r.ag.toNat<s.rows.length:=by rw[ok.rows.len];have:=t.ag;omega
    have H:((r.ag.toNat:Nat):Int)=r.ag:=by have:=t.ag;omega
    generalize hG:(grant s.cfg.agents s.rows r.ag r.bt r.nw)=G at *;have first:∃y,fS x (jq s r.ag) y/\y.g=x.g/\∀k,¬(k.a=r.ag/\k.e=(bg s.rows r.ag).epoch)->y.vv k=x.vv k:=by
     unfold jq
     cases hs:dL s r.ag with
     | none=>exact⟨x,.nil,rfl,λ_ _=>rfl⟩
     | some st=>
      have f:=(K5 hs).2;have m:=ok.sts st (Wk f);have R:=(ok.reg r.ag.toNat).1 ⟨st,f⟩;have L:0<(bg s.rows r.ag).epoch:=by
       obtain⟨e,A,w⟩:=R;unfold bg;grind
      refine Vm (I.gr _ L) (Ez m.hs.rows.rising) λn hm=>?_
      rw[I.cur _ _ hs,V4];obtain⟨p,Z,rfl⟩:=VH.1 hm;have:=(m.hs.rows.inb p Z).1;omega
    obtain⟨y,A,w,J⟩:=first;refine⟨_,A.snoc (.grant rfl),?_⟩;have v:∀a,bg G.1 a=if a=r.ag then G.2.1 else bg s.rows a:=by
     intro a;rw[g2]
     by_cases e:a=r.ag
     .rw [V5 e,e,B5 t.ag.1 N]
     .rw [V4 e];unfold bg
      grind
    refine⟨λa st h n=>?_,λa h=>?_,λa e n h=>?_,λk=>?_⟩
    .dsimp only at h ⊢;rw[v];have M:dL { s with now:=s.now,ms:=s.ms,cm:=s.cm,sts:=s.sts.set r.ag.toNat (some (lU s.cfg)) } a=some st:=h;rw[BK K,H]at M
     by_cases e:a=r.ag
     .rw [V5 e]at M ⊢
      cases M
      show y.vv _=_;rw[J _ (by grind),e,I.new _ _ _ (by omega),V4 (by show ¬(0<=n/\n<0);omega)]
     .rw [V4 e]at M ⊢;show y.vv _=_;rw[J _ (by grind)];exact I.cur a st M n
    .dsimp only at h ⊢;rw[xQ];rw[v]at h ⊢
     by_cases e:a=r.ag
     .rw [V5 e,V5 (by rw[e])];have:0<=y.gg ⟨r.ag,G.2.1.epoch⟩:=by unfold VG.gg;rw[w];exact (I.b _).1
      omega
     .rw [V4 e]at h ⊢;rw[V4 (by grind)];unfold VG.gg;rw[w];exact I.gr a h
    .dsimp only at h ⊢;rw[v]at h;show y.vv _=_
     by_cases T:a=r.ag
     .rw [V5 T]at h;rw[J _ (by grind),T];exact I.new _ _ _ (by omega)
     .rw [V4 T]at h;rw[J _ (by grind)];exact I.new _ _ _ h
    .rw [xQ];have hb:∀k,y.gg k=x.gg k:=λk=>by grind [VG.gg]
     rw[hb,hb];have h5:=I.b k;grind
   grind
  .rename_i i
   rcases hg with ⟨g1,_⟩|⟨-,g2,g3⟩
   .grind
   .obtain⟨g4,g5⟩:=g3 hn;rw[g2];refine⟨_,fS.snoc (l:=[]) .nil (.grant rfl),?_⟩;refine⟨λa st h n=>I.cur a st h n,λa h=>?_,λa e n h=>I.new a e n h,λk=>?_⟩
    .rw [xQ];have V:=I.gr a h;grind
    .rw [xQ];have h5:=I.b k;grind
 .have t:=iF F;obtain⟨st,f⟩:=lf ok t i (.inl D);unfold mT;rw[f];exact⟨x,.nil,I.setStr f rfl⟩
 .
  have t:=iF F;obtain⟨st,f⟩:=lf ok t i (.inr (.inl D));have m:=ok.sts st (Wk f);have H:((r.ag.toNat:Nat):Int)=r.ag:=by have:=t.ag;omega
  have K:r.ag.toNat<s.sts.length:=(List.getElem?_eq_some_iff.1 f).1;have Y:dL s r.ag=some st:=by unfold dL;grind
  have C:(bg s.rows r.ag).epoch=r.ep/\0<(bg s.rows r.ag).epoch:=by
   unfold fA at i;rw[nO,nO]at i;unfold sH at i
   split at i
   .simp at i
   .rename_i hh;have T:=t.ep.1 (.inr (.inl D));have:isE s r.ag r.ep=true:=by
     grind
    unfold isE at this;grind
  unfold gD;rw[f];dsimp only;have u:(st.hs.offer r.nx r.evs).1.next=st.hs.next+((st.hs.offer r.nx r.evs).2.1.length:Nat)/\0<=st.hs.next:=by
   refine⟨?_,m.hs.next0⟩;unfold HS.offer
   split
   .simp
   .have A:=yO (vs:=r.evs) (n:=r.nx) (s:=(st.hs.rows,0)) (m.hs.rows.weaken (lo':=st.hs.next) (by omega) (Wh _));exact (vV A.rising λp Z=>(A.inb p Z).1).2.1
  have hj:(kF s r st).1.st.hs=(st.hs.offer r.nx r.evs).1:=by
   unfold kF;generalize (st.hs.offer r.nx r.evs)=O;have:∀n,(dh s.cfg r.nw r.ag r.ep st.hs.next O.2.1 ⟨{ st with hs:=O.1 },s.ms,s.cm⟩ n).1.st.hs=O.1:=by
    intro n
    induction n with
    | zero=>rfl
    | succ n ih=>exact (xu s.cfg r.nw r.ag (dh s.cfg r.nw r.ag r.ep st.hs.next O.2.1 ⟨{ st with hs:=O.1 },s.ms,s.cm⟩ n).1.st (dh s.cfg r.nw r.ag r.ep st.hs.next O.2.1 ⟨{ st with hs:=O.1 },s.ms,s.cm⟩ n).1.ms (dh s.cfg r.nw r.ag r.ep st.hs.next O.2.1 ⟨{ st with hs:=O.1 },s.ms,s.cm⟩ n).1.cm (O.2.1.getD n Pv.z)).2.1.trans ih
   grind
  have E:=I.cur _ _ Y
  rw[C.1]at E;have Q:=I.gr _ C.2;rw[C.1]at Q;obtain⟨y,A,w,J,h4⟩:=Mu (c:=s.cfg) (now:=r.nw) (evs:=(st.hs.offer r.nx r.evs).2.1) (j:=⟨{ st with hs:=(st.hs.offer r.nx r.evs).1 },s.ms,s.cm⟩) E u.2 Q (st.hs.offer r.nx r.evs).2.1.length;refine⟨y,A.snoc (.ack rfl ?_),?_⟩
  .intro n n0 n1 n2;grind
  .refine⟨λa U h n=>?_,λa h=>?_,λa e n h=>?_,λk=>?_⟩
   .rw [BK K,H]at h;dsimp only
    by_cases e:a=r.ag
    .grind
    .rw [V4 e]at h;rw[h4 _ (by grind)];exact I.cur a U h n
   .unfold VG.gg;rw[w];exact I.gr a h
   .dsimp only at h;rw[h4 _ (by
     grind)]
    exact I.new a e n h
   .have:=I.b k;grind [VG.gg]
 .have t:=iF F;obtain⟨st,f⟩:=lf ok t i (.inr (.inr D));unfold lT;rw[f];dsimp only
  split
  .exact⟨x,.nil,d _ rfl rfl⟩
  split
  .exact⟨x,.nil,d _ rfl rfl⟩
  .exact⟨x,.nil,I.setStr f rfl⟩
 .refine⟨x,?_,d _ rfl rfl⟩;show fS x (dQ s.next (dt s r.nw) (dt s r.nw).length) x;have:∀n,fS x (dQ s.next (dt s r.nw) n) x:=λn=>by
   induction n with
   | zero=>exact .nil
   | succ n ih=>exact ih.snoc (.emit rfl)
  exact this _
 .refine⟨x,.nil,?_⟩;unfold mU
  split
  .exact d _ rfl rfl
  .exact d s rfl rfl
theorem once_new(c:bD):lY (bT c) ⟨[],[]⟩ 0 where
 cur a st h:=by
  grind [dL, bT]
 gr a h:=by
  grind [bg, bT, En.z]
 new a e n h:=rfl
 b k:=⟨Wh _,Wh _⟩
def ju(s:aH):List Rp->List bH
 | []=>[]
 | r::rs=>dG s r++ju (fR s r) rs
theorem BL(r:Rp):∀(rs:List Rp) (s:aH),ju s (rs++[r])=ju s rs++dG (dH s rs) r
 | [],s=>by simp[ju,dH]
 | x::rs,s=>by
  rw[WE,ju,BL r rs,ju,VK];rfl
theorem Vo(s:aH)(rs:List Rp)(r:Rp):dH s (rs++[r])=fR (dH s rs) r:=by
 unfold dH;rw[WR];rfl
def okE(e:bH):Prop:=(e.kind=1->eZ (mV e.agent e.epoch e.boot)=true)/\(e.kind=2->eZ (mW e.agent e.epoch e.next)=true)
structure Hs(c:bD)(n:Nat)(s:aH)(E:List bH):Prop where
 R:lW s c n
 num:NumI s (emO E)
 once:∃x,fS ⟨[],[]⟩ E x/\∃B,lY s x B
 nums:∀e∈E,e.kind=4->0<=e.number/\(emO E)[e.number.toNat]?=some e.out
 sunk:0<=s.sunk
 boots:s.boots<=n
 rgt:∀e∈E,okE e
 len:E.length<=2000*n
theorem Hs.mono{c:bD}{n m:Nat}{s:aH}{E:List bH}(h:Hs c n s E)(hm:n<=m):Hs c m s E:=
 ⟨⟨h.R.R,h.R.cfg,VT h.R.kept (Yd _ hm)⟩,h.num,h.once,h.nums,h.sunk,by have:=h.boots;omega,h.rgt,by have:=h.len;omega⟩
theorem Hs.new{c:bD}(b:fC c=true):Hs c 0 (bT c) []:=
 ⟨runR_new (uC b),⟨by simp[bT,emO],by simp[bT,emO]⟩,⟨_,.nil,0,once_new c⟩,λe a=>V6 a (by simp),by simp[bT],by simp[bT],λe a=>V6 a (by simp),by simp⟩
theorem Vp{s:aH}{r:Rp}:(fR s r).boots<=s.boots+1:=by
 refine oH (P:=λq=>q.1.boots<=s.boots+1) (λ_=>?_) (λ_ _=>?_) (λ_ _ _=>?_) (λ_ _ _=>?_) (λ_ _ _=>?_) (λ_ _ _=>?_) (λ_ _ _=>?_) (λ_ _ _=>?_) (λ_ _ _=>?_)
 .grind
 .grind
 .grind
 .grind [fB]
 .grind [mT]
 .grind [gD]
 .grind [lT]
 .grind [kG]
 grind [mU]
theorem Mw{a ep bt:Int}(d:0<=a/\a<=63)(b:0<=ep/\ep<=1099511627776)(c:0<=bt/\bt<=1099511627776):eZ (mV a ep bt)=true:=by
 simp[eZ,mV,aU,gU,Fq.nums];omega
theorem rgt_ack{a ep nx:Int}(d:0<=a/\a<=63)(c:0<=ep/\ep<=1099511627776)(b:0<=nx/\nx<=1099511627776):eZ (mW a ep nx)=true:=by
 grind [eZ, mW, aU, gU, Fq.nums]
theorem BM{e:bH}(b:e.kind≠1)(a:e.kind≠2):okE e:=⟨λh=>V6 h b,λh=>V6 h a⟩
theorem okE_step{s:aH}{r:Rp}(R:Rch s)(A:∀e∈r.evs,aF e.value):∀e∈dG s r,okE e:=by
 have b:=uR R A (r:=r);revert b;unfold dG fR;refine oH (P:=λq=>Rch q.1->∀e∈q.2.1,okE e) (λ_ _ e a=>V6 a (by simp)) (λ_ _ _ e a=>V6 a (by simp)) (λ_ _ _ _ e a=>V6 a (by simp)) (λt f w b=>?_) (λ_ _ _ _ e a=>V6 a (by simp)) (λt f w b=>?_) (λ_ _ _ _ e a=>V6 a (by simp)) (λ_ _ _ _ e a=>?_) (λ_ _ _ _ e a=>V6 a (by simp))
 .have d:=iF t;have x:=xx (most:=s.cfg.agents) R.ok.rows r.ag r.bt r.nw;have c:r.ag.toNat<s.rows.length:=by rw[R.ok.rows.len];have:=d.ag;omega
  revert b;unfold fB
  split
  .intro _ e a;cases a
  rename_i u;have u:=Decidable.not_not.1 u
  split
  .rename_i f;intro b e a
   rcases x with ⟨-,g2,g3,g4,g5⟩|⟨g1,_⟩
   .rcases VV.1 a with a|a
    .have:=LO e a;exact BM (by omega) (by omega)
    .rw [VI]at a;subst a;have e1:=B5 (e:=(grant s.cfg.agents s.rows r.ag r.bt r.nw).2.1) d.ag.1 c;have i:=b.rows r.ag;have j:=b.ok.rows.ep (grant s.cfg.agents s.rows r.ag r.bt r.nw).2.1;dsimp only at i j;rw[g2,e1]at i;rw[g2]at j;have m:=j (List.mem_iff_getElem.2 ⟨r.ag.toNat,by grind,by grind⟩);have B:=i g3;exact⟨λ_=>Mw d.ag (by grind) (by grind),λh=>V6 h (show ¬(1:Int)=2 by decide)⟩
   .rw [g1]at f;cases f
  .rename_i f;intro b e a
   rcases x with ⟨g1,_⟩|⟨-,g2,g3⟩
   .exact V6 g1 f
   .obtain⟨g4,g5⟩:=g3 u;rw[VI]at a;subst a;have i:=R.rows r.ag g5;have m:=R.ok.rows.at r.ag;rw[g4];exact⟨λ_=>Mw d.ag (by grind) (by grind),λh=>V6 h (show ¬(1:Int)=2 by decide)⟩
 .have d:=iF t;obtain⟨st,k⟩:=lf R.ok d f (.inr (.inl w));have c:r.ag.toNat<s.sts.length:=(List.getElem?_eq_some_iff.1 k).1;revert b;unfold gD;rw[k];intro b e a;dsimp only at a b
  rcases VV.1 a with a|a
  .have:=B2 _ e a;exact BM (by omega) (by omega)
  .rw [VI]at a;subst a;have y:(kF s r st).1.st.hs=(st.hs.offer r.nx r.evs).1:=by
    unfold kF;generalize (st.hs.offer r.nx r.evs)=O;have:∀n,(dh s.cfg r.nw r.ag r.ep st.hs.next O.2.1 ⟨{ st with hs:=O.1 },s.ms,s.cm⟩ n).1.st.hs=O.1:=by
     intro n
     induction n with
     | zero=>rfl
     | succ n ih=>exact (xu s.cfg r.nw r.ag (dh s.cfg r.nw r.ag r.ep st.hs.next O.2.1 ⟨{ st with hs:=O.1 },s.ms,s.cm⟩ n).1.st (dh s.cfg r.nw r.ag r.ep st.hs.next O.2.1 ⟨{ st with hs:=O.1 },s.ms,s.cm⟩ n).1.ms (dh s.cfg r.nw r.ag r.ep st.hs.next O.2.1 ⟨{ st with hs:=O.1 },s.ms,s.cm⟩ n).1.cm (O.2.1.getD n Pv.z)).2.1.trans ih
    grind
   have hs:=b.ok.sts (kF s r st).1.st (List.mem_iff_getElem.2 ⟨r.ag.toNat,by grind,by grind⟩);have i:=hs.next;have j:=hs.hs.next0;rw[y]at i j;have m:=d.ep.2;exact⟨λh=>V6 h (show ¬(2:Int)=1 by decide),λ_=>rgt_ack d.ag m (by grind)⟩
 .obtain⟨q,v,rfl⟩:=Wz a;have v:q<(dQ s.next (dt s r.nw) (dt s r.nw).length).length:=v;show okE (dQ s.next (dt s r.nw) (dt s r.nw).length)[q];rw[xK];exact BM (show (4:Int)≠1 by decide) (show (4:Int)≠2 by decide)
theorem Mx{s:aH}{r:Rp}(ok:cR s):(dG s r).length<=2000:=by
 cases hR:r.right with
 | false=>
  have:dG s r=[]:=by unfold dG bO;rw[V5 hR]
  grind
 | true=>grind [BC, Rp.right_len]
theorem BN{A B:List bH}(h:A <+: B):emO A <+: emO B:=by
 obtain⟨C,rfl⟩:=h;rw[uN];grind
theorem BO{α:Type}{A B:List α}(h:A <+: B){i:Nat}{x:α}(hi:A[i]?=some x):B[i]?=some x:=by
 obtain⟨C,rfl⟩:=h;grind
theorem Hs.step{c:bD}{n:Nat}{s:aH}{E:List bH}(h:Hs c n s E){r:Rp}(f:∀e∈r.evs,aF e.value):Hs c (n+1) (fR s r) (E++dG s r):=by
 obtain⟨n1,n2,n3⟩:=num_step (r:=r) h.sunk h.num;obtain⟨x,i,B,I⟩:=h.once;obtain⟨y,j,J⟩:=Vn (r:=r) h.R.R.ok I;refine⟨h.R.step f,by rw[uN];exact n2,⟨y,i.append j,_,J⟩,λe a b=>?_,n3,?_,λe a=>?_,by rw[V7];have:=h.len;have:=Mx (r:=r) h.R.R.ok;omega⟩
 .rcases VV.1 a with a|a
  .have:=h.nums e a b;exact⟨this.1,BO (BN (YK _ _)) this.2⟩
  .obtain⟨k,d,rfl⟩:=Wz a;have e1:=n1 k d b;refine⟨by omega,?_⟩;have e2:dG s r=(dG s r).take k++((dG s r)[k]::(dG s r).drop (k+1)):=by simp_all
   have e3:emO (dG s r)=emO ((dG s r).take k)++((dG s r)[k].out::emO ((dG s r).drop (k+1))):=by
    conv=>lhs;rw[e2]
    rw[uN];congr 1;unfold emO;grind
   rw[uN,e3,e1,List.getElem?_append_right (by omega),List.getElem?_append_right (by omega)];grind
 .have:=Vp (s:=s) (r:=r);have:=h.boots;omega
 .rcases VV.1 a with a|a
  .exact h.rgt e a
  .exact okE_step h.R.R f e a
theorem Hs.run{c:bD}:∀{rs:List Rp} {n:Nat} {s:aH} {E:List bH},Hs c n s E->(∀r∈rs,∀e∈r.evs,aF e.value)->Hs c (n+rs.length) (dH s rs) (E++ju s rs)
 | [],n,s,E,h,_=>by
  rw[ju,We];exact h
 | r::rs,n,s,E,h,hv=>by
  have:=Hs.run (h.step (hv r (VO ..))) λx a=>hv x (VQ _ a)
  rw[ju,<-VK,VE,show n+(rs.length+1)=n+1+rs.length by omega];exact this
def rcO(r:Rp):Rc:=⟨r.kind,r.bytes⟩
structure Led(c:bD)(n:Nat)(l:List Rc)(s0:aH)(E0:List bH)(rs:List Rp)(m:Nat):Prop where
 h0:Hs c m s0 E0
 len:m+rs.length<=n
 tell:dw l=(none,rs.map rcO)/\s0=bT c/\E0=[]\/dw l=(some (stB s0),rs.map rcO)
 vals:∀r∈rs,∀e∈r.evs,aF e.value
 oks:∀j (hj:j<rs.length),(bO (dH s0 (rs.take j)) rs[j]).2.2=0
def ff(c:bD)(n:Nat)(l:List Rc)(s:aH)(E E0:List bH):Prop:=∃s0 rs m,Led c n l s0 E0 rs m/\s=dH s0 rs/\E=E0++ju s0 rs
theorem ff.hs{c:bD}{n:Nat}{l:List Rc}{s:aH}{E a:List bH}(h:ff c n l s E a):Hs c n s E:=by
 obtain⟨s0,b,m,h,rfl,rfl⟩:=h;exact (h.h0.run h.vals).mono h.len
theorem ff.mono{c:bD}{n b:Nat}{l:List Rc}{s:aH}{E a:List bH}(h:ff c n l s E a)(f:n<=b):ff c b l s E a:=by
 obtain⟨s0,e,m,h,d⟩:=h;exact⟨s0,e,m,⟨h.h0,VT h.len f,h.tell,h.vals,h.oks⟩,d⟩
theorem ff.same{c:bD}{n:Nat}{l b:List Rc}{s:aH}{E a:List bH}(h:ff c n l s E a)(e:dw l=dw b):ff c n b s E a:=by
 obtain⟨s0,f,m,h,d⟩:=h;exact⟨s0,f,m,⟨h.h0,h.len,by rw[<-e];exact h.tell,h.vals,h.oks⟩,d⟩
theorem ff.pre{c:bD}{n:Nat}{l:List Rc}{s:aH}{E a:List bH}(h:ff c n l s E a):a <+: E:=by
 obtain⟨s0,b,m,h,rfl,rfl⟩:=h;grind
theorem ff.new{c:bD}(b:fC c=true):ff c 0 [] (bT c) [] []:=
 ⟨bT c,[],0,⟨Hs.new b,VF _,.inl ⟨rfl,rfl,rfl⟩,λr a=>V6 a (by simp),λj d=>V6 d (by simp)⟩,rfl,rfl⟩
theorem ff.rec{c:bD}{n:Nat}{l:List Rc}{s:aH}{E i:List bH}(h:ff c n l s E i){r:Rp}(v:∀e∈r.evs,aF e.value)(f:(bO s r).2.2=0):ff c (n+1) (l++[rcO r]) (fR s r) (E++dG s r) i:=by
 obtain⟨s0,b,m,h,rfl,rfl⟩:=h;have u:r.kind≠0:=by
  have t:=sJ f;unfold Rp.right at t;grind
 refine⟨s0,b++[r],m,⟨h.h0,by rw[V7];have:=h.len;grind,?_,λx a=>?_,λj k=>?_⟩,(Vo _ _ _).symm,by rw[BL,VK]⟩
 .rw [It,V4 (show ¬(rcO r).kind=0 from u)]
  rcases h.tell with ⟨t1,t2⟩|t1
  .grind
  grind
 .rcases VV.1 a with a|a
  .exact h.vals x a
  .rw [VI]at a;subst a;exact v
 .rw [V7]at k;simp only[VE,VZ]at k
  rcases Wa j b.length with d|d
  .rw [Yv (by omega)];have:=h.oks j d;grind
  grind
theorem ff.chk{c:bD}{n:Nat}{l:List Rc}{s:aH}{E b:List bH}(h:ff c n l s E b):ff c n (l++[⟨0,stB s⟩]) s E E:=
 ⟨s,[],n,⟨h.hs,VF _,.inr (by rw[It,V5 rfl];rfl),λr a=>V6 a (by simp),λj d=>V6 d (by simp)⟩,rfl,by rw[ju,We]⟩
theorem My(s:aH)(rs:List Rp):∀n,recT s rs n=iI s s.kept.length++(ju s (rs.take n)).flatMap cI
 | 0=>by simp[recT,ju]
 | n+1=>by
  rw[recT,My s rs n]
  cases h:rs[n]? with
  | none=>grind [List.take_add_one]
  | some r=>rw[List.take_add_one,h,Option.toList_some,BL,W4,VK]
theorem BP{f:Fq}(d:f.kind≠5)(c:f.kind≠8)(k:jc { kind:=f.kind } (aU f.kind) ((aU f.kind).map f.nums)=f)(b:eZ f=true):fH (cA f)=.ok f:=by
 have hb:j8 f=aN [f.kind]++nmF f (aU f.kind):=by unfold j8 mM;grind
 have m:(j8 f).length<=100:=by
  have j:=dK [f.kind];have l1:=JD f (aU f.kind);have lo:=xc f.kind;grind
 have hs:(eK (j8 f)).length<=104:=by grind [rY]
 have a:=b;unfold eZ at a;simp only[VB,VA,Wt]at a;have e:cA f=eK (j8 f):=by unfold cA;grind
 unfold fH;rw[e,nO,G6,V4 (by simp)];dsimp only;unfold nS py;have e2:aN [f.kind]++nmF f (aU f.kind)=aN [f.kind]++(((aU f.kind).flatMap λi=>aN [f.nums i])++[]):=by rw[We]
 rw[hb,e2,uF (by omega) (by omega)];dsimp only;rw[nO];dsimp only;rw[BA (λi hi=>by have:=a.1.2 i hi;unfold aF;omega) _ _ (VF _),Wi,W6]
 dsimp only;unfold mO;rw[k,V4 d,V4 c];unfold endQ;dsimp only;have h:dF ⟨0,([]:List Nat).flatMap (λi=>aN [f.nums i])++[]⟩=⟨0,[]⟩:=rfl
 grind
theorem Vq{a e b:Int}(h:eZ (mV a e b)=true):fH (cA (mV a e b))=.ok (mV a e b):=BP (show (2:Int)≠5 by decide) (show (2:Int)≠8 by decide) rfl h
theorem ack_back{a e b:Int}(h:eZ (mW a e b)=true):fH (cA (mW a e b))=.ok (mW a e b):=BP (show (6:Int)≠5 by decide) (show (6:Int)≠8 by decide) rfl h
theorem Mz{a e b:Int}(h:eZ (dU a e b)=true):fH (cA (dU a e b))=.ok (dU a e b):=BP (show (3:Int)≠5 by decide) (show (3:Int)≠8 by decide) rfl h
structure HM where
 v:List (I3×Ou)
 e:List (Int×List Int)
def Ou.id(o:Ou):I3:=⟨o.ida,o.ide,o.seq⟩
def HOk1(h:HM)(o:Ou):Prop:=
 (o.kind=2->∀w,aK o.id h.v=some w->w.reason=o.reason/\w.win=o.win/\w.lo=o.lo/\w.hi=o.hi)/\(o.kind=3->∀b,aK o.num h.e=some b->b=o.bs)/\
 (o.kind=1->∃f,fH o.bs=.ok f/\f.ag=o.ag/\(f.kind=6->∀n:Int,0<=n->n<f.next->n<10000->∃w,aK ⟨f.ag,f.ep,n⟩ h.v=some w))
def hear1(h:HM)(o:Ou):HM:=if o.kind=2 then { h with v:=mset o.id o h.v } else if o.kind=3 then { h with e:=mset o.num o.bs h.e } else h
def jg(h:HM)(l:List Ou):Nat->HM
 | 0=>h
 | n+1=>match l[n]? with
  | some o=>hear1 (jg h l n) o
  | none=>jg h l n
def HOk(h:HM)(l:List Ou):Prop:=∀i (hi:i<l.length),HOk1 (jg h l i) l[i]
theorem BQ(h:HM)(a b:List Ou):∀i,i<=a.length->jg h (a++b) i=jg h a i
 | 0,_=>rfl
 | i+1,hi=>by rw[jg,jg,BQ h a b i (by omega),List.getElem?_append_left (by omega)]
theorem uT(h:HM)(a b:List Ou):∀i,jg h (a++b) (a.length+i)=jg (jg h a a.length) b i
 | 0=>BQ h a b _ (VF _)
 | i+1=>by rw[<-Wy,jg,jg,uT h a b i,List.getElem?_append_right (by omega),Yf]
theorem HOk.app{h:HM}{a b:List Ou}(e:HOk h a)(d:HOk (jg h a a.length) b):HOk h (a++b):=by
 intro i hi
 rcases Wa i a.length with c|c
 .rw [BQ h a b i (by omega),YN c];exact e i c
 .obtain⟨j,rfl⟩:∃j,i=a.length+j:=⟨i-a.length,by omega⟩;rw[uT,List.getElem_append_right (by omega)];have:=d j (by grind);simpa using this
def lZ(e:bH):I3:=⟨e.ida,e.ide,e.seq⟩
def verO(e:bH):Ou:={ kind:=2,ida:=e.ida,ide:=e.ide,seq:=e.seq,reason:=e.reason,win:=e.win,lo:=e.gap.lo,hi:=e.gap.hi }
structure HJ(h:HM)(P T:List bH):Prop where
 ver:∀k w,aK k h.v=some w->∃e∈T,e.kind=3/\lZ e=k/\w=verO e
 emi:∀n b,aK n h.e=some b->0<=n/\∃o,(emO T)[n.toNat]?=some o/\b=(jC n o).bs
 has:∀e∈P,e.kind=3->∃w,aK (lZ e) h.v=some w
theorem HJ.mono{h:HM}{P P' T f:List bH}(H:HJ h P T)(d:T <+: f)(i:∀e∈P',e∈P):HJ h P' f:=
 ⟨λk w j=>by obtain⟨e,c,a⟩:=H.ver k w j;grind,λn b hb=>by obtain⟨h0,o,c,a⟩:=H.emi n b hb;exact⟨h0,o,BO (BN d) c,a⟩,λe m=>H.has e (i e m)⟩
theorem hj0:HJ ⟨[],[]⟩ [] []:=⟨λk w h=>by grind [aK],λn b h=>by grind [aK],λe a=>V6 a (by simp)⟩
theorem fS.vv{x y:VG}{E:List bH}(h:fS x E y):∀k,y.vv k≠0->x.vv k≠0\/∃e∈E,e.kind=3/\lZ e=k:=by
 induction h with
 | nil=>grind
 | snoc h1 h2 ih=>
  intro k a
  cases h2 with
  | grant h3=>
   rcases ih k a with h|⟨e,b,h⟩
   .grind
   grind
  | verdict h3 h4 h5=>
   rw[qT]at a
   split at a
   .rename_i c;exact .inr ⟨_,Yk _ (VI.2 rfl),h3,c.symm⟩
   grind
  | ack h3 h4=>
   grind
  | emit h3=>
   grind
theorem fS.vv'{x y:VG}{E:List bH}(h:fS x E y):(∀k,x.vv k≠0->y.vv k≠0)/\∀e∈E,e.kind=3->y.vv (lZ e)≠0:=by
 induction h with
 | nil=>grind
 | snoc h1 h2 ih=>
  rename_i e _ _;have key:∀k,(‹VG›).vv k≠0->True:=λ_ _=>trivial
  cases h2 with
  | grant h3=>
   refine⟨λk b=>ih.1 k b,λc a h=>?_⟩
   rcases VV.1 a with a|a
   .exact ih.2 c a h
   grind
  | verdict h3 h4 h5=>
   refine⟨λk b=>?_,λc a h=>?_⟩
   .grind [qT]
   .rw [qT];split
    .decide
    .rename_i b
     rcases VV.1 a with a|a
     .grind
     .rw [VI]at a;subst a;exact V6 rfl b
  | ack h3 h4=>
   grind
  | emit h3=>
   grind
structure Clear(T:List bH):Prop where
 one:T.Pairwise λa b=>a.kind=3->b.kind=3->lZ a≠lZ b
 ack:∀P e S,T=P++e::S->e.kind=2->∀n:Int,0<=n->n<e.next->n<10000->∃d∈P,d.kind=3/\lZ d=⟨e.agent,e.epoch,n⟩
theorem clear_of{T:List bH}{y:VG}(h:fS ⟨[],[]⟩ T y):Clear T:=by
 generalize hx:(⟨[],[]⟩:VG)=x at h
 induction h with
 | nil=>exact⟨List.Pairwise.nil,λP e S h=>by simp at h⟩
 | snoc h1 h2 ih=>
  subst hx;refine⟨?_,λP k S c t n h0 j i=>?_⟩
  .rw [List.pairwise_append];refine⟨ih.one,List.pairwise_singleton _ _,λa u b hb m w f=>?_⟩
   rw[VI]at hb;subst hb;have:=(fS.vv' h1).2 a u m
   cases h2 with
   | grant h=>omega
   | verdict _ h5 _=>rw[f]at this;exact this h5
   | ack h=>omega
   | emit h=>omega
  .rcases YC S with rfl|⟨v,z,rfl⟩
   .obtain⟨rfl,d⟩:=List.append_inj' c rfl;have d:=(List.cons.inj d).1;subst d
    cases h2 with
    | grant h=>omega
    | verdict h _ _=>omega
    | ack h5 h6=>
     have s:=h6 n h0 j i
     rcases fS.vv h1 ⟨_,_,n⟩ (by rw[s];decide) with h8|h8
     .exact V6 rfl h8
     .exact h8
    | emit h=>omega
   .rw [YD,<-WE,<-VK]at c;obtain⟨rfl,_⟩:=List.append_inj' c rfl;exact ih.ack P k v rfl t n h0 j i
theorem Clear.same{T:List bH}(h:Clear T){a b:bH}(m:a∈T)(hb:b∈T)(f:a.kind=3)(c:b.kind=3)(e:lZ a=lZ b):a=b:=by
 obtain⟨i,hi,rfl⟩:=Wz m;obtain⟨j,k,rfl⟩:=Wz hb
 rcases Nat.lt_trichotomy i j with d|d|d
 .exact V6 e (Yx.1 h.one i j hi k d f c)
 .subst d;rfl
 .exact V6 e.symm (Yx.1 h.one j i k hi d c f)
theorem hear_one{c:bD}{n:Nat}{s:aH}{T:List bH}(hs:Hs c n s T){h:HM}{P S:List bH}{e:bH}(E:T=P++e::S)(H:HJ h P T):HOk h (cI e)/\HJ (jg h (cI e) (cI e).length) (P++[e]) T:=by
 have hm:e∈T:=by rw[E];simp
 obtain⟨y,G,_⟩:=hs.once;have C:=clear_of G;have F:=hs.rgt e hm;have keep:e.kind≠3->HJ h (P++[e]) T:=λf=>⟨H.ver,H.emi,λd hd a=>by
  rcases VV.1 hd with hd|hd
  .exact H.has d hd a
  grind⟩
 have one:∀o,HOk1 h o->HOk h [o]:=λo m i hi=>by
  have:i=0:=by grind
  subst this;exact m
 unfold cI
 split
 .rename_i x;refine⟨one _ ⟨λh=>V6 h (show (1:Int)≠2 by decide),λh=>V6 h (show (1:Int)≠3 by decide),λ_=>⟨_,Vq (F.1 x),rfl,λh=>V6 h (show (2:Int)≠6 by decide)⟩⟩,keep (by omega)⟩
 split
 .rename_i x t;refine⟨one _ ⟨λh=>V6 h (show (1:Int)≠2 by decide),λh=>V6 h (show (1:Int)≠3 by decide),λ_=>⟨_,ack_back (F.2 t),rfl,λ_ n h0 B A=>?_⟩⟩,keep (by omega)⟩
  obtain⟨d,hd,a,u⟩:=C.ack P e S E t n h0 B A;have:=H.has d hd a;rw[u]at this;exact this
 split
 .rename_i x t f;refine⟨one (verO e) ⟨λ_ w j=>?_,λh=>V6 h (show (2:Int)≠3 by decide),λh=>V6 h (show (2:Int)≠1 by decide)⟩,⟨λk w j=>?_,H.emi,λd hd a=>?_⟩⟩
  .obtain⟨d,hd,a,u,rfl⟩:=H.ver _ w j;have:d=e:=C.same hd hm a f u;grind
  .have j:aK k (mset (lZ e) (verO e) h.v)=some w:=j;rw[lD]at j
   split at j
   .grind
   .exact H.ver k w j
  .show ∃w,aK (lZ d) (mset (lZ e) (verO e) h.v)=some w;rw[lD]
   split
   .grind
   .rename_i D
    rcases VV.1 hd with hd|hd
    .exact H.has d hd a
    grind
 split
 .rename_i x t f A;obtain⟨n0,B⟩:=hs.nums e hm A;refine⟨one (jC e.number e.out) ⟨λh=>V6 h (show (3:Int)≠2 by decide),λ_ b hb=>?_,λh=>V6 h (show (3:Int)≠1 by decide)⟩,⟨H.ver,λn b hb=>?_,(keep f).has⟩⟩
  .obtain⟨_,o,m,rfl⟩:=H.emi _ b hb;have m:(emO T)[e.number.toNat]?=some o:=m;rw[B]at m
   cases m
   rfl
  .have hb:aK n (mset e.number (jC e.number e.out).bs h.e)=some b:=hb;rw[lD]at hb
   split at hb
   .grind
   .exact H.emi n b hb
 .rename_i x t f A;exact⟨λi hi=>V6 hi (by simp),keep f⟩
theorem M0{c:bD}{n:Nat}{s:aH}{T:List bH}(hs:Hs c n s T):∀{X:List bH} {h:HM} {P S:List bH},T=P++X++S->HJ h P T->HOk h (X.flatMap cI)/\HJ (jg h (X.flatMap cI) (X.flatMap cI).length) (P++X) T
 | [],h,P,S,hT,H=>⟨λi hi=>V6 hi (by simp),by rw[We];exact H⟩
 | e::X,h,P,S,hT,H=>by
  obtain⟨a1,a2⟩:=hear_one (e:=e) (S:=X++S) hs (by rw[hT];simp) H;obtain⟨b1,b2⟩:=M0 (X:=X) (P:=P++[e]) (S:=S) hs (by rw[hT];simp) a2;rw[Wg];refine⟨a1.app b1,?_⟩;rw[V7,uT,show P++e::X=P++[e]++X by simp];exact b2
theorem M1{c:bD}{n:Nat}{s:aH}{T m:List bH}(h0:Hs c n s m)(t:m <+: T){P:List bH}{h:HM}(H:HJ h P T):∀j,j<=s.kept.length->HOk h (iI s j)/\HJ (jg h (iI s j) (iI s j).length) P T
 | 0,_=>⟨λi hi=>V6 hi (by simp[iI]),H⟩
 | j+1,hj=>by
  obtain⟨a1,a2⟩:=M1 h0 t H j (by omega);have k:(emO T)[(s.sunk+(j:Nat)).toNat]?=some (s.kept.getD j Ot.z):=by
   refine BO (BN t) ?_;rw[h0.num.kept,Yp,List.getElem?_drop];have hs:=h0.sunk;have w:=h0.num.len;grind
  obtain⟨d,f⟩:∃d,jg h (iI s j) (iI s j).length=d:=⟨_,rfl⟩;rw[f]at a2;have v:=h0.sunk;rw[iI];refine⟨a1.app ?_,?_⟩
  .rw [f];intro i hi;have:i=0:=by grind
   subst this;refine⟨λh=>V6 h (show (3:Int)≠2 by decide),λ_ b hb=>?_,λh=>V6 h (show (3:Int)≠1 by decide)⟩
   obtain⟨_,o,a,rfl⟩:=a2.emi _ b hb;have a:(emO T)[(s.sunk+(j:Nat)).toNat]?=some o:=a;rw[k]at a
   cases a
   rfl
  .rw [V7,uT,f];refine⟨a2.ver,λn b hb=>?_,a2.has⟩
   have hb:aK n (mset (s.sunk+(j:Nat)) (jC (s.sunk+(j:Nat)) (s.kept.getD j Ot.z)).bs d.e)=some b:=hb;rw[lD]at hb
   split at hb
   .grind
   .exact a2.emi n b hb
structure GI(g:Gg)(j:Nat)(was:List aH)(Ek E:List bH)(R:DR)(L:LG)(n0:Int)(k:Nat):Prop where
 opt:fe g.o=true
 few:g.o.cfg.cells.toNat<=200
 ti:TI g.o.segment g.rows g.syn g.rl j
 log:jn g.rows g.syn g.rl R L n0 k
 bk:g.saved=true->∃A d B,L=A++(g.seg,⟨0,d⟩)::B/\(∀x∈A,x.1<g.seg)/\g.num=n0+A.length
 all:∀p,k<=p->p<=L.length->∃s E1 E0,ff g.o.cfg j (di R++(L.take p).map Prod.snd) s E1 E0/\Ek <+: E1/\E1 <+: E/\E0 <+: Ek/\s∈was
 top:∃E0,ff g.o.cfg j (di R++L.map Prod.snd) g.s E E0/\E0 <+: Ek
 pend:∃E',E=Ek++E'/\g.pend=E'.flatMap cI
 last:g.s∈was
 recs:0<=g.recs/\g.recs<=j
 plen:g.pend.length<=2000*j
 prb:jD g.p
 count:g.p.count<=64*j
 boot:g.p.boot=g.s.boots
section
variable {g:Gg}{j:Nat}{was:List aH}{Ek E:List bH}{R:DR}{L:LG}{n0:Int}{k:Nat}
theorem GI.hs(h:GI g j was Ek E R L n0 k):Hs g.o.cfg j g.s E:=by
 obtain⟨b,a,_⟩:=h.top;exact a.hs
theorem GI.ok(h:GI g j was Ek E R L n0 k)(c:j<=200):GgOk g:=by
 have b:=h.hs.R;have a:=h.ti;have f:=a.len;have i:=a.seg;have e:=h.recs;have d:=h.plen;exact⟨b.R,b.few h.few c,a.ok (by omega),by omega,by omega,by omega,by omega,h.prb⟩
theorem GI.mono(h:GI g j was Ek E R L n0 k):GI g (j+1) was Ek E R L n0 k:=by
 obtain⟨c,f,d⟩:=h.top;refine⟨h.opt,h.few,h.ti.mono,h.log,h.bk,λp a b=>?_,⟨c,f.mono (Nat.le_succ _),d⟩,h.pend,h.last,by have:=h.recs;omega,by have:=h.plen;omega,h.prb,by have:=h.count;omega,h.boot⟩
 obtain⟨s,e,c,a1,a2⟩:=h.all p a b;exact⟨s,e,c,a1.mono (Nat.le_succ _),a2⟩
theorem GI.withP(h:GI g j was Ek E R L n0 k){p:Pb}(c:jD p)(a:p.count<=64*j)(b:p.boot=g.p.boot):GI { g with p:=p } j was Ek E R L n0 k:=
 ⟨h.opt,h.few,h.ti,h.log,h.bk,h.all,h.top,h.pend,h.last,h.recs,h.plen,c,a,b.trans h.boot⟩
theorem Vr{s:aH}{r:Rp}(a:r.kind≠1):(fR s r).boots=s.boots:=by
 refine oH (P:=λq=>q.1.boots=s.boots) (λ_=>rfl) (λ_ _=>rfl) (λ_ _ h=>V6 h a) (λ_ _ _=>?_) (λ_ _ _=>?_) (λ_ _ _=>?_) (λ_ _ _=>?_) (λ_ _ _=>rfl) (λ_ _ _=>?_)
 .grind [fB]
 .grind [mT]
 .grind [gD]
 .grind [lT]
 grind [mU]
theorem M3(l:List bH):(l.flatMap cI).length<=l.length:=by
 induction l with
 | nil=>simp
 | cons e l ih=>
  rw[Wg,V7,VE];grind [cI]
theorem GI.cmt(h:GI g j was Ek E R L n0 k)(O:j<=200){r:Rp}(G:∀e∈r.evs,aF e.value)(H:r.kind≠1)(m:(cF g r).2=0) :
  ∃t y,GI (cF g r).1 (j+1) (was++[(cF g r).1.s]) Ek t R y n0 k/\(cF g r).1.syn=g.syn/\g.rows.length<(cF g r).1.rows.length:=by
 have i:(bO g.s r).2.2=0:=by
  unfold cF at m
  grind
 have F:(cF g r).1={ g with s:=(bO g.s r).1,pend:=g.pend++(bO g.s r).2.1.flatMap cI,recs:=g.recs+1,rl:=dp g.rows g.rl ⟨r.kind,r.bytes⟩,rows:=fY g.rows g.rl ⟨r.kind,r.bytes⟩ }:=by
  unfold cF;grind
 have I:=sJ i;have D:=h.ti.seg;have n:=Bj (rows:=g.rows) (s:=g.rl) (by omega) I;obtain⟨v,t1,t2⟩:=h.top;obtain⟨t,p1,p2⟩:=h.pend;have hb:=Rp.bytes_by r;have N:=Rp.bytes_len r;have f:=h.log.append (r:=⟨r.kind,r.bytes⟩) hb n;have c:fY g.rows g.rl ⟨r.kind,r.bytes⟩=g.rows++(bN ⟨r.kind,r.bytes⟩).map λb=>((dp g.rows g.rl ⟨r.kind,r.bytes⟩).seg,b):=by unfold fY;grind
 have x:=qy (zU (r:=⟨r.kind,r.bytes⟩) hb n);have t3:=t1.rec G i;have w:=Mx (r:=r) h.hs.R.R.ok;have K:=M3 (dG g.s r);rw[F];refine⟨E++dG g.s r,L++[((dp g.rows g.rl ⟨r.kind,r.bytes⟩).seg,⟨r.kind,r.bytes⟩)],⟨h.opt,h.few,h.ti.append (by omega) hb (by grind),f,λhs=>?_,λp a b=>?_,⟨v,?_,t2⟩,⟨t++dG g.s r,by rw[p1,VK],?_⟩,Yk _ (VI.2 rfl),?_,?_,h.prb,?_,?_⟩,rfl,?_⟩
 .obtain⟨A,d,B,b1,b2,b3⟩:=h.bk hs;grind
 .rw [V7]at b;simp only[VE,VZ]at b
  rcases Wa L.length p with u|u
  .obtain rfl:p=L.length+1:=by omega
   rw[Wc (by simp),VW,<-VK];exact⟨_,_,v,t3,by grind,WT,t2,Yk _ (VI.2 rfl)⟩
  .rw [Yv u];obtain⟨s,C,M,a1,a2,a3,a4,a5⟩:=h.all p a u;exact⟨s,C,M,a1.mono (Nat.le_succ _),a2,a3.trans (YK _ _),a4,WV _ a5⟩
 .rw [VW,<-VK];exact t3
 .grind
 .have:=h.recs;grind
 .have:=h.plen;grind
 .have:=h.count;grind
 .exact h.boot.trans (Vr H).symm
 grind
theorem GI.sync(h:GI g j was Ek E R L n0 k)(I:j<=200):∃H F t D,GI (iH g) (j+3) [g.s] E E H F t D/\(iH g).s=g.s/\(iH g).o=g.o/\(iH g).pend=[]:=by
 obtain⟨i,t1,t2⟩:=h.top;obtain⟨J,p1,p2⟩:=h.pend;have e:i <+: E:=t1.pre;obtain⟨R1,c,m0,l1,l2,l3⟩:∃R1 c m0,jn (gq g) (gq g).length { g.rl with syn:=g.rl.next } R1 c m0 c.length/\(g.saved=true->∃A d B,c=A++(g.seg,⟨0,d⟩)::B/\(∀x∈A,x.1<g.seg)/\g.num=m0+A.length)/\
   ff g.o.cfg j (di R1++c.map Prod.snd) g.s E i:=by
  unfold gq
  split
  .rename_i n;obtain⟨A,d,B,b1,b2,b3⟩:=h.bk n.1;have y:=h.log.sync;rw[b1]at y;refine⟨[],(g.seg,⟨0,d⟩)::B,n0+A.length,y.trim rfl b2,λ_=>⟨[],d,B,rfl,λx u=>V6 u (by simp),by rw[b3];simp⟩,?_⟩
   refine t1.same ?_;rw[b1,VW,Wf,<-VK,Rf _ rfl,show di []=[] from wG.2.1,Wl]
  .exact⟨R,L,n0,h.log.sync,h.bk,t1⟩
 have m:TI g.o.segment (gq g) (gq g).length { g.rl with syn:=g.rl.next } (j+2):=by
  unfold gq
  split
  .exact h.ti.sync.drop g.seg
  .exact h.ti.sync.mono
 have w:=h.recs;have C:=h.count;unfold iH
 split
 .rename_i n;have f:(⟨0,stB g.s⟩:Rc).ok:=⟨Wh 0,by grind,n.2,xG _⟩;have l4:=l1.push (g:=g.rl.seg+1) (by grind) f;have v:=l3.chk;refine⟨R1,_,m0,c.length,⟨h.opt,h.few,m.save (by omega) f n.2,l4,λ_=>⟨c,stB g.s,[],rfl,λx u=>?_,l1.next⟩,λp a b=>?_,⟨E,?_,WT⟩,⟨[],by simp,rfl⟩,VI.2 rfl,?_,by simp,h.prb,?_,h.boot⟩,rfl,rfl,rfl⟩
  .have:=l1.seg x u;grind
  .rw [V7]at b;simp only[VE,VZ]at b
   rcases Wa c.length p with G|G
   .obtain rfl:p=c.length+1:=by omega
    rw[Wc (by simp),VW,<-VK];exact⟨_,_,E,v.mono (by omega),WT,WT,WT,VI.2 rfl⟩
   .obtain rfl:p=c.length:=by omega
    rw[List.take_left];exact⟨_,_,i,l3.mono (by omega),WT,WT,e,VI.2 rfl⟩
  .rw [VW,<-VK];exact v.mono (by omega)
  .grind
  grind
 .refine⟨R1,c,m0,c.length,⟨h.opt,h.few,m.mono,l1,l2,λp a b=>?_,⟨i,l3.mono (by omega),e⟩,⟨[],by simp,rfl⟩,VI.2 rfl,?_,by simp,h.prb,?_,h.boot⟩,rfl,rfl,rfl⟩
  .obtain rfl:p=c.length:=by omega
   rw[Wi];exact⟨_,_,i,l3.mono (by omega),WT,WT,e,VI.2 rfl⟩
  .grind
  grind
theorem GI.crash(h:GI g j was Ek E R L n0 k)(d:j<=200)(keep:Int):∃s a b,ff g.o.cfg j (di (eV g.rows g.syn keep)) s a b/\Ek <+: a/\a <+: E/\b <+: Ek/\s∈was/\
  TI g.o.segment (eV g.rows g.syn keep) (eV g.rows g.syn keep).length (opS g.o.segment (eV g.rows g.syn keep)) (j+1)/\fk g.o.segment (eV g.rows g.syn keep)=0:=by
 obtain⟨p,p1,p2,p3⟩:=h.log.cut keep;obtain⟨s,a,b,a1,a2,a3,a4,a5⟩:=h.all p p1 p2;have c:=h.ti.crash (by omega) keep;grind
theorem BR{s:aH}(h:s.boots<1099511627776):bO s dI=({ s with boots:=s.boots+1 },[],0):=by
 unfold bO;rw[V4 (by decide),V4,V5 (show dI.kind=1 from rfl)];unfold fA;rw[V5 (show dI.kind=1 from rfl),nO];decide
theorem xR{o:Opt}(f:fe o=true)(A:o.cfg.cells.toNat<=200){rows:DR}{s:aH}{k:List bH}(d:ff o.cfg j (di rows) s E k)(u:TI o.segment rows rows.length (opS o.segment rows) j)(C:j<=200) :
  ∃w,GI (jH o s rows) (j+2) [fR s dI] E E rows w (di rows).length 1:=by
 have hb:s.boots<1099511627776:=by have:=d.hs.boots;omega
 have m:=BR hb;have t:(bO s dI).2.2=0:=by rw[m]
 have B:=u.seg;have v:=Bj (rows:=rows) (s:=opS o.segment rows) (by omega) (sJ t);have c:=Rp.bytes_by dI;have y:=Rp.bytes_len dI;have l1:=((Re (rows:=rows) o.segment).append (r:=⟨1,dI.bytes⟩) c v).sync;have l2:=d.rec (r:=dI) (λe i=>V6 i (by simp[dI])) t
 have i:dG s dI=[]:=by grind
 rw[i,We]at l2;have D:=d.hs.R.R.ok.boots;have n:1<=o.probes/\o.probes<=1024:=by
  unfold fe at f;grind
 refine⟨[((dp rows (opS o.segment rows) ⟨1,dI.bytes⟩).seg,⟨1,dI.bytes⟩)],⟨f,A,?_,l1,λh=>V6 h (by simp[jH]),λp a b=>?_,⟨k,l2.mono (by omega),d.pre⟩,⟨[],by simp,rfl⟩,VI.2 rfl,?_,by simp[jH],?_,?_,rfl⟩⟩
 .exact (u.append (by omega) c (by grind)).sync
 .have x:p=1:=by grind
  subst x;exact⟨_,_,k,l2.mono (by omega),WT,WT,d.pre,VI.2 rfl⟩
 .show (0:Int)<=0/\(0:Int)<=_;omega
 .refine⟨by show (0:Int)<=0/\(0:Int)<=1000000000000;omega,n,by simp[jH],by simp[jH],?_⟩;show aF (bO s dI).1.boots;rw[m];unfold aF;grind
 .show (0:Int)<=_;omega
theorem Vs(p:Pb)(a e b c:Int):(fD p a e b c).2.2.boot=p.boot/\(fD p a e b c).2.2.count=p.count:=by
 unfold fD
 grind
theorem BS(f:Fq)(a n x:Int):(je f a n x).kind≠1/\((je f a n x).evs=f.evs\/(je f a n x).evs=[]):=by
 unfold je
 grind
theorem sV{α:Type}{s:RS}{v:α}{e:Int}(h:okR s v=.error e):e≠0:=by
 grind [okR]
theorem numR_err{s:RS}{e:Int}(h:dZ s=.error e):e≠0:=sV h
theorem M4:∀{n:Nat} {s:RS} {e:Int},jb n s=.error e->e≠0
 | 0,_,_,h=>by cases h
 | n+1,s,e,h=>by
  unfold jb at h
  split at h
  .rename_i b;cases h;exact M4 b
  .split at h
   .rename_i a;cases h;exact sV a
   .cases h
theorem M5:∀{n:Nat} {s:RS} {e:Int},j9 n s=.error e->e≠0
 | 0,_,_,h=>by cases h
 | n+1,s,e,h=>by
  unfold j9 at h
  split at h
  .rename_i b;cases h;exact M5 b
  .split at h
   .rename_i a;cases h;exact sV a
   .cases h
theorem endQ_err{x:Except Int (Fq×RS)}(a:∀e,x=.error e->e≠0){e:Int}(h:endQ x=.error e):e≠0:=by
 unfold endQ at h
 grind
theorem decQ_err{bs:List Int}{e:Int}(h:fH bs=.error e):e≠0:=by
 unfold fH at h
 split at h
 .grind
 split at h
 .grind
 unfold nS at h
 split at h
 .grind [py, numR_err]
 split at h
 .grind [M4]
 refine endQ_err (λe b=>?_) h
 unfold mO at b
 split at b
 .split at b
  .rename_i a
   cases b
   unfold mN at a
   split at a
   .rename_i c;cases a;exact sV c
   .exact M5 a
  .cases b
 split at b
 .split at b
  .rename_i a;cases b;exact sV a
  .exact sV b
 .cases b
def sW(g:Gg)(x:Gg×Int):Prop:=∃p,jD p/\p.boot=g.p.boot/\p.count=g.p.count/\((x.1={ g with p:=p }/\x.2≠0)\/∃r:Rp,x=cF { g with p:=p } r/\r.kind≠1/\∀e∈r.evs,aF e.value)
theorem M6(b:jD g.p)(a n:Int)(bs:List Int):sW g (jf g a n bs):=by
 unfold jf
 cases hd:fH bs with
 | error e=>exact⟨g.p,b,rfl,rfl,.inl ⟨rfl,decQ_err hd⟩⟩
 | ok f=>
  have d:=Mt hd;have key:∀x,∀e∈(je f a n x).evs,aF e.value:=λx e c=>by
   rcases (BS f a n x).2 with h|h
   .rw [h]at c;exact d e c
   .rw [h]at c;cases c
  show sW g (lX g f a n);unfold lX
  split
  .exact⟨g.p,b,rfl,rfl,.inl ⟨rfl,show (16:Int)≠0 by decide⟩⟩
  split
  .exact⟨g.p,b,rfl,rfl,.inl ⟨rfl,show (10:Int)≠0 by decide⟩⟩
  split
  .have hs:=Vs g.p a f.ep f.bt f.ct
   split
   .rename_i c;exact⟨_,BH b a f.ep f.bt f.ct,hs.1,hs.2,.inl ⟨rfl,c⟩⟩
   .exact⟨_,BH b a f.ep f.bt f.ct,hs.1,hs.2,.inr ⟨_,rfl,(BS f a n _).1,key _⟩⟩
  .exact⟨g.p,b,rfl,rfl,.inr ⟨_,rfl,(BS f a n _).1,key _⟩⟩
theorem Vt(b:jD g.p)(n:Int):sW g (cF g (qR n)):=⟨g.p,b,rfl,rfl,.inr ⟨_,rfl,show (7:Int)≠1 by decide,λe a=>V6 a (by simp[qR])⟩⟩
theorem GI.call(h:GI g j was Ek E R L n0 k)(i:j<=200){x:Gg×Int}(a:sW g x):∃b c,GI x.1 (j+1) (if x.2=0 then was++[x.1.s] else was) Ek b R c n0 k/\x.1.syn=g.syn/\x.1.o=g.o/\(x.2=0->g.rows.length<x.1.rows.length)/\
  (x.2≠0->x.1.s=g.s/\x.1.pend=g.pend/\x.1.rows=g.rows):=by
 obtain⟨p,p1,p2,p3,a⟩:=a;have d:=h.withP p1 (by have:=h.count;omega) p2
 rcases a with ⟨e1,e2⟩|⟨r,rfl,f,n⟩
 .refine⟨E,L,?_,by rw[e1],by rw[e1],λh=>V6 h e2,λ_=>by grind⟩
  rw[V4 e2,e1];exact d.mono
 .by_cases he:(cF { g with p:=p } r).2=0
  .obtain⟨b,c,a1,a2,a3⟩:=d.cmt i n f he;refine⟨b,c,?_,a2,?_,λ_=>a3,λh=>V6 he h⟩
   .rw [V5 he];exact a1
   grind [cF]
  .have e:(cF { g with p:=p } r).1={ g with p:=p }:=by
    unfold cF at he ⊢
    grind
   refine⟨E,L,?_,by rw[e],by rw[e],λh=>V6 h he,λ_=>by grind⟩
   rw[V4 he,e];exact d.mono
theorem uU{s:aH}{now period:Int}{p:Pb}:∀n,(eF s now period p n).1.boot=p.boot
 | 0=>rfl
 | n+1=>by
  rw[eF]
  split
  .exact uU n
  .exact uU n
theorem M7{s:aH}{now period:Int}{p:Pb}(c:0<=p.count/\p.count+64<=1000000000000)(hb:0<=p.boot/\p.boot<=1099511627776):∀n,n<=64->p.count<=(eF s now period p n).1.count/\(eF s now period p n).1.count<=p.count+n/\
  ∀o∈(eF s now period p n).2,o.kind=1/\∃f:Fq,fH o.bs=.ok f/\f.kind=3/\f.bt=p.boot/\f.ag=o.ag
 | 0,_=>⟨Wh _,by show p.count<=p.count+((0:Nat):Int);omega,λo a=>V6 a (by simp[eF])⟩
 | n+1,hn=>by
  obtain⟨a1,a2,a3⟩:=M7 (s:=s) (now:=now) (period:=period) c hb n (by omega);rw[eF]
  split
  .refine⟨?_,?_,λo a=>?_⟩
   .show _<=(eF s now period p n).1.count+1;omega
   .show (eF s now period p n).1.count+1<=_;omega
   .rcases VV.1 a with a|a
    .grind
    .rw [VI]at a;subst a;refine⟨rfl,_,Mz ?_,rfl,uU n,rfl⟩;have b:=uU (s:=s) (now:=now) (period:=period) (p:=p) n;simp[eZ,dU,aU,gU,Fq.nums];omega
  grind
theorem M8{s:aH}{now:Int}(h:(bO s (fp now)).2.2=0):0<=now/\now<=4611686018427387903:=(iF (sJ h)).nw
theorem GI.step(h:GI g j was Ek E R L n0 k)(u:j<=200)(now:Int):∃c d,GI (eQ g now).1 (j+1) (if (eQ g now).2.2=0 then was++[(eQ g now).1.s] else was) Ek c R d n0 k/\(eQ g now).1.syn=g.syn/\(eQ g now).1.o=g.o/\
  ((eQ g now).2.2=0->g.rows.length<(eQ g now).1.rows.length)/\((eQ g now).2.2≠0->(eQ g now).1.s=g.s/\(eQ g now).1.pend=g.pend/\(eQ g now).1.rows=g.rows)/\
  ∀o∈(eQ g now).2.1,o.kind=1/\∃f:Fq,fH o.bs=.ok f/\f.kind=3/\f.bt=g.s.boots/\f.ag=o.ag:=by
 have t:sW g (cF g (fp now)):=⟨g.p,h.prb,rfl,rfl,.inr ⟨_,rfl,show (6:Int)≠1 by decide,λe a=>V6 a (by simp[fp])⟩⟩
 obtain⟨c,d,a1,a2,a3,a4,a5⟩:=h.call u t;have n:=h.count;have ep:(cF g (fp now)).1.p=g.p:=by grind [cF]
 unfold eQ
 by_cases a:(cF g (fp now)).2=0
 .rw [V4 (by grind)];have w:=M8 (s:=g.s) (now:=now) (by
   unfold cF at a
   grind)
  have v:=BJ (s:=(cF g (fp now)).1.s) (period:=g.o.period) h.prb (by omega) w 64 (VF _);have hb:0<=g.p.boot/\g.p.boot<=1099511627776:=by rw[h.boot];exact h.hs.R.R.ok.boots
  have m:=M7 (s:=(cF g (fp now)).1.s) (now:=now) (period:=g.o.period) ⟨h.prb.count.1,by omega⟩ hb 64 (VF _);refine⟨c,d,?_,a2,a3,λ_=>a4 a,λb=>V6 rfl b,λo i=>?_⟩
  .rw [V5 a]at a1;rw[V5 rfl];exact a1.withP v.1 (by grind) (by grind [uU])
  .have:=m.2.2 o i;rw[h.boot]at this;exact this
 grind
end
structure kL where
 what:Int
 ag:Int
 now:Int
 next:Int
 keep:Int
 a:KQ
 c:Nat
 bs:List Int
abbrev nX(x:kL):Os:=[aD x.what,aD x.ag,aD x.now,aD x.next,aD x.keep,.slice x.a x.bs.length x.c]
theorem uV(x:kL):(nX x).length=6:=rfl
structure GcK(Q:aE)(a:KQ)(xs:List kL):Prop where
 row:KIn Q a (flat nX xs)
 bs:∀x∈xs,KIn Q x.a (x.bs.map U8)
 ok:∀x∈xs,aI x.bs/\aF x.keep
 len:xs.length<=maxLen
theorem GcK.sub{Q Q':aE}{a:KQ}{xs:List kL}(h:GcK Q a xs)(hs:aM Q Q'):GcK Q' a xs:=⟨h.row.sub hs,λx b=>(h.bs x b).sub hs,h.ok,h.len⟩
def grG(o:Opt)(xs:List kL):Bool:=decide (60<xs.length)||grC o.cfg 0||xs.any λx=>decide (3000<x.bs.length)
abbrev jh(s:Sn):Os:=[aD s.bt,aD s.ct]
section
variable {F L:List aE}{H:aC}{K:KE}{Q:aE}{gb db:Nat}{g:Gg}{o:Opt}
abbrev eR(p:Prop)[Decidable p]:Int:=if p then 0 else 11
theorem eR0(p:Prop)[Decidable p]:decide (eR p=0)=decide p:=by
 grind
theorem R16New{boot most:Int}(h:aA H F)(k:∀p c,aA c F->K (.tuple #[.pointer p,aD (eR ((1<=boot/\boot<=1099511627776)/\1<=most/\most<=1024))]) c):CF 38 #[aD boot,aD most] H K:=by
 refine cM 38 476 ⟨λa=>?_,λa=>?_⟩ <;> simp only[VR,VP,VA,VD]at a
 .rw [eR,nO]at k;exact k _ _ h
 .rw [eR,pO]at k;exact h.al λb _ h=>k _ _ h.tl
theorem R20New{lag:Int}(h:aA H F)(k:∀p c,aA c F->K (.tuple #[.pointer p,aD (eR (1<=lag/\lag<=1099511627776))]) c):CF 86 #[aD lag] H K:=by
 refine cM 86 476 ⟨λa=>?_,λa=>?_⟩ <;> simp only[VR,VP,VA,VD]at a
 .rw [eR,nO]at k;exact k _ _ h
 .rw [eR,pO]at k;exact h.al λb _ h=>k _ _ h.tl
theorem R04Rate{rho:Int}:bV Tryz.prog 187 #[aD rho] H (.bool (decide (0<=rho)&&decide (rho<=100000))):=by
 unfold bV;exact cM 187 28 ⟨rfl,rfl⟩
theorem R18New{rho trust:Int}(h:aA H F)(k:∀p c,aA c F->K (.tuple #[.pointer p,aD (eR (gA rho/\0<=trust/\trust<=100))]) c):CF 87 #[aD rho,aD trust] H K:=by
 refine cM 87 476 ⟨_,R04Rate,λa=>?_,λa=>?_⟩ <;> simp only[VR,VP,Wb,Wq,VB,Wo,VA,VD]at a
 .rw [eR,V4 (by grind)]at k;exact k _ _ h
 .rw [eR,V5 (by grind)]at k;exact h.al λb _ h=>k _ _ h.tl
theorem R15New{most:Int}(h:aA H F)(k:∀p c,aA c F->K (.tuple #[.pointer p,aD (eR (1<=most/\most<=64))]) c):CF 88 #[aD most] H K:=by
 refine cM 88 476 ⟨λa=>?_,λa=>?_⟩ <;> simp only[VR,VP,VA,VD]at a
 .rw [eR,nO]at k;exact k _ _ h
 .rw [eR,pO]at k;exact h.al λb _ h=>k _ _ h.tl
theorem R22New{most:Int}(h:aA H F)(k:∀p c,aA c F->K (.tuple #[.pointer p,aD (eR (1<=most/\most<=1024))]) c):CF 89 #[aD most] H K:=by
 refine cM 89 476 ⟨λa=>?_,λa=>?_⟩ <;> simp only[VR,VP,VA,VD]at a
 .rw [eR,nO]at k;exact k _ _ h
 .rw [eR,pO]at k;exact h.al λb _ h=>k _ _ h.tl
theorem R13New{most:Int}(h:aA H F)(k:∀p c,aA c F->K (.tuple #[.pointer p,aD (eR (1<=most/\most<=256))]) c):CF 90 #[aD 0,aD most] H K:=by
 refine cM 90 476 ⟨λa=>?_,λa=>?_⟩ <;> simp only[VR,VP,VA,VD]at a
 .rw [eR,nO]at k;exact k _ _ h
 .rw [eR,pO]at k;exact h.al λb _ h=>k _ _ h.tl
theorem R24Right{c:bD}(h:aA H F)(k:∀a,aA a F->K (.bool (fC c)) a):CF 39 #[.agg ⟨oA c⟩] H K:=by
 refine cM 39 17895708 ?_;refine h.al λb _ h=>⟨_,h.r 0,?_⟩
 refine R20New h λp1 i h=>⟨_,_,rfl,_,h.r 0,_,h.r 0,?_⟩
 refine R18New h λp2 j h=>⟨_,_,rfl,_,h.r 0,?_⟩
 refine R15New h λp3 f h=>⟨_,_,rfl,_,h.r 0,?_⟩
 refine R22New h λp4 m h=>⟨_,_,rfl,_,h.r 0,?_⟩
 refine R13New h λp5 d h=>⟨_,_,rfl,_,_,_,h.q 0,?_⟩
 refine cM 91 28 ?_;refine h.al λb _ h=>⟨_,h.r 0,_,λ_=>h.r 0,_,λ_=>h.r 0,_,λ_=>h.r 0,_,λ_=>h.r 0,_,λ_=>h.r 0,_,rfl,?_⟩
 conv=>whnf
 have e:(((((((((((decide (1<=c.width))&&(decide (c.width<=1099511627776)))&&(decide (0<=c.policy)))&&(decide (c.policy<=3)))&&(decide (0<=c.most)))&&(decide (c.most<=4611686018427387903)))&&decide (eR (1<=c.lag/\c.lag<=1099511627776)=0))&&decide (eR (gA c.rho/\0<=c.trust/\c.trust<=100)=0))&&decide (eR (1<=c.agents/\c.agents<=64)=0))&&decide (eR (1<=c.cells/\c.cells<=1024)=0))&&decide (eR (1<=c.hold/\c.hold<=256)=0))=fC c:=by
  rw[eR0,eR0,eR0,eR0,eR0];unfold fC;rw[Wp];simp only[VB,VA];unfold Gd.ok bD.gd;grind
 have k:=k _ h.tl.tl;rw[<-e]at k;exact k
theorem R25Right(h:aA H F)(k:∀a,aA a F->K (.bool (fe o)) a):CF 11 #[.agg ⟨io o⟩] H K:=by
 refine cM 11 284 ?_;refine h.al λb _ h=>⟨_,h.r 0,?_⟩
 refine R16New h λp1 f h=>⟨_,_,rfl,_,_,_,_,_,_,_,_,_,h.q 0,?_⟩
 refine R24Right (c:=o.cfg) h λd h=>⟨_,rfl,_,λ_=>h.r 0,_,λ_=>h.r 0,_,λ_=>h.r 0,_,λ_=>h.r 0,_,λ_=>h.r 0,_,λ_=>h.r 0,?_⟩
 have e:(((((((fC o.cfg&&(decide (1<=o.period)))&&(decide (o.period<=1099511627776)))&&decide (eR (((1:Int)<=1/\(1:Int)<=1099511627776)/\1<=o.probes/\o.probes<=1024)=0))&&(decide (64<=o.segment)))&&(decide (o.segment<=1048576)))&&(decide (1<=o.save)))&&(decide (o.save<=1048576)))=fe o:=by
  rw[eR0];unfold fe;grind
 have k:=k _ h.tl;rw[<-e]at k;exact k
theorem OfO_spec(h:aA H F)(k:∀a,aA a F->K (.agg ⟨io o⟩) a):CF 10 #[.agg ⟨io o⟩] H K:=by
 refine cM 10 28 ?_;refine h.al λb _ h=>?_
 refine h.al λb1 _ h=>⟨_,_,_,_,_,_,_,_,_,h.q 1,_,h.r 1,_,h.r 1,_,h.r 1,_,h.r 1,?_⟩
 refine cM 37 28 ?_;refine h.al λb2 _ h=>?_
 refine h.al λb3 _ h=>⟨_,h.r 1,_,h.r 1,_,h.r 1,_,h.r 1,_,h.r 1,_,h.r 1,_,h.r 1,_,h.r 1,_,h.r 1,?_⟩
 refine h.st 0 rfl rfl λd h=>⟨_,_,_,_,_,_,_,_,_,h.q 0,_,_,_,_,_,_,_,_,_,rfl,h.r 3,h.r 3,h.r 3,h.r 3,?_⟩
 refine h.st 2 rfl rfl λc h=>⟨_,_,_,_,_,_,_,_,_,_,_,_,_,h.q 2,?_⟩
 exact k _ h.tl.tl.tl.tl
theorem Vu{a:KQ}{c:Nat}{xs:List kL}(h:aA H (Q::F))(v:GcK Q a xs)(k:∀s,aA s (Q::F)->K (.bool (grG o xs)) s):CF 8 #[.agg ⟨io o⟩,.slice a xs.length c] H K:=by
 refine cN 8 0x12283c921562139925b4c [[(5,sI)],[(13,sB)]] ?_;refine h.al λb _ h=>?_
 have t:=v.len;unfold maxLen at t;intro O D;refine⟨_,_,_,_,_,_,_,_,_,λ_=>h.q 0,λw=>?_,λw=>?_⟩
 .refine Va (cf:=o.cfg) (xs:=[]) (a:=none) (c:=0) (h.o [1,0] 2) ⟨λH F _=>iv _ _,λx v=>V6 v (by simp),by simp⟩ λN h=>⟨_,rfl,D _ _ ?_⟩
  have I:grR o.cfg []=grC o.cfg 0:=by simp[grR]
  rw[I];have C:decide (60<xs.length)=false:=Ws (by grind);have A:grG o xs=(grC o.cfg 0||xs.any λx=>decide (3000<x.bs.length)):=by unfold grG;rw[C,Yc]
  refine⟨λf=>?_,λf=>?_⟩
  .have f:grC o.cfg 0=true:=f;have:grG o xs=true:=by grind
   rw[this]at k;exact k _ (h.o [0] 2)
  .refine⟨λi s=>∃j:Nat,i=j/\j<=xs.length/\(∀q (u:q<xs.length),q<j->xs[q].bs.length<=3000)/\aA s (Q::cellsA b (io o) 25::F),λi s=>xs.length-i.toNat,⟨0,rfl,by omega,λq _ h=>V6 h (by omega),h⟩,?_⟩
   rintro i R ⟨j,rfl,P,e,h⟩;refine⟨λy=>?_,λy=>?_⟩
   .have d:j<xs.length:=by grind
    have E:=v.row.at h 0 rfl;refine⟨⟨by omega,by omega⟩,_,_,E.some uV (by decide) d,_,_,_,E.el uV d 5 rfl,λn=>?_,λn=>?_⟩
    .have n:=V8 n;have:grG o xs=true:=by
      grind
     rw[this]at k;exact k _ (h.o [0] 2)
    .have n:=V9 n;have G:i64.wrap ((j:Int)+1)=((j+1:Nat):Int):=by grind [aJ]
     refine⟨⟨j+1,G,d,λq u M=>?_,h⟩,by grind⟩
     grind
   .have J:¬j<xs.length:=by grind
    have:grG o xs=false:=by
     have f:grC o.cfg 0=false:=f;rw[A,f,Yc,List.any_eq_false];intro x B;obtain⟨q,u,rfl⟩:=Wz B;grind
    rw[this]at k;exact k _ (h.o [0] 2)
 .have:grG o xs=true:=by
   unfold grG;grind
  rw[this]at k;exact D _ _ ⟨λ_=>k _ h.tl,λL=>V6 L (by simp)⟩
theorem grG_no{xs:List kL}(h:grG o xs=false):xs.length<=60/\grC o.cfg 0=false/\∀x∈xs,x.bs.length<=3000:=by
 unfold grG at h;grind
theorem slNo:SlT Tryz.prog 96 101 2 16:=iu (by kernel_rfl)
theorem Vv{pb:Nat}{p:Pb}(x:p.out.length<=100000)(h:aA H (prbA pb p::F))(k:∀a c d,aA d (slA 101 2 a p.out.length c (flat jh p.out)::prbA pb p::F)->K (.slice a p.out.length c) d):CF 83 #[PA pb 0] H K:=by
 obtain⟨a,c,m,h⟩:=mY.1 h;refine cN 83 0x1121561239925144c [[(3,sS),(17,sI)]] ⟨_,_,_,h.r 0,?_⟩;refine h.mk0 slNo (by omega) (by omega) λC A h=>⟨_,_,_,rfl,_,_,_,h.r 1,?_⟩
 refine⟨λla u lc t d=>∃j:Nat,t=j/\j<=p.out.length/\j=u/\aA d (slA 101 2 la j lc (flat jh (p.out.take j))::cellsA pb [aD p.boot,aD p.most,aD p.count,.slice a p.out.length c,.map (some m)] 247::slA 326 5 a p.out.length c (flat gE p.out)::mapA aD aD m p.last::F),
  λ_ _ _ t _=>p.out.length-t.toNat,⟨0,rfl,by omega,rfl,h⟩,?_⟩
 rintro la u lc t B ⟨j,rfl,y,rfl,h⟩;refine⟨λf=>?_,λf=>?_⟩
 .have b:j<p.out.length:=by grind
  have n:=h.sl_rd 2 rfl;refine⟨⟨by omega,by omega⟩,_,_,n.some mX (by decide) b,_,_,_,_,_,n.els mX b,?_⟩;refine h.al λb1 _ h=>?_
  refine h.st 0 rfl rfl λw h=>⟨_,_,h.q 0,?_⟩
  refine h.al λb2 _ h=>?_
  refine h.append (m:=1) (ws:=jh p.out[j]) slNo 2 rfl (h.ce_rd 0 rfl) rfl rfl (by omega) (by omega) λa5 c5 v h=>⟨_,_,_,rfl,?_⟩
  have s:i64.wrap ((j:Int)+1)=((j+1:Nat):Int):=by grind [aJ]
  have e:flat jh (p.out.take j)++jh p.out[j]=flat jh (p.out.take (j+1)):=by rw[Wn b,dS];simp[flat]
  have h:=h.o [2,3,4,5] 6;rw[e]at h;exact⟨⟨j+1,s,b,rfl,h⟩,by grind⟩
 .have i:j=p.out.length:=by
   grind
  subst i;rw[Wi]at h;exact k la lc _ ((mY (pb:=pb)).2 ⟨a,c,m,h.o [1,2,3,0] 4⟩ |> lq)
theorem Vw(h:aA H (gateA Q gb db g::F))(d:g.p.out.length<=100000)(k:∀a c b,aA b (slA 101 2 a g.p.out.length c (flat jh g.p.out)::gateA Q gb db g::F)->K (.slice a g.p.out.length c) b):CF 33 #[PA gb 0] H K:=by
 obtain⟨x,pb,ys,e1,e2,e3,h⟩:=gm.1 h;refine cM 33 28 ⟨some ⟨pb,0,none⟩,(h.r 0).trans (by show some x.pv=_;rw[e1]),?_⟩;refine Vv d (h.o [6,0,1,2,3,4,5] 7) λa c e h=>⟨_,_,_,rfl,k _ _ _ ?_⟩
 exact lq (gm.2 ⟨x,pb,ys,e1,e2,e3,h.o [2,3,4,5,6,7,1,0] 8⟩)
def doG(g:Gg)(x:kL):Gg×Int:=
 if x.what=0 then jf g x.ag x.now x.bs else if x.what=1 then ((eQ g x.now).1,(eQ g x.now).2.2) else if x.what=2 then cF g (qR x.next) else (g,1)
theorem agent_ep{s:aH}(ok:cR s)(a:Int)(h:(lg s a).2=true):1<=(lg s a).1.en.epoch/\(lg s a).1.en.epoch<=1099511627776:=by
 have f:=ok.rows.at a;unfold lg at h ⊢
 split
 .rename_i c;obtain⟨h0,st,b⟩:=ok.str c;have e:dL s a=some st:=by unfold dL;grind
  grind
 grind
section
variable {j:Nat}{was:List aH}{Ek E:List bH}{R:DR}{LL:LG}{n0:Int}{kk:Nat}
theorem M9{now:Int}(I:GI g j was Ek E R LL n0 kk)(n:j<=198)(h:aA H (Q::gateA Q gb db g::F))
  (k:∀Q' ys a c d,aM Q Q'->ys.map Oy.o=(eQ g now).2.1->(∀y∈ys,fQ Q' y)->aA d (Q'::slA 91 11 a ys.length c (flat bJ ys)::gateA Q' gb db (eQ g now).1::F)->K (.tuple #[.slice a ys.length c,aD (eQ g now).2.2]) d) :
  CF 23 #[PA gb 0,aD now] H K:=by
 have i:sW g (cF g (fp now)):=⟨g.p,I.prb,rfl,rfl,.inr ⟨_,rfl,show (6:Int)≠1 by decide,λe b=>V6 b (by simp[fp])⟩⟩
 obtain⟨t,u,a1,a2,a3,a4,a5⟩:=I.call (by omega) i;have f:=I.count;refine Vk (I.ok (by omega)) (a1.ok (by omega)) (by omega) (λb=>M8 (s:=g.s) (now:=now) (by
   unfold cF at b
   grind)) (λa v h=>agent_ep a1.hs.R.R.ok _ h) h k
theorem Do_spec{x:kL}(I:GI g j was Ek E R LL n0 kk)(t:j<=198)(h:aA H (Q::gateA Q gb db g::F))(s:KIn Q x.a (x.bs.map U8))(hb:aI x.bs)(u:x.bs.length<=3000)
  (k:∀Q' m,aM Q Q'->aA m (Q'::gateA Q' gb db (doG g x).1::F)->K (.bool (decide ((doG g x).2=0))) m) :
  CF 14 #[PA gb 0,.agg ⟨nX x⟩] H K:=by
 refine cM 14 318107760663740 ?_;have ok:=I.ok (by omega);unfold doG at k;refine h.al λb _ h=>⟨_,h.r 0,λe=>?_,λe=>?_⟩
 .have e:=V8 e;rw[V5 e]at k;refine⟨_,h.r 0,_,h.r 0,_,_,_,h.r 0,?_⟩;refine Pw h (λH h=>s.at h 1 rfl) (by omega) λw y n h=>⟨_,_,_,rfl,h.r 1,h.r 1,?_⟩
  have i:=h.sl_nc 0 rfl;refine sR ok (h.o [2,3,0,1] 4) (λH h=>h.sl_rd 0 rfl) hb i λQ' v hs h=>⟨_,rfl,k Q' _ hs (h.o [0,1] 4)⟩
 have e:=V9 e;rw[V4 e]at k;refine⟨λf=>?_,λf=>?_⟩
 .have f:=V8 f;rw[V5 f]at k;refine⟨_,h.r 0,?_⟩;refine M9 I t (h.o [1,2,0] 3) λQ' ys a c n hs _ _ h=>⟨_,_,_,_,rfl,k Q' _ hs (h.o [0,2] 4)⟩
 have f:=V9 f;rw[V4 f]at k;refine⟨λd=>?_,λd=>?_⟩
 .have d:=V8 d;rw[V5 d]at k;refine⟨_,h.r 0,?_⟩;exact Mr ok (h.o [1,2,0] 3) λQ' n hs h=>⟨_,rfl,k Q' _ hs (h.o [0,1] 3)⟩
 have d:=V9 d;rw[V4 d]at k;exact k Q _ (aM.refl Q) h.tl
theorem do_calls{x:kL}(I:GI g j was Ek E R LL n0 kk)(a:j<=200):∃b c,GI (doG g x).1 (j+1) (if (doG g x).2=0 then was++[(doG g x).1.s] else was) Ek b R c n0 kk/\(doG g x).1.syn=g.syn/\(doG g x).1.o=g.o/\((doG g x).2=0->g.rows.length<(doG g x).1.rows.length)/\
  ((doG g x).2≠0->(doG g x).1.s=g.s/\(doG g x).1.pend=g.pend/\(doG g x).1.rows=g.rows):=by
 unfold doG
 split
 .exact I.call a (M6 I.prb _ _ _)
 split
 .obtain⟨b,c,a1,a2,a3,a4,a5,_⟩:=I.step a x.now;grind
 split
 .exact I.call a (Vt I.prb _)
 .exact⟨E,LL,by rw[V4 (show ¬(1:Int)=0 by decide)];exact I.mono,rfl,rfl,λh=>V6 h (show ¬(1:Int)=0 by decide),λ_=>⟨rfl,rfl,rfl⟩⟩
theorem xS{rows:DR}{syn:Nat}{s:aH}{t:List bH}(C:fe o=true)(v:o.cfg.cells.toNat<=200)(b:ff o.cfg j (di rows) s E t)(n:TI o.segment rows rows.length (opS o.segment rows) j)(B:fk o.segment rows=0)(L:j<=198)
  (h:aA H (Q::diskX db rows syn::F))
  (k:∀Q' gb ys a c e m s0 X,aM Q Q'->Hs o.cfg m s0 t->m<=j->E=t++X->ys.map Oy.o=iI s0 s0.kept.length++X.flatMap cI->(∀y∈ys,fQ Q' y)->aA e (Q'::slA 91 11 a ys.length c (flat bJ ys)::gateA Q' gb db (jH o s rows)::F)->
   K (.tuple #[PA gb 0,.slice a ys.length c,aD 0]) e):CF 16 #[PA db 0,.agg ⟨io o⟩] H K:=by
 have hs:=b.hs;obtain⟨s0,d,m,b,rfl,rfl⟩:=b;have f:=b.h0.R;have G:=b.len;have J:=n.len;have I:=n.seg;have hb:=hs.boots;have D:=hs.R.R.ok.boots;have w:=BR (s:=dH s0 d) (by omega);refine Vl C n.rok (by omega) B (by omega) (n.ok (by omega)) f.R f.cfg (b.tell.imp (λh=>⟨h.1,h.2.1⟩) id) b.vals b.oks (f.few v (by omega)) (λi hi=>?_) (by omega) (by rw[w]) (by grind) h λQ' gb ys a c e u hm x h=>k Q' gb ys a c e m s0 (ju s0 d) u b.h0 (by omega) rfl ?_ x h
 .have:=(f.run (rs:=d.take i) λr A=>b.vals r (W0 A)).few v (by grind)
  omega
 .rw [hm,My,Wi]
theorem Vx(d:fe o=false)(h:aA H F)(k:∀a,aA a F->K (.tuple #[.pointer none,.slice none 0 0,aD 11]) a):CF 16 #[PA db 0,.agg ⟨io o⟩] H K:=by
 refine cM 16 8194785019629852 ?_;refine h.al λb _ h=>⟨_,_,_,_,_,_,_,_,_,_,_,_,_,h.q 0,?_⟩
 refine Bk (o:=o) h λe h=>⟨_,rfl,λ_=>k _ h.tl,λc=>?_⟩
 rw[d]at c;cases c
theorem opt_seg(a:fe o=true):64<=o.segment/\o.segment<=1048576:=by
 unfold fe at a;grind
theorem MB(a:fe o=true):fC o.cfg=true:=by
 unfold fe at a;grind
theorem uW(b:fe o=true):TI o.segment [] 0 (opS o.segment []) 0/\fk o.segment []=0:=by
 grind [opt_seg, openE_in, wG, ti0]
theorem xT(a:fe o=true):ff o.cfg 0 (di []) (bT o.cfg) [] []:=by
 rw[wG.2.1];exact ff.new (MB a)
theorem Vy(d:o.cfg.cells.toNat<=200\/fe o=false)(h:aA H (Q::F))(k1:fe o=false->∀e,aA e (Q::F)->K (.tuple #[.pointer none,.pointer none]) e)
  (k2:fe o=true->∀Q' gb db e,aM Q Q'->aA e (Q'::gateA Q' gb db (jH o (bT o.cfg) [])::F)->K (.tuple #[PA gb 0,PA db 0]) e):CF 9 #[.agg ⟨io o⟩] H K:=by
 refine cM 9 1167836 ?_;refine h.al λb _ h=>?_
 refine New_spec h λdb k h=>⟨_,rfl,λf=>V6 f (by simp),λ_=>⟨_,_,_,_,_,_,_,_,_,_,_,_,_,h.q 1,?_⟩⟩
 cases ho:fe o with
 | false=>exact Vx ho (h.o [2] 3) λi h=>⟨_,_,_,_,_,rfl,λ_=>k1 ho _ h,λf=>V6 f (by simp)⟩
 | true=>
  have d:o.cfg.cells.toNat<=200:=by
   grind
  obtain⟨t1,t2⟩:=uW ho;refine xS (j:=0) ho d (xT ho) t1 t2 (by omega) (h.o [2,0,1] 3) λQ' gb ys a c i m s0 X hs _ _ _ _ _ h=>⟨_,_,_,_,_,rfl,λf=>V6 f (by simp),λ_=>?_⟩
  exact k2 ho Q' gb db _ hs (h.o [0,2] 4)
end
end
theorem mem_mset'ZZ{κ α:Type}[DecidableEq κ]{k:κ}{v:α}{m:List (κ×α)}{x:κ×α}(h:x∈mset k v m):x=(k,v)\/x∈m:=by
 unfold mset at h
 rcases VN.1 h with h|h
 .grind
 .exact .inr (W7.1 h).1
namespace Ag
def o0:Opt:=⟨Al.c0,20,8,256,5⟩
def f1:Fq:={ kind:=1,ag:=3,bt:=1 }
def f2:Fq:={ kind:=4,ag:=3,ep:=1,bt:=1,got:=12,sent:=12 }
def ev:Pv:=⟨13,5,⟨#[109]⟩,[]⟩
def f3:Fq:={ kind:=5,ag:=3,ep:=1,evs:=[ev] }
def g0:Gg:=jH o0 (bT Al.c0) []
def A1:Gg×Int:=jf g0 3 10 (cA f1)
def g2:Gg:=iH A1.1
def A3:Gg×List Ou×Int:=eQ g2 12
def A4:Gg×Int:=jf A3.1 3 14 (cA f2)
def A5:Gg×Int:=jf A4.1 3 14 (cA f2)
def A6:Gg×Int:=jf A5.1 3 16 (cA f3)
def g7:Gg:=iH A6.1
def rows8:DR:=eV g7.rows g7.syn 0
def g8:Gg:=jH o0 g7.s rows8
def A9:Gg×Int:=jf g8 3 20 (cA f2)
theorem e1:A1.2=0:=by kernel_rfl
theorem e2:A1.1.pend.length=1:=by kernel_rfl
theorem e3:A3.2.2=0:=by kernel_rfl
theorem e4:A3.2.1=[gX (dU 3 1 0)]:=by kernel_rfl
theorem e5:A3.1.p.out=[⟨1,0,3,1,12⟩]:=by kernel_rfl
theorem e6:A4.2=0:=by kernel_rfl
theorem e7:A5.2=19:=by kernel_rfl
theorem e8:A6.2=0:=by kernel_rfl
theorem e9:A6.1.pend.length=2:=by kernel_rfl
theorem e10:A1.1.pend.map (λo=>(o.kind,o.ag))=[(1,3)]:=by kernel_rfl
theorem e11:A6.1.pend.map (λo=>(o.kind,o.win))=[(2,1),(1,0)]:=by kernel_rfl
theorem e12:g7.s.boots=1:=by kernel_rfl
theorem e13:g8.s.boots=2:=by kernel_rfl
theorem e14:g8.s.now=16:=by kernel_rfl
theorem e15:A9.2=22:=by kernel_rfl
theorem e16:(cF A9.1 (qR 1)).2=11:=by kernel_rfl
theorem e17:fe o0=true:=by kernel_rfl
theorem e18:fH (gX (dU 3 1 0)).bs=.ok (dU 3 1 0):=Mz (a:=3) (e:=1) (b:=0) (by kernel_rfl)
def rs8:List Rp:=[dI,je f1 3 10 0,fp 12,je f2 3 14 12,je f3 3 16 0]
theorem e19:dw (di rows8)=(none,rs8.map rcO):=by kernel_rfl
theorem e20:dH (bT Al.c0) rs8=g7.s:=by kernel_rfl
def okG(ap:aH->Rp->aH×List bH×Int)(s:aH):List Rp->Bool
 | []=>true
 | r::rs=>decide ((ap s r).2.2=0)&&okG ap (ap s r).1 rs
theorem okG_at(ap:aH->Rp->aH×List bH×Int){rs:List Rp}:∀{s:aH},okG ap s rs=true->∀j (a:j<rs.length),(ap ((rs.take j).foldl (λs r=>(ap s r).1) s) rs[j]).2.2=0:=by
 induction rs with
 | nil=>grind
 | cons r rs ih=>
  intro s h j a;rw[okG,VB]at h
  cases j with
  | zero=>grind
  | succ j=>grind
theorem e21:okG bO (bT Al.c0) rs8=true:=by kernel_rfl
theorem e22:((ju (bT Al.c0) rs8).flatMap cI).length=3:=by kernel_rfl
theorem vals:∀r∈rs8,∀e∈r.evs,aF e.value:=by
 intro r b e a;have:∀r∈rs8,r.evs=[]\/r.evs=[ev]:=by
  intro r b;simp only[rs8,VN,WF,or_false]at b
  rcases b with rfl|rfl|rfl|rfl|rfl
  .exact .inl rfl
  .exact .inl rfl
  .exact .inl rfl
  .exact .inl rfl
  .exact .inr rfl
 rcases this r b with h|h
 .rw [h]at a;cases a
 .rw [h,VI]at a;subst a;decide
theorem leads8:ff o0.cfg 5 (di rows8) g7.s (ju (bT Al.c0) rs8) []:=
 ⟨bT Al.c0,rs8,0,⟨Hs.new (by kernel_rfl),VF _,.inl ⟨e19,rfl,rfl⟩,vals,okG_at bO e21⟩,e20.symm,rfl⟩
abbrev Ig(g:Gg)(j:Nat):Prop:=∃was Ek E R L n0 k,GI g j was Ek E R L n0 k
theorem Ig.call{g:Gg}{j:Nat}(h:Ig g j)(c:j<=200)(a n:Int)(bs:List Int):Ig (jf g a n bs).1 (j+1):=by
 obtain⟨was,Ek,E,R,L,n0,k,h⟩:=h;obtain⟨d,e,b,_⟩:=h.call c (M6 h.prb a n bs);exact⟨_,_,_,_,_,_,_,b⟩
theorem Ig.sync{g:Gg}{j:Nat}(h:Ig g j)(c:j<=200):Ig (iH g) (j+3):=by
 obtain⟨was,Ek,E,R,L,n0,k,h⟩:=h;obtain⟨d,f,a,e,b,_⟩:=h.sync c;exact⟨_,_,_,_,_,_,_,b⟩
theorem Ig.step{g:Gg}{j:Nat}(h:Ig g j)(b:j<=200)(n:Int):Ig (eQ g n).1 (j+1):=by
 obtain⟨was,Ek,E,R,L,n0,k,h⟩:=h;obtain⟨c,d,a,_⟩:=h.step b n;exact⟨_,_,_,_,_,_,_,a⟩
theorem i0:Ig g0 2:=by
 obtain⟨a,h⟩:=xR e17 (by decide) (xT e17) (uW e17).1 (by omega);exact⟨_,_,_,_,_,_,_,h⟩
theorem i1:Ig A1.1 3:=i0.call (by omega) _ _ _
theorem i2:Ig g2 6:=i1.sync (by omega)
theorem i3:Ig A3.1 7:=i2.step (by omega) _
theorem i4:Ig A4.1 8:=i3.call (by omega) _ _ _
theorem i5:Ig A5.1 9:=i4.call (by omega) _ _ _
theorem i6:Ig A6.1 10:=i5.call (by omega) _ _ _
theorem i7:Ig g7 13:=i6.sync (by omega)
theorem o7:g7.o=o0:=by kernel_rfl
theorem t8:TI o0.segment rows8 rows8.length (opS o0.segment rows8) 14/\fk o0.segment rows8=0:=by
 obtain⟨was,Ek,E,R,L,n0,k,h⟩:=i7;obtain⟨_,_,_,_,_,_,_,_,b,a⟩:=h.crash (by omega) 0;rw[o7]at b a;exact⟨b,a⟩
theorem i8:Ig g8 16:=by
 obtain⟨a,h⟩:=xR e17 (by decide) (leads8.mono (by omega)) t8.1 (by omega);exact⟨_,_,_,_,_,_,_,h⟩
theorem i9:Ig A9.1 17:=i8.call (by omega) _ _ _
theorem Ig.ok{g:Gg}{j:Nat}(h:Ig g j)(a:j<=200):GgOk g/\∀r∈g.rows,r.1<=g.rl.seg:=by
 obtain⟨was,Ek,E,R,L,n0,k,h⟩:=h;exact⟨h.ok a,h.ti.files⟩
end Ag
section
variable {F L:List aE}{H:aC}{K:KE}{Q:aE}
theorem BT(h:aA H F)(k:∀a,aA a F->K (.agg ⟨io Ag.o0⟩) a):CF 31 #[] H K:=by
 refine cM 31 28 ?_;refine h.al λb _ h=>?_
 refine Vc h λd h=>⟨_,_,_,_,_,_,_,_,_,rfl,?_⟩
 refine h.st 0 rfl rfl λc h=>⟨_,_,_,_,_,_,_,_,_,_,_,_,_,h.q 0,k _ h.tl⟩
theorem BU{f:Fq}{x:QA}{evs:List Ev}(h:aA H F)(r:lQ F f x evs)(k:∀a c d,aA d (slA 5 1 a (cA f).length c ((cA f).map U8)::F)->K (.slice a (cA f).length c) d) :
  CF 32 #[.agg ⟨cH f x⟩] H K:=by
 refine cM 32 284 ?_;refine h.al λb _ h=>⟨_,_,_,_,_,_,_,_,_,_,_,_,_,_,_,_,_,_,_,_,h.q 0,?_⟩
 refine AI h (r.cons _) λa c e h=>⟨_,_,_,_,rfl,k _ _ _ (h.o [0] 2)⟩
theorem f1_bare:Ag.f1.Bare:=⟨show (1:Int)≠5 by decide,show (1:Int)≠8 by decide,rfl,rfl,rfl,rfl,λi b a h=>by
 rcases nine b a with rfl|rfl|rfl|rfl|rfl|rfl|rfl|rfl|rfl <;> first|rfl|exact V6 (show _∈aU 1 by decide) h⟩
theorem f2_bare:Ag.f2.Bare:=⟨show (4:Int)≠5 by decide,show (4:Int)≠8 by decide,rfl,rfl,rfl,rfl,λi b a h=>by
 rcases nine b a with rfl|rfl|rfl|rfl|rfl|rfl|rfl|rfl|rfl <;> first|rfl|exact V6 (show _∈aU 4 by decide) h⟩
def evE:Ev:=⟨13,5,⟨#[109]⟩,[],none,0⟩
theorem f3_rd{b:Nat}(i:Nat)(d:aW i F=cellsA b (cx evE) 99):lQ F Ag.f3 { ea:=some ⟨b,0,none⟩,ec:=1 } [evE]:=by
 refine⟨rfl,⟨λH h=>h.ce_rd i (cs:=cx evE) d,λe a H _=>?_⟩,λH _=>iv H none,λH _=>iv H none,.inl rfl,⟨λh=>V6 rfl h,λ_=>⟨rfl,rfl,rfl,rfl,rfl,rfl,rfl⟩,λi f c h=>?_⟩,by simp,λe a=>?_,by simp[Ag.f3],by simp[Ag.f3]⟩
 .rw [VI]at a;subst a;exact iv H none
 .rcases nine f c with rfl|rfl|rfl|rfl|rfl|rfl|rfl|rfl|rfl <;> first|rfl|exact V6 (show _∈aU 5 by decide) h
 .rw [VI]at a;grind [evE]
theorem nY(f:Fq):aI (cA f):=by
 unfold cA
 split
 .exact kB
 split
 .exact kB
 refine G5 (dD (dD (iE _) (jz λi _=>iE _)) ?_)
 unfold mM
 split
 .exact dD (iE _) (jz λe _=>wY e)
 split
 .exact dD (Ao _ _) (qu _)
 .exact kB
theorem eq101{a b c d:Int}:iL Tryz.prog .eql 101 (.agg ⟨[aD a,aD b]⟩) (.agg ⟨[aD c,aD d]⟩) (a == c&&(b == d&&true)):=(tE (by kernel_rfl)).1
theorem GSyI{gb db j:Nat}{g:Gg}{now:Int}(I:Ag.Ig g j)(d:j<=198)(h:aA H (Q::gateA Q gb db g::F))
  (k:∀Q' ys a c b,aM Q Q'->ys.map Oy.o=(eQ g now).2.1->(∀y∈ys,fQ Q' y)->aA b (Q'::slA 91 11 a ys.length c (flat bJ ys)::gateA Q' gb db (eQ g now).1::F)->K (.tuple #[.slice a ys.length c,aD (eQ g now).2.2]) b) :
  CF 23 #[PA gb 0,aD now] H K:=by
 obtain⟨was,Ek,E,R,L,n0,kk,I⟩:=I;exact M9 I d h k
theorem Vz(h:aA H (Q::F))(k:∀Q' H',aM Q Q'->aA H' (Q'::F)->K (.bool true) H'):CF 7 #[] H K:=by
 refine cN 7 0x11d1d11111d1111111111d1d11289 [[(0,sB)]] ?_;have C:=Ag.e17;have hf:Ag.o0.cfg.cells.toNat<=200:=by decide
 refine New_spec h λdb H1 h=>⟨_,rfl,λt=>V6 t (by simp),λ_=>?_⟩
 refine BT h λH2 h=>⟨_,_,_,_,_,_,_,_,_,_,_,_,_,rfl,?_⟩
 refine xS (j:=0) (o:=Ag.o0) C hf (xT C) (uW C).1 (uW C).2 (by omega) (h.o [1,0] 2) λQ1 gb ys a c H3 m s0 X h7 N _ M hm _ h=>⟨_,_,_,_,_,rfl,λt=>?_,λ_=>?_⟩
 .exfalso;have hl:ys.length=0:=by
   have M:X=[]:=by grind
   have hk:=N.num.len;have h0:=N.sunk;rw[<-VM (f:=Oy.o),hm,M,V7,uS];simp only[emO,List.filter_nil,Yg,VZ,List.flatMap_nil]at hk ⊢;omega
  grind
 have h:aA H3 (Q1::slA 91 11 a ys.length c (flat bJ ys)::gateA Q1 gb db Ag.g0::F):=h;have h:=h.o [0,2] 3;refine BU (f:=Ag.f1) (x:={}) h (f1_bare.rd _) λa1 c1 H4 h=>⟨_,_,_,rfl,?_⟩
 have R:=h.sl_nc 0 rfl;refine sR (Ag.i0.ok (by omega)).1 (h.o [1,2,0] 3) (λH h=>h.sl_rd 0 rfl) (nY _) R λU H5 V h=>⟨_,rfl,?_⟩
 have h:aA H5 (U::gateA U gb db Ag.A1.1::F):=h.o [0,1] 3;refine⟨_,Vf (h.o [1,0] 2),?_⟩;refine BI (Ag.i1.ok (by omega)).1 (Ag.i1.ok (by omega)).2 h λb a2 c2 H6 E hy2 h=>⟨_,_,_,rfl,?_⟩
 have h:aA H6 (U::slA 91 11 a2 b.length c2 (flat bJ b)::gateA U gb db Ag.g2::F):=h;refine GSyI Ag.i2 (by omega) (h.o [0,2,1] 3) λQ3 i a3 c3 H7 h8 w hy3 h=>⟨_,_,_,_,rfl,?_⟩
 have h:aA H7 (Q3::slA 91 11 a3 i.length c3 (flat bJ i)::gateA Q3 gb db Ag.A3.1::slA 91 11 a2 b.length c2 (flat bJ b)::F):=h;refine Vw (h.o [2,0,1,3] 4) (by grind [Ag.e5]) λa4 c4 H8 h=>⟨_,_,_,rfl,?_⟩
 have r0:b.length=1:=by rw[<-VM (f:=Oy.o),E,Ag.e2]
 have w:i.map Oy.o=[gX (dU 3 1 0)]:=w.trans Ag.e4;have hl3:i.length=1:=by rw[<-VM (f:=Oy.o),w];rfl
 have hl4:Ag.A3.1.p.out.length=1:=by rw[Ag.e5];rfl
 refine⟨λt=>?_,λ_=>?_⟩
 .exfalso;grind
 have D:=h.sl_rd 3 rfl;have P:(i[0]'(by omega)).o=gX (dU 3 1 0):=by
  have:(i.map Oy.o)[0]'(by grind)=(i[0]'(by omega)).o:=W3 ..;grind
 have J:=hy3 (i[0]'(by omega)) (VL _);refine⟨⟨by omega,by omega⟩,_,_,D.some kH (by decide) (k:=0) (by omega),_,_,_,D.el kH (k:=0) (by omega) 10 rfl,?_⟩;refine K3 (h.o [2,0,1,3,4] 5) (λH h=>J.kin.at h 0 rfl) (by rw[P];exact nY (dU 3 1 0)) J.cap ?_
 rw[P,Ag.e18];intro Q4 x evs H9 O hev hkl hsh h;refine⟨_,_,_,_,_,_,_,_,_,_,_,_,_,_,_,_,_,_,_,_,_,rfl,?_⟩;refine h.al λb1 _ h=>?_
 refine h.st 0 rfl rfl λj3 h=>⟨_,h.r 0,_,h.r 0,?_⟩
 have h:aA j3 (cellsA b1 (cH (dU 3 1 0) x) 81::Q4::slA 99 4 x.ea evs.length x.ec (flat cx evs)::slA 101 2 a4 Ag.A3.1.p.out.length c4 (flat jh Ag.A3.1.p.out)::gateA Q3 gb db Ag.A3.1::slA 91 11 a3 i.length c3 (flat bJ i)::slA 91 11 a2 b.length c2 (flat bJ b)::F):=h;have h:=xP O (h.o [4,1,0,3,6] 7);refine BU (f:=Ag.f2) (x:={}) h (f2_bare.rd _) λa5 c5 H11 h=>⟨_,_,_,rfl,?_⟩
 have u:=h.sl_nc 0 rfl;have h:=h.o [2,1,0,3,4,5] 6;refine sR (Ag.i3.ok (by omega)).1 h (λH h=>h.sl_rd 0 rfl) (nY _) u λQ5 y2 h4 h=>⟨_,rfl,?_⟩
 have h:aA y2 (Q5::gateA Q5 gb db Ag.A4.1::slA 5 1 a5 (cA Ag.f2).length c5 ((cA Ag.f2).map U8)::cellsA b1 (cH (dU 3 1 0) x) 81::slA 101 2 a4 Ag.A3.1.p.out.length c4 (flat jh Ag.A3.1.p.out)::slA 91 11 a2 b.length c2 (flat bJ b)::F):=h;refine sR (Ag.i4.ok (by omega)).1 h (λH h=>h.sl_rd 0 rfl) (nY _) u λQ6 H13 j1 h=>⟨_,rfl,?_⟩
 have h:aA H13 (Q6::gateA Q6 gb db Ag.A5.1::slA 5 1 a5 (cA Ag.f2).length c5 ((cA Ag.f2).map U8)::cellsA b1 (cH (dU 3 1 0) x) 81::slA 101 2 a4 Ag.A3.1.p.out.length c4 (flat jh Ag.A3.1.p.out)::slA 91 11 a2 b.length c2 (flat bJ b)::F):=h;refine h.al λb2 _ h=>?_
 refine BU (f:=Ag.f3) (x:={ ea:=some ⟨b2,0,none⟩,ec:=1 }) (evs:=[evE]) h (f3_rd 0 rfl) λa6 c6 H14 h=>⟨_,_,_,rfl,?_⟩
 have T:=h.sl_nc 0 rfl;refine sR (Ag.i5.ok (by omega)).1 (h.o [2,3,0,4,5,6,7] 8) (λH h=>h.sl_rd 0 rfl) (nY _) T λA r9 Z h=>⟨_,rfl,?_⟩
 have h:=h.o [0,1,3,4,5,6] 7;have h:aA r9 (A::gateA A gb db Ag.A6.1::slA 5 1 a5 (cA Ag.f2).length c5 ((cA Ag.f2).map U8)::cellsA b1 (cH (dU 3 1 0) x) 81::slA 101 2 a4 Ag.A3.1.p.out.length c4 (flat jh Ag.A3.1.p.out)::slA 91 11 a2 b.length c2 (flat bJ b)::F):=h;refine BI (Ag.i6.ok (by omega)).1 (Ag.i6.ok (by omega)).2 h λd a7 c7 l5 I hy7 h=>⟨_,_,_,rfl,?_⟩
 have h:aA l5 (A::slA 91 11 a7 d.length c7 (flat bJ d)::gateA A gb db Ag.g7::slA 5 1 a5 (cA Ag.f2).length c5 ((cA Ag.f2).map U8)::cellsA b1 (cH (dU 3 1 0) x) 81::slA 101 2 a4 Ag.A3.1.p.out.length c4 (flat jh Ag.A3.1.p.out)::slA 91 11 a2 b.length c2 (flat bJ b)::F):=h;have hl7:d.length=2:=by rw[<-VM (f:=Oy.o),I,Ag.e9]
 refine qS (Ag.i7.ok (by omega)).1 (h.o [2,0,1,3,4,5,6] 7) λsb H17 h=>⟨_,rfl,?_⟩
 obtain⟨y,pb,zs,_,_,_,h⟩:=gm.1 (h.o [1,0,2,3,4,5,6,7] 8);have h:=h.o [5,7,8,9,10,11,12,13] 14;have n:=(Ag.i7.ok (by omega)).1.rows;refine G2 (keep:=0) (by decide) (by omega) h λh9 h=>⟨rfl,?_⟩
 have h:aA h9 (diskX db Ag.rows8 Ag.rows8.length::stA A sb Ag.g7.s::A::slA 91 11 a7 d.length c7 (flat bJ d)::slA 5 1 a5 (cA Ag.f2).length c5 ((cA Ag.f2).map U8)::cellsA b1 (cH (dU 3 1 0) x) 81::slA 101 2 a4 Ag.A3.1.p.out.length c4 (flat jh Ag.A3.1.p.out)::slA 91 11 a2 b.length c2 (flat bJ b)::F):=h;refine BT h λH19 h=>⟨_,_,_,_,_,_,_,_,_,_,_,_,_,rfl,?_⟩
 refine xS (j:=14) (o:=Ag.o0) C hf (Ag.leads8.mono (by omega)) Ag.t8.1 Ag.t8.2 (by omega) (h.o [2,0,1,3,4,5,6,7] 8) λQ8 G B a8 c8 h5 m8 s08 X8 l6 hE8 _ y3 h3 _ h=>⟨_,_,_,_,_,rfl,λt=>?_,λ_=>?_⟩
 .exfalso;have hl:3<=B.length:=by
   have M:X8=ju (bT Al.c0) Ag.rs8:=by grind
   have:=Ag.e22;rw[<-VM (f:=Oy.o),h3,M,V7,uS];omega
  grind
 have h:aA h5 (Q8::slA 91 11 a8 B.length c8 (flat bJ B)::gateA Q8 G db Ag.g8::stA A sb Ag.g7.s::slA 91 11 a7 d.length c7 (flat bJ d)::slA 5 1 a5 (cA Ag.f2).length c5 ((cA Ag.f2).map U8)::cellsA b1 (cH (dU 3 1 0) x) 81::slA 101 2 a4 Ag.A3.1.p.out.length c4 (flat jh Ag.A3.1.p.out)::slA 91 11 a2 b.length c2 (flat bJ b)::F):=h;refine qS (Ag.i8.ok (by omega)).1 (h.o [2,0,3,4,5,6,7,8] 9) λh6 H21 h=>⟨_,rfl,λt=>V6 t (by simp),λ_=>?_⟩
 refine sR (Ag.i8.ok (by omega)).1 (h.o [2,1,5,0,3,4,6,7,8] 9) (λH h=>h.sl_rd 0 rfl) (nY _) u λQ9 h2 u8 h=>⟨_,rfl,?_⟩
 have h:aA h2 (Q9::gateA Q9 G db Ag.A9.1::slA 5 1 a5 (cA Ag.f2).length c5 ((cA Ag.f2).map U8)::stA Q8 h6 Ag.g8.s::stA A sb Ag.g7.s::slA 91 11 a7 d.length c7 (flat bJ d)::cellsA b1 (cH (dU 3 1 0) x) 81::slA 101 2 a4 Ag.A3.1.p.out.length c4 (flat jh Ag.A3.1.p.out)::slA 91 11 a2 b.length c2 (flat bJ b)::F):=h;refine Mr (Ag.i9.ok (by omega)).1 h λl0 W S h=>⟨_,rfl,?_⟩
 intro Jn hJ;have v:=h.sl_rd 8 rfl;have L:=h.sl_rd 7 rfl;have n:=h.sl_rd 5 rfl;have d2:(b[0]'(by omega)).o.kind=1/\(b[0]'(by omega)).o.ag=3:=by
  have e:=Ag.e10;rw[<-E,Wu]at e;have:=(List.getElem?_eq_some_iff.1 (show (b.map ((λo:Ou=>(o.kind,o.ag))∘Oy.o))[0]?=some (1,3) by rw[e];rfl)).2
  grind
 have d7:(d[0]'(by omega)).o.kind=2/\(d[0]'(by omega)).o.win=1/\(d[1]'(by omega)).o.kind=1:=by
  have e:=Ag.e11;rw[<-I,Wu]at e;have h0:=(List.getElem?_eq_some_iff.1 (show (d.map ((λo:Ou=>(o.kind,o.win))∘Oy.o))[0]?=some (2,1) by rw[e];rfl)).2
  have h1:=(List.getElem?_eq_some_iff.1 (show (d.map ((λo:Ou=>(o.kind,o.win))∘Oy.o))[1]?=some (1,0) by rw[e];rfl)).2
  grind
 have d4:(Ag.A3.1.p.out[0]'(by omega)).bt=1/\(Ag.A3.1.p.out[0]'(by omega)).ct=0:=by
  have:Ag.A3.1.p.out[0]'(by omega)=⟨1,0,3,1,12⟩:=by
   grind [Ag.e5]
  grind
 have r8:bE W (aV a4) (aS a4+0*2) [aD 1,aD 0]:=by
  have:=L.els (enc:=jh) (sz:=2) (λ_=>rfl) (k:=0) (by omega)
  unfold jh at this;rw[d4.1,d4.2]at this;exact this
 refine⟨λ_=>⟨by omega,by omega⟩,_,_,λ_=>v.some kH (by decide) (k:=0) (by omega),_,λ_=>v.el kH (k:=0) (by omega) 0 rfl,λ_=>⟨by omega,by omega⟩,_,_,λ_=>v.some kH (by decide) (k:=0) (by omega),_,λ_=>v.el kH (k:=0) (by omega) 1 rfl,
  _,λ_=>h.r 6,_,λ_=>h.r 6,λ_=>⟨by omega,by omega⟩,_,_,λ_=>L.some (enc:=jh) (sz:=2) (λ_=>rfl) (by decide) (k:=0) (by omega),_,_,λ_=>r8,_,λ_=>eq101,
  λ_=>⟨by omega,by omega⟩,_,_,λ_=>n.some kH (by decide) (k:=0) (by omega),_,λ_=>n.el kH (k:=0) (by omega) 0 rfl,λ_=>⟨by omega,by omega⟩,_,_,λ_=>n.some kH (by decide) (k:=0) (by omega),_,λ_=>n.el kH (k:=0) (by omega) 7 rfl,
  λ_=>⟨by omega,by omega⟩,_,_,λ_=>n.some kH (by decide) (k:=1) (by omega),_,λ_=>n.el kH (k:=1) (by omega) 0 rfl,_,λ_=>Bd (h.o [4] 9),_,λ_=>Bd (h.o [3] 9),_,λ_=>TU (h.o [3] 9),λ_=>?_,λt=>?_⟩
 .refine BT h λH24 h=>⟨_,_,_,_,_,_,_,_,_,_,_,_,_,rfl,?_⟩
  refine Bk (o:=Ag.o0) h λH25 h=>⟨_,rfl,hJ _ _ ?_⟩
  rw[C];exact k l0 _ ((((((((h7.trans V).trans h8).trans O).trans h4).trans j1).trans Z).trans l6).trans u8 |>.trans S) (h.o [0] 9)
 .exfalso;have q1:(jf Ag.g0 3 10 (cA Ag.f1)).2=0:=Ag.e1;have q2:(jf Ag.g0 3 10 (cA Ag.f1)).1.pend.length=1:=Ag.e2;have q3:(eQ Ag.g2 12).2.2=0:=Ag.e3;have q6:(jf Ag.A3.1 3 14 (cA Ag.f2)).2=0:=Ag.e6;have q7:(jf Ag.A4.1 3 14 (cA Ag.f2)).2=19:=Ag.e7;have q8:(jf Ag.A5.1 3 16 (cA Ag.f3)).2=0:=Ag.e8;have Y:(jf Ag.g8 3 20 (cA Ag.f2)).2=22:=Ag.e15;grind [Ag.e12, Ag.e13, Ag.e14, Ag.e16, dU]
end
structure GcH(H0:aC)(x:kL):Prop where
 rd:aP H0 x.a (x.bs.map U8)
 by':aI x.bs
 keep:aF x.keep
theorem gcK_old{H0:aC}{a:KQ}{xs:List kL}(e:xs.length<=maxLen)(d:aP H0 a (flat nX xs))(c:∀x∈xs,GcH H0 x):GcK (old H0) a xs:=
 ⟨KIn.old d,λx b=>KIn.old (c x b).rd,λx b=>⟨(c x b).by',(c x b).keep⟩,e⟩
theorem few_of{o:Opt}(h:grC o.cfg 0=false):o.cfg.cells.toNat<=200\/fe o=false:=by
 cases ho:fe o with
 | false=>grind
 | true=>
  refine .inl (Ve (xs:=[]) (MB ho) ?_);simp[grR,h]
theorem V0{α:Type}{xs:List α}{j:Nat}(h:j<xs.length):xs[j]∈xs:=VL h
section
variable {F L:List aE}{H:aC}{K:KE}{Q:aE}{gb db:Nat}{g:Gg}{o:Opt}
theorem MC{sb:Nat}{s:aH}(R:Rch s)(d:s.kept.length<=50000)(h:aA H (Q::stA Q sb s::F))(k:∀a c b,aA b (slA 5 1 a (stB s).length c ((stB s).map U8)::Q::stA Q sb s::F)->K (.slice a (stB s).length c) b):CF 17 #[PA sb 0] H K:=
 Br R.ok R.ser d h k
end
theorem outOp_by(e:bH):∀o∈cI e,aI o.bs:=by
 unfold cI;intro o a
 split at a
 .rw [VI]at a;subst a;exact nY _
 split at a
 .rw [VI]at a;subst a;exact nY _
 split at a
 .rw [VI]at a;subst a;exact kB
 split at a
 .rw [VI]at a;subst a;exact nY _
 .cases a
theorem outs_by(l:List bH):∀o∈l.flatMap cI,aI o.bs:=λo a=>by
 obtain⟨e,_,a⟩:=Ym.1 a;exact outOp_by e o a
theorem MD(s:aH):∀n,∀o∈iI s n,aI o.bs
 | 0,o,a=>by cases a
 | n+1,o,a=>by
  rw[iI]at a
  rcases VV.1 a with a|a
  .exact MD s n o a
  .rw [VI]at a;subst a;exact nY _
section
variable {F LL:List aE}{H:aC}{K:KE}{Q:aE}{gb db:Nat}{g:Gg}{o:Opt}{j:Nat}{was:List aH}{Ek E:List bH}{R:DR}{L:LG}{n0:Int}{kk:Nat}
theorem GI.up(I:GI g j was Ek E R L n0 kk){i:Nat}(h:j<=i):GI g i was Ek E R L n0 kk:=by
 obtain⟨d,rfl⟩:∃d,i=j+d:=⟨i-j,by omega⟩
 clear h
 induction d with
 | zero=>exact I
 | succ d ih=>exact ih.mono
theorem V1{keep:Int}(b:aF keep)(c:g.rows.length<=549755813888)(h:aA H (gateA Q gb db g::F))(k:∀a,aA a (diskX db (eV g.rows g.syn keep) (eV g.rows g.syn keep).length::F)->K (.tuple #[]) a):CF 15 #[PA db 0,aD keep] H K:=by
 obtain⟨x,pb,ys,e1,e2,e3,h⟩:=gm.1 h;exact G2 b (by omega) (h.o [5] 7) k
theorem Reopen{rows:DR}{syn:Nat}{s:aH}{b v:List bH}(G:fe o=true)(A:o.cfg.cells.toNat<=200)(n:ff o.cfg j (di rows) s b v)(E:TI o.segment rows rows.length (opS o.segment rows) j)(T:fk o.segment rows=0)(O:j<=198)(h:aA H (Q::diskX db rows syn::F))
  (k:∀Q' gb ys a c t w,aM Q Q'->(∀y∈ys,fQ Q' y/\aI y.o.bs)->ys.length<=1000000->(∀hm Ek,HJ hm Ek Ek->Ek <+: b->v <+: Ek->HOk hm (ys.map Oy.o)/\HJ (jg hm (ys.map Oy.o) ys.length) b b)->
   GI (jH o s rows) (j+2) [fR s dI] b b rows w (di rows).length 1->aA t (Q'::slA 91 11 a ys.length c (flat bJ ys)::gateA Q' gb db (jH o s rows)::F)->K (.tuple #[PA gb 0,.slice a ys.length c,aD 0]) t) :
  CF 16 #[PA db 0,.agg ⟨io o⟩] H K:=by
 obtain⟨w,I⟩:=xR G A n E (by omega);have hs:=n.hs;refine xS G A n E T O h λQ' gb ys a c t m s0 X x i P u hm L h=>k Q' gb ys a c t w x (λy d=>⟨L y d,?_⟩) ?_ (λM Ek B C D=>?_) I h
 .have:y.o∈iI s0 s0.kept.length++X.flatMap cI:=by grind
  rcases VV.1 this with h|h
  .exact MD _ _ _ h
  .exact outs_by _ _ h
 .have V:=i.R.few A (by omega);have J:=hs.len;have U:=M3 X;rw[<-VM (f:=Oy.o),hm,V7,uS];grind
 .have a1:=B.mono (P':=v) C λe N=>D.subset N
  obtain⟨b1,b2⟩:=M1 i n.pre a1 s0.kept.length (VF _);obtain⟨c1,c2⟩:=M0 (X:=X) (S:=[]) hs (by rw[u];simp) b2;have e:ys.length=(iI s0 s0.kept.length).length+(X.flatMap cI).length:=by rw[<-VM (f:=Oy.o),hm,V7]
  rw[hm,e,uT];refine⟨b1.app c1,?_⟩;rw[u]at c2 ⊢;exact c2
end
section
variable {H:Type}{enc:TypeId×Value->H}{W:World}
theorem reads_opt{cs:Os}(h:kP enc Tryz.prog W 25 cs):∃o:Opt,cs=io o:=by
 obtain⟨c,d⟩:=yM Tryz.underlying25 h;have c2:Tryz.prog.cellsOf 2=1:=by kernel_rfl
 have c3:Tryz.prog.cellsOf 3=1:=by kernel_rfl
 have a:Tryz.prog.cellsOf 23=9:=by kernel_rfl
 have b:Tryz.prog.cellsOf 25=13:=by kernel_rfl
 rw[b]at c;simp only[VN,WF,or_false,forall_eq_or_imp,forall_eq,c2,c3,a]at d;obtain⟨f1,f2,f3,f4,f5⟩:=d
 match cs,c with
 | [x1,x2,x3,x4,x5,x6,x7,x8,x9,x10,x11,x12,x13],_=>
  simp only[List.drop_zero,WO,Yi,Y9]at f1 f2 f3 f4 f5;obtain⟨cf,e1⟩:=Vb f1;obtain⟨n2,e2,_,_⟩:=iw Tryz.underlying2 f2;obtain⟨n3,e3,_,_⟩:=iw Tryz.underlying3 f3;obtain⟨n4,e4,_,_⟩:=iw Tryz.underlying3 f4;obtain⟨n5,e5,_,_⟩:=iw Tryz.underlying3 f5;simp only[List.cons.injEq,and_true]at e1 e2 e3 e4 e5;obtain⟨rfl,rfl,rfl,rfl,rfl,rfl,rfl,rfl,rfl⟩:=e1;subst e2 e3 e4 e5;exact⟨⟨cf,n2,n3,n4,n5⟩,rfl⟩
theorem reads_calls{cs:Os}(h:kP enc Tryz.prog W 26 cs):∃a c xs,cs=[.slice a (List.length xs) c]/\xs.length<=maxLen/\aP W.heap a (flat nX xs)/\∀x∈xs,GcH W.heap x:=by
 refine Ey (ec:=nX) (Q:=GcH W.heap) Tryz.underlying26 (sz:=6) (by kernel_rfl) (by decide) h (λi j f=>?_) uV
 obtain⟨_,d⟩:=yM Tryz.underlying45 j;have c2:Tryz.prog.cellsOf 2=1:=by kernel_rfl
 have c3:Tryz.prog.cellsOf 3=1:=by kernel_rfl
 have b:Tryz.prog.cellsOf 43=1:=by kernel_rfl
 simp only[VN,WF,or_false,forall_eq_or_imp,forall_eq,c2,c3,b]at d;obtain⟨f1,f2,f3,f4,f5,f6⟩:=d
 match i,f with
 | [x1,x2,x3,x4,x5,x6],_=>
  simp only[List.drop_zero,WO,Yi,Y9]at f1 f2 f3 f4 f5 f6;obtain⟨n1,e1,_,_⟩:=iw Tryz.underlying3 f1;obtain⟨n2,e2,_,_⟩:=iw Tryz.underlying2 f2;obtain⟨n3,e3,_,_⟩:=iw Tryz.underlying2 f3;obtain⟨n4,e4,_,_⟩:=iw Tryz.underlying2 f4;obtain⟨n5,e5,b1,b2⟩:=iw Tryz.underlying3 f5;obtain⟨a,c,bs,e6,_,e,hb⟩:=reads_bs f6;simp only[List.cons.injEq,and_true]at e1 e2 e3 e4 e5 e6;subst e1 e2 e3 e4 e5 e6;exact⟨⟨n1,n2,n3,n4,n5,a,c,bs⟩,rfl,e,hb,⟨b1,b2⟩⟩
end
section
variable {F LL:List aE}{H:aC}{K:KE}{Q:aE}{gb db:Nat}{g:Gg}{o:Opt}{j:Nat}{was:List aH}{Ek E:List bH}{R:DR}{L:LG}{n0:Int}{kk:Nat}
theorem V2{sb:Nat}{s:aH}(R:Rch s)(e:s.kept.length<=40000)(hb:s.boots<1099511627776)(h:aA H (Q::stA Q sb s::F))(k:∀Q' a c b,aM Q Q'->aA b (Q'::stA Q' sb (fR s dI)::F)->K (.tuple #[.slice a 0 c,aD 0]) b) :
  CF 19 #[PA sb 0,.agg ⟨de dI none 0⟩] H K:=by
 refine Ba (r:=dI) (evs:=[]) R.ok (by have:=R.sunk;omega) (by omega) (recN rfl) h λQ' a c b hs h=>?_
 have d:=BR hb;rw[d]at h ⊢;have h:=h.o [0,2] 3;refine k Q' a c b hs ?_;unfold fR;rw[d];exact h
end
theorem slSt:SlT Tryz.prog 42 40 1 8:=iu (by kernel_rfl)
abbrev pS(p:Nat×aH):Value:=PA p.1 0
def stsA(Q:aE)(l:List (Nat×aH)):aE:=star (l.map λp=>stA Q p.1 p.2)
section
variable {F LL:List aE}{H:aC}{K:KE}{Q Q':aE}
theorem ME{l a:List (Nat×aH)}(h:l.Perm a):stsA Q l=stsA Q a:=Gn (h.map _)
theorem sX{p:Nat×aH}{l:List (Nat×aH)}:aA H (stsA Q (p::l)::F)↔aA H (stA Q p.1 p.2::stsA Q l::F):=by
 unfold stsA;rw[Wf];generalize stA Q p.1 p.2=A;generalize l.map (λp=>stA Q p.1 p.2)=L
 exact oC
theorem MF:stsA Q []=emp:=by
 unfold stsA;rw[Yg];rfl
theorem MG{p:Nat×aH}{G:List aE}(h:aA H (stA Q p.1 p.2::G)):aA H (stA Q p.1 p.2::stsA Q []::G):=by
 rw[MF];generalize stA Q p.1 p.2=A at h ⊢;exact (ww.2 h).o [1,0] 2
theorem BV(hs:aM Q Q'){l:List (Nat×aH)}:∀{F:List aE},aA H (stsA Q l::F)->aA H (stsA Q' l::F):=by
 induction l with
 | nil=>
  intro F h;rw[MF]at h ⊢;exact h
 | cons p l ih=>
  intro F h;have h:=qM hs (sX.1 h);exact sX.2 (lq (ih (lq h)))
theorem MH{l:List (Nat×aH)}{k:Nat}(b:k<l.length):aA H (stsA Q l::F)↔aA H (stA Q l[k].1 l[k].2::stsA Q (l.take k++l.drop (k+1))::F):=by
 have e:l=l.take k++l[k]::l.drop (k+1):=by simp_all
 have a:l.Perm (l[k]::(l.take k++l.drop (k+1))):=by
  grind [List.perm_middle]
 rw[ME a];exact sX
theorem V3{l:List (Nat×aH)}{p:Nat×aH}:aA H (stsA Q (l++[p])::F)↔aA H (stA Q p.1 p.2::stsA Q l::F):=by
 rw[ME (List.perm_append_singleton p l)];exact sX
end
structure FewS(c:bD)(n:Nat)(s:aH):Prop where
 R:lW s c n
 boots:s.boots<=n
theorem FewS.up{c:bD}{n m:Nat}{s:aH}(h:FewS c n s)(hm:n<=m):FewS c m s:=
 ⟨⟨h.R.R,h.R.cfg,VT h.R.kept (Yd _ hm)⟩,by have:=h.boots;omega⟩
theorem doG_idle{g:Gg}{x:kL}(h:x.what=3\/x.what=4):doG g x=(g,1):=by
 have h0:¬x.what=0:=by omega
 have b:¬x.what=1:=by omega
 have a:¬x.what=2:=by omega
 unfold doG;grind
theorem GateRecovers_true{H0:aC}{o:Opt}{ca:KQ}{cc:Nat}{xs:List kL}(hlen:xs.length<=maxLen)(hr:aP H0 ca (flat nX xs))(hxs:∀x∈xs,GcH H0 x) :
  CF 3 #[.agg ⟨io o⟩,.slice ca xs.length cc] H0 λv w=>v=.bool true/\dB H0 w:=by
 have hK0:=gcK_old hlen hr hxs;refine Pl ?_;refine (sat0 H0).al λb _ h=>?_
 refine Vz (lq h) λQ1 H1 U h=>⟨_,rfl,λhc=>by simp at hc,λ_=>?_⟩
 have hK1:=hK0.sub U;refine⟨_,_,_,_,_,_,_,_,_,_,_,_,_,h.q 1,?_⟩;refine Vu (o:=o) (xs:=xs) h hK1 λH2 h=>⟨_,rfl,λhg=>⟨rfl,BE U h⟩,λhg=>?_⟩
 obtain⟨g1,g2,g3⟩:=grG_no hg;refine⟨_,_,_,_,_,_,_,_,_,_,_,_,_,h.q 1,?_⟩;refine Vy (o:=o) (few_of g2) h (λJ H3 h=>⟨_,_,rfl,λ_=>?_,λu=>V6 u (by simp)⟩) λho Q2 gb db H3 hs2 h=>⟨_,_,rfl,λu=>V6 u (by simp),λ_=>?_⟩
 .refine⟨_,_,_,_,_,_,_,_,_,_,_,_,_,h.q 1,?_⟩;refine OfO_spec (o:=o) h λH4 h=>⟨_,_,_,_,_,_,_,_,_,_,_,_,_,rfl,?_⟩
  refine R25Right (o:=o) h λH5 h=>⟨_,rfl,?_⟩
  exact⟨by rw[J];rfl,BE U h⟩
 have hf:o.cfg.cells.toNat<=200:=by
  grind [few_of]
 obtain⟨L0,I0⟩:=xR ho hf (xT ho) (uW ho).1 (by omega);have M:∀{g:Gg} {j:Nat} {was:List aH} {Ek E:List bH} {R:DR} {L:LG} {n0:Int} {k:Nat},GI g j was Ek E R L n0 k->g.o=o->FewS o.cfg j g.s:=λI Y=>by
  rw[<-Y];exact⟨I.hs.R,I.hs.boots⟩
 have ok0:=I0.ok (by omega);refine qS ok0 (h.o [1,0,2] 3) λr8 H4 h=>⟨_,rfl,?_⟩
 refine h.al λbw _ h=>?_
 have h:=aA.sl_pt (cs:=[PA r8 0]) h 1 1 rfl;refine⟨λgp wa wn wc G i w=>∃(j sy:Nat) (Q':aE) (gb:Nat) (g:Gg) (was:List aH) (Ek E:List bH) (R:DR) (LL:LG) (n0:Int) (k:Nat) (l:List (Nat×aH)),gp=some ⟨gb,0,none⟩/\i=j/\G=sy/\wn=l.length/\j<=xs.length/\l.length<=1+j/\aM Q1 Q'/\GI g (2+3*j) was Ek E R LL n0 k/\g.o=o/\
   (∀s∈was,∃q,sy<=q/\∃hq:q<l.length,l[q].2=s)/\(∃l0 p,l=l0++[p]/\p.2=g.s)/\(∀p∈l,FewS o.cfg (2+3*j) p.2)/\
   aA w (Q'::gateA Q' gb db g::slA 40 1 wa l.length wc (l.map pS)::stsA Q' l::cellsA b (io o) 25::[]),
  λ_ _ _ _ _ i _=>xs.length-i.toNat,⟨0,0,Q2,gb,_,_,_,_,_,_,_,_,[(r8,(jH o (bT o.cfg) []).s)],rfl,rfl,rfl,rfl,by omega,by simp,hs2,I0,rfl,λs hs=>⟨0,VF _,by simp,?_⟩,⟨[],_,rfl,rfl⟩,λp B=>?_,?_⟩,?_⟩
 .rw [VI]at hs;subst hs;rfl
 .rw [VI]at B;subst B;exact M I0 rfl
 .have h:=h.o [1,0,2,3,4] 5;have h:=sX.2 (MG (p:=(r8,(jH o (bT o.cfg) []).s)) h);exact h.o [3,2,1,0,4] 5
 rintro gp wa wn wc G i H5 ⟨j,sy,Q3,gb,g,was,Ek,E,R,LL,n0,kk,l,rfl,rfl,rfl,rfl,hj,hll,H,I,Y,h9,D,hfl,h⟩;refine⟨λu=>?_,λu=>⟨rfl,BE (U.trans H) h⟩⟩
 have W:j<xs.length:=by grind
 have y3:=hK1.sub H;have hrw:=y3.row.at h 0 rfl;have hw:i64.wrap ((j:Int)+1)=((j+1:Nat):Int):=by grind [aJ]
 intro Jn hJ;have next:∀(Q':aE) (C:Nat) (g':Gg) (f:List aH) (y2 E':List bH) (R':DR) (S:LG) (O:Int) (k' j' h5:Nat) (d:List (Nat×aH)) A y w,aM Q3 Q'->GI g' j' f y2 E' R' S O k'->j'<=2+3*j+3->g'.o=o->d.length<=1+(j+1)->
   (∀s∈f,∃q,h5<=q/\∃hq:q<d.length,d[q].2=s)->(∃l0 p,d=l0++[p]/\p.2=g'.s)->(∀p∈d,FewS o.cfg (2+3*j+3) p.2)->
   aA w (Q'::gateA Q' C db g'::slA 40 1 A d.length y (d.map pS)::stsA Q' d::cellsA b (io o) 25::[])->Jn (some ⟨C,0,none⟩) A d.length y h5 w:=by
  intro Q' C g' f y2 E' R' S O k' j' h5 d A y w hs I' hj' ho' hl' V N Z h;exact hJ _ _ _ _ _ _ ⟨⟨j+1,h5,Q',C,g',f,y2,E',R',S,O,k',d,rfl,hw,rfl,rfl,W,hl',H.trans hs,I'.up (by omega),ho',V,N,λp B=>(Z p B).up (by omega),h⟩,by grind⟩
 refine⟨⟨by omega,by omega⟩,_,_,hrw.some uV (by decide) W,_,_,_,_,_,_,_,_,hrw.els uV W,?_⟩;have h0:=V0 W;obtain⟨x,ex⟩:∃x,xs[j]=x:=⟨_,rfl⟩;rw[ex]at h0 ⊢;have hxb:=y3.bs x h0;have hxo:=y3.ok x h0;have hx3:=g3 x h0;refine h.al λb3 _ h=>?_
 refine h.st 0 rfl rfl λH6 h=>⟨_,h.r 0,?_⟩
 have h:aA H6 (cellsA b3 (nX x) 45::Q3::gateA Q3 gb db g::slA 40 1 wa l.length wc (l.map pS)::stsA Q3 l::cellsA b (io o) 25::[]):=h;have ok:=I.ok (by omega);intro Jn1 hJ1;have go:∀(g1:Gg) (n:List aH) (h1 E1:List bH) (R1:DR) (L1:LG) (n1:Int) (k1 j1 t:Nat) w,GI g1 j1 n h1 E1 R1 L1 n1 k1->j1<=2+3*j+3->(x.what≠3->j1<=2+3*j)->g1.o=o->g1.s=g.s->(∀s∈n,∃q,t<=q/\∃hq:q<l.length,l[q].2=s)->t<l.length->
   aA w (Q3::gateA Q3 gb db g1::slA 40 1 wa l.length wc (l.map pS)::stsA Q3 l::cellsA b (io o) 25::cellsA b3 (nX x) 45::[])->Jn1 t w:=by
  intro g1 n h1 E1 R1 L1 n1 k1 j1 t w I1 hj1 h8 hg1 hs1g h6 hsyl h;refine hJ1 _ _ ⟨_,_,_,_,_,_,_,_,h.q 5,?_⟩;refine Do_spec (x:=x) I1 (by omega) h hxb hxo.1 hx3 λQ4 H7 r9 h=>⟨_,rfl,?_⟩
  intro Jn2 hJ2;obtain⟨j2,E2,L2,d1,d2,d3,d4,d5⟩:∃j2 E' S,j2<=2+3*j+3/\(x.what=4->j2<=2+3*j)/\GI (doG g1 x).1 j2 (if (doG g1 x).2=0 then n++[(doG g1 x).1.s] else n) h1 E' R1 S n1 k1/\(doG g1 x).1.o=o/\((doG g1 x).2≠0->(doG g1 x).1.s=g1.s):=by
   by_cases hi:x.what=3\/x.what=4
   .rw [doG_idle hi];grind
   .obtain⟨E',S,a1,a2,a3,a4,a5⟩:=do_calls (x:=x) I1 (by omega);grind
  have u8:=d3.ok (by omega);have fin:∀(d:List (Nat×aH)) (f:List aH) A y w,GI (doG g1 x).1 j2 f h1 E2 R1 L2 n1 k1->d.length<=1+(j+1)->(∀s∈f,∃q,t<=q/\∃hq:q<d.length,d[q].2=s)->(∃l0 p,d=l0++[p]/\p.2=(doG g1 x).1.s)->(∀p∈d,FewS o.cfg (2+3*j+3) p.2)->
    aA w (Q4::gateA Q4 gb db (doG g1 x).1::slA 40 1 A d.length y (d.map pS)::stsA Q4 d::cellsA b (io o) 25::cellsA b3 (nX x) 45::[])->Jn2 A d.length y w:=by
   intro d f A y w I2 hl' V N Z h;refine hJ2 _ _ _ _ ⟨_,h.r 5,λh4=>?_,λh4=>?_⟩
   .exact next Q4 gb _ _ _ _ _ _ _ _ _ t d _ _ _ r9 I2 d1 d4 hl' V N Z (h.o [0,1,2,3,4] 6)
   have h4:x.what=4:=by grind
   have d2:=d2 h4;obtain⟨s,Ea,E0,c1,c2,c3,c4,c5,c6,c7⟩:=I2.crash (by omega) x.keep;rw[d4]at c1 c6 c7;obtain⟨kx,k1,k2,k3⟩:=V s c5;obtain⟨g2,hg2⟩:∃g2,(doG g1 x).1=g2:=⟨_,rfl⟩;rw[hg2]at h u8 c1 c6 c7;refine⟨_,h.r 5,?_⟩;refine V1 hxo.2 u8.rows (h.o [1,0,2,3,4] 6) λH8 h=>⟨rfl,_,_,_,_,_,_,_,_,_,_,_,_,_,h.q 4,?_⟩
   refine Reopen (o:=o) (j:=j2+1) ho hf (c1.mono (by omega)) c6 c7 (by omega) (h.o [1,0,2,3,4] 5) λQ5 C ys a c H9 S hs5 T hyl hh I' h=>⟨_,_,_,_,_,rfl,?_⟩
   obtain⟨g3,l6⟩:∃g3,jH o s (eV g2.rows g2.syn x.keep)=g3:=⟨_,rfl⟩;have H:g3.s=fR s dI:=by rw[<-l6];rfl
   have ho3:g3.o=o:=by rw[<-l6];rfl
   rw[l6]at I' h;have Q:=I'.ok (by omega);have h:=h.o [2,0,3,4,5] 6;intro Jn3 hJ3;refine⟨λ_=>?_,λu=>by simp at u⟩
   refine qS Q h λsbx H10 h=>⟨_,rfl,hJ3 _ _ ⟨λu=>V6 u (by simp),λ_=>?_⟩⟩
   refine qS Q (h.o [1,2,3,4,5] 6) λsby H11 h=>⟨_,rfl,?_⟩
   refine MC Q.R (by have:=Q.kept;omega) (h.o [2,0,1,3,4,5] 6) λba bc H12 h=>⟨_,_,_,rfl,?_⟩
   have h:=BV (hs5) (h.o [5,1,0,3,4,6] 7);refine⟨λF k w=>∃(q:Nat) (Q6:aE),k=q/\q<=d.length/\aM Q5 Q6/\(F=false->t<=q->q<=kx)/\t<=q/\
     aA w (Q6::stsA Q6 d::slA 5 1 ba (stB g3.s).length bc ((stB g3.s).map U8)::gateA Q6 C db g3::slA 40 1 A d.length y (d.map pS)::cellsA b (io o) 25::[]),
    λ_ k _=>d.length-k.toNat,⟨t,Q5,rfl,by omega,aM.refl _,λ_ _=>k1,VF _,h.o [1,0,2,3,4,5] 6⟩,?_⟩
   rintro F k H13 ⟨q,Q6,rfl,hq,hs6,hqk,hsq,h⟩;refine⟨λu=>?_,λu=>?_⟩
   .simp only[VB,VA,Wb]at u;have P:q<d.length:=by omega
    have hqx:=hqk u.2 hsq;have hwq:i64.wrap ((q:Int)+1)=((q+1:Nat):Int):=by grind [aJ]
    have h2:=(h.sl_rd 4 rfl).at P;refine⟨⟨by omega,by omega⟩,_,_,h2.1,_,h2.2,λJ=>V6 J (by simp),λ_=>?_⟩
    refine⟨⟨by omega,by omega⟩,_,_,h2.1,_,h2.2,?_⟩;have hF:=Z d[q] (VL P);have hFk:=hF.R.few hf (by omega);have h:=(MH P).1 (lq h);refine KF (by omega) hF.R.R.ok h λsbc H14 h=>⟨_,rfl,?_⟩
    have h:=(MH P).2 (h.o [1,2,3,0,4,5,6,7] 8);refine V2 hF.R.R hFk (by have:=hF.boots;omega) (h.o [1,2,0,3,4,5,6] 7) λQ7 ae ce H15 l5 h=>⟨_,_,_,_,rfl,?_⟩
    intro Jn4 hJ4;refine⟨λ_=>?_,λu=>by simp at u⟩
    have h7:lW (fR d[q].2 dI) o.cfg (2+3*j+3+1):=hF.R.step λe he=>V6 he (by simp[dI])
    have hF2k:=h7.few hf (by omega);refine MC h7.R (by omega) h λba2 bc2 H16 h=>⟨_,_,_,rfl,?_⟩
    refine⟨_,Pu (h.sl_rd 0 rfl) (h.sl_rd 4 rfl) (by have:=BB h7.R.ok h7.R.ser (by omega);omega),hJ4 _ _ ⟨⟨q+1,Q7,hwq,P,hs6.trans l5,λhfo _=>?_,by omega,?_⟩,by grind⟩⟩
    .grind
    .have h:=BV l5 (h.o [3,1,4,5,6,7] 8);have h:=xP l5 (h.o [3,0,1,2,4,5] 6);exact h.o [2,1,3,0,4,5] 6
   .refine⟨λJ=>?_,λ_=>?_⟩
    .grind
    .
     refine qS Q (h.o [3,0,5] 6) λr0 H14 h=>⟨_,rfl,?_⟩
     refine h.al λbz _ h=>?_
     have h:=aA.sl_pt (cs:=[PA r0 0]) h 1 1 rfl;have h:=h.o [1,0,2,3,4] 5;have h:=sX.2 (MG (p:=(r0,g3.s)) h);refine next Q6 C g3 _ _ _ _ _ _ _ _ 0 [(r0,g3.s)] _ _ _ (r9.trans (hs5.trans hs6)) I' (by omega) ho3 (by simp) (λs hs=>⟨0,VF _,by simp,?_⟩) ⟨[],_,rfl,rfl⟩ (λp B=>?_) (h.o [3,2,1,0,4] 5)
     .grind
     .rw [VI]at B;subst B;exact (M I' ho3).up (by omega)
  have j3:∀p∈l,FewS o.cfg (2+3*j+3) p.2:=λp B=>(hfl p B).up (by omega)
  have h:=BV r9 (h.o [3,0,1,2,4,5] 6);refine⟨λT=>?_,λT=>?_⟩
  .have T:=V8 T;rw[V5 T]at d3;refine qS u8 (h.o [2,0,1,3,4,5] 6) λK H8 h=>⟨_,rfl,?_⟩
   refine h.al λbn _ h=>?_
   refine h.append (m:=1) (ws:=[PA K 0]) slSt 5 rfl (h.ce_rd 0 rfl) rfl rfl (by omega) (by omega) λa5 c5 H9 h=>⟨_,_,_,rfl,?_⟩
   have e1:l.map pS++[PA K 0]=(l++[(K,(doG g1 x).1.s)]).map pS:=by simp
   have e2:l.length+1=(l++[(K,(doG g1 x).1.s)]).length:=by simp
   have h:=V3 (p:=(K,(doG g1 x).1.s)).2 (h.o [1,3,2,4,5,6,7] 8);rw[e1,e2]at h;rw[e2];refine fin _ _ _ _ _ d3 (by grind) (λs hs=>?_) ⟨l,_,rfl,rfl⟩ (λp B=>?_) (h.o [2,1,3,0,4,5] 6)
   .rcases VV.1 hs with hs|hs
    .obtain⟨q,q1,q2,q3⟩:=h6 s hs;exact⟨q,q1,by grind,by grind⟩
    .rw [VI]at hs;subst hs;exact⟨l.length,by omega,by simp,by simp⟩
   .rcases VV.1 B with B|B
    .exact j3 p B
    .rw [VI]at B;subst B;exact (M d3 d4).up d1
  .have T:=V9 T;rw[V4 T]at d3;obtain⟨l0,p,e1,e2⟩:=D;exact fin l n _ _ _ d3 (by omega) h6 ⟨l0,p,e1,by grind⟩ j3 (h.o [1,2,3,0,4,5] 6)
 have hl1:1<=l.length:=by
  grind
 refine⟨λh3=>?_,λh3=>?_⟩
 .obtain⟨R',S,O,k',i1,i2,i3,i4⟩:=I.sync (by omega);refine BI ok I.ti.files (h.o [1,2,0,3,4,5] 6) λys a c H7 hmm T h=>⟨_,_,_,rfl,?_⟩
  have h6:i64.wrap ((l.length:Int)-1)=((l.length-1:Nat):Int):=by grind [aJ]
  rw[h6];have h3:x.what=3:=V8 h3;refine go (iH g) [g.s] E E R' S O k' _ (l.length-1) _ i1 (by omega) (λJ=>V6 h3 J) (i3.trans Y) i2 (λs hs=>⟨l.length-1,VF _,by omega,?_⟩) (by omega) (h.o [0,2,4,5,6,3] 7)
  grind
 .obtain⟨q,q1,q2,q3⟩:=h9 g.s I.last;exact go g was Ek E R LL n0 kk _ sy _ I (by omega) (λ_=>VF _) Y rfl h9 (by omega) (h.o [1,2,3,4,5,0] 6)
end Go.Proofs.YtaaieblnikcndaaGreatDoor
