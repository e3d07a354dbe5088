/-
  Lemmas for GateKept: part 10 of what it rests on. Conditions: none.
-/
import Derived.Test.YtaaieblnikcndaaGreatDoorGK9
set_option linter.unusedVariables false
set_option linter.unusedSimpArgs false
set_option maxRecDepth 100000
set_option maxHeartbeats 16000000
open Go.IntKind (i64 u64 i8 u8 i32 u32 i16 u16)
namespace Go.Proofs.YtaaieblnikcndaaGreatDoor
open Go
def iH(s:aI):Nat->List Ou
 | 0=>[]
 | n+1=>iH s n++[jE (s.sunk+(n:Nat)) (s.kept.getD n Ot.z)]
def recT(s:aI)(rs:List Rp):Nat->List Ou
 | 0=>iH s s.kept.length
 | n+1=>recT s rs n++(match rs[n]? with|some r=>(bO (dH s (rs.take n)) r).2.1.flatMap cI|none=>[])
section
variable {F L:List aE}{H:aD}{K:KE}{Q:aE}
theorem stA_perm{sb:Nat}{s:aI}(R:Rch s)(h:aA H (stA Q sb (jI s)::F)):aA H (stA Q sb s::F):=by
 obtain⟨p,h⟩:=cX.1 h;have a:=uO R;have e1:Ma.mapF p.mm (jI s).ms.m=Ma.mapF p.mm s.ms.m:=nC a.1.symm;have e2:cz p.hm (jI s).cm=cz p.hm s.cm:=nC a.2.symm;rw[e1,e2]at h;exact cX.2 ⟨p,h⟩
theorem uQ(s:aI):∀n,(iH s n).length=n
 | 0=>rfl
 | n+1=>by rw[iH,Vv,uQ s n];rfl
theorem Rec_spec{c:bD}{s0:aI}{rs:List Rp}{s:List Ry}{w:Fy}{has:Bool}{R:KQ}{U:Nat}(Y:fD c=true)(A:Rch s0)(hc0:s0.cfg=c)
  (l0:has=false/\s0=bU c\/has=true/\w.bs=stB s0) (r9:s.map Ry.rc=rs.map λr=>⟨r.kind,r.bytes⟩) (hv:∀r∈rs,∀e∈r.evs,aF e.value)
  (h2:∀j (hj:j<rs.length),(bO (dH s0 (rs.take j)) rs[j]).2.2=0) (hk0:s0.kept.length<=40000) (hk:∀j,j<=rs.length->(dH s0 (rs.take j)).kept.length<=1000000) (hrl:rs.length<=100000)
  (hq:∀H,aA H F->aP H R (flat fW s)) (hqd:∀H,aA H F->∀q∈s,aP H q.y.a (q.y.bs.map U8)) (hfy:∀H,aA H F->aP H w.a (w.bs.map U8)) (hfa:w.a=none\/∃k o,w.a=some ⟨k,o,none⟩)
  (h:aA H (Q::F))
  (k:∀Q' sb ys a c' L,aM Q Q'->ys.map Oy.o=recT s0 rs rs.length->(∀y∈ys,fI Q' y)->aA L (Q'::slA 91 11 a ys.length c' (flat bH ys)::stA Q' sb (dH s0 rs)::F)->K (.tuple #[PA sb 0,.slice a ys.length c',aC 0]) L) :
  CF 46 #[.agg ⟨oz c⟩,.agg #[dX w,.bool has,.slice R s.length U]] H K:=by
 have hql:s.length=rs.length:=by have:=congrArg List.length r9;simpa using this
 refine cN 46 0x1121749d1215612399251442156123992511d1d44c [[(9,sS),(54,sI)],[(9,sS),(36,sI)],[(7,sP),(8,sI)]] ?_;refine h.al λb _ h=>?_
 refine h.al λb1 _ h=>⟨_,_,_,_,_,_,_,_,_,h.q 1,?_⟩
 refine Ku (Q:=Q) h (λhn=>Vu hn (by rw[Y];simp)) λ_ sb H1 h=>⟨some ⟨sb,0,none⟩,_,rfl,_,h.r 1,?_⟩
 intro Jn hJ;have fin:∀(Q1:aE) (sb:Nat) L,aM Q Q1->aA L (Q1::stA Q1 sb s0::cellsA b1 [dX w,.bool has,.slice R s.length U] 129::F)->Jn (some ⟨sb,0,none⟩) 0 L:=by
  intro Q1 sb H2 hs1 h;refine hJ _ _ _ ⟨λhc=>Vu hc (by decide),λ_=>?_⟩
  refine TE (by omega) (h.o [1,0,2] 3) λka kc H3 h=>⟨_,_,_,rfl,?_⟩
  refine⟨λla ln lc i L=>∃(j:Nat) (ys:List Oy) (Q':aE),i=j/\j<=s0.kept.length/\ln=ys.length/\aM Q Q'/\ys.map Oy.o=iH s0 j/\(∀y∈ys,fI Q' y)/\
    aA L (Q'::slA 91 11 la ys.length lc (flat bH ys)::slA 164 74 ka s0.kept.length kc (flat cJ s0.kept)::stA Q' sb s0::cellsA b1 [dX w,.bool has,.slice R s.length U] 129::F),
   λ_ _ _ i _=>s0.kept.length-i.toNat,⟨0,[],Q1,rfl,by omega,rfl,hs1,rfl,λy Z=>Vu Z (by simp),(h.sl_nil 91 11).o [3,0,1,2,4] 5⟩,?_⟩
  rintro la ln lc i H4 ⟨j,ys,O,rfl,hj,rfl,h7,hm,u8,h⟩;have hyl:ys.length=j:=by rw[<-uQ s0 j,<-hm,V8]
  refine⟨λd=>?_,λd=>?_⟩
  .have d:j<s0.kept.length:=by have:=Vw d;omega
   have hw:i64.wrap ((j:Int)+1)=((j+1:Nat):Int):=by rw[aK];omega
   have W:=h.sl_rd 2 rfl;have hsk:=A.sunk;have hsk0:=A.ok.sunk;have y3:=A.kept _ (V7 d);refine⟨by omega,_,_,W.some iV (by omega) d,_,_,_,_,_,_,_,_,_,_,W.els iV d,?_⟩;refine h.al λb3 _ h=>?_
   refine h.sta 0 rfl rfl λH5 h=>?_
   have h:aA H5 (cellsA b3 (cJ s0.kept[j]) 164::O::slA 91 11 la ys.length lc (flat bH ys)::slA 164 74 ka s0.kept.length kc (flat cJ s0.kept)::stA O sb s0::cellsA b1 [dX w,.bool has,.slice R s.length U] 129::F):=h;refine⟨_,TD (h.o [4,0,1,2,3,5] 6),_,_,_,_,_,_,_,_,_,_,h.rda 0 rfl,?_⟩;have hn:i64.wrap (s0.sunk+(j:Int))=s0.sunk+(j:Int):=aK;refine Kz (n:=i64.wrap (s0.sunk+(j:Int))) (o:=s0.kept[j]) y3.wc (by have:=y3.size;omega) h λP N H6 h=>⟨_,_,_,_,_,_,_,_,_,_,_,_,_,rfl,?_⟩
   refine h.al λb4 _ h=>?_
   refine h.append (m:=1) (ws:=bH ⟨jE (i64.wrap (s0.sunk+(j:Int))) s0.kept[j],P,N⟩) slOy 4 rfl (h.ce_rd 0 rfl) rfl (pC _) (by omega) (by omega) λa5 c5 H9 h=>⟨_,_,_,rfl,?_⟩
   have f1:flat bH ys++bH ⟨jE (i64.wrap (s0.sunk+(j:Int))) s0.kept[j],P,N⟩=flat bH (ys++[⟨jE (i64.wrap (s0.sunk+(j:Int))) s0.kept[j],P,N⟩]):=by rw[dS];simp[flat]
   have f2:ys.length+1=(ys++[(⟨jE (i64.wrap (s0.sunk+(j:Int))) s0.kept[j],P,N⟩:Oy)]).length:=by simp
   have h:=h.o [1,3,4,5,6,7] 8;rw[f1,f2]at h;have h6:fI (slA 5 1 P (cA (pD s0.kept[j])).length N ((cA (pD s0.kept[j])).map U8)*O) ⟨jE (i64.wrap (s0.sunk+(j:Int))) s0.kept[j],P,N⟩:=⟨KIn.sl (c:=N),h.sl_nc 0 rfl⟩;have h:=pE.2 h;generalize slA 5 1 P (cA (pD s0.kept[j])).length N ((cA (pD s0.kept[j])).map U8)=M at h h6;have B:aM O (M*O):=aM.add M O;have h:=sC B (h.o [3,0,1,2,4] 5);refine⟨⟨j+1,ys++[(⟨jE (i64.wrap (s0.sunk+(j:Int))) s0.kept[j],P,N⟩:Oy)],M*O,hw,d,f2,h7.trans B,?_,λz hz=>?_,?_⟩,by rw[hw];dsimp only;omega⟩
   rotate_left 2
   .exact h.o [1,2,3,0,4] 5
   .rw [VJ,hm,iH,hn,Yd,List.getElem?_eq_getElem d];rfl
   .rcases VK.1 hz with hz|hz
    .exact (u8 z hz).sub B
    .rw [V6]at hz;rw[hz];exact h6
  have hge:j=s0.kept.length:=by have:=Vx d;omega
  rw[hge]at hm hyl;refine⟨_,_,_,h.r 4,?_⟩;refine⟨λla ln lc i L=>∃(j:Nat) (v:List Oy) (Q':aE),i=j/\j<=rs.length/\ln=v.length/\v.length<=100000+2000*j/\aM Q Q'/\v.map Oy.o=recT s0 rs j/\(∀y∈v,fI Q' y)/\Rch (dH s0 (rs.take j))/\
    aA L (Q'::slA 91 11 la v.length lc (flat bH v)::stA Q' sb (dH s0 (rs.take j))::cellsA b1 [dX w,.bool has,.slice R s.length U] 129::F),
   λ_ _ _ i _=>rs.length-i.toNat,⟨0,ys,O,rfl,by omega,rfl,by omega,h7,hm,u8,A,h.o [0,1,3,4] 5⟩,?_⟩
  rintro h5 ln2 y2 i2 H5 ⟨f,v,Q3,rfl,hj2,rfl,hzl,h4,h1,l6,Rj,h⟩;refine⟨λd=>?_,λd=>?_⟩
  .have x:f<s.length:=by have:=Vw d;omega
   have d:f<rs.length:=by omega
   have hw:i64.wrap ((f:Int)+1)=((f+1:Nat):Int):=by rw[aK];omega
   have h9:s[f].rc=⟨rs[f].kind,rs[f].bytes⟩:=by
    have:=congrArg (λl=>l[f]?) r9
    simpa[List.getElem?_map,List.getElem?_eq_getElem d,List.getElem?_eq_getElem x] using this
   have h0:s[f].kind=rs[f].kind:=congrArg Rc.kind h9;have u:s[f].y.bs=rs[f].bytes:=congrArg Rc.data h9;have W:=hq _ h.tl.tl.tl.tl;refine⟨by omega,_,_,W.some pf (by omega) x,_,_,_,_,W.els pf x,?_⟩;have hR:=sE (h2 f d);have D:=hv _ (V7 d);have hkj:=hk f hj2;have hE:=B9 (r:=rs[f]) Rj D;have hA:=h2 f d;have hqm:s[f]∈s:=V7 x;have hbl:=Rp.bytes_len rs[f];have C:(bO (dH s0 (rs.take f)) rs[f]).2.1.length<=2000:=B7 Rj.ok (by have:=Rp.right_len hR;omega);have T:dH s0 (rs.take (f+1))=(bO (dH s0 (rs.take f)) rs[f]).1:=by rw[Wf d,UL]
   have V:recT s0 rs (f+1)=recT s0 rs f++(bO (dH s0 (rs.take f)) rs[f]).2.1.flatMap cI:=by rw[recT,List.getElem?_eq_getElem d]
   refine h.al λb6 _ h=>?_
   refine h.st 0 rfl rfl λH6 h=>⟨_,_,_,h.r 0,?_⟩
   have h:aA H6 (cellsA b6 [aC s[f].kind,.slice s[f].y.a s[f].y.bs.length s[f].y.c] 234::Q3::slA 91 11 h5 v.length y2 (flat bH v)::stA Q3 sb (dH s0 (rs.take f))::cellsA b1 [dX w,.bool has,.slice R s.length U] 129::F):=h;have h:=h.o [1,0,2,3,4] 5;have hbb:aH s[f].y.bs:=by rw[u];exact Rp.bytes_by _
   refine SU h (λH h=>hqd H h.tl.tl.tl.tl.tl _ hqm) hbb (by rw[u];omega) ?_
   rw[u,rec_back hR D];obtain⟨r,W⟩:∃r,rs[f]=r:=⟨_,rfl⟩;rw[W]at hR D hE hA C T V h0 ⊢;intro Q4 evs ea ec H7 S j1 hkl h;refine⟨_,_,_,_,_,_,_,_,_,_,_,_,_,_,_,rfl,?_⟩;refine h.al λb7 _ h=>?_
   refine h.st 0 rfl rfl λH8 h=>⟨_,λ_=>h.r 0,_,λ_=>h.r 3,λhx=>?_,λ_=>?_⟩
   .exfalso;rw[h0]at hx;simp at hx
   have h:aA H8 (cellsA b7 (dg r ea ec) 61::Q4::slA 99 4 ea evs.length ec (flat cw evs)::cellsA b6 [aC s[f].kind,.slice s[f].y.a r.bytes.length s[f].y.c] 234::slA 91 11 h5 v.length y2 (flat bH v)::stA Q3 sb (dH s0 (rs.take f))::cellsA b1 [dX w,.bool has,.slice R s.length U] 129::F):=h;refine⟨_,_,_,_,_,_,_,_,_,_,_,_,_,_,h.q 0,?_⟩;have h:=sC S (h.o [5,1,0,2,3,4,6] 7);have h:=h.o [1,0,3,2,4,5,6] 7;have hell:evs.length<=64:=by have:=Rp.right_len hR;rw[j1,V8]at this;exact this
   have l5:∀G:List aE,oA Q4 (slA 99 4 ea evs.length ec (flat cw evs)::G) r ea evs:=λG=>⟨j1,λH h=>h.sl_rd 0 rfl,hkl,by omega,D⟩
   refine Ko Rj.ok (by have:=Rj.sunk;omega) (by omega) (l5 _) h λQ5 fa fc H9 r8 h=>⟨_,_,_,_,rfl,λhx=>?_,λ_=>?_⟩
   .exfalso;rw[hA]at hx;simp at hx
   obtain⟨t,hf⟩:∃t,(bO (dH s0 (rs.take f)) r).2.1=t:=⟨_,rfl⟩;rw[hf]at h hE C V ⊢;refine K0 hE.2 hE.1 h (λH h=>h.sl_rd 0 rfl) λQ6 J wa wc H10 E r0 hwi h=>⟨_,_,_,rfl,?_⟩
   have hwl:J.length<=t.length:=by
    have e1:J.length=(t.flatMap cI).length:=by rw[<-r0,V8]
    have:∀l:List bI,(l.flatMap cI).length<=l.length:=by
     intro l
     induction l with
     | nil=>simp
     | cons e l ih=>
      rw[VU,Vv,V1];have:(cI e).length<=1:=by unfold cI;split <;> (try split) <;> (try split) <;> (try split) <;> simp
      omega
    have:=this t;omega
   refine h.append (m:=J.length) (ws:=flat bH J) slOy 7 rfl (h.sl_rd 1 rfl) (fh jD _) (lC pC _) (by omega) (by omega) λpa pc H11 h=>⟨_,_,_,rfl,?_⟩
   have e2:v.length+J.length=(v++J).length:=by rw[Vv]
   have h:=h.o [3,0,7,8] 9;rw[e2,<-dS]at h;have h:=sC E h;refine⟨⟨f+1,v++J,Q6,hw,d,e2,by rw[Vv];omega,((h4.trans S).trans r8).trans E,by rw[VJ,h1,r0,V],λy Z=>?_,by rw[T];exact uP Rj D,?_⟩,by rw[hw];dsimp only;omega⟩
   .rcases VK.1 Z with Z|Z
    .exact (l6 y Z).sub ((S.trans r8).trans E)
    .exact hwi y Z
   .rw [T];exact h.o [1,2,0,3] 4
  .have h8:f=rs.length:=by have:=Vx d;omega
   subst h8;rw[VW]at h;exact k Q3 sb v _ _ _ h4 h1 l6 (h.o [0,1,2] 4)
 refine⟨λhb=>?_,λhb=>?_⟩
 .have u:w.bs=stB s0:=by
   rcases l0 with ⟨e,_⟩|⟨_,e⟩
   .rw [e]at hb;cases hb
   .exact e
  refine⟨_,_,_,_,_,_,_,_,_,h.q 2,_,_,_,h.r 1,?_⟩;have h3:kK c w.bs=.ok (jI s0):=by
   have:=UC A (by omega);rw[hc0]at this;rw[u];exact this
  have j3:pH c w.bs=.ok (jI s0):=by
   unfold pH;rw[Vs (by rw[Y];simp),h3];dsimp only;rw[u,Vt (UJ A)]
  have hll:=Mi A.ok A.ser (by omega);have h:=h.o [3,0,1,2] 4;refine U1 (c:=c) h (λH h=>hfy H h.tl.tl.tl) hfa (by rw[u];exact xE _) (by rw[u];omega) (λ_ s' I=>?_) (λhR=>Vu hR (by rw[Y];simp)) (λ_ e he=>by rw[j3]at he;cases he) λ_ s' I=>?_
  .rw [h3]at I
   cases I
   exact⟨⟨λp hp=>(A.ser).cm p ((uO A).2.mem_iff.2 hp),A.ser.kept⟩,by show s0.kept.length<=_;omega⟩
  rw[j3]at I
  cases I
  intro Q6 tb H6 E h;refine⟨_,_,rfl,?_⟩;have h:=stA_perm A (h.o [1,0,3] 5);exact fin Q6 tb _ E (h.o [1,0,2] 3)
 .have hs0:s0=bU c:=by
   rcases l0 with ⟨_,e⟩|⟨e,_⟩
   .exact e
   .rw [e]at hb;cases hb
  rw[<-hs0]at h;exact fin Q sb _ (aM.refl Q) (h.o [3,0,1] 4)
end
def eQ:Rp:=⟨1,0,0,0,0,0,0,bQ.z,[]⟩
def kM(o:Opt)(s:aI)(rows:DR):Gg:=
 ⟨o,(bO s eQ).1,⟨(bO s eQ).1.boots,o.probes,0,[],[]⟩,[],0,false,0,0,{ dp rows (opS o.segment rows) ⟨1,eQ.bytes⟩ with syn:=(dp rows (opS o.segment rows) ⟨1,eQ.bytes⟩).next },
  fY rows (opS o.segment rows) ⟨1,eQ.bytes⟩,(fY rows (opS o.segment rows) ⟨1,eQ.bytes⟩).length⟩
theorem rch_run{s:aI}(R:Rch s):∀{rs:List Rp},(∀r∈rs,∀e∈r.evs,aF e.value)->Rch (dH s rs):=by
 intro rs
 induction rs generalizing s with
 | nil=>intro _;exact R
 | cons r rs ih=>intro h;exact ih (uP R (h r (VA ..))) λx a=>h x (VD _ a)
section
variable {F L:List aE}{H:aD}{K:KE}{Q:aE}{o:Opt}{db:Nat}{rows:DR}{syn:Nat}
theorem UY{s0:aI}{rs:List Rp}(f:ff o=true)(ok:fX rows)(hB:rows.length<=549755813888)(A:fk o.segment rows=0)(w:(opS o.segment rows).seg<2147483647)(O:(opS o.segment rows).ok)
  (R0:Rch s0) (P:s0.cfg=o.cfg) (i:dw (dj rows)=(none,rs.map λr=>⟨r.kind,r.bytes⟩)/\s0=bU o.cfg\/dw (dj rows)=(some (stB s0),rs.map λr=>⟨r.kind,r.bytes⟩))
  (hv:∀r∈rs,∀e∈r.evs,aF e.value) (I:∀j (hj:j<rs.length),(bO (dH s0 (rs.take j)) rs[j]).2.2=0) (T:s0.kept.length<=40000) (hk:∀j,j<=rs.length->(dH s0 (rs.take j)).kept.length<=1000000) (S:rs.length<=100000)
  (u:(bO (dH s0 rs) eQ).2.2=0) (s:1<=(bO (dH s0 rs) eQ).1.boots/\(bO (dH s0 rs) eQ).1.boots<=1099511627776)
  (h:aA H (Q::diskX db rows syn::F))
  (k:∀Q' gb ys a c H',aM Q Q'->ys.map Oy.o=recT s0 rs rs.length->(∀y∈ys,fI Q' y)->aA H' (Q'::slA 91 11 a ys.length c (flat bH ys)::gateA Q' gb db (kM o (dH s0 rs) rows)::F)->K (.tuple #[PA gb 0,.slice a ys.length c,aC 0]) H'):CF 16 #[PA db 0,.agg ⟨jp o⟩] H K:=by
 refine cM 16 8194785019629852 ?_;have N:fD o.cfg=true:=by
  unfold ff at f;simp only[Vz]at f;exact f.1.1.1.1
 refine h.al λb _ h=>⟨_,_,_,_,_,_,_,_,_,_,_,_,_,h.q 0,?_⟩
 refine Bh (o:=o) h λH1 h=>⟨_,rfl,λm=>?_,λ_=>?_⟩
 .rw [f]at m;cases m
 refine⟨_,h.r 0,?_⟩;have h:=h.o [2,0,1] 3;refine Qx ok (by omega) h (λ_ h2 qs Z has a c bb rb H2 n C h=>⟨_,_,_,_,_,_,_,_,_,rfl,?_⟩) λW=>Vu A W
 refine h.al λb1 _ h=>?_
 refine h.st 0 rfl rfl λH3 h=>⟨λm=>Vu m (by simp),λ_=>⟨_,_,_,_,_,_,_,_,_,h.q 6,_,_,_,_,_,_,_,h.q 0,?_⟩⟩
 have h:=h.o [7,4,3,0,1,2,5,6] 8;have d:=C.tell;have J:has=false/\s0=bU o.cfg\/has=true/\Z.bs=stB s0:=by
  rw[n]at d
  rcases i with ⟨e1,e2⟩|e1
  .rw [e1]at d
   cases has with
   | false=>exact .inl ⟨rfl,e2⟩
   | true=>simp at d
  .rw [e1]at d
   cases has with
   | false=>simp at d
   | true=>exact .inr ⟨rfl,by simpa using (Prod.mk.inj d).1.symm⟩
 have R:qs.map Ry.rc=rs.map λr=>⟨r.kind,r.bytes⟩:=by
  rw[n]at d
  rcases i with ⟨e1,_⟩|e1 <;> rw[e1]at d <;> exact (Prod.mk.inj d).2.symm
 have Y:Z.a=none\/∃k o,Z.a=some ⟨k,o,none⟩:=by
  rcases C.st with rfl|⟨r,hr,rfl⟩
  .exact .inl rfl
  .exact GZ h.tl r hr
 refine Rec_spec N R0 P J R hv I T hk S (λH h=>h.sl_rd 1 rfl) (λH h q hq=>zP h q (C.sub q hq)) (λH h=>C.rd h) Y h λQ1 sb ys oa oc H4 G hm U h=>⟨_,_,_,_,_,rfl,λm=>Vu m (by simp),λ_=>?_⟩
 have B:=rch_run R0 hv;have t:=hk rs.length (V2 _);rw[VW]at t;obtain⟨D,E⟩:∃D,dH s0 rs=D:=⟨_,rfl⟩;rw[E]at B t u s k h;refine⟨_,_,_,_,_,_,_,_,_,_,_,_,_,h.q 9,?_⟩;refine h.al λb2 H5 h=>?_
 have h:=h.sl_nil 91 11;have h:=h.o [2,1,4,0,8,9,10,3,11] 12;have A:=B9 (r:=eQ) B (λe M=>Vu M (by simp[eQ]))
 refine K7 (r:=eQ) (x:=⟨bb,rb,sb,.pointer none,none,0⟩) (o:=o) (recs:=0) (ys:=[]) B.ok (by have:=B.sunk;omega) t (recN rfl) A.1 A.2 O hB w (by omega) (by simp) (λy V=>Vu V (by simp)) h (λM=>Vu u M) λ_ Q2 zs pa pc H6 v h0 h3 h=>?_
 refine⟨_,rfl,λm=>Vu m (by decide),λ_=>?_⟩
 refine⟨some ⟨bb,0,none⟩,h.r 1,some ⟨rb,0,none⟩,h.r 4,?_⟩;have h:=h.o [5,6,0,1,2,3,4,7,8] 9;refine GD h λH7 h=>⟨rfl,?_⟩
 refine h.st 3 rfl rfl λH8 h=>?_
 refine h.st 3 rfl rfl λH9 h=>⟨some ⟨sb,0,none⟩,h.r 3,?_⟩
 refine⟨_,Ba (h.o [4,0,1,2,3,5,6,7,8] 9),_,h.r 8,?_⟩;have L:1<=o.probes/\o.probes<=1024:=by
  unfold ff at f;simp only[Vz,Vy]at f;exact f.1.1.1.2
 refine K3 h (λW=>Vu ⟨s.1,s.2,L⟩ W) λ_ pb h4 h=>⟨_,_,rfl,?_⟩
 refine h.st 4 rfl rfl λh1 h=>?_
 have h:=(h.o [4,5,7,1,2,0,3,8] 10).sl_nil 91 11;have h:=h.o [1,2,0,3,4,5,6,7,8] 9;have hg:=(gm (Q:=Q2) (g:=kM o D rows)).2 ⟨⟨bb,rb,sb,PA pb 0,none,0⟩,pb,[],rfl,rfl,λz hz=>Vu hz (by simp),h⟩
 exact k Q2 b2 ys oa oc _ (G.trans v) hm (λy V=>(U y V).sub v) (hg.o [1,2,0] 3)
end
structure I3 where
 a:Int
 e:Int
 n:Int
deriving DecidableEq
structure I2 where
 a:Int
 e:Int
deriving DecidableEq
structure VG where
 v:List (I3×Int)
 g:List (I2×Int)
def VG.vv(x:VG)(k:I3):Int:=(aJ k x.v).getD 0
def VG.gg(x:VG)(k:I2):Int:=(aJ k x.g).getD 0
def ackOk(x:VG)(a e next:Int):Prop:=∀n:Int,0<=n->n<next->n<10000->x.vv ⟨a,e,n⟩=1
inductive OneE:VG->bI->VG->Prop
 | grant {x e}:e.kind=1->OneE x e { x with g:=mset ⟨e.agent,e.epoch⟩ (x.gg ⟨e.agent,e.epoch⟩+1) x.g }
 | verdict {x e}:e.kind=3->x.vv ⟨e.ida,e.ide,e.seq⟩=0->1<=x.gg ⟨e.ida,e.ide⟩->OneE x e { x with v:=mset ⟨e.ida,e.ide,e.seq⟩ 1 x.v }
 | ack {x e}:e.kind=2->ackOk x e.agent e.epoch e.next->OneE x e x
 | emit {x e}:e.kind=4->OneE x e x
inductive fR:VG->List bI->VG->Prop
 | nil {x}:fR x [] x
 | snoc {x l y e z}:fR x l y->OneE y e z->fR x (l++[e]) z
theorem fR.append{x y z:VG}{a b:List bI}(h:fR x a y)(c:fR y b z):fR x (a++b) z:=by
 induction c with
 | nil=>rw[VT];exact h
 | snoc h3 h4 ih=>rw[<-V5];exact ih.snoc h4
theorem qQ{x:VG}{k a:I3}{v:Int}:({ x with v:=mset k v x.v }:VG).vv a=if a=k then v else x.vv a:=by
 unfold VG.vv;dsimp only;rw[lD]
 split <;> rfl
theorem xO{x:VG}{k a:I2}{v:Int}:({ x with g:=mset k v x.g }:VG).gg a=if a=k then v else x.gg a:=by
 unfold VG.gg;dsimp only;rw[lD]
 split <;> rfl
structure lW(s:aI)(x:VG)(B:Int):Prop where
 cur:∀a st,dL s a=some st->∀n,x.vv ⟨a,(bg s.rows a).epoch,n⟩=if 0<=n/\n<st.hs.next then 1 else 0
 gr:∀a,0<(bg s.rows a).epoch->1<=x.gg ⟨a,(bg s.rows a).epoch⟩
 new:∀a e n,(bg s.rows a).epoch<e->x.vv ⟨a,e,n⟩=0
 b:∀k,0<=x.gg k/\x.gg k<=B
theorem Mp{c:bD}{now a ep first:Int}{evs:List Pv}{j:JS}{x:VG}(i:∀n,x.vv ⟨a,ep,n⟩=if 0<=n/\n<first then 1 else 0)(u:0<=first)(b:1<=x.gg ⟨a,ep⟩):∀n,∃y,fR x (dh c now a ep first evs j n).2 y/\
  y.g=x.g/\(∀m,y.vv ⟨a,ep,m⟩=if 0<=m/\m<first+n then 1 else 0)/\∀k,¬(k.a=a/\k.e=ep)->y.vv k=x.vv k
 | 0=>⟨x,.nil,rfl,by simpa using i,λ_ _=>rfl⟩
 | n+1=>by
  obtain⟨y,s,d,f,t⟩:=Mp (c:=c) (now:=now) (evs:=evs) (j:=j) i u b n;refine⟨_,.snoc s (.verdict rfl ?_ ?_),d,λm=>?_,λk h=>?_⟩
  .show y.vv ⟨a,ep,first+n⟩=0;rw[f,nO]
  .show 1<=y.gg ⟨a,ep⟩;unfold VG.gg at b ⊢;rw[d];exact b
  .rw [qQ];show (if (⟨a,ep,m⟩:I3)=⟨a,ep,first+n⟩ then (1:Int) else y.vv ⟨a,ep,m⟩)=_
   rw[f]
   by_cases e:m=first+n
   .rw [Vt (by rw[e]),pO]
   .rw [Vs (by simp[e])]
    by_cases e2:0<=m/\m<first+n
    .rw [Vt e2,pO]
    .rw [Vs e2,nO]
  .rw [qQ,Vs,t k h];intro e;exact h (by rw[e];exact⟨rfl,rfl⟩)
theorem Mq{a ep:Int}{x:VG}(b:1<=x.gg ⟨a,ep⟩):∀{ks:List Int},ks.Nodup->(∀n∈ks,x.vv ⟨a,ep,n⟩=0)->∃y,fR x (ks.reverse.map (pB a ep)).reverse.reverse y/\
  y.g=x.g/\(∀n,n∉ks->y.vv ⟨a,ep,n⟩=x.vv ⟨a,ep,n⟩)/\∀k,¬(k.a=a/\k.e=ep)->y.vv k=x.vv k
 | [],_,_=>⟨x,.nil,rfl,λ_ _=>rfl,λ_ _=>rfl⟩
 | n::r,hn,h=>by
  rw[WK]at hn;obtain⟨y,c,i,d,j⟩:=Mq b hn.2 λm hm=>h m (VD _ hm)
  rw[List.reverse_reverse]at c ⊢;rw[List.reverse_cons,VJ];refine⟨_,.snoc c (.verdict rfl ?_ ?_),i,λm hm=>?_,λk f=>?_⟩
  .show y.vv ⟨a,ep,n⟩=0;rw[d n hn.1];exact h n (VA ..)
  .show 1<=y.gg ⟨a,ep⟩;unfold VG.gg at b ⊢;rw[i];exact b
  .simp only[V9,not_or]at hm;rw[qQ,Vs (by show ¬(⟨a,ep,m⟩:I3)=⟨a,ep,n⟩;simp[hm.1]),d m hm.2]
  .rw [qQ,Vs,j k f];intro e;exact f (by rw[e];exact⟨rfl,rfl⟩)
theorem UZ{a ep:Int}{x:VG}(i:1<=x.gg ⟨a,ep⟩){ks:List Int}(d:ks.Nodup)(h:∀n∈ks,x.vv ⟨a,ep,n⟩=0):∃y,fR x (ks.map (pB a ep)) y/\
  y.g=x.g/\∀k,¬(k.a=a/\k.e=ep)->y.vv k=x.vv k:=by
 obtain⟨y,b,f,j,c⟩:=Mq (ks:=ks.reverse) i (List.pairwise_reverse.2 (d.imp λh=>h.symm)) λn hm=>h n (List.mem_reverse.1 hm)
 rw[List.reverse_reverse,List.reverse_reverse]at b;exact⟨y,b,f,c⟩
theorem lW.same{s f:aI}{x:VG}{B:Int}(I:lW s x B)(d:f.rows=s.rows)(hs:∀a c,dL f a=some c->∃st,dL s a=some st/\st.hs.next=c.hs.next):lW f x (B+1) where
 cur a c h:=by
  obtain⟨st,i,j⟩:=hs a c h;rw[d,<-j];exact I.cur a st i
 gr a h:=by rw[d]at h ⊢;exact I.gr a h
 new a e n h:=by rw[d]at h;exact I.new a e n h
 b k:=by have:=I.b k;omega
theorem BF{s:aI}{k:Nat}{st:br}{now:Int}{ms:MS}{cm:CM}(b:k<s.sts.length)(a:Int) :
  dL { s with now:=now,ms:=ms,cm:=cm,sts:=s.sts.set k (some st) } a=if a=(k:Int) then some st else dL s a:=by
 unfold dL;dsimp only
 by_cases h0:a<0
 .rw [Vt h0,Vt h0,nO]
 .rw [Vs h0,Vs h0]
  by_cases e:a=(k:Int)
  .rw [Vt e];have:a.toNat=k:=by omega
   rw[this,List.getElem?_set_self b];rfl
  .rw [Vs e,List.getElem?_set_ne (by omega)]
theorem lW.setStr{s:aI}{x:VG}{B:Int}(I:lW s x B){k:Nat}{st b:br}{now:Int}{ms:MS}{cm:CM}(i:s.sts[k]?=some (some st))(h:b.hs.next=st.hs.next) :
  lW { s with now:=now,ms:=ms,cm:=cm,sts:=s.sts.set k (some b) } x (B+1):=by
 have f:k<s.sts.length:=(List.getElem?_eq_some_iff.1 i).1;refine I.same rfl λa d c=>?_
 rw[BF f]at c
 split at c
 .rename_i e
  cases c
  refine⟨st,?_,h.symm⟩;unfold dL;rw[nO,e];show (s.sts[((k:Int)).toNat]?).join=_;rw[V4,i];rfl
 .exact⟨d,c,rfl⟩
theorem Va{s:aI}{r:Rp}{x:VG}{B:Int}(ok:cR s)(I:lW s x B):∃y,fR x (dG s r) y/\lW (iq s r) y (B+1):=by
 unfold dG iq;have d:∀S:aI,S.rows=s.rows->S.sts=s.sts->lW S x (B+1):=λS A w=>I.same A λa U h=>⟨U,by unfold dL at h ⊢;rw[<-w];exact h,rfl⟩
 refine oF (P:=λq=>∃y,fR x q.2.1 y/\lW q.1 y (B+1)) (λ_=>⟨x,.nil,d s rfl rfl⟩) (λ_ _=>⟨x,.nil,d s rfl rfl⟩) (λ_ _ _=>⟨x,.nil,d _ rfl rfl⟩) (λF m E=>?_) (λF m E=>?_) (λF m E=>?_) (λF m E=>?_) (λ_ _ _=>?_) λF m E=>?_
 .
  have t:=iF F;have hg:=xv (most:=s.cfg.agents) ok.rows r.ag r.bt r.nw;unfold fC
  split
  .exact⟨x,.nil,d s rfl rfl⟩
  rename_i hn;have hn:=Decidable.not_not.1 hn
  split
  .rename_i m
   rcases hg with ⟨-,g2,g3,g4,g5⟩|⟨g1,_⟩
   .have K:r.ag.toNat<s.sts.length:=by rw[ok.len];have:=t.ag;omega
    have M:r.ag.toNat<s.rows.length:=by rw[ok.rows.len];have:=t.ag;omega
    have H:((r.ag.toNat:Nat):Int)=r.ag:=by have:=t.ag;omega
    generalize hG:(grant s.cfg.agents s.rows r.ag r.bt r.nw)=G at *;have first:∃y,fR x (jo s r.ag) y/\y.g=x.g/\∀k,¬(k.a=r.ag/\k.e=(bg s.rows r.ag).epoch)->y.vv k=x.vv k:=by
     unfold jo
     cases hs:dL s r.ag with
     | none=>exact⟨x,.nil,rfl,λ_ _=>rfl⟩
     | some st=>
      have f:=(Kx hs).2;have i:=ok.sts st (VY f);have N:=(ok.reg r.ag.toNat).1 ⟨st,f⟩;have L:0<(bg s.rows r.ag).epoch:=by
       obtain⟨e,A,w⟩:=N;unfold bg;rw[Vs (by have:=t.ag;omega),A];exact w
      refine UZ (I.gr _ L) (Et i.hs.rows.rising) λn hm=>?_
      rw[I.cur _ _ hs,Vs];obtain⟨p,V,rfl⟩:=V3.1 hm;have:=(i.hs.rows.inb p V).1;omega
    obtain⟨y,A,w,J⟩:=first;refine⟨_,A.snoc (.grant rfl),?_⟩;have v:∀a,bg G.1 a=if a=r.ag then G.2.1 else bg s.rows a:=by
     intro a;rw[g2]
     by_cases e:a=r.ag
     .rw [Vt e,e,B1 t.ag.1 M]
     .rw [Vs e];unfold bg
      by_cases h0:a<0
      .rw [Vt h0,Vt h0]
      .rw [Vs h0,Vs h0,List.getElem?_set_ne (by have:=t.ag;omega)]
    refine⟨λa st h n=>?_,λa h=>?_,λa e n h=>?_,λk=>?_⟩
    .dsimp only at h ⊢;rw[v];have Q:dL { s with now:=s.now,ms:=s.ms,cm:=s.cm,sts:=s.sts.set r.ag.toNat (some (lT s.cfg)) } a=some st:=h;rw[BF K,H]at Q
     by_cases e:a=r.ag
     .rw [Vt e]at Q ⊢
      cases Q
      show y.vv _=_;rw[J _ (by dsimp only;omega),e,I.new _ _ _ (by omega),Vs (by show ¬(0<=n/\n<0);omega)]
     .rw [Vs e]at Q ⊢;show y.vv _=_;rw[J _ (by dsimp only;omega)];exact I.cur a st Q n
    .dsimp only at h ⊢;rw[xO];rw[v]at h ⊢
     by_cases e:a=r.ag
     .rw [Vt e,Vt (by rw[e])];have:0<=y.gg ⟨r.ag,G.2.1.epoch⟩:=by unfold VG.gg;rw[w];exact (I.b _).1
      omega
     .rw [Vs e]at h ⊢;rw[Vs (by intro W;exact e (congrArg I2.a W))];unfold VG.gg;rw[w];exact I.gr a h
    .dsimp only at h ⊢;rw[v]at h;show y.vv _=_
     by_cases T:a=r.ag
     .rw [Vt T]at h;rw[J _ (by dsimp only;omega),T];exact I.new _ _ _ (by omega)
     .rw [Vs T]at h;rw[J _ (by dsimp only;omega)];exact I.new _ _ _ h
    .rw [xO];have hb:∀k,y.gg k=x.gg k:=λk=>by unfold VG.gg;rw[w]
     rw[hb,hb];have h5:=I.b k;have Y:=I.b ⟨r.ag,G.2.1.epoch⟩
     split
     .dsimp only;omega
     .omega
   .rw [g1]at m;cases m
  .rename_i m
   rcases hg with ⟨g1,_⟩|⟨-,g2,g3⟩
   .exact Vu g1 m
   .obtain⟨g4,g5⟩:=g3 hn;rw[g2];refine⟨_,fR.snoc (l:=[]) .nil (.grant rfl),?_⟩;refine⟨λa st h n=>I.cur a st h n,λa h=>?_,λa e n h=>I.new a e n h,λk=>?_⟩
    .rw [xO];have Y:=I.gr a h;have h7:=(I.b ⟨r.ag,(grant s.cfg.agents s.rows r.ag r.bt r.nw).2.1.epoch⟩).1
     split
     .dsimp only;omega
     .exact Y
    .rw [xO];have h5:=I.b k;have Y:=I.b ⟨r.ag,(grant s.cfg.agents s.rows r.ag r.bt r.nw).2.1.epoch⟩
     split
     .dsimp only;omega
     .omega
 .have t:=iF F;obtain⟨st,f⟩:=lg ok t m (.inl E);unfold mS;rw[f];exact⟨x,.nil,I.setStr f rfl⟩
 .
  have t:=iF F;obtain⟨st,f⟩:=lg ok t m (.inr (.inl E));have i:=ok.sts st (VY f);have H:((r.ag.toNat:Nat):Int)=r.ag:=by have:=t.ag;omega
  have K:r.ag.toNat<s.sts.length:=(List.getElem?_eq_some_iff.1 f).1;have h8:dL s r.ag=some st:=by unfold dL;rw[Vs (by have:=t.ag;omega),f];rfl
  have C:(bg s.rows r.ag).epoch=r.ep/\0<(bg s.rows r.ag).epoch:=by
   unfold fB at m;rw[nO,nO]at m;unfold sD at m
   split at m
   .simp at m
   .rename_i W;have T:=t.ep.1 (.inr (.inl E));have:isE s r.ag r.ep=true:=by
     cases e:isE s r.ag r.ep
     .exact Vu ⟨by omega,e⟩ W
     .rfl
    unfold isE at this;rw[Vz]at this;exact⟨Vw this.2,Vw this.1⟩
  unfold gD;rw[f];dsimp only;have u:(st.hs.offer r.nx r.evs).1.next=st.hs.next+((st.hs.offer r.nx r.evs).2.1.length:Nat)/\0<=st.hs.next:=by
   refine⟨?_,i.hs.next0⟩;unfold HS.offer
   split
   .simp
   .have A:=yL (vs:=r.evs) (n:=r.nx) (s:=(st.hs.rows,0)) (i.hs.rows.weaken (lo':=st.hs.next) (by omega) (VV _));exact (vU A.rising λp V=>(A.inb p V).1).2.1
  have hj:(kG s r st).1.st.hs=(st.hs.offer r.nx r.evs).1:=by
   unfold kG;generalize (st.hs.offer r.nx r.evs)=O;have:∀n,(dh s.cfg r.nw r.ag r.ep st.hs.next O.2.1 ⟨{ st with hs:=O.1 },s.ms,s.cm⟩ n).1.st.hs=O.1:=by
    intro n
    induction n with
    | zero=>rfl
    | succ n ih=>exact (xr s.cfg r.nw r.ag (dh s.cfg r.nw r.ag r.ep st.hs.next O.2.1 ⟨{ st with hs:=O.1 },s.ms,s.cm⟩ n).1.st (dh s.cfg r.nw r.ag r.ep st.hs.next O.2.1 ⟨{ st with hs:=O.1 },s.ms,s.cm⟩ n).1.ms (dh s.cfg r.nw r.ag r.ep st.hs.next O.2.1 ⟨{ st with hs:=O.1 },s.ms,s.cm⟩ n).1.cm (O.2.1.getD n Pv.z)).2.1.trans ih
   exact this _
  have D:=I.cur _ _ h8
  rw[C.1]at D;have R:=I.gr _ C.2;rw[C.1]at R;obtain⟨y,A,w,J,h4⟩:=Mp (c:=s.cfg) (now:=r.nw) (evs:=(st.hs.offer r.nx r.evs).2.1) (j:=⟨{ st with hs:=(st.hs.offer r.nx r.evs).1 },s.ms,s.cm⟩) D u.2 R (st.hs.offer r.nx r.evs).2.1.length;refine⟨y,A.snoc (.ack rfl ?_),?_⟩
  .intro n n0 n1 n2;dsimp only at n1 ⊢;rw[J,Vt (by rw[<-u.1];exact⟨n0,n1⟩)]
  .refine⟨λa Z h n=>?_,λa h=>?_,λa e n h=>?_,λk=>?_⟩
   .rw [BF K,H]at h;dsimp only
    by_cases e:a=r.ag
    .rw [Vt e]at h
     cases h
     rw[e,C.1,J,hj,u.1]
    .rw [Vs e]at h;rw[h4 _ (by dsimp only;omega)];exact I.cur a Z h n
   .unfold VG.gg;rw[w];exact I.gr a h
   .dsimp only at h;rw[h4 _ (by
     dsimp only;rintro⟨rfl,rfl⟩;omega)]
    exact I.new a e n h
   .have:=I.b k;unfold VG.gg at this ⊢;rw[w];omega
 .have t:=iF F;obtain⟨st,f⟩:=lg ok t m (.inr (.inr E));unfold lS;rw[f];dsimp only
  split
  .exact⟨x,.nil,d _ rfl rfl⟩
  split
  .exact⟨x,.nil,d _ rfl rfl⟩
  .exact⟨x,.nil,I.setStr f rfl⟩
 .refine⟨x,?_,d _ rfl rfl⟩;show fR x (dQ s.next (dt s r.nw) (dt s r.nw).length) x;have:∀n,fR x (dQ s.next (dt s r.nw) n) x:=λn=>by
   induction n with
   | zero=>exact .nil
   | succ n ih=>exact ih.snoc (.emit rfl)
  exact this _
 .refine⟨x,.nil,?_⟩;unfold mT
  split
  .exact d _ rfl rfl
  .exact d s rfl rfl
theorem once_new(c:bD):lW (bU c) ⟨[],[]⟩ 0 where
 cur a st h:=by
  unfold dL bU at h;dsimp only at h
  split at h
  .cases h
  .rw [List.getElem?_replicate]at h
   split at h <;> simp at h
 gr a h:=by
  exfalso;unfold bg bU at h;dsimp only at h
  split at h
  .simp [En.z]at h
  .rw [List.getElem?_replicate]at h
   split at h <;> simp[En.z]at h
 new a e n h:=rfl
 b k:=⟨VV _,VV _⟩
def ju(s:aI):List Rp->List bI
 | []=>[]
 | r::rs=>dG s r++ju (iq s r) rs
theorem BG(r:Rp):∀(rs:List Rp) (s:aI),ju s (rs++[r])=ju s rs++dG (dH s rs) r
 | [],s=>by simp[ju,dH]
 | x::rs,s=>by
  rw[W0,ju,BG r rs,ju,V5];rfl
theorem Vb(s:aI)(rs:List Rp)(r:Rp):dH s (rs++[r])=iq (dH s rs) r:=by
 unfold dH;rw[WF];rfl
def okE(e:bI):Prop:=(e.kind=1->fe (mU e.agent e.epoch e.boot)=true)/\(e.kind=2->fe (mV e.agent e.epoch e.next)=true)
structure Hs(c:bD)(n:Nat)(s:aI)(E:List bI):Prop where
 R:RunR s c n
 num:NumI s (emO E)
 once:∃x,fR ⟨[],[]⟩ E x/\∃B,lW s x B
 nums:∀e∈E,e.kind=4->0<=e.number/\(emO E)[e.number.toNat]?=some e.out
 sunk:0<=s.sunk
 boots:s.boots<=n
 rgt:∀e∈E,okE e
 len:E.length<=2000*n
theorem Hs.mono{c:bD}{n m:Nat}{s:aI}{E:List bI}(h:Hs c n s E)(hm:n<=m):Hs c m s E:=
 ⟨⟨h.R.R,h.R.cfg,VI h.R.kept (WV _ hm)⟩,h.num,h.once,h.nums,h.sunk,by have:=h.boots;omega,h.rgt,by have:=h.len;omega⟩
theorem Hs.new{c:bD}(b:fD c=true):Hs c 0 (bU c) []:=
 ⟨runR_new (uA b),⟨by simp[bU,emO],by simp[bU,emO]⟩,⟨_,.nil,0,once_new c⟩,λe a=>Vu a (by simp),by simp[bU],by simp[bU],λe a=>Vu a (by simp),by simp⟩
theorem Vc{s:aI}{r:Rp}:(iq s r).boots<=s.boots+1:=by
 refine oF (P:=λq=>q.1.boots<=s.boots+1) (λ_=>?_) (λ_ _=>?_) (λ_ _ _=>?_) (λ_ _ _=>?_) (λ_ _ _=>?_) (λ_ _ _=>?_) (λ_ _ _=>?_) (λ_ _ _=>?_) (λ_ _ _=>?_)
 .dsimp only;omega
 .dsimp only;omega
 .dsimp only;omega
 .unfold fC;split
  .dsimp only;omega
  .split <;> (dsimp only;omega)
 .unfold mS;split <;> (dsimp only;omega)
 .unfold gD;split <;> (dsimp only;omega)
 .unfold lS;split
  .split
   .dsimp only;omega
   .split <;> (dsimp only;omega)
  .dsimp only;omega
 .unfold kH;dsimp only;omega
 .unfold mT;split <;> (dsimp only;omega)
theorem Mr{a ep bt:Int}(b:0<=a/\a<=63)(d:0<=ep/\ep<=1099511627776)(c:0<=bt/\bt<=1099511627776):fe (mU a ep bt)=true:=by
 simp[fe,mU,aV,gU,Fq.nums];omega
theorem rgt_ack{a ep nx:Int}(c:0<=a/\a<=63)(d:0<=ep/\ep<=1099511627776)(b:0<=nx/\nx<=1099511627776):fe (mV a ep nx)=true:=by
 simp[fe,mV,aV,gU,Fq.nums,b.2];omega
theorem BH{e:bI}(a:e.kind≠1)(b:e.kind≠2):okE e:=⟨λh=>Vu h a,λh=>Vu h b⟩
theorem okE_step{s:aI}{r:Rp}(R:Rch s)(A:∀e∈r.evs,aF e.value):∀e∈dG s r,okE e:=by
 have b:=uP R A (r:=r);revert b;unfold dG iq;refine oF (P:=λq=>Rch q.1->∀e∈q.2.1,okE e) (λ_ _ e a=>Vu a (by simp)) (λ_ _ _ e a=>Vu a (by simp)) (λ_ _ _ _ e a=>Vu a (by simp)) (λt f x b=>?_) (λ_ _ _ _ e a=>Vu a (by simp)) (λt f x b=>?_) (λ_ _ _ _ e a=>Vu a (by simp)) (λ_ _ _ _ e a=>?_) (λ_ _ _ _ e a=>Vu a (by simp))
 .have d:=iF t;have w:=xv (most:=s.cfg.agents) R.ok.rows r.ag r.bt r.nw;have c:r.ag.toNat<s.rows.length:=by rw[R.ok.rows.len];have:=d.ag;omega
  revert b;unfold fC
  split
  .intro _ e a;cases a
  rename_i u;have u:=Decidable.not_not.1 u
  split
  .rename_i f;intro b e a
   rcases w with ⟨-,g2,g3,g4,g5⟩|⟨g1,_⟩
   .rcases VK.1 a with a|a
    .have:=LF e a;exact BH (by omega) (by omega)
    .rw [V6]at a;subst a;have e1:=B1 (e:=(grant s.cfg.agents s.rows r.ag r.bt r.nw).2.1) d.ag.1 c;have i:=b.rows r.ag;have k:=b.ok.rows.ep (grant s.cfg.agents s.rows r.ag r.bt r.nw).2.1;dsimp only at i k;rw[g2,e1]at i;rw[g2]at k;have m:=k (List.mem_iff_getElem.2 ⟨r.ag.toNat,by rw[Yv];exact c,by rw[List.getElem_set_self]⟩);have B:=i g3;exact⟨λ_=>Mr d.ag (by dsimp only;omega) (by dsimp only;omega),λh=>Vu h (show ¬(1:Int)=2 by decide)⟩
   .rw [g1]at f;cases f
  .rename_i f;intro b e a
   rcases w with ⟨g1,_⟩|⟨-,g2,g3⟩
   .exact Vu g1 f
   .obtain⟨g4,g5⟩:=g3 u;rw[V6]at a;subst a;have i:=R.rows r.ag g5;have m:=R.ok.rows.at r.ag;rw[g4];exact⟨λ_=>Mr d.ag (by dsimp only;omega) (by dsimp only;omega),λh=>Vu h (show ¬(1:Int)=2 by decide)⟩
 .have d:=iF t;obtain⟨st,j⟩:=lg R.ok d f (.inr (.inl x));have c:r.ag.toNat<s.sts.length:=(List.getElem?_eq_some_iff.1 j).1;revert b;unfold gD;rw[j];intro b e a;dsimp only at a b
  rcases VK.1 a with a|a
  .have:=By _ e a;exact BH (by omega) (by omega)
  .rw [V6]at a;subst a;have y:(kG s r st).1.st.hs=(st.hs.offer r.nx r.evs).1:=by
    unfold kG;generalize (st.hs.offer r.nx r.evs)=O;have:∀n,(dh s.cfg r.nw r.ag r.ep st.hs.next O.2.1 ⟨{ st with hs:=O.1 },s.ms,s.cm⟩ n).1.st.hs=O.1:=by
     intro n
     induction n with
     | zero=>rfl
     | succ n ih=>exact (xr s.cfg r.nw r.ag (dh s.cfg r.nw r.ag r.ep st.hs.next O.2.1 ⟨{ st with hs:=O.1 },s.ms,s.cm⟩ n).1.st (dh s.cfg r.nw r.ag r.ep st.hs.next O.2.1 ⟨{ st with hs:=O.1 },s.ms,s.cm⟩ n).1.ms (dh s.cfg r.nw r.ag r.ep st.hs.next O.2.1 ⟨{ st with hs:=O.1 },s.ms,s.cm⟩ n).1.cm (O.2.1.getD n Pv.z)).2.1.trans ih
    exact this _
   have hs:=b.ok.sts (kG s r st).1.st (List.mem_iff_getElem.2 ⟨r.ag.toNat,by dsimp only;rw[Yv];exact c,by dsimp only;rw[List.getElem_set_self]⟩);have i:=hs.next;have k:=hs.hs.next0;rw[y]at i k;have m:=d.ep.2;exact⟨λh=>Vu h (show ¬(2:Int)=1 by decide),λ_=>rgt_ack d.ag m (by dsimp only;omega)⟩
 .obtain⟨q,v,rfl⟩:=Wn a;have v:q<(dQ s.next (dt s r.nw) (dt s r.nw).length).length:=v;show okE (dQ s.next (dt s r.nw) (dt s r.nw).length)[q];rw[xI];exact BH (show (4:Int)≠1 by decide) (show (4:Int)≠2 by decide)
theorem Ms{s:aI}{r:Rp}(ok:cR s):(dG s r).length<=2000:=by
 cases hR:r.right with
 | false=>
  have:dG s r=[]:=by unfold dG bO;rw[Vt hR]
  rw[this];simp
 | true=>exact B7 ok (by have:=Rp.right_len hR;omega)
theorem BI{A B:List bI}(h:A <+: B):emO A <+: emO B:=by
 obtain⟨C,rfl⟩:=h;rw[uL];exact Yw _ _
theorem BJ{α:Type}{A B:List α}(h:A <+: B){i:Nat}{x:α}(hi:A[i]?=some x):B[i]?=some x:=by
 obtain⟨C,rfl⟩:=h;rw[List.getElem?_append_left (List.getElem?_eq_some_iff.1 hi).1];exact hi
theorem Hs.step{c:bD}{n:Nat}{s:aI}{E:List bI}(h:Hs c n s E){r:Rp}(d:∀e∈r.evs,aF e.value):Hs c (n+1) (iq s r) (E++dG s r):=by
 obtain⟨n1,n2,n3⟩:=num_step (r:=r) h.sunk h.num;obtain⟨x,i,B,I⟩:=h.once;obtain⟨y,j,J⟩:=Va (r:=r) h.R.R.ok I;refine⟨h.R.step d,by rw[uL];exact n2,⟨y,i.append j,_,J⟩,λe a b=>?_,n3,?_,λe a=>?_,by rw[Vv];have:=h.len;have:=Ms (r:=r) h.R.R.ok;omega⟩
 .rcases VK.1 a with a|a
  .have:=h.nums e a b;exact⟨this.1,BJ (BI (Yw _ _)) this.2⟩
  .obtain⟨k,f,rfl⟩:=Wn a;have e1:=n1 k f b;refine⟨by omega,?_⟩;have e2:dG s r=(dG s r).take k++((dG s r)[k]::(dG s r).drop (k+1)):=by rw[<-Wm f,Wl]
   have e3:emO (dG s r)=emO ((dG s r).take k)++((dG s r)[k].out::emO ((dG s r).drop (k+1))):=by
    conv=>lhs;rw[e2]
    rw[uL];congr 1;unfold emO;rw[Wa,Vt (VF b),VS]
   rw[uL,e3,e1,List.getElem?_append_right (by omega),List.getElem?_append_right (by omega)];rw[show ((((emO E).length:Nat):Int)+((emO ((dG s r).take k)).length:Nat)).toNat-(emO E).length-(emO ((dG s r).take k)).length=0 by omega];rfl
 .have:=Vc (s:=s) (r:=r);have:=h.boots;omega
 .rcases VK.1 a with a|a
  .exact h.rgt e a
  .exact okE_step h.R.R d e a
theorem Hs.run{c:bD}:∀{rs:List Rp} {n:Nat} {s:aI} {E:List bI},Hs c n s E->(∀r∈rs,∀e∈r.evs,aF e.value)->Hs c (n+rs.length) (dH s rs) (E++ju s rs)
 | [],n,s,E,h,_=>by
  rw[ju,VT];exact h
 | r::rs,n,s,E,h,hv=>by
  have:=Hs.run (h.step (hv r (VA ..))) λx a=>hv x (VD _ a)
  rw[ju,<-V5,V1,show n+(rs.length+1)=n+1+rs.length by omega];exact this
def rcO(r:Rp):Rc:=⟨r.kind,r.bytes⟩
structure Led(c:bD)(n:Nat)(l:List Rc)(s0:aI)(E0:List bI)(rs:List Rp)(m:Nat):Prop where
 h0:Hs c m s0 E0
 len:m+rs.length<=n
 tell:dw l=(none,rs.map rcO)/\s0=bU c/\E0=[]\/dw l=(some (stB s0),rs.map rcO)
 vals:∀r∈rs,∀e∈r.evs,aF e.value
 oks:∀j (hj:j<rs.length),(bO (dH s0 (rs.take j)) rs[j]).2.2=0
def fg(c:bD)(n:Nat)(l:List Rc)(s:aI)(E E0:List bI):Prop:=∃s0 rs m,Led c n l s0 E0 rs m/\s=dH s0 rs/\E=E0++ju s0 rs
theorem fg.hs{c:bD}{n:Nat}{l:List Rc}{s:aI}{E a:List bI}(h:fg c n l s E a):Hs c n s E:=by
 obtain⟨s0,b,m,h,rfl,rfl⟩:=h;exact (h.h0.run h.vals).mono h.len
theorem fg.mono{c:bD}{n b:Nat}{l:List Rc}{s:aI}{E a:List bI}(h:fg c n l s E a)(d:n<=b):fg c b l s E a:=by
 obtain⟨s0,f,m,h,e⟩:=h;exact⟨s0,f,m,⟨h.h0,VI h.len d,h.tell,h.vals,h.oks⟩,e⟩
theorem fg.same{c:bD}{n:Nat}{l a:List Rc}{s:aI}{E b:List bI}(h:fg c n l s E b)(e:dw l=dw a):fg c n a s E b:=by
 obtain⟨s0,f,m,h,d⟩:=h;exact⟨s0,f,m,⟨h.h0,h.len,by rw[<-e];exact h.tell,h.vals,h.oks⟩,d⟩
theorem fg.pre{c:bD}{n:Nat}{l:List Rc}{s:aI}{E a:List bI}(h:fg c n l s E a):a <+: E:=by
 obtain⟨s0,b,m,h,rfl,rfl⟩:=h;exact Yw _ _
theorem fg.new{c:bD}(a:fD c=true):fg c 0 [] (bU c) [] []:=
 ⟨bU c,[],0,⟨Hs.new a,V2 _,.inl ⟨rfl,rfl,rfl⟩,λr d=>Vu d (by simp),λj b=>Vu b (by simp)⟩,rfl,rfl⟩
theorem fg.rec{c:bD}{n:Nat}{l:List Rc}{s:aI}{E i:List bI}(h:fg c n l s E i){r:Rp}(u:∀e∈r.evs,aF e.value)(k:(bO s r).2.2=0):fg c (n+1) (l++[rcO r]) (iq s r) (E++dG s r) i:=by
 obtain⟨s0,b,m,h,rfl,rfl⟩:=h;have v:r.kind≠0:=by
  have t:=sE k;unfold Rp.right at t;simp only[Vz,Vy]at t;omega
 refine⟨s0,b++[r],m,⟨h.h0,by rw[Vv];have:=h.len;simp only[V1,VN];omega,?_,λx a=>?_,λj f=>?_⟩,(Vb _ _ _).symm,by rw[BG,V5]⟩
 .rw [Io,Vs (show ¬(rcO r).kind=0 from v)]
  rcases h.tell with ⟨t1,t2⟩|t1
  .exact .inl ⟨by rw[t1,VJ];rfl,t2⟩
  .exact .inr (by rw[t1,VJ];rfl)
 .rcases VK.1 a with a|a
  .exact h.vals x a
  .rw [V6]at a;subst a;exact u
 .rw [Vv]at f;simp only[V1,VN]at f
  rcases VO j b.length with d|d
  .rw [Yj (by omega)];have:=h.oks j d;rw[List.getElem_append_left d];exact this
  .obtain rfl:j=b.length:=by omega
   have e:(b++[r])[b.length]'(by simp)=r:=by simp
   rw[List.take_left,e];exact k
theorem fg.chk{c:bD}{n:Nat}{l:List Rc}{s:aI}{E d:List bI}(h:fg c n l s E d):fg c n (l++[⟨0,stB s⟩]) s E E:=
 ⟨s,[],n,⟨h.hs,V2 _,.inr (by rw[Io,Vt rfl];rfl),λr b=>Vu b (by simp),λj a=>Vu a (by simp)⟩,rfl,by rw[ju,VT]⟩
theorem Mt(s:aI)(rs:List Rp):∀n,recT s rs n=iH s s.kept.length++(ju s (rs.take n)).flatMap cI
 | 0=>by simp[recT,ju]
 | n+1=>by
  rw[recT,Mt s rs n]
  cases h:rs[n]? with
  | none=>rw[List.take_add_one,h];simp
  | some r=>rw[List.take_add_one,h,Option.toList_some,BG,Ws,V5]
theorem BK{f:Fq}(c:f.kind≠5)(d:f.kind≠8)(j:jb { kind:=f.kind } (aV f.kind) ((aV f.kind).map f.nums)=f)(b:fe f=true):fE (cA f)=.ok f:=by
 have hb:j9 f=aO [f.kind]++nmF f (aV f.kind):=by unfold j9 mL;rw[Vs c,Vs d,VT]
 have m:(j9 f).length<=100:=by
  have k:=dK [f.kind];have l1:=J7 f (aV f.kind);have lo:=xa f.kind;rw[hb,Vv];simp only[V1,VN]at k;omega
 have hs:(eK (j9 f)).length<=104:=by rw[rU];omega
 have a:=b;unfold fe at a;simp only[Vz,Vy,Wg]at a;have e:cA f=eK (j9 f):=by unfold cA;rw[Vs (by rw[b];simp),nO]
 unfold fE;rw[e,nO,G1,Vs (by simp)];dsimp only;unfold nS px;have e2:aO [f.kind]++nmF f (aV f.kind)=aO [f.kind]++(((aV f.kind).flatMap λi=>aO [f.nums i])++[]):=by rw[VT]
 rw[hb,e2,uD (by omega) (by omega)];dsimp only;rw[nO];dsimp only;rw[B6 (λi hi=>by have:=a.1.2 i hi;unfold aF;omega) _ _ (V2 _),VW,Wu]
 dsimp only;unfold mN;rw[j,Vs c,Vs d];unfold endQ;dsimp only;have h:dF ⟨0,([]:List Nat).flatMap (λi=>aO [f.nums i])++[]⟩=⟨0,[]⟩:=rfl
 rw[h,Vs (by simp),Vt b]
theorem Vd{a e b:Int}(h:fe (mU a e b)=true):fE (cA (mU a e b))=.ok (mU a e b):=BK (show (2:Int)≠5 by decide) (show (2:Int)≠8 by decide) rfl h
theorem ack_back{a e b:Int}(h:fe (mV a e b)=true):fE (cA (mV a e b))=.ok (mV a e b):=BK (show (6:Int)≠5 by decide) (show (6:Int)≠8 by decide) rfl h
theorem Mu{a e b:Int}(h:fe (dU a e b)=true):fE (cA (dU a e b))=.ok (dU a e b):=BK (show (3:Int)≠5 by decide) (show (3:Int)≠8 by decide) rfl h
structure HM where
 v:List (I3×Ou)
 e:List (Int×List Int)
def Ou.id(o:Ou):I3:=⟨o.ida,o.ide,o.seq⟩
def HOk1(h:HM)(o:Ou):Prop:=
 (o.kind=2->∀w,aJ o.id h.v=some w->w.reason=o.reason/\w.win=o.win/\w.lo=o.lo/\w.hi=o.hi)/\(o.kind=3->∀b,aJ o.num h.e=some b->b=o.bs)/\
 (o.kind=1->∃f,fE o.bs=.ok f/\f.ag=o.ag/\(f.kind=6->∀n:Int,0<=n->n<f.next->n<10000->∃w,aJ ⟨f.ag,f.ep,n⟩ h.v=some w))
def ni(h:HM)(o:Ou):HM:=if o.kind=2 then { h with v:=mset o.id o h.v } else if o.kind=3 then { h with e:=mset o.num o.bs h.e } else h
def eT(h:HM)(l:List Ou):Nat->HM
 | 0=>h
 | n+1=>match l[n]? with
  | some o=>ni (eT h l n) o
  | none=>eT h l n
def HOk(h:HM)(l:List Ou):Prop:=∀i (hi:i<l.length),HOk1 (eT h l i) l[i]
theorem BL(h:HM)(a b:List Ou):∀i,i<=a.length->eT h (a++b) i=eT h a i
 | 0,_=>rfl
 | i+1,hi=>by rw[eT,eT,BL h a b i (by omega),List.getElem?_append_left (by omega)]
theorem uR(h:HM)(a b:List Ou):∀i,eT h (a++b) (a.length+i)=eT (eT h a a.length) b i
 | 0=>BL h a b _ (V2 _)
 | i+1=>by rw[<-Wk,eT,eT,uR h a b i,List.getElem?_append_right (by omega),WS]
theorem HOk.app{h:HM}{a b:List Ou}(d:HOk h a)(e:HOk (eT h a a.length) b):HOk h (a++b):=by
 intro i hi
 rcases VO i a.length with c|c
 .rw [BL h a b i (by omega),List.getElem_append_left c];exact d i c
 .obtain⟨j,rfl⟩:∃j,i=a.length+j:=⟨i-a.length,by omega⟩;rw[uR,List.getElem_append_right (by omega)];have:=e j (by rw[Vv]at hi;omega);simpa using this
def lX(e:bI):I3:=⟨e.ida,e.ide,e.seq⟩
def verO(e:bI):Ou:={ kind:=2,ida:=e.ida,ide:=e.ide,seq:=e.seq,reason:=e.reason,win:=e.win,lo:=e.gap.lo,hi:=e.gap.hi }
structure HJ(h:HM)(P T:List bI):Prop where
 ver:∀k w,aJ k h.v=some w->∃e∈T,e.kind=3/\lX e=k/\w=verO e
 emi:∀n b,aJ n h.e=some b->0<=n/\∃o,(emO T)[n.toNat]?=some o/\b=(jE n o).bs
 has:∀e∈P,e.kind=3->∃w,aJ (lX e) h.v=some w
theorem HJ.mono{h:HM}{P P' T d:List bI}(H:HJ h P T)(f:T <+: d)(m:∀e∈P',e∈P):HJ h P' d:=
 ⟨λk w i=>by obtain⟨e,c,a⟩:=H.ver k w i;exact⟨e,f.subset c,a⟩,λn b hb=>by obtain⟨h0,o,c,a⟩:=H.emi n b hb;exact⟨h0,o,BJ (BI f) c,a⟩,λe j=>H.has e (m e j)⟩
theorem hj0:HJ ⟨[],[]⟩ [] []:=⟨λk w h=>by simp[aJ]at h,λn b h=>by simp[aJ]at h,λe a=>Vu a (by simp)⟩
theorem fR.vv{x y:VG}{E:List bI}(h:fR x E y):∀k,y.vv k≠0->x.vv k≠0\/∃e∈E,e.kind=3/\lX e=k:=by
 induction h with
 | nil=>exact λk a=>.inl a
 | snoc h1 h2 ih=>
  intro k a
  cases h2 with
  | grant h3=>
   rcases ih k a with h|⟨e,b,h⟩
   .exact .inl h
   .exact .inr ⟨e,WJ _ b,h⟩
  | verdict h3 h4 h5=>
   rw[qQ]at a
   split at a
   .rename_i c;exact .inr ⟨_,WX _ (V6.2 rfl),h3,c.symm⟩
   .rcases ih k a with h|⟨e,b,h⟩
    .exact .inl h
    .exact .inr ⟨e,WJ _ b,h⟩
  | ack h3 h4=>
   rcases ih k a with h|⟨e,b,h⟩
   .exact .inl h
   .exact .inr ⟨e,WJ _ b,h⟩
  | emit h3=>
   rcases ih k a with h|⟨e,b,h⟩
   .exact .inl h
   .exact .inr ⟨e,WJ _ b,h⟩
theorem fR.vv'{x y:VG}{E:List bI}(h:fR x E y):(∀k,x.vv k≠0->y.vv k≠0)/\∀e∈E,e.kind=3->y.vv (lX e)≠0:=by
 induction h with
 | nil=>exact⟨λk b=>b,λe d=>Vu d (by simp)⟩
 | snoc h1 h2 ih=>
  rename_i e _ _;have key:∀k,(‹VG›).vv k≠0->True:=λ_ _=>trivial
  cases h2 with
  | grant h3=>
   refine⟨λk b=>ih.1 k b,λc a h=>?_⟩
   rcases VK.1 a with a|a
   .exact ih.2 c a h
   .rw [V6]at a;subst a;omega
  | verdict h3 h4 h5=>
   refine⟨λk b=>?_,λc a h=>?_⟩
   .rw [qQ];split
    .decide
    .exact ih.1 k b
   .rw [qQ];split
    .decide
    .rename_i b
     rcases VK.1 a with a|a
     .exact ih.2 c a h
     .rw [V6]at a;subst a;exact Vu rfl b
  | ack h3 h4=>
   refine⟨λk b=>ih.1 k b,λc a h=>?_⟩
   rcases VK.1 a with a|a
   .exact ih.2 c a h
   .rw [V6]at a;subst a;omega
  | emit h3=>
   refine⟨λk b=>ih.1 k b,λc a h=>?_⟩
   rcases VK.1 a with a|a
   .exact ih.2 c a h
   .rw [V6]at a;subst a;omega
structure Clear(T:List bI):Prop where
 one:T.Pairwise λa b=>a.kind=3->b.kind=3->lX a≠lX b
 ack:∀P e S,T=P++e::S->e.kind=2->∀n:Int,0<=n->n<e.next->n<10000->∃d∈P,d.kind=3/\lX d=⟨e.agent,e.epoch,n⟩
theorem clear_of{T:List bI}{y:VG}(h:fR ⟨[],[]⟩ T y):Clear T:=by
 generalize hx:(⟨[],[]⟩:VG)=x at h
 induction h with
 | nil=>exact⟨List.Pairwise.nil,λP e S h=>by simp at h⟩
 | snoc h1 h2 ih=>
  subst hx;refine⟨?_,λP m S c v n h0 i j=>?_⟩
  .rw [List.pairwise_append];refine⟨ih.one,List.pairwise_singleton _ _,λa u b hb t s f=>?_⟩
   rw[V6]at hb;subst hb;have:=(fR.vv' h1).2 a u t
   cases h2 with
   | grant h=>omega
   | verdict _ h5 _=>rw[f]at this;exact this h5
   | ack h=>omega
   | emit h=>omega
  .rcases Y1 S with rfl|⟨k,z,rfl⟩
   .obtain⟨rfl,d⟩:=List.append_inj' c rfl;have d:=(List.cons.inj d).1;subst d
    cases h2 with
    | grant h=>omega
    | verdict h _ _=>omega
    | ack h5 h6=>
     have w:=h6 n h0 i j
     rcases fR.vv h1 ⟨_,_,n⟩ (by rw[w];decide) with h8|h8
     .exact Vu rfl h8
     .exact h8
    | emit h=>omega
   .rw [Y2,<-W0,<-V5]at c;obtain⟨rfl,_⟩:=List.append_inj' c rfl;exact ih.ack P m k rfl v n h0 i j
theorem Clear.same{T:List bI}(h:Clear T){a b:bI}(m:a∈T)(hb:b∈T)(f:a.kind=3)(d:b.kind=3)(e:lX a=lX b):a=b:=by
 obtain⟨i,hi,rfl⟩:=Wn m;obtain⟨j,k,rfl⟩:=Wn hb
 rcases Nat.lt_trichotomy i j with c|c|c
 .exact Vu e (Yl.1 h.one i j hi k c f d)
 .subst c;rfl
 .exact Vu e.symm (Yl.1 h.one j i k hi c d f)
theorem hear_one{c:bD}{n:Nat}{s:aI}{T:List bI}(hs:Hs c n s T){h:HM}{P S:List bI}{e:bI}(F:T=P++e::S)(H:HJ h P T):HOk h (cI e)/\HJ (eT h (cI e) (cI e).length) (P++[e]) T:=by
 have hm:e∈T:=by rw[F];simp
 obtain⟨y,G,_⟩:=hs.once;have C:=clear_of G;have E:=hs.rgt e hm;have keep:e.kind≠3->HJ h (P++[e]) T:=λj=>⟨H.ver,H.emi,λd hd a=>by
  rcases VK.1 hd with hd|hd
  .exact H.has d hd a
  .rw [V6]at hd;subst hd;exact Vu a j⟩
 have one:∀o,HOk1 h o->HOk h [o]:=λo m i hi=>by
  have:i=0:=by simpa using hi
  subst this;exact m
 unfold cI
 split
 .rename_i u;refine⟨one _ ⟨λh=>Vu h (show (1:Int)≠2 by decide),λh=>Vu h (show (1:Int)≠3 by decide),λ_=>⟨_,Vd (E.1 u),rfl,λh=>Vu h (show (2:Int)≠6 by decide)⟩⟩,keep (by omega)⟩
 split
 .rename_i u t;refine⟨one _ ⟨λh=>Vu h (show (1:Int)≠2 by decide),λh=>Vu h (show (1:Int)≠3 by decide),λ_=>⟨_,ack_back (E.2 t),rfl,λ_ n h0 B A=>?_⟩⟩,keep (by omega)⟩
  obtain⟨d,hd,a,x⟩:=C.ack P e S F t n h0 B A;have:=H.has d hd a;rw[x]at this;exact this
 split
 .rename_i u t j;refine⟨one (verO e) ⟨λ_ w f=>?_,λh=>Vu h (show (2:Int)≠3 by decide),λh=>Vu h (show (2:Int)≠1 by decide)⟩,⟨λk w f=>?_,H.emi,λd hd a=>?_⟩⟩
  .obtain⟨d,hd,a,x,rfl⟩:=H.ver _ w f;have:d=e:=C.same hd hm a j x;subst this;exact⟨rfl,rfl,rfl,rfl⟩
  .have f:aJ k (mset (lX e) (verO e) h.v)=some w:=f;rw[lD]at f
   split at f
   .rename_i a
    cases f
    exact⟨e,hm,j,a.symm,rfl⟩
   .exact H.ver k w f
  .show ∃w,aJ (lX d) (mset (lX e) (verO e) h.v)=some w;rw[lD]
   split
   .exact⟨_,rfl⟩
   .rename_i D
    rcases VK.1 hd with hd|hd
    .exact H.has d hd a
    .rw [V6]at hd;subst hd;exact Vu rfl D
 split
 .rename_i u t j A;obtain⟨n0,B⟩:=hs.nums e hm A;refine⟨one (jE e.number e.out) ⟨λh=>Vu h (show (3:Int)≠2 by decide),λ_ b hb=>?_,λh=>Vu h (show (3:Int)≠1 by decide)⟩,⟨H.ver,λn b hb=>?_,(keep j).has⟩⟩
  .obtain⟨_,o,m,rfl⟩:=H.emi _ b hb;have m:(emO T)[e.number.toNat]?=some o:=m;rw[B]at m
   cases m
   rfl
  .have hb:aJ n (mset e.number (jE e.number e.out).bs h.e)=some b:=hb;rw[lD]at hb
   split at hb
   .rename_i x
    cases hb
    subst x;exact⟨n0,_,B,rfl⟩
   .exact H.emi n b hb
 .rename_i u t j A;exact⟨λi hi=>Vu hi (by simp),keep j⟩
theorem BM{c:bD}{n:Nat}{s:aI}{T:List bI}(hs:Hs c n s T):∀{X:List bI} {h:HM} {P S:List bI},T=P++X++S->HJ h P T->HOk h (X.flatMap cI)/\HJ (eT h (X.flatMap cI) (X.flatMap cI).length) (P++X) T
 | [],h,P,S,hT,H=>⟨λi hi=>Vu hi (by simp),by rw[VT];exact H⟩
 | e::X,h,P,S,hT,H=>by
  obtain⟨a1,a2⟩:=hear_one (e:=e) (S:=X++S) hs (by rw[hT];simp) H;obtain⟨b1,b2⟩:=BM (X:=X) (P:=P++[e]) (S:=S) hs (by rw[hT];simp) a2;rw[VU];refine⟨a1.app b1,?_⟩;rw[Vv,uR,show P++e::X=P++[e]++X by simp];exact b2
theorem Mv{c:bD}{n:Nat}{s:aI}{T k:List bI}(h0:Hs c n s k)(t:k <+: T){P:List bI}{h:HM}(H:HJ h P T):∀j,j<=s.kept.length->HOk h (iH s j)/\HJ (eT h (iH s j) (iH s j).length) P T
 | 0,_=>⟨λi hi=>Vu hi (by simp[iH]),H⟩
 | j+1,hj=>by
  obtain⟨a1,a2⟩:=Mv h0 t H j (by omega);have m:(emO T)[(s.sunk+(j:Nat)).toNat]?=some (s.kept.getD j Ot.z):=by
   refine BJ (BI t) ?_;rw[h0.num.kept,Yd,List.getElem?_drop];have hs:=h0.sunk;have w:=h0.num.len;rw[show s.sunk.toNat+j=(s.sunk+(j:Nat)).toNat by omega,List.getElem?_eq_getElem (by omega)];rfl
  obtain⟨d,f⟩:∃d,eT h (iH s j) (iH s j).length=d:=⟨_,rfl⟩;rw[f]at a2;have u:=h0.sunk;rw[iH];refine⟨a1.app ?_,?_⟩
  .rw [f];intro i hi;have:i=0:=by simpa using hi
   subst this;refine⟨λh=>Vu h (show (3:Int)≠2 by decide),λ_ b hb=>?_,λh=>Vu h (show (3:Int)≠1 by decide)⟩
   obtain⟨_,o,a,rfl⟩:=a2.emi _ b hb;have a:(emO T)[(s.sunk+(j:Nat)).toNat]?=some o:=a;rw[m]at a
   cases a
   rfl
  .rw [Vv,uR,f];refine⟨a2.ver,λn b hb=>?_,a2.has⟩
   have hb:aJ n (mset (s.sunk+(j:Nat)) (jE (s.sunk+(j:Nat)) (s.kept.getD j Ot.z)).bs d.e)=some b:=hb;rw[lD]at hb
   split at hb
   .rename_i v
    cases hb
    subst v;exact⟨by omega,_,m,rfl⟩
   .exact a2.emi n b hb
structure GI(g:Gg)(j:Nat)(was:List aI)(Ek E:List bI)(R:DR)(L:LG)(n0:Int)(k:Nat):Prop where
 opt:ff g.o=true
 few:g.o.cfg.cells.toNat<=200
 ti:TI g.o.segment g.rows g.syn g.rl j
 log:jl g.rows g.syn g.rl R L n0 k
 bk:g.saved=true->∃A d B,L=A++(g.seg,⟨0,d⟩)::B/\(∀x∈A,x.1<g.seg)/\g.num=n0+A.length
 all:∀p,k<=p->p<=L.length->∃s E1 E0,fg g.o.cfg j (dj R++(L.take p).map Prod.snd) s E1 E0/\Ek <+: E1/\E1 <+: E/\E0 <+: Ek/\s∈was
 top:∃E0,fg g.o.cfg j (dj R++L.map Prod.snd) g.s E E0/\E0 <+: Ek
 pend:∃E',E=Ek++E'/\g.pend=E'.flatMap cI
 last:g.s∈was
 recs:0<=g.recs/\g.recs<=j
 plen:g.pend.length<=2000*j
 prb:jF g.p
 count:g.p.count<=64*j
 boot:g.p.boot=g.s.boots
section
variable {g:Gg}{j:Nat}{was:List aI}{Ek E:List bI}{R:DR}{L:LG}{n0:Int}{k:Nat}
theorem GI.hs(h:GI g j was Ek E R L n0 k):Hs g.o.cfg j g.s E:=by
 obtain⟨b,a,_⟩:=h.top;exact a.hs
theorem GI.ok(h:GI g j was Ek E R L n0 k)(c:j<=200):GgOk g:=by
 have b:=h.hs.R;have a:=h.ti;have i:=a.len;have d:=a.seg;have e:=h.recs;have f:=h.plen;exact⟨b.R,b.few h.few c,a.ok (by omega),by omega,by omega,by omega,by omega,h.prb⟩
theorem GI.mono(h:GI g j was Ek E R L n0 k):GI g (j+1) was Ek E R L n0 k:=by
 obtain⟨c,d,f⟩:=h.top;refine⟨h.opt,h.few,h.ti.mono,h.log,h.bk,λp a b=>?_,⟨c,d.mono (Nat.le_succ _),f⟩,h.pend,h.last,by have:=h.recs;omega,by have:=h.plen;omega,h.prb,by have:=h.count;omega,h.boot⟩
 obtain⟨s,e,c,a1,a2⟩:=h.all p a b;exact⟨s,e,c,a1.mono (Nat.le_succ _),a2⟩
theorem GI.withP(h:GI g j was Ek E R L n0 k){p:Pb}(a:jF p)(b:p.count<=64*j)(c:p.boot=g.p.boot):GI { g with p:=p } j was Ek E R L n0 k:=
 ⟨h.opt,h.few,h.ti,h.log,h.bk,h.all,h.top,h.pend,h.last,h.recs,h.plen,a,b,c.trans h.boot⟩
theorem Ve{s:aI}{r:Rp}(a:r.kind≠1):(iq s r).boots=s.boots:=by
 refine oF (P:=λq=>q.1.boots=s.boots) (λ_=>rfl) (λ_ _=>rfl) (λ_ _ h=>Vu h a) (λ_ _ _=>?_) (λ_ _ _=>?_) (λ_ _ _=>?_) (λ_ _ _=>?_) (λ_ _ _=>rfl) (λ_ _ _=>?_)
 .unfold fC;split
  .rfl
  .split <;> rfl
 .unfold mS;split <;> rfl
 .unfold gD;split <;> rfl
 .unfold lS;split
  .split
   .rfl
   .split <;> rfl
  .rfl
 .unfold mT;split <;> rfl
theorem Mw(l:List bI):(l.flatMap cI).length<=l.length:=by
 induction l with
 | nil=>simp
 | cons e l ih=>
  rw[VU,Vv,V1];have:(cI e).length<=1:=by unfold cI;split <;> (try split) <;> (try split) <;> (try split) <;> simp
  omega
theorem GI.cmt(h:GI g j was Ek E R L n0 k)(N:j<=200){r:Rp}(C:∀e∈r.evs,aF e.value)(D:r.kind≠1)(n:(cG g r).2=0) :
  ∃u G,GI (cG g r).1 (j+1) (was++[(cG g r).1.s]) Ek u R G n0 k/\(cG g r).1.syn=g.syn/\g.rows.length<(cG g r).1.rows.length:=by
 have m:(bO g.s r).2.2=0:=by
  unfold cG at n
  split at n
  .exact n
  .rename_i H;exact Decidable.not_not.1 H
 have F:(cG g r).1={ g with s:=(bO g.s r).1,pend:=g.pend++(bO g.s r).2.1.flatMap cI,recs:=g.recs+1,rl:=dp g.rows g.rl ⟨r.kind,r.bytes⟩,rows:=fY g.rows g.rl ⟨r.kind,r.bytes⟩ }:=by
  unfold cG;rw[Vs (by rw[m];decide)]
 have K:=sE m;have J:=h.ti.seg;have t:=Bg (rows:=g.rows) (s:=g.rl) (by omega) K;obtain⟨v,t1,t2⟩:=h.top;obtain⟨u,p1,p2⟩:=h.pend;have hb:=Rp.bytes_by r;have O:=Rp.bytes_len r;have c:=h.log.append (r:=⟨r.kind,r.bytes⟩) hb t;have f:fY g.rows g.rl ⟨r.kind,r.bytes⟩=g.rows++(bN ⟨r.kind,r.bytes⟩).map λb=>((dp g.rows g.rl ⟨r.kind,r.bytes⟩).seg,b):=by unfold fY;rw[Vs (by rw[t];decide)]
 have w:=qy (zQ (r:=⟨r.kind,r.bytes⟩) hb t);have t3:=t1.rec C m;have x:=Ms (r:=r) h.hs.R.R.ok;have M:=Mw (dG g.s r);rw[F];refine⟨E++dG g.s r,L++[((dp g.rows g.rl ⟨r.kind,r.bytes⟩).seg,⟨r.kind,r.bytes⟩)],⟨h.opt,h.few,h.ti.append (by omega) hb (by show r.bytes.length<=_;omega),c,λhs=>?_,λp a b=>?_,⟨v,?_,t2⟩,⟨u++dG g.s r,by rw[p1,V5],?_⟩,WX _ (V6.2 rfl),?_,?_,h.prb,?_,?_⟩,rfl,?_⟩
 .obtain⟨A,d,B,b1,b2,b3⟩:=h.bk hs;exact⟨A,d,B++[((dp g.rows g.rl ⟨r.kind,r.bytes⟩).seg,⟨r.kind,r.bytes⟩)],by rw[b1];simp,b2,b3⟩
 .rw [Vv]at b;simp only[V1,VN]at b
  rcases VO L.length p with i|i
  .obtain rfl:p=L.length+1:=by omega
   rw[VR (by simp),VJ,<-V5];exact⟨_,_,v,t3,by rw[p1,V5];exact Yw _ _,WH,t2,WX _ (V6.2 rfl)⟩
  .rw [Yj i];obtain⟨s,y,I,a1,a2,a3,a4,a5⟩:=h.all p a i;exact⟨s,y,I,a1.mono (Nat.le_succ _),a2,a3.trans (Yw _ _),a4,WJ _ a5⟩
 .rw [VJ,<-V5];exact t3
 .show g.pend++_=_;rw[p2,Ws]
 .have:=h.recs;dsimp only;omega
 .have:=h.plen;show (g.pend++(dG g.s r).flatMap cI).length<=_;rw[Vv];omega
 .have:=h.count;dsimp only;omega
 .exact h.boot.trans (Ve D).symm
 .show g.rows.length<(fY g.rows g.rl ⟨r.kind,r.bytes⟩).length;rw[f,Vv,V8];omega
theorem GI.sync(h:GI g j was Ek E R L n0 k)(I:j<=200):∃G H t F,GI (je g) (j+3) [g.s] E E G H t F/\(je g).s=g.s/\(je g).o=g.o/\(je g).pend=[]:=by
 obtain⟨f,t1,t2⟩:=h.top;obtain⟨J,p1,p2⟩:=h.pend;have e:f <+: E:=t1.pre;obtain⟨R1,c,m0,l1,l2,l3⟩:∃R1 c m0,jl (gq g) (gq g).length { g.rl with syn:=g.rl.next } R1 c m0 c.length/\(g.saved=true->∃A d B,c=A++(g.seg,⟨0,d⟩)::B/\(∀x∈A,x.1<g.seg)/\g.num=m0+A.length)/\
   fg g.o.cfg j (dj R1++c.map Prod.snd) g.s E f:=by
  unfold gq
  split
  .rename_i n;obtain⟨A,d,B,b1,b2,b3⟩:=h.bk n.1;have y:=h.log.sync;rw[b1]at y;refine⟨[],(g.seg,⟨0,d⟩)::B,n0+A.length,y.trim rfl b2,λ_=>⟨[],d,B,rfl,λx u=>Vu u (by simp),by rw[b3];simp⟩,?_⟩
   refine t1.same ?_;rw[b1,VJ,VS,<-V5,QN _ rfl,show dj []=[] from wE.2.1,VZ]
  .exact⟨R,L,n0,h.log.sync,h.bk,t1⟩
 have m:TI g.o.segment (gq g) (gq g).length { g.rl with syn:=g.rl.next } (j+2):=by
  unfold gq
  split
  .exact h.ti.sync.drop g.seg
  .exact h.ti.sync.mono
 have C:=h.recs;have w:=h.count;unfold je
 split
 .rename_i n;have i:(⟨0,stB g.s⟩:Rc).ok:=⟨VV 0,by show (0:Int)<=255;decide,n.2,xE _⟩;have l4:=l1.push (g:=g.rl.seg+1) (by dsimp only;omega) i;have v:=l3.chk;refine⟨R1,_,m0,c.length,⟨h.opt,h.few,m.save (by omega) i n.2,l4,λ_=>⟨c,stB g.s,[],rfl,λx u=>?_,l1.next⟩,λp a b=>?_,⟨E,?_,WH⟩,⟨[],by simp,rfl⟩,V6.2 rfl,?_,by simp,h.prb,?_,h.boot⟩,rfl,rfl,rfl⟩
  .have:=l1.seg x u;dsimp only at this ⊢;omega
  .rw [Vv]at b;simp only[V1,VN]at b
   rcases VO c.length p with D|D
   .obtain rfl:p=c.length+1:=by omega
    rw[VR (by simp),VJ,<-V5];exact⟨_,_,E,v.mono (by omega),WH,WH,WH,V6.2 rfl⟩
   .obtain rfl:p=c.length:=by omega
    rw[List.take_left];exact⟨_,_,f,l3.mono (by omega),WH,WH,e,V6.2 rfl⟩
  .rw [VJ,<-V5];exact v.mono (by omega)
  .dsimp only;omega
  .dsimp only;omega
 .refine⟨R1,c,m0,c.length,⟨h.opt,h.few,m.mono,l1,l2,λp a b=>?_,⟨f,l3.mono (by omega),e⟩,⟨[],by simp,rfl⟩,V6.2 rfl,?_,by simp,h.prb,?_,h.boot⟩,rfl,rfl,rfl⟩
  .obtain rfl:p=c.length:=by omega
   rw[VW];exact⟨_,_,f,l3.mono (by omega),WH,WH,e,V6.2 rfl⟩
  .dsimp only;omega
  .dsimp only;omega
theorem GI.crash(h:GI g j was Ek E R L n0 k)(d:j<=200)(keep:Int):∃s a b,fg g.o.cfg j (dj (eW g.rows g.syn keep)) s a b/\Ek <+: a/\a <+: E/\b <+: Ek/\s∈was/\
  TI g.o.segment (eW g.rows g.syn keep) (eW g.rows g.syn keep).length (opS g.o.segment (eW g.rows g.syn keep)) (j+1)/\fk g.o.segment (eW g.rows g.syn keep)=0:=by
 obtain⟨p,p1,p2,p3⟩:=h.log.cut keep;obtain⟨s,a,b,a1,a2,a3,a4,a5⟩:=h.all p p1 p2;have c:=h.ti.crash (by omega) keep;rw[<-p3]at a1;exact⟨s,a,b,a1,a2,a3,a4,a5,c.1,c.2⟩
theorem Mx{s:aI}(h:s.boots<1099511627776):bO s eQ=({ s with boots:=s.boots+1 },[],0):=by
 unfold bO;rw[Vs (by decide),Vs,Vt (show eQ.kind=1 from rfl)];unfold fB;rw[Vt (show eQ.kind=1 from rfl),nO];decide
theorem xP{o:Opt}(f:ff o=true)(B:o.cfg.cells.toNat<=200){rows:DR}{s:aI}{i:List bI}(c:fg o.cfg j (dj rows) s E i)(t:TI o.segment rows rows.length (opS o.segment rows) j)(C:j<=200) :
  ∃w,GI (kM o s rows) (j+2) [iq s eQ] E E rows w (dj rows).length 1:=by
 have hb:s.boots<1099511627776:=by have:=c.hs.boots;omega
 have n:=Mx hb;have u:(bO s eQ).2.2=0:=by rw[n]
 have A:=t.seg;have x:=Bg (rows:=rows) (s:=opS o.segment rows) (by omega) (sE u);have d:=Rp.bytes_by eQ;have y:=Rp.bytes_len eQ;have l1:=((QM (rows:=rows) o.segment).append (r:=⟨1,eQ.bytes⟩) d x).sync;have l2:=c.rec (r:=eQ) (λe m=>Vu m (by simp[eQ])) u
 have m:dG s eQ=[]:=by unfold dG;rw[n]
 rw[m,VT]at l2;have D:=c.hs.R.R.ok.boots;have k:1<=o.probes/\o.probes<=1024:=by
  unfold ff at f;simp only[Vz,Vy]at f;exact f.1.1.1.2
 refine⟨[((dp rows (opS o.segment rows) ⟨1,eQ.bytes⟩).seg,⟨1,eQ.bytes⟩)],⟨f,B,?_,l1,λh=>Vu h (by simp[kM]),λp a b=>?_,⟨i,l2.mono (by omega),c.pre⟩,⟨[],by simp,rfl⟩,V6.2 rfl,?_,by simp[kM],?_,?_,rfl⟩⟩
 .exact (t.append (by omega) d (by show eQ.bytes.length<=_;omega)).sync
 .have v:p=1:=by simp only[V1,VN]at b;omega
  subst v;exact⟨_,_,i,l2.mono (by omega),WH,WH,c.pre,V6.2 rfl⟩
 .show (0:Int)<=0/\(0:Int)<=_;omega
 .refine⟨by show (0:Int)<=0/\(0:Int)<=1000000000000;omega,k,by simp[kM],by simp[kM],?_⟩;show aF (bO s eQ).1.boots;rw[n];unfold aF;dsimp only;omega
 .show (0:Int)<=_;omega
theorem Vf(p:Pb)(a e b c:Int):(fF p a e b c).2.2.boot=p.boot/\(fF p a e b c).2.2.count=p.count:=by
 unfold fF
 split
 .exact⟨rfl,rfl⟩
 .split
  .exact⟨rfl,rfl⟩
  .split
   .exact⟨rfl,rfl⟩
   .split <;> exact⟨rfl,rfl⟩
theorem BN(f:Fq)(a n x:Int):(jd f a n x).kind≠1/\((jd f a n x).evs=f.evs\/(jd f a n x).evs=[]):=by
 unfold jd
 split
 .exact⟨show (2:Int)≠1 by decide,.inr rfl⟩
 split
 .exact⟨show (3:Int)≠1 by decide,.inr rfl⟩
 split
 .exact⟨show (4:Int)≠1 by decide,.inl rfl⟩
 .exact⟨show (5:Int)≠1 by decide,.inr rfl⟩
theorem sQ{α:Type}{s:RS}{v:α}{e:Int}(h:okR s v=.error e):e≠0:=by
 unfold okR at h
 split at h
 .rename_i a;cases h;exact a
 .cases h
theorem numR_err{s:RS}{e:Int}(h:ei s=.error e):e≠0:=sQ h
theorem My:∀{n:Nat} {s:RS} {e:Int},ja n s=.error e->e≠0
 | 0,_,_,h=>by cases h
 | n+1,s,e,h=>by
  unfold ja at h
  split at h
  .rename_i a;cases h;exact My a
  .split at h
   .rename_i b;cases h;exact sQ b
   .cases h
theorem Mz:∀{n:Nat} {s:RS} {e:Int},jA n s=.error e->e≠0
 | 0,_,_,h=>by cases h
 | n+1,s,e,h=>by
  unfold jA at h
  split at h
  .rename_i a;cases h;exact Mz a
  .split at h
   .rename_i b;cases h;exact sQ b
   .cases h
theorem endQ_err{x:Except Int (Fq×RS)}(a:∀e,x=.error e->e≠0){e:Int}(h:endQ x=.error e):e≠0:=by
 unfold endQ at h
 split at h
 .cases h;exact a _ rfl
 split at h
 .cases h;assumption
 split at h
 .cases h
 .cases h;decide
theorem decQ_err{bs:List Int}{e:Int}(h:fE bs=.error e):e≠0:=by
 unfold fE at h
 split at h
 .cases h;decide
 split at h
 .cases h;assumption
 unfold nS at h
 split at h
 .rename_i a
  cases h
  unfold px at a
  split at a
  .rename_i c;cases a;exact numR_err c
  .split at a
   .cases a;decide
   .cases a
 split at h
 .rename_i a;cases h;exact My a
 refine endQ_err (λe b=>?_) h
 unfold mN at b
 split at b
 .split at b
  .rename_i a
   cases b
   unfold mM at a
   split at a
   .rename_i c;cases a;exact sQ c
   .exact Mz a
  .cases b
 split at b
 .split at b
  .rename_i a;cases b;exact sQ a
  .exact sQ b
 .cases b
def sR(g:Gg)(x:Gg×Int):Prop:=∃p,jF p/\p.boot=g.p.boot/\p.count=g.p.count/\((x.1={ g with p:=p }/\x.2≠0)\/∃r:Rp,x=cG { g with p:=p } r/\r.kind≠1/\∀e∈r.evs,aF e.value)
theorem M0(c:jF g.p)(a n:Int)(bs:List Int):sR g (jt g a n bs):=by
 unfold jt
 cases hd:fE bs with
 | error e=>exact⟨g.p,c,rfl,rfl,.inl ⟨rfl,decQ_err hd⟩⟩
 | ok f=>
  have d:=Mo hd;have key:∀x,∀e∈(jd f a n x).evs,aF e.value:=λx e b=>by
   rcases (BN f a n x).2 with h|h
   .rw [h]at b;exact d e b
   .rw [h]at b;cases b
  show sR g (lV g f a n);unfold lV
  split
  .exact⟨g.p,c,rfl,rfl,.inl ⟨rfl,show (16:Int)≠0 by decide⟩⟩
  split
  .exact⟨g.p,c,rfl,rfl,.inl ⟨rfl,show (10:Int)≠0 by decide⟩⟩
  split
  .have hs:=Vf g.p a f.ep f.bt f.ct
   split
   .rename_i b;exact⟨_,BB c a f.ep f.bt f.ct,hs.1,hs.2,.inl ⟨rfl,b⟩⟩
   .exact⟨_,BB c a f.ep f.bt f.ct,hs.1,hs.2,.inr ⟨_,rfl,(BN f a n _).1,key _⟩⟩
  .exact⟨g.p,c,rfl,rfl,.inr ⟨_,rfl,(BN f a n _).1,key _⟩⟩
theorem Vg(b:jF g.p)(n:Int):sR g (cG g (sL n)):=⟨g.p,b,rfl,rfl,.inr ⟨_,rfl,show (7:Int)≠1 by decide,λe a=>Vu a (by simp[sL])⟩⟩
theorem GI.call(h:GI g j was Ek E R L n0 k)(f:j<=200){x:Gg×Int}(d:sR g x):∃b a,GI x.1 (j+1) (if x.2=0 then was++[x.1.s] else was) Ek b R a n0 k/\x.1.syn=g.syn/\x.1.o=g.o/\(x.2=0->g.rows.length<x.1.rows.length)/\
  (x.2≠0->x.1.s=g.s/\x.1.pend=g.pend/\x.1.rows=g.rows):=by
 obtain⟨p,p1,p2,p3,d⟩:=d;have c:=h.withP p1 (by have:=h.count;omega) p2
 rcases d with ⟨e1,e2⟩|⟨r,rfl,n,i⟩
 .refine⟨E,L,?_,by rw[e1],by rw[e1],λh=>Vu h e2,λ_=>by rw[e1];exact⟨rfl,rfl,rfl⟩⟩
  rw[Vs e2,e1];exact c.mono
 .by_cases he:(cG { g with p:=p } r).2=0
  .obtain⟨b,a,a1,a2,a3⟩:=c.cmt f i n he;refine⟨b,a,?_,a2,?_,λ_=>a3,λh=>Vu he h⟩
   .rw [Vt he];exact a1
   .unfold cG;split <;> rfl
  .have e:(cG { g with p:=p } r).1={ g with p:=p }:=by
    unfold cG at he ⊢
    split
    .rfl
    .rename_i m;rw[Vs m]at he;exact Vu rfl he
   refine⟨E,L,?_,by rw[e],by rw[e],λh=>Vu h he,λ_=>by rw[e];exact⟨rfl,rfl,rfl⟩⟩
   rw[Vs he,e];exact c.mono
theorem uS{s:aI}{now period:Int}{p:Pb}:∀n,(dI s now period p n).1.boot=p.boot
 | 0=>rfl
 | n+1=>by
  rw[dI]
  split
  .exact uS n
  .exact uS n
theorem M1{s:aI}{now period:Int}{p:Pb}(b:0<=p.count/\p.count+64<=1000000000000)(hb:0<=p.boot/\p.boot<=1099511627776):∀n,n<=64->p.count<=(dI s now period p n).1.count/\(dI s now period p n).1.count<=p.count+n/\
  ∀o∈(dI s now period p n).2,o.kind=1/\∃f:Fq,fE o.bs=.ok f/\f.kind=3/\f.bt=p.boot/\f.ag=o.ag
 | 0,_=>⟨VV _,by show p.count<=p.count+((0:Nat):Int);omega,λo a=>Vu a (by simp[dI])⟩
 | n+1,hn=>by
  obtain⟨a1,a2,a3⟩:=M1 (s:=s) (now:=now) (period:=period) b hb n (by omega);rw[dI]
  split
  .refine⟨?_,?_,λo a=>?_⟩
   .show _<=(dI s now period p n).1.count+1;omega
   .show (dI s now period p n).1.count+1<=_;omega
   .rcases VK.1 a with a|a
    .exact a3 o a
    .rw [V6]at a;subst a;refine⟨rfl,_,Mu ?_,rfl,uS n,rfl⟩;have c:=uS (s:=s) (now:=now) (period:=period) (p:=p) n;simp[fe,dU,aV,gU,Fq.nums];omega
  .exact⟨a1,by omega,a3⟩
theorem M3{s:aI}{now:Int}(h:(bO s (fp now)).2.2=0):0<=now/\now<=4611686018427387903:=(iF (sE h)).nw
theorem GI.step(h:GI g j was Ek E R L n0 k)(t:j<=200)(now:Int):∃d c,GI (dV g now).1 (j+1) (if (dV g now).2.2=0 then was++[(dV g now).1.s] else was) Ek d R c n0 k/\(dV g now).1.syn=g.syn/\(dV g now).1.o=g.o/\
  ((dV g now).2.2=0->g.rows.length<(dV g now).1.rows.length)/\((dV g now).2.2≠0->(dV g now).1.s=g.s/\(dV g now).1.pend=g.pend/\(dV g now).1.rows=g.rows)/\
  ∀o∈(dV g now).2.1,o.kind=1/\∃f:Fq,fE o.bs=.ok f/\f.kind=3/\f.bt=g.s.boots/\f.ag=o.ag:=by
 have u:sR g (cG g (fp now)):=⟨g.p,h.prb,rfl,rfl,.inr ⟨_,rfl,show (6:Int)≠1 by decide,λe a=>Vu a (by simp[fp])⟩⟩
 obtain⟨d,c,a1,a2,a3,a4,a5⟩:=h.call t u;have n:=h.count;have ep:(cG g (fp now)).1.p=g.p:=by unfold cG;split <;> rfl
 unfold dV
 by_cases a:(cG g (fp now)).2=0
 .rw [Vs (by rw[a];decide)];have v:=M3 (s:=g.s) (now:=now) (by
   unfold cG at a
   split at a
   .exact a
   .rename_i b;exact Decidable.not_not.1 b)
  have w:=BE (s:=(cG g (fp now)).1.s) (period:=g.o.period) h.prb (by omega) v 64 (V2 _);have hb:0<=g.p.boot/\g.p.boot<=1099511627776:=by rw[h.boot];exact h.hs.R.R.ok.boots
  have m:=M1 (s:=(cG g (fp now)).1.s) (now:=now) (period:=g.o.period) ⟨h.prb.count.1,by omega⟩ hb 64 (V2 _);refine⟨d,c,?_,a2,a3,λ_=>a4 a,λb=>Vu rfl b,λo i=>?_⟩
  .rw [Vt a]at a1;rw[Vt rfl];exact a1.withP w.1 (by have:=m.2.1;omega) (by rw[ep];exact uS _)
  .have:=m.2.2 o i;rw[h.boot]at this;exact this
 .rw [Vt a];exact⟨d,c,a1,a2,a3,λb=>Vu b a,λ_=>a5 a,λo i=>Vu i (by simp)⟩
end
structure GCZZ where
 what:Int
 ag:Int
 now:Int
 next:Int
 keep:Int
 a:KQ
 c:Nat
 bs:List Int
abbrev qR(x:GCZZ):Os:=[aC x.what,aC x.ag,aC x.now,aC x.next,aC x.keep,.slice x.a x.bs.length x.c]
theorem uT(x:GCZZ):(qR x).length=6:=rfl
structure GcK(Q:aE)(a:KQ)(xs:List GCZZ):Prop where
 row:KIn Q a (flat qR xs)
 bs:∀x∈xs,KIn Q x.a (x.bs.map U8)
 ok:∀x∈xs,aH x.bs/\aF x.keep
 len:xs.length<=maxLen
theorem GcK.sub{Q Q':aE}{a:KQ}{xs:List GCZZ}(h:GcK Q a xs)(hs:aM Q Q'):GcK Q' a xs:=⟨h.row.sub hs,λx b=>(h.bs x b).sub hs,h.ok,h.len⟩
def grG(o:Opt)(xs:List GCZZ):Bool:=decide (60<xs.length)||grC o.cfg 0||xs.any λx=>decide (3000<x.bs.length)
abbrev jf(s:Sn):Os:=[aC s.bt,aC s.ct]
section
variable {F L:List aE}{H:aD}{K:KE}{Q:aE}{gb db:Nat}{g:Gg}{o:Opt}
abbrev eR(p:Prop)[Decidable p]:Int:=if p then 0 else 11
theorem eR0(p:Prop)[Decidable p]:decide (eR p=0)=decide p:=by
 unfold eR
 by_cases h:p
 .simp [h]
 .simp [h]
theorem R16New{boot most:Int}(h:aA H F)(k:∀p c,aA c F->K (.tuple #[.pointer p,aC (eR ((1<=boot/\boot<=1099511627776)/\1<=most/\most<=1024))]) c):CF 38 #[aC boot,aC most] H K:=by
 refine cM 38 476 ⟨λa=>?_,λa=>?_⟩ <;> simp only[VE,VB,Vy,V0]at a
 .rw [eR,nO]at k;exact k _ _ h
 .rw [eR,pO]at k;exact h.al λb _ h=>k _ _ h.tl
theorem R20New{lag:Int}(h:aA H F)(k:∀p c,aA c F->K (.tuple #[.pointer p,aC (eR (1<=lag/\lag<=1099511627776))]) c):CF 86 #[aC lag] H K:=by
 refine cM 86 476 ⟨λa=>?_,λa=>?_⟩ <;> simp only[VE,VB,Vy,V0]at a
 .rw [eR,nO]at k;exact k _ _ h
 .rw [eR,pO]at k;exact h.al λb _ h=>k _ _ h.tl
theorem R04Rate{rho:Int}:bX Tryz.prog 187 #[aC rho] H (.bool (decide (0<=rho)&&decide (rho<=100000))):=by
 unfold bX;exact cM 187 28 ⟨rfl,rfl⟩
theorem R18New{rho trust:Int}(h:aA H F)(k:∀p c,aA c F->K (.tuple #[.pointer p,aC (eR (gA rho/\0<=trust/\trust<=100))]) c):CF 87 #[aC rho,aC trust] H K:=by
 refine cM 87 476 ⟨_,R04Rate,λa=>?_,λa=>?_⟩ <;> simp only[VE,VB,VP,Wd,Vz,Wc,Vy,V0]at a
 .rw [eR,Vs (by unfold gA;omega)]at k;exact k _ _ h
 .rw [eR,Vt (by unfold gA;omega)]at k;exact h.al λb _ h=>k _ _ h.tl
theorem R15New{most:Int}(h:aA H F)(k:∀p c,aA c F->K (.tuple #[.pointer p,aC (eR (1<=most/\most<=64))]) c):CF 88 #[aC most] H K:=by
 refine cM 88 476 ⟨λa=>?_,λa=>?_⟩ <;> simp only[VE,VB,Vy,V0]at a
 .rw [eR,nO]at k;exact k _ _ h
 .rw [eR,pO]at k;exact h.al λb _ h=>k _ _ h.tl
theorem R22New{most:Int}(h:aA H F)(k:∀p c,aA c F->K (.tuple #[.pointer p,aC (eR (1<=most/\most<=1024))]) c):CF 89 #[aC most] H K:=by
 refine cM 89 476 ⟨λa=>?_,λa=>?_⟩ <;> simp only[VE,VB,Vy,V0]at a
 .rw [eR,nO]at k;exact k _ _ h
 .rw [eR,pO]at k;exact h.al λb _ h=>k _ _ h.tl
theorem R13New{most:Int}(h:aA H F)(k:∀p c,aA c F->K (.tuple #[.pointer p,aC (eR (1<=most/\most<=256))]) c):CF 90 #[aC 0,aC most] H K:=by
 refine cM 90 476 ⟨λa=>?_,λa=>?_⟩ <;> simp only[VE,VB,Vy,V0]at a
 .rw [eR,nO]at k;exact k _ _ h
 .rw [eR,pO]at k;exact h.al λb _ h=>k _ _ h.tl
theorem R24Right{c:bD}(h:aA H F)(k:∀a,aA a F->K (.bool (fD c)) a):CF 39 #[.agg ⟨oz c⟩] H K:=by
 refine cM 39 17895708 ?_;refine h.al λb _ h=>⟨_,h.r 0,?_⟩
 refine R20New h λp1 f h=>⟨_,_,rfl,_,h.r 0,_,h.r 0,?_⟩
 refine R18New h λp2 d h=>⟨_,_,rfl,_,h.r 0,?_⟩
 refine R15New h λp3 j h=>⟨_,_,rfl,_,h.r 0,?_⟩
 refine R22New h λp4 i h=>⟨_,_,rfl,_,h.r 0,?_⟩
 refine R13New h λp5 m h=>⟨_,_,rfl,_,_,_,h.q 0,?_⟩
 refine cM 91 28 ?_;refine h.al λb _ h=>⟨_,h.r 0,_,λ_=>h.r 0,_,λ_=>h.r 0,_,λ_=>h.r 0,_,λ_=>h.r 0,_,λ_=>h.r 0,_,rfl,?_⟩
 conv=>whnf
 have e:(((((((((((decide (1<=c.width))&&(decide (c.width<=1099511627776)))&&(decide (0<=c.policy)))&&(decide (c.policy<=3)))&&(decide (0<=c.most)))&&(decide (c.most<=4611686018427387903)))&&decide (eR (1<=c.lag/\c.lag<=1099511627776)=0))&&decide (eR (gA c.rho/\0<=c.trust/\c.trust<=100)=0))&&decide (eR (1<=c.agents/\c.agents<=64)=0))&&decide (eR (1<=c.cells/\c.cells<=1024)=0))&&decide (eR (1<=c.hold/\c.hold<=256)=0))=fD c:=by
  rw[eR0,eR0,eR0,eR0,eR0];unfold fD;rw[Wb];simp only[Vz,Vy];unfold Gd.ok bD.gd;dsimp only
  constructor
  .rintro⟨⟨⟨⟨⟨⟨⟨⟨⟨⟨h1,h2⟩,h3⟩,h4⟩,h5⟩,h6⟩,h7⟩,h8⟩,h9⟩,h10⟩,h11⟩;exact⟨⟨⟨⟨⟨⟨h1,h2,h3,h4,h5,h6⟩,h7⟩,h8⟩,h9⟩,h10⟩,h11⟩
  .rintro⟨⟨⟨⟨⟨⟨h1,h2,h3,h4,h5,h6⟩,h7⟩,h8⟩,h9⟩,h10⟩,h11⟩;exact⟨⟨⟨⟨⟨⟨⟨⟨⟨⟨h1,h2⟩,h3⟩,h4⟩,h5⟩,h6⟩,h7⟩,h8⟩,h9⟩,h10⟩,h11⟩
 have k:=k _ h.tl.tl;rw[<-e]at k;exact k
theorem R25Right(h:aA H F)(k:∀a,aA a F->K (.bool (ff o)) a):CF 11 #[.agg ⟨jp o⟩] H K:=by
 refine cM 11 284 ?_;refine h.al λb _ h=>⟨_,h.r 0,?_⟩
 refine R16New h λp1 f h=>⟨_,_,rfl,_,_,_,_,_,_,_,_,_,h.q 0,?_⟩
 refine R24Right (c:=o.cfg) h λd h=>⟨_,rfl,_,λ_=>h.r 0,_,λ_=>h.r 0,_,λ_=>h.r 0,_,λ_=>h.r 0,_,λ_=>h.r 0,_,λ_=>h.r 0,?_⟩
 have e:(((((((fD o.cfg&&(decide (1<=o.period)))&&(decide (o.period<=1099511627776)))&&decide (eR (((1:Int)<=1/\(1:Int)<=1099511627776)/\1<=o.probes/\o.probes<=1024)=0))&&(decide (64<=o.segment)))&&(decide (o.segment<=1048576)))&&(decide (1<=o.save)))&&(decide (o.save<=1048576)))=ff o:=by
  rw[eR0];unfold ff;rw[Wb];simp only[Vz,Vy]
  constructor
  .rintro⟨⟨⟨⟨⟨⟨⟨h1,h2⟩,h3⟩,h4⟩,h5⟩,h6⟩,h7⟩,h8⟩;exact⟨⟨⟨⟨h1,h4.2⟩,h2,h3⟩,h5,h6⟩,h7,h8⟩
  .rintro⟨⟨⟨⟨h1,h2⟩,h3,h4⟩,h5,h6⟩,h7,h8⟩;exact⟨⟨⟨⟨⟨⟨⟨h1,h3⟩,h4⟩,by decide,h2⟩,h5⟩,h6⟩,h7⟩,h8⟩
 have k:=k _ h.tl;rw[<-e]at k;exact k
theorem OfO_spec(h:aA H F)(k:∀a,aA a F->K (.agg ⟨jp o⟩) a):CF 10 #[.agg ⟨jp o⟩] H K:=by
 refine cM 10 28 ?_;refine h.al λb _ h=>?_
 refine h.al λb1 _ h=>⟨_,_,_,_,_,_,_,_,_,h.q 1,_,h.r 1,_,h.r 1,_,h.r 1,_,h.r 1,?_⟩
 refine cM 37 28 ?_;refine h.al λb2 _ h=>?_
 refine h.al λb3 _ h=>⟨_,h.r 1,_,h.r 1,_,h.r 1,_,h.r 1,_,h.r 1,_,h.r 1,_,h.r 1,_,h.r 1,_,h.r 1,?_⟩
 refine h.st 0 rfl rfl λd h=>⟨_,_,_,_,_,_,_,_,_,h.q 0,_,_,_,_,_,_,_,_,_,rfl,h.r 3,h.r 3,h.r 3,h.r 3,?_⟩
 refine h.st 2 rfl rfl λc h=>⟨_,_,_,_,_,_,_,_,_,_,_,_,_,h.q 2,?_⟩
 exact k _ h.tl.tl.tl.tl
theorem Vh{a:KQ}{c:Nat}{xs:List GCZZ}(h:aA H (Q::F))(u:GcK Q a xs)(k:∀t,aA t (Q::F)->K (.bool (grG o xs)) t):CF 8 #[.agg ⟨jp o⟩,.slice a xs.length c] H K:=by
 refine cN 8 0x12283c921562139925b4c [[(5,sI)],[(13,sB)]] ?_;refine h.al λb _ h=>?_
 have s:=u.len;unfold maxLen at s;intro R G;refine⟨_,_,_,_,_,_,_,_,_,λ_=>h.q 0,λA=>?_,λA=>?_⟩
 .refine UN (cf:=o.cfg) (xs:=[]) (a:=none) (c:=0) (h.o [1,0] 2) ⟨λH F _=>iv _ _,λx u=>Vu u (by simp),by simp⟩ λN h=>⟨_,rfl,G _ _ ?_⟩
  have M:grR o.cfg []=grC o.cfg 0:=by simp[grR]
  rw[M];have B:decide (60<xs.length)=false:=Wj (by have:=Vx A;omega);have y:grG o xs=(grC o.cfg 0||xs.any λx=>decide (3000<x.bs.length)):=by unfold grG;rw[B,WQ]
  refine⟨λf=>?_,λf=>?_⟩
  .have f:grC o.cfg 0=true:=f;have:grG o xs=true:=by rw[y,f];simp
   rw[this]at k;exact k _ (h.o [0] 2)
  .refine⟨λi t=>∃j:Nat,i=j/\j<=xs.length/\(∀q (v:q<xs.length),q<j->xs[q].bs.length<=3000)/\aA t (Q::cellsA b (jp o) 25::F),λi t=>xs.length-i.toNat,⟨0,rfl,by omega,λq _ h=>Vu h (by omega),h⟩,?_⟩
   rintro i P ⟨j,rfl,O,e,h⟩;refine⟨λC=>?_,λC=>?_⟩
   .have d:j<xs.length:=by simpa using C
    have E:=u.row.at h 0 rfl;refine⟨⟨by omega,by omega⟩,_,_,E.some uT (by decide) d,_,_,_,E.el uT d 5 rfl,λn=>?_,λn=>?_⟩
    .have n:=Vw n;have:grG o xs=true:=by
      rw[y,VE];exact .inr (List.any_eq_true.2 ⟨xs[j],V7 d,VF (by omega)⟩)
     rw[this]at k;exact k _ (h.o [0] 2)
    .have n:=Vx n;have D:i64.wrap ((j:Int)+1)=((j+1:Nat):Int):=by rw[aK];omega
     refine⟨⟨j+1,D,d,λq v I=>?_,h⟩,by rw[D];dsimp only;omega⟩
     rcases VO q j with m|m
     .exact e q v m
     .obtain rfl:q=j:=by omega
      omega
   .have J:¬j<xs.length:=by simpa using C
    have:grG o xs=false:=by
     have f:grC o.cfg 0=false:=f;rw[y,f,WQ,List.any_eq_false];intro x w;obtain⟨q,v,rfl⟩:=Wn w;have:=e q v (by omega);simp;omega
    rw[this]at k;exact k _ (h.o [0] 2)
 .have:grG o xs=true:=by
   unfold grG;have:decide (60<xs.length)=true:=VF (by have:=Vw (p:=60<(xs.length:Int)) (by simpa using A);omega);rw[this];simp
  rw[this]at k;exact G _ _ ⟨λ_=>k _ h.tl,λL=>Vu L (by simp)⟩
theorem grG_no{xs:List GCZZ}(h:grG o xs=false):xs.length<=60/\grC o.cfg 0=false/\∀x∈xs,x.bs.length<=3000:=by
 unfold grG at h;simp only[VB,V0,List.any_eq_false,Vy]at h;exact⟨by omega,h.1.2,λx a=>by have:=h.2 x a;omega⟩
theorem slNo:SlT Tryz.prog 96 101 2 16:=iO (by kernel_rfl)
theorem Vi{pb:Nat}{p:Pb}(w:p.out.length<=100000)(h:aA H (prbA pb p::F))(k:∀a c d,aA d (slA 101 2 a p.out.length c (flat jf p.out)::prbA pb p::F)->K (.slice a p.out.length c) d):CF 83 #[PA pb 0] H K:=by
 obtain⟨a,c,m,h⟩:=mX.1 h;refine cN 83 0x1121561239925144c [[(3,sS),(17,sI)]] ⟨_,_,_,h.r 0,?_⟩;refine h.mk0 slNo (by omega) (by omega) λB x h=>⟨_,_,_,rfl,_,_,_,h.r 1,?_⟩
 refine⟨λla u lc t d=>∃j:Nat,t=j/\j<=p.out.length/\j=u/\aA d (slA 101 2 la j lc (flat jf (p.out.take j))::cellsA pb [aC p.boot,aC p.most,aC p.count,.slice a p.out.length c,.map (some m)] 247::slA 326 5 a p.out.length c (flat gE p.out)::mapA aC aC m p.last::F),
  λ_ _ _ t _=>p.out.length-t.toNat,⟨0,rfl,by omega,rfl,h⟩,?_⟩
 rintro la u lc t v ⟨j,rfl,y,rfl,h⟩;refine⟨λi=>?_,λi=>?_⟩
 .have b:j<p.out.length:=by simpa using i
  have s:=h.sl_rd 2 rfl;refine⟨⟨by omega,by omega⟩,_,_,s.some mW (by decide) b,_,_,_,_,_,s.els mW b,?_⟩;refine h.al λb1 _ h=>?_
  refine h.st 0 rfl rfl λA h=>⟨_,_,h.q 0,?_⟩
  refine h.al λb2 _ h=>?_
  refine h.append (m:=1) (ws:=jf p.out[j]) slNo 2 rfl (h.ce_rd 0 rfl) rfl rfl (by omega) (by omega) λa5 c5 C h=>⟨_,_,_,rfl,?_⟩
  have n:i64.wrap ((j:Int)+1)=((j+1:Nat):Int):=by rw[aK];omega
  have e:flat jf (p.out.take j)++jf p.out[j]=flat jf (p.out.take (j+1)):=by rw[Wf b,dS];simp[flat]
  have h:=h.o [2,3,4,5] 6;rw[e]at h;exact⟨⟨j+1,n,b,rfl,h⟩,by rw[n];dsimp only;omega⟩
 .have f:j=p.out.length:=by
   have:¬j<p.out.length:=by simpa using i
   omega
  subst f;rw[VW]at h;exact k la lc _ ((mX (pb:=pb)).2 ⟨a,c,m,h.o [1,2,3,0] 4⟩ |> kL)
theorem Vj(h:aA H (gateA Q gb db g::F))(d:g.p.out.length<=100000)(k:∀a c b,aA b (slA 101 2 a g.p.out.length c (flat jf g.p.out)::gateA Q gb db g::F)->K (.slice a g.p.out.length c) b):CF 33 #[PA gb 0] H K:=by
 obtain⟨x,pb,ys,e1,e2,e3,h⟩:=gm.1 h;refine cM 33 28 ⟨some ⟨pb,0,none⟩,(h.r 0).trans (by show some x.pv=_;rw[e1]),?_⟩;refine Vi d (h.o [6,0,1,2,3,4,5] 7) λa c e h=>⟨_,_,_,rfl,k _ _ _ ?_⟩
 exact kL (gm.2 ⟨x,pb,ys,e1,e2,e3,h.o [2,3,4,5,6,7,1,0] 8⟩)
theorem agent_ep{s:aI}(ok:cR s)(a:Int)(h:(lh s a).2=true):1<=(lh s a).1.en.epoch/\(lh s a).1.en.epoch<=1099511627776:=by
 have f:=ok.rows.at a;unfold lh at h ⊢
 split
 .rename_i d;obtain⟨h0,st,b⟩:=ok.str d;have e:dL s a=some st:=by unfold dL;rw[nO,b];rfl
  rw[e];dsimp only;omega
 .rename_i c;rw[Vs c]at h
  cases h
section
variable {j:Nat}{was:List aI}{Ek E:List bI}{R:DR}{LL:LG}{n0:Int}{kk:Nat}
theorem M4{now:Int}(I:GI g j was Ek E R LL n0 kk)(n:j<=198)(h:aA H (Q::gateA Q gb db g::F))
  (k:∀Q' ys a c d,aM Q Q'->ys.map Oy.o=(dV g now).2.1->(∀y∈ys,fI Q' y)->aA d (Q'::slA 91 11 a ys.length c (flat bH ys)::gateA Q' gb db (dV g now).1::F)->K (.tuple #[.slice a ys.length c,aC (dV g now).2.2]) d) :
  CF 23 #[PA gb 0,aC now] H K:=by
 have m:sR g (cG g (fp now)):=⟨g.p,I.prb,rfl,rfl,.inr ⟨_,rfl,show (6:Int)≠1 by decide,λe b=>Vu b (by simp[fp])⟩⟩
 obtain⟨u,t,a1,a2,a3,a4,a5⟩:=I.call (by omega) m;have f:=I.count;refine UX (I.ok (by omega)) (a1.ok (by omega)) (by omega) (λb=>M3 (s:=g.s) (now:=now) (by
   unfold cG at b
   split at b
   .exact b
   .rename_i i;exact Decidable.not_not.1 i)) (λa v h=>agent_ep a1.hs.R.R.ok _ h) h k
theorem xQ{rows:DR}{syn:Nat}{s:aI}{t:List bI}(C:ff o=true)(v:o.cfg.cells.toNat<=200)(b:fg o.cfg j (dj rows) s E t)(f:TI o.segment rows rows.length (opS o.segment rows) j)(A:fk o.segment rows=0)(G:j<=198)
  (h:aA H (Q::diskX db rows syn::F))
  (k:∀Q' gb ys a c n m s0 X,aM Q Q'->Hs o.cfg m s0 t->m<=j->E=t++X->ys.map Oy.o=iH s0 s0.kept.length++X.flatMap cI->(∀y∈ys,fI Q' y)->aA n (Q'::slA 91 11 a ys.length c (flat bH ys)::gateA Q' gb db (kM o s rows)::F)->
   K (.tuple #[PA gb 0,.slice a ys.length c,aC 0]) n):CF 16 #[PA db 0,.agg ⟨jp o⟩] H K:=by
 have hs:=b.hs;obtain⟨s0,d,m,b,rfl,rfl⟩:=b;have e:=b.h0.R;have I:=b.len;have J:=f.len;have L:=f.seg;have hb:=hs.boots;have D:=hs.R.R.ok.boots;have w:=Mx (s:=dH s0 d) (by omega);refine UY C f.rok (by omega) A (by omega) (f.ok (by omega)) e.R e.cfg (b.tell.imp (λh=>⟨h.1,h.2.1⟩) id) b.vals b.oks (e.few v (by omega)) (λi hi=>?_) (by omega) (by rw[w]) (by rw[w];dsimp only;omega) h λQ' gb ys a c n u hm x h=>k Q' gb ys a c n m s0 (ju s0 d) u b.h0 (by omega) rfl ?_ x h
 .have:=(e.run (rs:=d.take i) λr B=>b.vals r (Wo B)).few v (by rw[VM];omega)
  omega
 .rw [hm,Mt,VW]
theorem Vk(d:ff o=false)(h:aA H F)(k:∀a,aA a F->K (.tuple #[.pointer none,.slice none 0 0,aC 11]) a):CF 16 #[PA db 0,.agg ⟨jp o⟩] H K:=by
 refine cM 16 8194785019629852 ?_;refine h.al λb _ h=>⟨_,_,_,_,_,_,_,_,_,_,_,_,_,h.q 0,?_⟩
 refine Bh (o:=o) h λe h=>⟨_,rfl,λ_=>k _ h.tl,λc=>?_⟩
 rw[d]at c;cases c
theorem opt_seg(a:ff o=true):64<=o.segment/\o.segment<=1048576:=by
 unfold ff at a;simp only[Vz,Vy]at a;exact a.1.2
theorem M5(a:ff o=true):fD o.cfg=true:=by
 unfold ff at a;simp only[Vz]at a;exact a.1.1.1.1
theorem uU(b:ff o=true):TI o.segment [] 0 (opS o.segment []) 0/\fk o.segment []=0:=by
 have h:=opt_seg b;have a:fk o.segment []=0:=openE_in h (by rw[wE.2.2];decide);exact⟨ti0 a,a⟩
theorem xR(a:ff o=true):fg o.cfg 0 (dj []) (bU o.cfg) [] []:=by
 rw[wE.2.1];exact fg.new (M5 a)
theorem Vl(d:o.cfg.cells.toNat<=200\/ff o=false)(h:aA H (Q::F))(k1:ff o=false->∀e,aA e (Q::F)->K (.tuple #[.pointer none,.pointer none]) e)
  (k2:ff o=true->∀Q' gb db e,aM Q Q'->aA e (Q'::gateA Q' gb db (kM o (bU o.cfg) [])::F)->K (.tuple #[PA gb 0,PA db 0]) e):CF 9 #[.agg ⟨jp o⟩] H K:=by
 refine cM 9 1167836 ?_;refine h.al λb _ h=>?_
 refine New_spec h λdb k h=>⟨_,rfl,λf=>Vu f (by simp),λ_=>⟨_,_,_,_,_,_,_,_,_,_,_,_,_,h.q 1,?_⟩⟩
 cases ho:ff o with
 | false=>exact Vk ho (h.o [2] 3) λi h=>⟨_,_,_,_,_,rfl,λ_=>k1 ho _ h,λf=>Vu f (by simp)⟩
 | true=>
  have d:o.cfg.cells.toNat<=200:=by
   rcases d with d|d
   .exact d
   .rw [ho]at d;cases d
  obtain⟨t1,t2⟩:=uU ho;refine xQ (j:=0) ho d (xR ho) t1 t2 (by omega) (h.o [2,0,1] 3) λQ' gb ys a c i m s0 X hs _ _ _ _ _ h=>⟨_,_,_,_,_,rfl,λf=>Vu f (by simp),λ_=>?_⟩
  exact k2 ho Q' gb db _ hs (h.o [0,2] 4)
end
end
abbrev encI3(x:I3):Os:=[aC x.a,aC x.e,aC x.n]
abbrev kI3(x:I3):Value:=.agg ⟨encI3 x⟩
theorem koI3:mj Tryz.prog 85 kI3:=EK Tryz.underlying85 (λx y h=>by
  cases x;cases y;simp only[List.cons.injEq,Value.int.injEq,and_true,true_and]at h;rw[h.1,h.2.1,h.2.2])
 (λx y=>by
  have h:qm Tryz.prog 85 (encI3 x) (encI3 y)=some (x.a == y.a&&(x.e == y.e&&(x.n == y.n&&true))):=by kernel_rfl
  rw[h];congr 1;rw[Wb];simp only[Bool.and_true,Vz,beq_iff_eq,Vy]
  cases x;cases y
  simp)
 (λx=>by kernel_rfl) (λx n=>by
  unfold Instr.sameBits;simp[Instr.sameBits])
def Oy.z:Oy:=⟨{ kind:=0 },none,0⟩
abbrev vOy(y:Oy):Value:=.agg ⟨bH y⟩
abbrev vSb(bs:List Int):Value:=.string (bF bs)
theorem mtOy:kA Tryz.prog 64 85 91 vOy Oy.z:=og Tryz.underlying64 (by kernel_rfl)
theorem mtSb:kA Tryz.prog 65 2 9 vSb []:=og Tryz.underlying65 (by kernel_rfl)
theorem neq87{a b c d:Int}:gY Tryz.prog .neq 87 (.agg ⟨[aC a,aC b]⟩) (.agg ⟨[aC c,aC d]⟩) (!(a == c&&(b == d&&true))):=(qn (by kernel_rfl)).2
theorem neq89{a b c d:Int}:gY Tryz.prog .neq 89 (.agg ⟨[aC a,aC b]⟩) (.agg ⟨[aC c,aC d]⟩) (!(a == c&&(b == d&&true))):=(qn (by kernel_rfl)).2
abbrev plV(v:List (I3×Oy)):List (I3×Ou):=v.map λp=>(p.1,p.2.o)
theorem BO(k:I3):∀v,aJ k (plV v)=(aJ k v).map Oy.o
 | []=>rfl
 | p::v=>by
  have a:=BO k v;simp only[plV,VS,aJ]at a ⊢
  split
  .rfl
  .exact a
theorem plV_set(k:I3)(y:Oy)(v:List (I3×Oy)):plV (mset k y v)=mset k y.o (plV v):=by
 unfold plV mset bT;rw[VS,List.filter_map];rfl
def hrdA(hb:Nat)(h:HM):aE:=exS λx:Nat×Nat×List (I3×Oy)=>star [pur (plV x.2.2=h.v/\∀p∈h.e,aH p.2),cellsA hb [.map (some x.1),.map (some x.2.1)] 67,mapA kI3 vOy x.1 x.2.2,mapA aC vSb x.2.1 h.e]
theorem M6{H:aD}{a:KQ}{c:Nat}{bs:List Int}(b:aP H a (bs.map U8)):di Tryz.prog (convert 43 9 (.slice a bs.length c)) H (.string (bF bs)):=by
 cases hb:bs with
 | cons x r=>
  have d:a=some ⟨aU a,aS a,none⟩:=(b 0 (U8 x) (by rw[hb];rfl)).1;rw[<-hb];exact oV (.inr ⟨_,_,d⟩) b
 | nil=>
  subst hb
  cases a with
  | none=>exact oV (.inl rfl) b
  | some ad=>
   intro w e;have h0:(loadCells ad 0).run Tryz.prog w=.ok #[] w:=rfl;rw[run_convert_bytes_string w 43 9 5 _ _ _ (by kernel_rfl) (by kernel_rfl) (by kernel_rfl)];simp[Conv.bytesToString,h0];rfl
theorem Vm{κ α:Type}[DecidableEq κ]{k:κ}{v:α}{m:List (κ×α)}{x:κ×α}(h:x∈mset k v m):x=(k,v)\/x∈m:=by
 unfold mset at h
 rcases V9.1 h with h|h
 .exact .inl h
 .exact .inr (Wv.1 h).1
section
variable {F L:List aE}{H:aD}{K:KE}{Q:aE}{hb:Nat}{hm:HM}
theorem sV:aA H (hrdA hb hm::F)↔∃m1 m2 v,plV v=hm.v/\(∀p∈hm.e,aH p.2)/\aA H (cellsA hb [.map (some m1),.map (some m2)] 67::mapA kI3 vOy m1 v::mapA aC vSb m2 hm.e::F):=by
 unfold hrdA;rw[cK]
 constructor
 .rintro⟨x,h⟩;obtain⟨a,h⟩:=vG.1 (aA.open h);exact⟨x.1,x.2.1,x.2.2,a.1,a.2,h⟩
 .rintro⟨m1,m2,v,h1,h2,h⟩;exact⟨⟨m1,m2,v⟩,aA.shut [_,_,_,_] (h.pur ⟨h1,h2⟩)⟩
theorem BP{ys:List Oy}{a:KQ}{c:Nat}(R:HOk hm (ys.map Oy.o))(hy:∀y∈ys,fI Q y/\aH y.o.bs)(hl:ys.length<=1000000)(h:aA H (Q::hrdA hb hm::F))(ha:∀H,aA H F->aP H a (flat bH ys))
  (k:∀Q' t,aM Q Q'->aA t (Q'::hrdA hb (eT hm (ys.map Oy.o) ys.length)::F)->K (.bool true) t):CF 24 #[PA hb 0,.slice a ys.length c] H K:=by
 refine cN 24 0x121562139925115171d4171d4171d15621399251b494c [[(13,sI)],[],[],[],[(5,sI)]] ⟨λi t=>∃(j:Nat) (Q':aE),i=j/\j<=ys.length/\aM Q Q'/\aA t (Q'::hrdA hb (eT hm (ys.map Oy.o) j)::F),λi _=>ys.length-i.toNat,⟨0,Q,rfl,by omega,aM.refl Q,h⟩,?_⟩
 rintro i H1 ⟨j,G,rfl,hj,D,h⟩;refine⟨λb=>?_,λb=>?_⟩
 case refine_2=>
  have S:j=ys.length:=by
   have:=Vx b;omega
  subst S;exact k G _ D h
 have m:j<ys.length:=by simpa using b
 have Y:=ha _ h.tl.tl;have Z:i64.wrap ((j:Int)+1)=((j+1:Nat):Int):=by rw[aK];omega
 have u:=R j (by rw[V8];exact m);rw[Wp]at u;refine⟨⟨by omega,by omega⟩,_,_,Y.some jD (by decide) m,_,_,_,_,_,_,_,_,_,_,_,_,_,Y.els jD m,?_⟩;refine h.al λb1 _ h=>?_
 refine h.st 0 rfl rfl λH2 h=>⟨_,h.r 0,?_⟩
 have s:=hy ys[j] (V7 m);have W:eT hm (ys.map Oy.o) (j+1)=ni (eT hm (ys.map Oy.o) j) ys[j].o:=by rw[eT,List.getElem?_eq_getElem (by rw[V8];exact m),Wp]
 have h:aA H2 (cellsA b1 (bH ys[j]) 91::G::hrdA hb (eT hm (ys.map Oy.o) j)::F):=h;obtain⟨y,ey⟩:∃y,ys[j]=y:=⟨_,rfl⟩;obtain⟨g,eg⟩:∃g,eT hm (ys.map Oy.o) j=g:=⟨_,rfl⟩;rw[ey]at h u s W ⊢;rw[eg]at h u W;intro Jn hJ;have next:∀Q' t,aM G Q'->aA t (Q'::hrdA hb (ni g y.o)::F)->Jn t:=λQ' t hs h=>
  hJ _ ⟨⟨j+1,Q',Z,m,D.trans hs,by rw[W];exact h⟩,by rw[Z];dsimp only;omega⟩
 obtain⟨m1,m2,v,e1,e2,h⟩:=sV.1 (h.o [2,0,1] 3);have N:=s.1.sub D;refine⟨λB=>?_,λB=>?_⟩
 .have B:=Vw B;have u:=u.1 B;refine⟨_,h.r 0,_,_,_,h.q 3,_,_,_,_,_,_,_,_,_,_,_,_,_,_,h.mp_get mtOy koI3 1 rfl (x:=y.o.id),?_⟩;refine h.al λb2 _ h=>⟨h.mp_get mtOy koI3 2 rfl (x:=y.o.id),h.q 4,h.r 1,?_⟩
  refine h.st 0 rfl rfl λH3 h=>⟨_,_,λ_=>h.q 0,_,_,λ_=>h.q 4,_,λ_=>neq87,_,_,λ_=>h.q 0,_,_,λ_=>h.q 4,_,λ_=>neq89,λb=>?_,λ_=>?_⟩
  .exfalso
   cases hmv:aJ y.o.id v with
   | none=>rw[hmv]at b;simp at b
   | some w=>
    have:=u w.o (by rw[<-e1,BO,hmv];rfl);rw[hmv]at b;simp[this]at b
  refine⟨_,h.r 1,_,_,_,h.q 4,_,_,_,_,_,_,_,_,_,_,_,_,_,h.q 4,?_⟩;refine h.mp_update (x:=y.o.id) (v:=y) mtOy koI3 2 rfl λH4 h=>?_
  have en:ni g y.o={ g with v:=mset y.o.id y.o g.v }:=by unfold ni;rw[Vt B]
  refine next G _ (aM.refl _) ?_;rw[en];exact kL (sV.2 ⟨m1,m2,mset y.o.id y v,by rw[plV_set,e1],e2,h.o [1,2,3,5] 6⟩)
 have B:=Vx B;intro h3 C;refine⟨λd=>?_,λd=>?_⟩
 .have d:=Vw d;have u:=u.2.1 d;have I:=N.kin.at h 4 rfl;refine⟨_,h.r 0,_,h.r 3,_,_,h.mp_get mtSb Ro.ko2 2 rfl (x:=y.o.num),_,_,_,λ_=>h.r 3,_,λ_=>M6 I,λb=>?_,λ_=>?_⟩
  .exfalso
   cases hmv:aJ y.o.num g.e with
   | none=>rw[hmv]at b;simp at b
   | some w=>
    have:=u w hmv;rw[hmv]at b;simp[this]at b
  refine⟨_,h.r 0,_,h.r 3,_,_,_,h.r 3,_,M6 I,?_⟩;refine h.mp_update (x:=y.o.num) (v:=y.o.bs) mtSb Ro.ko2 2 rfl λH4 h=>C _ ?_
  have en:ni g y.o={ g with e:=mset y.o.num y.o.bs g.e }:=by unfold ni;rw[Vs B,Vt d]
  refine next G _ (aM.refl _) ?_;rw[en];refine kL (sV.2 ⟨m1,m2,v,e1,λp V=>?_,h.o [0,1,2,4] 5⟩)
  rcases Vm V with rfl|V
  .exact s.2
  .exact e2 p V
 have d:=Vx d;have en:ni g y.o=g:=by unfold ni;rw[Vs B,Vs d]
 rw[en]at next;intro h5 O;refine⟨λA=>?_,λA=>?_⟩
 .have A:=Vw A;obtain⟨f,hf,T,M⟩:=u.2.2 A;refine⟨_,_,_,h.r 3,?_⟩;refine AZ (h.o [4,0,1,2,3] 5) (λH h=>N.kin.at h 0 rfl) s.2 s.1.cap ?_
  rw[hf];intro U x evs H4 P h0 h2 h4 h;refine⟨_,_,_,_,_,_,_,_,_,_,_,_,_,_,_,_,_,_,_,_,_,rfl,?_⟩;refine h.al λb3 _ h=>?_
  refine h.st 0 rfl rfl λH5 h=>⟨_,λ_=>h.r 0,_,λ_=>h.r 6,λb=>?_,λ_=>?_⟩
  .exfalso;simp[T]at b
  have h:aA H5 (cellsA b3 (cF f x) 81::U::slA 99 4 x.ea evs.length x.ec (flat cw evs)::cellsA hb [.map (some m1),.map (some m2)] 67::mapA kI3 vOy m1 v::mapA aC vSb m2 g.e::cellsA b1 (bH y) 91::F):=h;have h:=h.o [0,1,3,4,5] 7;refine⟨λn t=>∃q:Nat,n=q/\q<=10000/\aA t (cellsA b3 (cF f x) 81::U::cellsA hb [.map (some m1),.map (some m2)] 67::mapA kI3 vOy m1 v::mapA aC vSb m2 g.e::F),λn _=>10000-n.toNat,⟨0,rfl,by omega,h⟩,?_⟩
  rintro n H6 ⟨q,rfl,hq,h⟩;refine⟨_,h.r 0,_,λ_=>h.r 0,λb=>?_,λb=>?_⟩
  .simp only[Vz,Vy]at b;obtain⟨w,E⟩:=M b.1.1 q (by omega) b.1.2 b.2;have L:i64.wrap ((q:Int)+1)=((q+1:Nat):Int):=by rw[aK];omega
   rw[<-e1,BO]at E;refine⟨_,h.r 2,_,h.r 0,_,h.r 0,_,_,_,_,_,_,_,_,_,_,_,_,_,_,h.mp_get mtOy koI3 3 rfl (x:=⟨f.ag,f.ep,q⟩),?_⟩;refine h.al λb4 _ h=>⟨h.mp_get mtOy koI3 4 rfl (x:=⟨f.ag,f.ep,q⟩),h.r 1,h.r 1,h.r 3,?_⟩
   refine h.st 0 rfl rfl λH7 h=>⟨λJ=>?_,λ_=>?_⟩
   .exfalso
    cases hmv:aJ (⟨f.ag,f.ep,q⟩:I3) v with
    | none=>rw[hmv]at E;cases E
    | some w2=>rw[hmv]at J;simp at J
   .exact⟨⟨q+1,L,by omega,h.tl⟩,by rw[L];dsimp only;omega⟩
  .exact O _ (C _ (next U _ P (kL (sV.2 ⟨m1,m2,v,e1,e2,h.o [2,3,4,1] 5⟩))))
 .exact O _ (C _ (next G _ (aM.refl _) (kL (sV.2 ⟨m1,m2,v,e1,e2,h.o [0,1,2,4] 5⟩))))
theorem Vn{m1 m2:Nat}(h:aA H (cellsA hb [.map (some m1),.map (some m2)] 67::mapA kI3 vOy m1 []::mapA aC vSb m2 []::F)):aA H (hrdA hb ⟨[],[]⟩::F):=
 sV.2 ⟨m1,m2,[],rfl,λp a=>Vu a (by simp),h⟩
end
namespace Ag
def o0:Opt:=⟨Al.c0,20,8,256,5⟩
def f1:Fq:={ kind:=1,ag:=3,bt:=1 }
def f2:Fq:={ kind:=4,ag:=3,ep:=1,bt:=1,got:=12,sent:=12 }
def ev:Pv:=⟨13,5,⟨#[109]⟩,[]⟩
def f3:Fq:={ kind:=5,ag:=3,ep:=1,evs:=[ev] }
def g0:Gg:=kM o0 (bU Al.c0) []
def A1:Gg×Int:=jt g0 3 10 (cA f1)
def g2:Gg:=je A1.1
def A3:Gg×List Ou×Int:=dV g2 12
def A4:Gg×Int:=jt A3.1 3 14 (cA f2)
def A5:Gg×Int:=jt A4.1 3 14 (cA f2)
def A6:Gg×Int:=jt A5.1 3 16 (cA f3)
def g7:Gg:=je A6.1
def rows8:DR:=eW g7.rows g7.syn 0
def g8:Gg:=kM o0 g7.s rows8
def A9:Gg×Int:=jt g8 3 20 (cA f2)
theorem e1:A1.2=0:=by kernel_rfl
theorem e2:A1.1.pend.length=1:=by kernel_rfl
theorem e3:A3.2.2=0:=by kernel_rfl
theorem e4:A3.2.1=[gX (dU 3 1 0)]:=by kernel_rfl
theorem e5:A3.1.p.out=[⟨1,0,3,1,12⟩]:=by kernel_rfl
theorem e6:A4.2=0:=by kernel_rfl
theorem e7:A5.2=19:=by kernel_rfl
theorem e8:A6.2=0:=by kernel_rfl
theorem e9:A6.1.pend.length=2:=by kernel_rfl
theorem e10:A1.1.pend.map (λo=>(o.kind,o.ag))=[(1,3)]:=by kernel_rfl
theorem e11:A6.1.pend.map (λo=>(o.kind,o.win))=[(2,1),(1,0)]:=by kernel_rfl
theorem e12:g7.s.boots=1:=by kernel_rfl
theorem e13:g8.s.boots=2:=by kernel_rfl
theorem e14:g8.s.now=16:=by kernel_rfl
theorem e15:A9.2=22:=by kernel_rfl
theorem e16:(cG A9.1 (sL 1)).2=11:=by kernel_rfl
theorem e17:ff o0=true:=by kernel_rfl
theorem e18:fE (gX (dU 3 1 0)).bs=.ok (dU 3 1 0):=Mu (a:=3) (e:=1) (b:=0) (by kernel_rfl)
def rs8:List Rp:=[eQ,jd f1 3 10 0,fp 12,jd f2 3 14 12,jd f3 3 16 0]
theorem e19:dw (dj rows8)=(none,rs8.map rcO):=by kernel_rfl
theorem e20:dH (bU Al.c0) rs8=g7.s:=by kernel_rfl
def okG(ap:aI->Rp->aI×List bI×Int)(s:aI):List Rp->Bool
 | []=>true
 | r::rs=>decide ((ap s r).2.2=0)&&okG ap (ap s r).1 rs
theorem okG_at(ap:aI->Rp->aI×List bI×Int){rs:List Rp}:∀{s:aI},okG ap s rs=true->∀j (a:j<rs.length),(ap ((rs.take j).foldl (λs r=>(ap s r).1) s) rs[j]).2.2=0:=by
 induction rs with
 | nil=>intro s _ j a;exact Vu a (by simp)
 | cons r rs ih=>
  intro s h j a;rw[okG,Vz]at h
  cases j with
  | zero=>exact Vw h.1
  | succ j=>exact ih h.2 j (by simpa using a)
theorem e21:okG bO (bU Al.c0) rs8=true:=by kernel_rfl
theorem e22:((ju (bU Al.c0) rs8).flatMap cI).length=3:=by kernel_rfl
theorem vals:∀r∈rs8,∀e∈r.evs,aF e.value:=by
 intro r b e a;have:∀r∈rs8,r.evs=[]\/r.evs=[ev]:=by
  intro r b;simp only[rs8,V9,W1,or_false]at b
  rcases b with rfl|rfl|rfl|rfl|rfl
  .exact .inl rfl
  .exact .inl rfl
  .exact .inl rfl
  .exact .inl rfl
  .exact .inr rfl
 rcases this r b with h|h
 .rw [h]at a;cases a
 .rw [h,V6]at a;subst a;decide
theorem leads8:fg o0.cfg 5 (dj rows8) g7.s (ju (bU Al.c0) rs8) []:=
 ⟨bU Al.c0,rs8,0,⟨Hs.new (by kernel_rfl),V2 _,.inl ⟨e19,rfl,rfl⟩,vals,okG_at bO e21⟩,e20.symm,rfl⟩
abbrev Ig(g:Gg)(j:Nat):Prop:=∃was Ek E R L n0 k,GI g j was Ek E R L n0 k
theorem Ig.call{g:Gg}{j:Nat}(h:Ig g j)(c:j<=200)(a n:Int)(bs:List Int):Ig (jt g a n bs).1 (j+1):=by
 obtain⟨was,Ek,E,R,L,n0,k,h⟩:=h;obtain⟨e,d,b,_⟩:=h.call c (M0 h.prb a n bs);exact⟨_,_,_,_,_,_,_,b⟩
theorem Ig.sync{g:Gg}{j:Nat}(h:Ig g j)(c:j<=200):Ig (je g) (j+3):=by
 obtain⟨was,Ek,E,R,L,n0,k,h⟩:=h;obtain⟨e,f,a,d,b,_⟩:=h.sync c;exact⟨_,_,_,_,_,_,_,b⟩
theorem Ig.step{g:Gg}{j:Nat}(h:Ig g j)(b:j<=200)(n:Int):Ig (dV g n).1 (j+1):=by
 obtain⟨was,Ek,E,R,L,n0,k,h⟩:=h;obtain⟨d,c,a,_⟩:=h.step b n;exact⟨_,_,_,_,_,_,_,a⟩
theorem i0:Ig g0 2:=by
 obtain⟨a,h⟩:=xP e17 (by decide) (xR e17) (uU e17).1 (by omega);exact⟨_,_,_,_,_,_,_,h⟩
theorem i1:Ig A1.1 3:=i0.call (by omega) _ _ _
theorem i2:Ig g2 6:=i1.sync (by omega)
theorem i3:Ig A3.1 7:=i2.step (by omega) _
theorem i4:Ig A4.1 8:=i3.call (by omega) _ _ _
theorem i5:Ig A5.1 9:=i4.call (by omega) _ _ _
theorem i6:Ig A6.1 10:=i5.call (by omega) _ _ _
theorem i7:Ig g7 13:=i6.sync (by omega)
theorem o7:g7.o=o0:=by kernel_rfl
theorem t8:TI o0.segment rows8 rows8.length (opS o0.segment rows8) 14/\fk o0.segment rows8=0:=by
 obtain⟨was,Ek,E,R,L,n0,k,h⟩:=i7;obtain⟨_,_,_,_,_,_,_,_,a,b⟩:=h.crash (by omega) 0;rw[o7]at a b;exact⟨a,b⟩
theorem i8:Ig g8 16:=by
 obtain⟨a,h⟩:=xP e17 (by decide) (leads8.mono (by omega)) t8.1 (by omega);exact⟨_,_,_,_,_,_,_,h⟩
theorem i9:Ig A9.1 17:=i8.call (by omega) _ _ _
theorem Ig.ok{g:Gg}{j:Nat}(h:Ig g j)(a:j<=200):GgOk g/\∀r∈g.rows,r.1<=g.rl.seg:=by
 obtain⟨was,Ek,E,R,L,n0,k,h⟩:=h;exact⟨h.ok a,h.ti.files⟩
end Ag
section
variable {F L:List aE}{H:aD}{K:KE}{Q:aE}
theorem BQ(h:aA H F)(k:∀a,aA a F->K (.agg ⟨jp Ag.o0⟩) a):CF 31 #[] H K:=by
 refine cM 31 28 ?_;refine h.al λb _ h=>?_
 refine UP h λd h=>⟨_,_,_,_,_,_,_,_,_,rfl,?_⟩
 refine h.st 0 rfl rfl λc h=>⟨_,_,_,_,_,_,_,_,_,_,_,_,_,h.q 0,k _ h.tl⟩
theorem BR{f:Fq}{x:QA}{evs:List Ev}(h:aA H F)(r:lP F f x evs)(k:∀a c d,aA d (slA 5 1 a (cA f).length c ((cA f).map U8)::F)->K (.slice a (cA f).length c) d) :
  CF 32 #[.agg ⟨cF f x⟩] H K:=by
 refine cM 32 284 ?_;refine h.al λb _ h=>⟨_,_,_,_,_,_,_,_,_,_,_,_,_,_,_,_,_,_,_,_,h.q 0,?_⟩
 refine AF h (r.cons _) λa c e h=>⟨_,_,_,_,rfl,k _ _ _ (h.o [0] 2)⟩
theorem f1_bare:Ag.f1.Bare:=⟨show (1:Int)≠5 by decide,show (1:Int)≠8 by decide,rfl,rfl,rfl,rfl,λi a b h=>by
 rcases nine a b with rfl|rfl|rfl|rfl|rfl|rfl|rfl|rfl|rfl <;> first|rfl|exact Vu (show _∈aV 1 by decide) h⟩
theorem f2_bare:Ag.f2.Bare:=⟨show (4:Int)≠5 by decide,show (4:Int)≠8 by decide,rfl,rfl,rfl,rfl,λi a b h=>by
 rcases nine a b with rfl|rfl|rfl|rfl|rfl|rfl|rfl|rfl|rfl <;> first|rfl|exact Vu (show _∈aV 4 by decide) h⟩
def evE:Ev:=⟨13,5,⟨#[109]⟩,[],none,0⟩
theorem f3_rd{b:Nat}(i:Nat)(d:aW i F=cellsA b (cw evE) 99):lP F Ag.f3 { ea:=some ⟨b,0,none⟩,ec:=1 } [evE]:=by
 refine⟨rfl,⟨λH h=>h.ce_rd i (cs:=cw evE) d,λe a H _=>?_⟩,λH _=>iv H none,λH _=>iv H none,.inl rfl,⟨λh=>Vu rfl h,λ_=>⟨rfl,rfl,rfl,rfl,rfl,rfl,rfl⟩,λi c f h=>?_⟩,by simp,λe a=>?_,by simp[Ag.f3],by simp[Ag.f3]⟩
 .rw [V6]at a;subst a;exact iv H none
 .rcases nine c f with rfl|rfl|rfl|rfl|rfl|rfl|rfl|rfl|rfl <;> first|rfl|exact Vu (show _∈aV 5 by decide) h
 .rw [V6]at a;subst a;simp[evE]
theorem nj(f:Fq):aH (cA f):=by
 unfold cA
 split
 .exact kC
 split
 .exact kC
 refine G0 (dD (dD (iE _) (j0 λi _=>iE _)) ?_)
 unfold mL
 split
 .exact dD (iE _) (j0 λe _=>wW e)
 split
 .exact dD (Ak _ _) (qu _)
 .exact kC
theorem eq101{a b c d:Int}:gY Tryz.prog .eql 101 (.agg ⟨[aC a,aC b]⟩) (.agg ⟨[aC c,aC d]⟩) (a == c&&(b == d&&true)):=(qn (by kernel_rfl)).1
theorem GSyI{gb db j:Nat}{g:Gg}{now:Int}(I:Ag.Ig g j)(d:j<=198)(h:aA H (Q::gateA Q gb db g::F))
  (k:∀Q' ys a c b,aM Q Q'->ys.map Oy.o=(dV g now).2.1->(∀y∈ys,fI Q' y)->aA b (Q'::slA 91 11 a ys.length c (flat bH ys)::gateA Q' gb db (dV g now).1::F)->K (.tuple #[.slice a ys.length c,aC (dV g now).2.2]) b) :
  CF 23 #[PA gb 0,aC now] H K:=by
 obtain⟨was,Ek,E,R,L,n0,kk,I⟩:=I;exact M4 I d h k
theorem Vo(h:aA H (Q::F))(k:∀Q' H',aM Q Q'->aA H' (Q'::F)->K (.bool true) H'):CF 7 #[] H K:=by
 refine cN 7 0x11d1d11111d1111111111d1d11289 [[(0,sB)]] ?_;have C:=Ag.e17;have hf:Ag.o0.cfg.cells.toNat<=200:=by decide
 refine New_spec h λdb H1 h=>⟨_,rfl,λt=>Vu t (by simp),λ_=>?_⟩
 refine BQ h λH2 h=>⟨_,_,_,_,_,_,_,_,_,_,_,_,_,rfl,?_⟩
 refine xQ (j:=0) (o:=Ag.o0) C hf (xR C) (uU C).1 (uU C).2 (by omega) (h.o [1,0] 2) λQ1 gb ys a c H3 m s0 X Z E _ M hm _ h=>⟨_,_,_,_,_,rfl,λt=>?_,λ_=>?_⟩
 .exfalso;have hl:ys.length=0:=by
   have M:X=[]:=by simpa using M
   have hk:=E.num.len;have h0:=E.sunk;rw[<-V8 (f:=Oy.o),hm,M,Vv,uQ];simp only[emO,List.filter_nil,WZ,VN,List.flatMap_nil]at hk ⊢;omega
  simp[hl]at t
 have h:aA H3 (Q1::slA 91 11 a ys.length c (flat bH ys)::gateA Q1 gb db Ag.g0::F):=h;have h:=h.o [0,2] 3;refine BR (f:=Ag.f1) (x:={}) h (f1_bare.rd _) λa1 c1 H4 h=>⟨_,_,_,rfl,?_⟩
 have T:=h.sl_nc 0 rfl;refine sO (Ag.i0.ok (by omega)).1 (h.o [1,2,0] 3) (λH h=>h.sl_rd 0 rfl) (nj _) T λU H5 h5 h=>⟨_,rfl,?_⟩
 have h:aA H5 (U::gateA U gb db Ag.A1.1::F):=h.o [0,1] 3;refine⟨_,xN (h.o [1,0] 2),?_⟩;refine BC (Ag.i1.ok (by omega)).1 (Ag.i1.ok (by omega)).2 h λb a2 c2 H6 J hy2 h=>⟨_,_,_,rfl,?_⟩
 have h:aA H6 (U::slA 91 11 a2 b.length c2 (flat bH b)::gateA U gb db Ag.g2::F):=h;refine GSyI Ag.i2 (by omega) (h.o [0,2,1] 3) λQ3 i a3 c3 H7 h3 v V h=>⟨_,_,_,_,rfl,?_⟩
 have h:aA H7 (Q3::slA 91 11 a3 i.length c3 (flat bH i)::gateA Q3 gb db Ag.A3.1::slA 91 11 a2 b.length c2 (flat bH b)::F):=h;refine Vj (h.o [2,0,1,3] 4) (by rw[Ag.e5];decide) λa4 c4 H8 h=>⟨_,_,_,rfl,?_⟩
 have hl2:b.length=1:=by rw[<-V8 (f:=Oy.o),J,Ag.e2]
 have v:i.map Oy.o=[gX (dU 3 1 0)]:=v.trans Ag.e4;have r8:i.length=1:=by rw[<-V8 (f:=Oy.o),v];rfl
 have h4:Ag.A3.1.p.out.length=1:=by rw[Ag.e5];rfl
 refine⟨λt=>?_,λ_=>?_⟩
 .exfalso;simp[hl2,r8,h4]at t
 have D:=h.sl_rd 3 rfl;have O:(i[0]'(by omega)).o=gX (dU 3 1 0):=by
  have:(i.map Oy.o)[0]'(by rw[V8];omega)=(i[0]'(by omega)).o:=Wp ..;rw[<-this];simp[v]
 have G:=V (i[0]'(by omega)) (V7 _);refine⟨⟨by omega,by omega⟩,_,_,D.some jD (by decide) (k:=0) (by omega),_,_,_,D.el jD (k:=0) (by omega) 10 rfl,?_⟩;refine AZ (h.o [2,0,1,3,4] 5) (λH h=>G.kin.at h 0 rfl) (by rw[O];exact nj (dU 3 1 0)) G.cap ?_
 rw[O,Ag.e18];intro Q4 x evs H9 L hev hkl hsh h;refine⟨_,_,_,_,_,_,_,_,_,_,_,_,_,_,_,_,_,_,_,_,_,rfl,?_⟩;refine h.al λb1 _ h=>?_
 refine h.st 0 rfl rfl λy2 h=>⟨_,h.r 0,_,h.r 0,?_⟩
 have h:aA y2 (cellsA b1 (cF (dU 3 1 0) x) 81::Q4::slA 99 4 x.ea evs.length x.ec (flat cw evs)::slA 101 2 a4 Ag.A3.1.p.out.length c4 (flat jf Ag.A3.1.p.out)::gateA Q3 gb db Ag.A3.1::slA 91 11 a3 i.length c3 (flat bH i)::slA 91 11 a2 b.length c2 (flat bH b)::F):=h;have h:=sM L (h.o [4,1,0,3,6] 7);refine BR (f:=Ag.f2) (x:={}) h (f2_bare.rd _) λa5 c5 H11 h=>⟨_,_,_,rfl,?_⟩
 have u:=h.sl_nc 0 rfl;have h:=h.o [2,1,0,3,4,5] 6;refine sO (Ag.i3.ok (by omega)).1 h (λH h=>h.sl_rd 0 rfl) (nj _) u λQ5 l0 y3 h=>⟨_,rfl,?_⟩
 have h:aA l0 (Q5::gateA Q5 gb db Ag.A4.1::slA 5 1 a5 (cA Ag.f2).length c5 ((cA Ag.f2).map U8)::cellsA b1 (cF (dU 3 1 0) x) 81::slA 101 2 a4 Ag.A3.1.p.out.length c4 (flat jf Ag.A3.1.p.out)::slA 91 11 a2 b.length c2 (flat bH b)::F):=h;refine sO (Ag.i4.ok (by omega)).1 h (λH h=>h.sl_rd 0 rfl) (nj _) u λQ6 H13 hs6 h=>⟨_,rfl,?_⟩
 have h:aA H13 (Q6::gateA Q6 gb db Ag.A5.1::slA 5 1 a5 (cA Ag.f2).length c5 ((cA Ag.f2).map U8)::cellsA b1 (cF (dU 3 1 0) x) 81::slA 101 2 a4 Ag.A3.1.p.out.length c4 (flat jf Ag.A3.1.p.out)::slA 91 11 a2 b.length c2 (flat bH b)::F):=h;refine h.al λb2 _ h=>?_
 refine BR (f:=Ag.f3) (x:={ ea:=some ⟨b2,0,none⟩,ec:=1 }) (evs:=[evE]) h (f3_rd 0 rfl) λa6 c6 H14 h=>⟨_,_,_,rfl,?_⟩
 have I:=h.sl_nc 0 rfl;refine sO (Ag.i5.ok (by omega)).1 (h.o [2,3,0,4,5,6,7] 8) (λH h=>h.sl_rd 0 rfl) (nj _) I λA H15 j1 h=>⟨_,rfl,?_⟩
 have h:=h.o [0,1,3,4,5,6] 7;have h:aA H15 (A::gateA A gb db Ag.A6.1::slA 5 1 a5 (cA Ag.f2).length c5 ((cA Ag.f2).map U8)::cellsA b1 (cF (dU 3 1 0) x) 81::slA 101 2 a4 Ag.A3.1.p.out.length c4 (flat jf Ag.A3.1.p.out)::slA 91 11 a2 b.length c2 (flat bH b)::F):=h;refine BC (Ag.i6.ok (by omega)).1 (Ag.i6.ok (by omega)).2 h λd a7 c7 j2 S hy7 h=>⟨_,_,_,rfl,?_⟩
 have h:aA j2 (A::slA 91 11 a7 d.length c7 (flat bH d)::gateA A gb db Ag.g7::slA 5 1 a5 (cA Ag.f2).length c5 ((cA Ag.f2).map U8)::cellsA b1 (cF (dU 3 1 0) x) 81::slA 101 2 a4 Ag.A3.1.p.out.length c4 (flat jf Ag.A3.1.p.out)::slA 91 11 a2 b.length c2 (flat bH b)::F):=h;have W:d.length=2:=by rw[<-V8 (f:=Oy.o),S,Ag.e9]
 refine Mm (Ag.i7.ok (by omega)).1 (h.o [2,0,1,3,4,5,6] 7) λsb H17 h=>⟨_,rfl,?_⟩
 obtain⟨y,pb,zs,_,_,_,h⟩:=gm.1 (h.o [1,0,2,3,4,5,6,7] 8);have h:=h.o [5,7,8,9,10,11,12,13] 14;have n:=(Ag.i7.ok (by omega)).1.rows;refine Gx (keep:=0) (by decide) (by omega) h λh6 h=>⟨rfl,?_⟩
 have h:aA h6 (diskX db Ag.rows8 Ag.rows8.length::stA A sb Ag.g7.s::A::slA 91 11 a7 d.length c7 (flat bH d)::slA 5 1 a5 (cA Ag.f2).length c5 ((cA Ag.f2).map U8)::cellsA b1 (cF (dU 3 1 0) x) 81::slA 101 2 a4 Ag.A3.1.p.out.length c4 (flat jf Ag.A3.1.p.out)::slA 91 11 a2 b.length c2 (flat bH b)::F):=h;refine BQ h λH19 h=>⟨_,_,_,_,_,_,_,_,_,_,_,_,_,rfl,?_⟩
 refine xQ (j:=14) (o:=Ag.o0) C hf (Ag.leads8.mono (by omega)) Ag.t8.1 Ag.t8.2 (by omega) (h.o [2,0,1,3,4,5,6,7] 8) λQ8 N B a8 c8 h7 m8 s08 X8 hs8 hE8 _ j3 l5 _ h=>⟨_,_,_,_,_,rfl,λt=>?_,λ_=>?_⟩
 .exfalso;have hl:3<=B.length:=by
   have M:X8=ju (bU Al.c0) Ag.rs8:=by simpa using j3.symm
   have:=Ag.e22;rw[<-V8 (f:=Oy.o),l5,M,Vv,uQ];omega
  simp[W]at t;omega
 have h:aA h7 (Q8::slA 91 11 a8 B.length c8 (flat bH B)::gateA Q8 N db Ag.g8::stA A sb Ag.g7.s::slA 91 11 a7 d.length c7 (flat bH d)::slA 5 1 a5 (cA Ag.f2).length c5 ((cA Ag.f2).map U8)::cellsA b1 (cF (dU 3 1 0) x) 81::slA 101 2 a4 Ag.A3.1.p.out.length c4 (flat jf Ag.A3.1.p.out)::slA 91 11 a2 b.length c2 (flat bH b)::F):=h;refine Mm (Ag.i8.ok (by omega)).1 (h.o [2,0,3,4,5,6,7,8] 9) λl6 H21 h=>⟨_,rfl,λt=>Vu t (by simp),λ_=>?_⟩
 refine sO (Ag.i8.ok (by omega)).1 (h.o [2,1,5,0,3,4,6,7,8] 9) (λH h=>h.sl_rd 0 rfl) (nj _) u λQ9 r9 h9 h=>⟨_,rfl,?_⟩
 have h:aA r9 (Q9::gateA Q9 N db Ag.A9.1::slA 5 1 a5 (cA Ag.f2).length c5 ((cA Ag.f2).map U8)::stA Q8 l6 Ag.g8.s::stA A sb Ag.g7.s::slA 91 11 a7 d.length c7 (flat bH d)::cellsA b1 (cF (dU 3 1 0) x) 81::slA 101 2 a4 Ag.A3.1.p.out.length c4 (flat jf Ag.A3.1.p.out)::slA 91 11 a2 b.length c2 (flat bH b)::F):=h;refine Ml (Ag.i9.ok (by omega)).1 h λh2 r0 P h=>⟨_,rfl,?_⟩
 intro Jn hJ;have w:=h.sl_rd 8 rfl;have R:=h.sl_rd 7 rfl;have n:=h.sl_rd 5 rfl;have d2:(b[0]'(by omega)).o.kind=1/\(b[0]'(by omega)).o.ag=3:=by
  have e:=Ag.e10;rw[<-J,Wh]at e;have:=(List.getElem?_eq_some_iff.1 (show (b.map ((λo:Ou=>(o.kind,o.ag))∘Oy.o))[0]?=some (1,3) by rw[e];rfl)).2
  rw[Wp]at this;exact⟨congrArg Prod.fst this,congrArg Prod.snd this⟩
 have d7:(d[0]'(by omega)).o.kind=2/\(d[0]'(by omega)).o.win=1/\(d[1]'(by omega)).o.kind=1:=by
  have e:=Ag.e11;rw[<-S,Wh]at e;have h0:=(List.getElem?_eq_some_iff.1 (show (d.map ((λo:Ou=>(o.kind,o.win))∘Oy.o))[0]?=some (2,1) by rw[e];rfl)).2
  have h1:=(List.getElem?_eq_some_iff.1 (show (d.map ((λo:Ou=>(o.kind,o.win))∘Oy.o))[1]?=some (1,0) by rw[e];rfl)).2
  rw[Wp]at h0 h1;exact⟨congrArg Prod.fst h0,congrArg Prod.snd h0,congrArg Prod.fst h1⟩
 have d4:(Ag.A3.1.p.out[0]'(by omega)).bt=1/\(Ag.A3.1.p.out[0]'(by omega)).ct=0:=by
  have:Ag.A3.1.p.out[0]'(by omega)=⟨1,0,3,1,12⟩:=by
   have:=(List.getElem?_eq_some_iff.1 (show Ag.A3.1.p.out[0]?=some ⟨1,0,3,1,12⟩ by rw[Ag.e5];rfl)).2;exact this
  rw[this];exact⟨rfl,rfl⟩
 have Y:bE r0 (aU a4) (aS a4+0*2) [aC 1,aC 0]:=by
  have:=R.els (enc:=jf) (sz:=2) (λ_=>rfl) (k:=0) (by omega)
  unfold jf at this;rw[d4.1,d4.2]at this;exact this
 refine⟨λ_=>⟨by omega,by omega⟩,_,_,λ_=>w.some jD (by decide) (k:=0) (by omega),_,λ_=>w.el jD (k:=0) (by omega) 0 rfl,λ_=>⟨by omega,by omega⟩,_,_,λ_=>w.some jD (by decide) (k:=0) (by omega),_,λ_=>w.el jD (k:=0) (by omega) 1 rfl,
  _,λ_=>h.r 6,_,λ_=>h.r 6,λ_=>⟨by omega,by omega⟩,_,_,λ_=>R.some (enc:=jf) (sz:=2) (λ_=>rfl) (by decide) (k:=0) (by omega),_,_,λ_=>Y,_,λ_=>eq101,
  λ_=>⟨by omega,by omega⟩,_,_,λ_=>n.some jD (by decide) (k:=0) (by omega),_,λ_=>n.el jD (k:=0) (by omega) 0 rfl,λ_=>⟨by omega,by omega⟩,_,_,λ_=>n.some jD (by decide) (k:=0) (by omega),_,λ_=>n.el jD (k:=0) (by omega) 7 rfl,
  λ_=>⟨by omega,by omega⟩,_,_,λ_=>n.some jD (by decide) (k:=1) (by omega),_,λ_=>n.el jD (k:=1) (by omega) 0 rfl,_,λ_=>Ba (h.o [4] 9),_,λ_=>Ba (h.o [3] 9),_,λ_=>TB (h.o [3] 9),λ_=>?_,λt=>?_⟩
 .refine BQ h λH24 h=>⟨_,_,_,_,_,_,_,_,_,_,_,_,_,rfl,?_⟩
  refine Bh (o:=Ag.o0) h λH25 h=>⟨_,rfl,hJ _ _ ?_⟩
  rw[C];exact k h2 _ ((((((((Z.trans h5).trans h3).trans L).trans y3).trans hs6).trans j1).trans hs8).trans h9 |>.trans P) (h.o [0] 9)
 .exfalso;have q1:(jt Ag.g0 3 10 (cA Ag.f1)).2=0:=Ag.e1;have q2:(jt Ag.g0 3 10 (cA Ag.f1)).1.pend.length=1:=Ag.e2;have q3:(dV Ag.g2 12).2.2=0:=Ag.e3;have q6:(jt Ag.A3.1 3 14 (cA Ag.f2)).2=0:=Ag.e6;have q7:(jt Ag.A4.1 3 14 (cA Ag.f2)).2=19:=Ag.e7;have q8:(jt Ag.A5.1 3 16 (cA Ag.f3)).2=0:=Ag.e8;have h8:(jt Ag.g8 3 20 (cA Ag.f2)).2=22:=Ag.e15;have u8:Ag.A1.1.pend.length=1:=Ag.e2;simp[q1,q2,u8,q3,q6,q7,q8,h8,d2,d7,Ag.e12,Ag.e13,Ag.e14,Ag.e16,dU]at t
end
structure GcH(H0:aD)(x:GCZZ):Prop where
 rd:aP H0 x.a (x.bs.map U8)
 by':aH x.bs
 keep:aF x.keep
theorem gcK_old{H0:aD}{a:KQ}{xs:List GCZZ}(d:xs.length<=maxLen)(e:aP H0 a (flat qR xs))(c:∀x∈xs,GcH H0 x):GcK (old H0) a xs:=
 ⟨KIn.old e,λx b=>KIn.old (c x b).rd,λx b=>⟨(c x b).by',(c x b).keep⟩,d⟩
theorem few_of{o:Opt}(h:grC o.cfg 0=false):o.cfg.cells.toNat<=200\/ff o=false:=by
 cases ho:ff o with
 | false=>exact .inr rfl
 | true=>
  refine .inl (US (xs:=[]) (M5 ho) ?_);simp[grR,h]
theorem stpG_len(g:Gg)(now:Int):(dV g now).2.1.length<=64:=by
 unfold dV
 split
 .simp
 .have key:∀s p n,(dI s now g.o.period p n).2.length<=n:=by
   intro s p n
   induction n with
   | zero=>simp[dI]
   | succ n ih=>
    rw[dI]
    split
    .rw [Vv];simp only[V1,VN];omega
    .omega
  exact key _ _ 64
theorem stpG_by(g:Gg)(now:Int):∀o∈(dV g now).2.1,aH o.bs:=by
 unfold dV
 split
 .intro o a;cases a
 .have key:∀s p n,∀o∈(dI s now g.o.period p n).2,aH o.bs:=by
   intro s p n
   induction n with
   | zero=>intro o a;cases a
   | succ n ih=>
    rw[dI]
    split
    .intro o a
     rcases VK.1 a with a|a
     .exact ih o a
     .rw [V6]at a;subst a;exact nj _
    .exact ih
  exact key _ _ 64
theorem decQ_by{g:Gg}{now:Int}{ys:List Oy}(hm:ys.map Oy.o=(dV g now).2.1){y:Oy}(a:y∈ys):aH y.o.bs:=stpG_by g now _ (by rw[<-hm];exact V3.2 ⟨y,a,rfl⟩)
theorem Vp{α:Type}{xs:List α}{j:Nat}(h:j<xs.length):xs[j]∈xs:=V7 h
theorem outOp_by(e:bI):∀o∈cI e,aH o.bs:=by
 unfold cI;intro o a
 split at a
 .rw [V6]at a;subst a;exact nj _
 split at a
 .rw [V6]at a;subst a;exact nj _
 split at a
 .rw [V6]at a;subst a;exact kC
 split at a
 .rw [V6]at a;subst a;exact nj _
 .cases a
theorem M7(l:List bI):∀o∈l.flatMap cI,aH o.bs:=λo a=>by
 obtain⟨e,_,a⟩:=Ya.1 a;exact outOp_by e o a
theorem M8(s:aI):∀n,∀o∈iH s n,aH o.bs
 | 0,o,a=>by cases a
 | n+1,o,a=>by
  rw[iH]at a
  rcases VK.1 a with a|a
  .exact M8 s n o a
  .rw [V6]at a;subst a;exact nj _
theorem Vq{hm:HM}{l:List Ou}(h:∀o∈l,o.kind=1/\∃f:Fq,fE o.bs=.ok f/\f.kind=3/\f.ag=o.ag):HOk hm l/\∀n,eT hm l n=hm:=by
 have e:∀n,eT hm l n=hm:=by
  intro n
  induction n with
  | zero=>rfl
  | succ n ih=>
   rw[eT,ih]
   cases ho:l[n]? with
   | none=>rfl
   | some o=>
    have:=(h o (VY ho)).1;show ni hm o=hm;unfold ni;rw[nO,nO]
 refine⟨λi hi=>?_,e⟩
 obtain⟨a,f,b,c,d⟩:=h _ (V7 hi);exact⟨λh=>by omega,λh=>by omega,λ_=>⟨f,b,d,λj=>by omega⟩⟩
section
variable {F LL:List aE}{H:aD}{K:KE}{Q:aE}{gb db:Nat}{g:Gg}{o:Opt}{j:Nat}{was:List aI}{Ek E:List bI}{R:DR}{L:LG}{n0:Int}{kk:Nat}
theorem GI.up(I:GI g j was Ek E R L n0 kk){i:Nat}(h:j<=i):GI g i was Ek E R L n0 kk:=by
 obtain⟨d,rfl⟩:∃d,i=j+d:=⟨i-j,by omega⟩
 clear h
 induction d with
 | zero=>exact I
 | succ d ih=>exact ih.mono
theorem Vr{keep:Int}(b:aF keep)(c:g.rows.length<=549755813888)(h:aA H (gateA Q gb db g::F))(k:∀a,aA a (diskX db (eW g.rows g.syn keep) (eW g.rows g.syn keep).length::F)->K (.tuple #[]) a):CF 15 #[PA db 0,aC keep] H K:=by
 obtain⟨x,pb,ys,e1,e2,e3,h⟩:=gm.1 h;exact Gx b (by omega) (h.o [5] 7) k
theorem Reopen{rows:DR}{syn:Nat}{s:aI}{b u:List bI}(G:ff o=true)(B:o.cfg.cells.toNat<=200)(n:fg o.cfg j (dj rows) s b u)(E:TI o.segment rows rows.length (opS o.segment rows) j)(P:fk o.segment rows=0)(J:j<=198)(h:aA H (Q::diskX db rows syn::F))
  (k:∀Q' gb ys a c t C,aM Q Q'->(∀y∈ys,fI Q' y/\aH y.o.bs)->ys.length<=1000000->(∀hm Ek,HJ hm Ek Ek->Ek <+: b->u <+: Ek->HOk hm (ys.map Oy.o)/\HJ (eT hm (ys.map Oy.o) ys.length) b b)->
   GI (kM o s rows) (j+2) [iq s eQ] b b rows C (dj rows).length 1->aA t (Q'::slA 91 11 a ys.length c (flat bH ys)::gateA Q' gb db (kM o s rows)::F)->K (.tuple #[PA gb 0,.slice a ys.length c,aC 0]) t) :
  CF 16 #[PA db 0,.agg ⟨jp o⟩] H K:=by
 obtain⟨C,I⟩:=xP G B n E (by omega);have hs:=n.hs;refine xQ G B n E P J h λQ' gb ys a c t m s0 X x d N v hm O h=>k Q' gb ys a c t C x (λy i=>⟨O y i,?_⟩) ?_ (λM Ek D A w=>?_) I h
 .have:y.o∈iH s0 s0.kept.length++X.flatMap cI:=by rw[<-hm];exact V3.2 ⟨y,i,rfl⟩
  rcases VK.1 this with h|h
  .exact M8 _ _ _ h
  .exact M7 _ _ h
 .have U:=d.R.few B (by omega);have L:=hs.len;have V:=Mw X;rw[<-V8 (f:=Oy.o),hm,Vv,uQ];rw[v,Vv]at L;omega
 .have a1:=D.mono (P':=u) A λe T=>w.subset T
  obtain⟨b1,b2⟩:=Mv d n.pre a1 s0.kept.length (V2 _);obtain⟨c1,c2⟩:=BM (X:=X) (S:=[]) hs (by rw[v];simp) b2;have e:ys.length=(iH s0 s0.kept.length).length+(X.flatMap cI).length:=by rw[<-V8 (f:=Oy.o),hm,Vv]
  rw[hm,e,uR];refine⟨b1.app c1,?_⟩;rw[v]at c2 ⊢;exact c2
theorem GI.hear(I:GI g j was Ek E R L n0 kk){hm:HM}(H:HJ hm Ek Ek):HOk hm g.pend/\HJ (eT hm g.pend g.pend.length) E E/\∀o∈g.pend,aH o.bs:=by
 obtain⟨b,p1,p2⟩:=I.pend;obtain⟨a1,a2⟩:=BM (X:=b) (S:=[]) I.hs (by rw[p1];simp) (H.mono (P':=Ek) (by rw[p1];exact Yw _ _) λe a=>a)
 rw[<-p1]at a2;rw[p2];exact⟨a1,a2,M7 _⟩
end
theorem GateKept_true{H0:aD}{o:Opt}{ca:KQ}{cc:Nat}{xs:List GCZZ}(h5:xs.length<=maxLen)(hr:aP H0 ca (flat qR xs))(j3:∀x∈xs,GcH H0 x) :
  CF 4 #[.agg ⟨jp o⟩,.slice ca xs.length cc] H0 λv F=>v=.bool true/\dB H0 F:=by
 have l6:=gcK_old h5 hr j3;refine OW ?_;refine (sat0 H0).al λb _ h=>?_
 refine Vo (kL h) λQ1 H1 S h=>⟨_,rfl,λhc=>by simp at hc,λ_=>?_⟩
 have h6:=l6.sub S;refine⟨_,_,_,_,_,_,_,_,_,_,_,_,_,h.q 1,?_⟩;refine Vh (o:=o) (xs:=xs) h h6 λH2 h=>⟨_,rfl,λhg=>⟨rfl,B8 S h⟩,λhg=>?_⟩
 obtain⟨g1,g2,g3⟩:=grG_no hg;refine⟨_,_,_,_,_,_,_,_,_,_,_,_,_,h.q 1,?_⟩;refine Vl (o:=o) (few_of g2) h (λhn H3 h=>⟨_,_,rfl,λ_=>?_,λA=>Vu A (by simp)⟩) λV Q2 gb db H3 l5 h=>⟨_,_,rfl,λA=>Vu A (by simp),λ_=>?_⟩
 .refine⟨_,_,_,_,_,_,_,_,_,_,_,_,_,h.q 1,?_⟩;refine OfO_spec (o:=o) h λH4 h=>⟨_,_,_,_,_,_,_,_,_,_,_,_,_,rfl,?_⟩
  refine R25Right (o:=o) h λH5 h=>⟨_,rfl,?_⟩
  exact⟨by rw[hn];rfl,B8 S h⟩
 have hf:o.cfg.cells.toNat<=200:=by
  rcases few_of g2 with h|h
  .exact h
  .rw [V]at h;cases h
 obtain⟨L0,I0⟩:=xP V hf (xR V) (uU V).1 (by omega);refine h.alm kI3 vOy λb1 _ h=>?_
 refine h.alm aC vSb λb2 _ h=>?_
 refine h.al λb3 _ h=>?_
 have h:=Vn (h.o [0,2,1,3,4,5] 6);refine⟨λgp i F=>∃(j:Nat) (Q':aE) (gb:Nat) (g:Gg) (was:List aI) (Ek E:List bI) (R:DR) (LL:LG) (n0:Int) (k:Nat) (hm:HM),gp=some ⟨gb,0,none⟩/\i=j/\j<=xs.length/\aM Q1 Q'/\GI g (2+3*j) was Ek E R LL n0 k/\g.o=o/\HJ hm Ek Ek/\
   aA F (Q'::gateA Q' gb db g::hrdA b3 hm::cellsA b (jp o) 25::[]),
  λ_ i _=>xs.length-i.toNat,⟨0,Q2,gb,_,_,_,_,_,_,_,_,_,rfl,rfl,by omega,l5,I0,rfl,hj0,h.o [1,2,0,3] 4⟩,?_⟩
 rintro gp i H4 ⟨j,Q3,gb,g,was,Ek,E,R,LL,n0,kk,hm,rfl,rfl,hj,W,I,K,L,h⟩;refine⟨λA=>?_,λA=>⟨rfl,B8 (S.trans W) h⟩⟩
 have U:j<xs.length:=by simpa using A
 have Y:=h6.sub W;have h8:=Y.row.at h 0 rfl;have hw:i64.wrap ((j:Int)+1)=((j+1:Nat):Int):=by rw[aK];omega
 refine⟨⟨by omega,by omega⟩,_,_,h8.some uT (by decide) U,_,_,_,_,_,_,_,_,h8.els uT U,?_⟩;have T:=Vp U;obtain⟨x,ex⟩:∃x,xs[j]=x:=⟨_,rfl⟩;rw[ex]at T ⊢;have j2:=Y.bs x T;have h7:=Y.ok x T;have hx3:=g3 x T;refine h.al λb5 _ h=>?_
 refine h.st 0 rfl rfl λH5 h=>⟨_,h.r 0,?_⟩
 have h:aA H5 (cellsA b5 (qR x) 45::Q3::gateA Q3 gb db g::hrdA b3 hm::cellsA b (jp o) 25::[]):=h;have ok:=I.ok (by omega);intro Jn hJ;have next:∀(Q':aE) (n:Nat) (J:Gg) (m:List aI) (t G:List bI) (N:DR) (D:LG) (w:Int) (M Q:Nat) (u:HM) F,aM Q3 Q'->GI J Q m t G N D w M->Q<=2+3*j+3->J.o=o->HJ u t t->
   aA F (Q'::gateA Q' n db J::hrdA b3 u::cellsA b (jp o) 25::[])->Jn (some ⟨n,0,none⟩) F:=by
  intro Q' n J m t G N D w M Q u F hs I' hj' y3 j1 h;exact hJ _ _ ⟨⟨j+1,Q',n,J,m,t,G,N,D,w,M,u,rfl,hw,U,W.trans hs,I'.up (by omega),y3,j1,h⟩,by rw[hw];dsimp only;omega⟩
 refine⟨λh0=>?_,λh0=>?_⟩
 .obtain⟨G,D,a1,a2,a3,_⟩:=I.call (by omega) (M0 I.prb x.ag x.now x.bs);refine⟨_,h.r 0,_,h.r 0,_,_,_,h.r 0,?_⟩;refine Ph h (λH h=>j2.at h 1 rfl) (by omega) λa' c' H6 h=>⟨_,_,_,rfl,h.r 1,h.r 1,?_⟩
  have r8:=h.sl_nc 0 rfl;refine sO ok (h.o [2,3,0,4,5] 6) (λH h=>h.sl_rd 0 rfl) h7.1 r8 λQ' H7 hs h=>⟨_,rfl,?_⟩
  exact next Q' gb _ _ _ _ _ _ _ _ _ _ _ hs a1 (by omega) (a3.trans K) L (h.o [0,1,3,4] 5)
 intro Jn1 h9;have next:=λQ' n J m t G N D w M Q u F a b c d e f=>h9 _ _ (next Q' n J m t G N D w M Q u F a b c d e f)
 refine⟨λh1=>?_,λh1=>?_⟩
 .obtain⟨G,D,a1,a2,a3,a4,a5,a6⟩:=I.step (by omega) x.now;refine⟨_,h.r 0,?_⟩;refine M4 I (by omega) (h.o [1,2,3,4] 5) λQ' ys a c H6 hs C hy h=>⟨_,_,_,_,rfl,?_⟩
  obtain⟨q1,q2⟩:=Vq (hm:=hm) (l:=ys.map Oy.o) λo V=>by
   rw[C]at V;obtain⟨f0,f,f1,f2,f3,f4⟩:=a6 o V;exact⟨f0,f,f1,f2,f4⟩
  have P:ys.length<=64:=by
   rw[<-V8 (f:=Oy.o),C];exact stpG_len g x.now
  refine BP q1 (λy O=>⟨hy y O,decQ_by C O⟩) (by omega) (h.o [0,3,1,2,4] 5) (λH h=>h.sl_rd 0 rfl) λZ H7 B h=>⟨_,rfl,λA=>Vu A (by simp),λ_=>?_⟩
  rw[q2]at h;have h:=sM B (h.o [3,0,1,4] 5);exact next Z gb _ _ _ _ _ _ _ _ _ _ _ (hs.trans B) a1 (by omega) (a3.trans K) L (h.o [1,0,2,3] 4)
 intro Jn2 r9;have next:=λQ' n J m t G N D w M Q u F a b c d e f=>r9 _ _ (next Q' n J m t G N D w M Q u F a b c d e f)
 refine⟨λh2=>?_,λh2=>?_⟩
 .obtain⟨G,D,a1,a2,a3,_⟩:=I.call (by omega) (Vg I.prb x.next);refine⟨_,h.r 0,?_⟩;refine Ml ok (h.o [1,2,3,4] 5) λQ' H6 hs h=>⟨_,rfl,?_⟩
  exact next Q' gb _ _ _ _ _ _ _ _ _ _ _ hs a1 (by omega) (a3.trans K) L h
 intro Jn3 u8;have next:=λQ' n J m t G N D w M Q u F a b c d e f=>u8 _ _ (next Q' n J m t G N D w M Q u F a b c d e f)
 refine⟨λh3=>?_,λh3=>?_⟩
 .obtain⟨N,D,w,M,i1,i2,i3,i4⟩:=I.sync (by omega);obtain⟨q1,q2,q3⟩:=I.hear L;have hpl:=I.plen;refine⟨_,xN (h.o [2] 5),?_⟩;refine BC ok I.ti.files (h.o [1,2,3,4] 5) λys a c H6 C hy h=>⟨_,_,_,rfl,?_⟩
  have P:ys.length=g.pend.length:=by rw[<-V8 (f:=Oy.o),C]
  intro Jn4 l0;refine⟨_,λ_=>xN (h.o [2,0] 5),λ_=>?_,λA=>?_⟩
  .refine BP (hm:=hm) (by rw[C];exact q1) (λy O=>⟨hy y O,q3 _ (by rw[<-C];exact V3.2 ⟨y,O,rfl⟩)⟩) (by omega) (h.o [0,3,1,2,4] 5) (λH h=>h.sl_rd 0 rfl) λZ H7 B h=>⟨_,rfl,l0 _ _ ⟨λA=>Vu A (by simp),λ_=>?_⟩⟩
   rw[C,P]at h;have h:=sM B (h.o [3,0,1,4] 5);exact next Z gb _ _ _ _ _ _ _ _ _ _ _ B i1 (by omega) (i3.trans K) q2 (h.o [1,0,2,3] 4)
  .exfalso;rw[P,i4]at A;simp at A
 intro Jn5 hJ5;have next:=λQ' n J m t G N D w M Q u F a b c d e f=>hJ5 _ _ (next Q' n J m t G N D w M Q u F a b c d e f)
 refine⟨λh4=>?_,λh4=>?_⟩
 .obtain⟨s,E1,E0,c1,c2,c3,c4,c5,c6,c7⟩:=I.crash (by omega) x.keep;rw[K]at c1 c6 c7;refine⟨_,h.r 0,?_⟩;refine Vr h7.2 ok.rows (h.o [2,1,3,4] 5) λH6 h=>⟨rfl,_,_,_,_,_,_,_,_,_,_,_,_,_,h.q 3,?_⟩
  refine Reopen (o:=o) (j:=2+3*j+1) V hf (c1.mono (by omega)) c6 c7 (by omega) (h.o [1,0,2,3] 4) λQ' n ys a c H7 D hs hy P hh I' h=>⟨_,_,_,_,_,rfl,?_⟩
  obtain⟨q1,q2⟩:=hh hm Ek L c2 c4;intro Jn6 r0;have y2:(kM o s (eW g.rows g.syn x.keep)).pend=[]:=rfl;refine⟨_,λ_=>xN (h.o [2,0] 5),λ_=>?_,λA=>?_⟩
  .refine BP (hm:=hm) q1 hy P (h.o [0,3,1,2,4] 5) (λH h=>h.sl_rd 0 rfl) λZ H8 B h=>⟨_,rfl,r0 _ _ ⟨λA=>Vu A (by simp),λ_=>?_⟩⟩
   have h:=sM B (h.o [3,0,1,4] 5);exact next Z n _ _ _ _ _ _ _ _ _ _ _ (hs.trans B) I' (by omega) rfl q2 (h.o [1,0,2,3] 4)
  .exfalso;rw[y2]at A;simp at A
 .exact next Q3 gb g was Ek E R LL n0 kk _ hm _ (aM.refl _) I (by omega) K L (h.o [1,2,3,4] 5)
section
variable {H:Type}{enc:TypeId×Value->H}{W:World}
theorem reads_opt{cs:Os}(h:kQ enc Tryz.prog W 25 cs):∃o:Opt,cs=jp o:=by
 obtain⟨c,d⟩:=yJ Tryz.underlying25 h;have c2:Tryz.prog.cellsOf 2=1:=by kernel_rfl
 have c3:Tryz.prog.cellsOf 3=1:=by kernel_rfl
 have b:Tryz.prog.cellsOf 23=9:=by kernel_rfl
 have a:Tryz.prog.cellsOf 25=13:=by kernel_rfl
 rw[a]at c;simp only[V9,W1,or_false,forall_eq_or_imp,forall_eq,c2,c3,b]at d;obtain⟨f1,f2,f3,f4,f5⟩:=d
 match cs,c with
 | [x1,x2,x3,x4,x5,x6,x7,x8,x9,x10,x11,x12,x13],_=>
  simp only[List.drop_zero,WA,WU,Yy]at f1 f2 f3 f4 f5;obtain⟨cf,e1⟩:=UO f1;obtain⟨n2,e2,_,_⟩:=iw Tryz.underlying2 f2;obtain⟨n3,e3,_,_⟩:=iw Tryz.underlying3 f3;obtain⟨n4,e4,_,_⟩:=iw Tryz.underlying3 f4;obtain⟨n5,e5,_,_⟩:=iw Tryz.underlying3 f5;simp only[List.cons.injEq,and_true]at e1 e2 e3 e4 e5;obtain⟨rfl,rfl,rfl,rfl,rfl,rfl,rfl,rfl,rfl⟩:=e1;subst e2 e3 e4 e5;exact⟨⟨cf,n2,n3,n4,n5⟩,rfl⟩
theorem reads_calls{cs:Os}(h:kQ enc Tryz.prog W 26 cs):∃a c xs,cs=[.slice a (List.length xs) c]/\xs.length<=maxLen/\aP W.heap a (flat qR xs)/\∀x∈xs,GcH W.heap x:=by
 refine Es (ec:=qR) (Q:=GcH W.heap) Tryz.underlying26 (sz:=6) (by kernel_rfl) (by decide) h (λf j e=>?_) uT
 obtain⟨_,d⟩:=yJ Tryz.underlying45 j;have c2:Tryz.prog.cellsOf 2=1:=by kernel_rfl
 have c3:Tryz.prog.cellsOf 3=1:=by kernel_rfl
 have b:Tryz.prog.cellsOf 43=1:=by kernel_rfl
 simp only[V9,W1,or_false,forall_eq_or_imp,forall_eq,c2,c3,b]at d;obtain⟨f1,f2,f3,f4,f5,f6⟩:=d
 match f,e with
 | [x1,x2,x3,x4,x5,x6],_=>
  simp only[List.drop_zero,WA,WU,Yy]at f1 f2 f3 f4 f5 f6;obtain⟨n1,e1,_,_⟩:=iw Tryz.underlying3 f1;obtain⟨n2,e2,_,_⟩:=iw Tryz.underlying2 f2;obtain⟨n3,e3,_,_⟩:=iw Tryz.underlying2 f3;obtain⟨n4,e4,_,_⟩:=iw Tryz.underlying2 f4;obtain⟨n5,e5,b1,b2⟩:=iw Tryz.underlying3 f5;obtain⟨a,c,bs,e6,_,i,hb⟩:=reads_bs f6;simp only[List.cons.injEq,and_true]at e1 e2 e3 e4 e5 e6;subst e1 e2 e3 e4 e5 e6;exact⟨⟨n1,n2,n3,n4,n5,a,c,bs⟩,rfl,i,hb,⟨b1,b2⟩⟩
end
end Go.Proofs.YtaaieblnikcndaaGreatDoor
