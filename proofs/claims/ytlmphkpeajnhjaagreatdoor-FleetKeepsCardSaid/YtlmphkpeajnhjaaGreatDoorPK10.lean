/-
  Lemmas for FleetKeeps: part 10 of what it rests on. Conditions: none.
-/
import Derived.Test.YtlmphkpeajnhjaaGreatDoorPK9
set_option linter.unusedVariables false
set_option linter.unusedSimpArgs false
set_option maxRecDepth 100000
set_option maxHeartbeats 16000000
open Go.IntKind (i64 u64 i8 u8 i32 u32 i16 u16)
namespace Go.Proofs.YtlmphkpeajnhjaaGreatDoor
open Go
structure ad0 where
 what:Int
 ag:Int
 now:Int
 next:Int
 eS:Int
 a:KQ
 c:Nat
 bs:List Int
abbrev agE(x:ad0):Xa:=[aD x.what,aD x.ag,aD x.now,aD x.next,aD x.eS,.slice x.a x.bs.length x.c]
variable {H:aC}{F:List aF}{Q A:aF}{K:KE}{j i l:Nat}{g:Ag}{n v:Int}{w:Wr}{a:KQ}{s:aL}{o:Ot}{m:Ldg}{G:aC->Prop}{E:List DF}{b:Gg}{t:Fb}{B:Nat->Nat}{D:List Fy}{J:List Int}{L:List bO}{N:List aL}{P:Fq}
theorem OF(x:ad0):(agE x).length=6:=rfl
structure GcK(Q:aF)(a:KQ)(xs:List ad0):Prop where
 row:DJ Q a (flat agE xs)
 bs:∀x∈xs,DJ Q x.a (x.bs.map U8)
 ok:∀x∈xs,aI x.bs/\aG x.eS
 len:xs.length<=maxLen
def grG(o:Opt)(xs:List ad0):Bool:=decide (60<xs.length)||grC o.cfg 0||xs.any λx=>decide (3000<x.bs.length)
section
variable {F L:List aF}{H:aC}{K:KE}{Q:aF}{gb db:Nat}{g:Gg}{o:Opt}
abbrev eR(p:Prop)[Decidable p]:Int:=if p then 0 else 11
theorem eR0(p:Prop)[Decidable p]:decide (eR p=0)=decide p:=by grind
theorem ahO{boot most:Int}(h:aA H F)(k:∀p a,aA a F->K (.tuple #[.pointer p,aD (eR ((1<=boot/\boot<=1099511627776)/\1<=most/\most<=1024))]) a):CF 102 #[aD boot,aD most] H K:=by
 refine cM 102 476 ⟨λc=>?_,λc=>?_⟩ <;> simp only[Jq,E8,za,DC]at c;.rw [eR,nO]at k;exact k _ _ h
 rw [eR,pO]at k;exact h.al λb _ h=>k _ _ h.tl
theorem ahM{hY:Int}(h:aA H F)(k:∀p a,aA a F->K (.tuple #[.pointer p,aD (eR (1<=hY/\hY<=1099511627776))]) a):CF 179 #[aD hY] H K:=by
 refine cM 179 476 ⟨λc=>?_,λc=>?_⟩ <;> simp only[Jq,E8,za,DC]at c;.rw [eR,nO]at k;exact k _ _ h
 rw [eR,pO]at k;exact h.al λb _ h=>k _ _ h.tl
theorem afY{kl:Int}:bX Tryz.prog 266 #[aD kl] H (.bool (decide (0<=kl)&&decide (kl<=100000))):=by unfold bX;exact cM 266 28 ⟨rfl,rfl⟩
theorem ahN{kl zx:Int}(h:aA H F)(k:∀p a,aA a F->K (.tuple #[.pointer p,aD (eR (ju kl/\0<=zx/\zx<=100))]) a):CF 180 #[aD kl,aD zx] H K:=by
 refine cM 180 476 ⟨_,afY,λc=>?_,λc=>?_⟩ <;> simp only[Jq,E8,XB,q2p,p_,Bool.and_eq_false_iff,za,DC]at c;.rw [eR,b_ (by grind)]at k;exact k _ _ h
 rw [eR,c_ (by grind)]at k;exact h.al λb _ h=>k _ _ h.tl
theorem ahP{most:Int}(h:aA H F)(k:∀p a,aA a F->K (.tuple #[.pointer p,aD (eR (1<=most/\most<=64))]) a):CF 181 #[aD most] H K:=by
 refine cM 181 476 ⟨λc=>?_,λc=>?_⟩ <;> simp only[Jq,E8,za,DC]at c;.rw [eR,nO]at k;exact k _ _ h
 rw [eR,pO]at k;exact h.al λb _ h=>k _ _ h.tl
theorem ahL{most:Int}(h:aA H F)(k:∀p a,aA a F->K (.tuple #[.pointer p,aD (eR (1<=most/\most<=1024))]) a):CF 182 #[aD most] H K:=by
 refine cM 182 476 ⟨λc=>?_,λc=>?_⟩ <;> simp only[Jq,E8,za,DC]at c;.rw [eR,nO]at k;exact k _ _ h
 rw [eR,pO]at k;exact h.al λb _ h=>k _ _ h.tl
theorem ahR{most:Int}(h:aA H F)(k:∀p a,aA a F->K (.tuple #[.pointer p,aD (eR (1<=most/\most<=256))]) a):CF 183 #[aD 0,aD most] H K:=by
 refine cM 183 476 ⟨λc=>?_,λc=>?_⟩ <;> simp only[Jq,E8,za,DC]at c;.rw [eR,nO]at k;exact k _ _ h
 rw [eR,pO]at k;exact h.al λb _ h=>k _ _ h.tl
theorem adJ{c:bM}(h:aA H F)(k:∀a,aA a F->K (.bool (fH c)) a):CF 103 #[.agg ⟨pI c⟩] H K:=by
 refine cM 103 17895708 (h.al λb _ h=>⟨_,h.r 0,ahM h λp1 m h=>⟨_,_,rfl,_,h.r 0,_,h.r 0,ahN h λp2 i h=>⟨_,_,rfl,_,h.r 0,ahP h λp3 j h=>⟨_,_,rfl,_,h.r 0,ahL h λp4 f h=>⟨_,_,rfl,_,h.r 0,ahR h λp5 d h=>⟨_,_,rfl,_,_,_,h.q 0,cM 184 28 (h.al λb _ h=>⟨_,h.r 0,_,λ_=>h.r 0,_,λ_=>h.r 0,_,λ_=>h.r 0,_,λ_=>h.r 0,_,λ_=>h.r 0,_,rfl,?_⟩)⟩⟩⟩⟩⟩⟩);conv=>whnf
 have e:(((((((((((decide (1<=c.width))&&(decide (c.width<=1099511627776)))&&(decide (0<=c.r_)))&&(decide (c.r_<=3)))&&(decide (0<=c.most)))&&(decide (c.most<=4611686018427387903)))&&decide (eR (1<=c.hY/\c.hY<=1099511627776)=0))&&decide (eR (ju c.kl/\0<=c.zx/\c.zx<=100)=0))&&decide (eR (1<=c.agents/\c.agents<=64)=0))&&decide (eR (1<=c.cells/\c.cells<=1024)=0))&&decide (eR (1<=c.hold/\c.hold<=256)=0))=fH c:=by rw[eR0,eR0,eR0,eR0,eR0];unfold fH;rw[q24];simp only[p_,za];unfold Gd.ok bM.gd;grind
 have k:=k _ h.tl.tl;rw[<-e]at k;exact k
theorem adI(h:aA H F)(k:∀a,aA a F->K (.bool (gF o)) a):CF 47 #[.agg ⟨kY o⟩] H K:=by
 refine cM 47 284 (h.al λb _ h=>⟨_,h.r 0,ahO h λp1 f h=>⟨_,_,rfl,_,_,_,_,_,_,_,_,_,h.q 0,adJ (c:=o.cfg) h λd h=>⟨_,rfl,_,λ_=>h.r 0,_,λ_=>h.r 0,_,λ_=>h.r 0,_,λ_=>h.r 0,_,λ_=>h.r 0,_,λ_=>h.r 0,?_⟩⟩⟩);have e:(((((((fH o.cfg&&(decide (1<=o.period)))&&(decide (o.period<=1099511627776)))&&decide (eR (((1:Int)<=1/\(1:Int)<=1099511627776)/\1<=o.CS/\o.CS<=1024)=0))&&(decide (64<=o.g_)))&&(decide (o.g_<=1048576)))&&(decide (1<=o.save)))&&(decide (o.save<=1048576)))=gF o:=by rw[eR0];unfold gF;grind
 have k:=k _ h.tl;rw[<-e]at k;exact k
theorem adK(h:aA H F)(k:∀a,aA a F->K (.agg ⟨kY o⟩) a):CF 44 #[.agg ⟨kY o⟩] H K:=by refine cM 44 28 (h.al λb _ h=>h.al λb1 _ h=>⟨_,_,_,_,_,_,_,_,_,h.q 1,_,h.r 1,_,h.r 1,_,h.r 1,_,h.r 1,cM 101 28 (h.al λb2 _ h=>h.al λb3 _ h=>⟨_,h.r 1,_,h.r 1,_,h.r 1,_,h.r 1,_,h.r 1,_,h.r 1,_,h.r 1,_,h.r 1,_,h.r 1,h.st 0 rfl rfl λd h=>⟨_,_,_,_,_,_,_,_,_,h.q 0,_,_,_,_,_,_,_,_,_,rfl,h.r 3,h.r 3,h.r 3,h.r 3,h.st 2 rfl rfl λc h=>⟨_,_,_,_,_,_,_,_,_,_,_,_,_,h.q 2,k _ h.tl.tl.tl.tl⟩⟩⟩)⟩)
theorem Za{a:KQ}{c:Nat}{xs:List ad0}(h:aA H (Q::F))(s:GcK Q a xs)(k:∀m,aA m (Q::F)->K (.bool (grG o xs)) m):CF 42 #[.agg ⟨kY o⟩,.slice a xs.length c] H K:=by
 refine cN 42 0x12283c921562139925b4c [[(5,sI)],[(13,sB)]] (h.al λb _ h=>?_);have n:=s.len;unfold maxLen at n;intro N y;refine⟨_,_,_,_,_,_,_,_,_,λ_=>h.q 0,λC=>?_,λC=>?_⟩
 .refine Yc (cf:=o.cfg) (xs:=[]) (a:=none) (c:=0) (h.o [1,0] 2) ⟨λH F _=>fN _ _,λx s=>cS s eh,eh⟩ λP h=>⟨_,rfl,y _ _ ?_⟩;have A:grR o.cfg []=grC o.cfg 0:=by simp[grR]
  rw[A];have D:decide (60<xs.length)=false:=decide_eq_false (by grind);have I:grG o xs=(grC o.cfg 0||xs.any λx=>decide (3000<x.bs.length)):=by unfold grG;grind
  refine⟨λe=>?_,λe=>?_⟩
  .have e:grC o.cfg 0=true:=e;have:grG o xs=true:=by grind
   rw[this]at k;exact k _ (h.o [0] 2)
  refine⟨λi m=>∃j:Nat,i=j/\j<=xs.length/\(∀q (u:q<xs.length),q<j->xs[q].bs.length<=3000)/\aA m (Q::ax b (kY o) 25::F),λi m=>xs.length-i.toNat,⟨0,rfl,ez,λq _ h=>cS h ez,h⟩,?_⟩;rintro i M ⟨j,rfl,O,w,h⟩;refine⟨λB=>?_,λB=>?_⟩
  .have d:j<xs.length:=by grind
   have v:=s.row.at h 0 rfl;refine⟨⟨ez,ez⟩,_,_,v.some OF ee d,_,_,_,v.el OF d 5 rfl,λf=>?_,λf=>?_⟩
   .have f:=j_ f;have:grG o xs=true:=by grind
    rw[this]at k;exact k _ (h.o [0] 2)
   have f:=h_ f;have L:i64.wrap ((j:Int)+1)=((j+1:Nat):Int):=by grind [aN]
   refine⟨⟨j+1,L,d,λq u E=>?_,h⟩,by grind⟩;grind
  have G:¬j<xs.length:=by grind
  have:grG o xs=false:=by have e:grC o.cfg 0=false:=e;rw[I,e,q33,List.any_eq_false];intro x t;obtain⟨q,u,rfl⟩:=XV t;grind
  rw[this]at k;exact k _ (h.o [0] 2)
 have:grG o xs=true:=by unfold grG;grind
 rw[this]at k;exact y _ _ ⟨λ_=>k _ h.tl,λJ=>cS J eh⟩
theorem adx{s:aL}(ok:cY s)(a:Int)(h:(kW s a).2=true):1<=(kW s a).1.en.epoch/\(kW s a).1.en.epoch<=1099511627776:=by
 have d:=ok.rows.at a;unfold kW at h ⊢;split
 .rename_i c;let⟨h0,st,b⟩:=ok.str c;have e:iO s a=some st:=by unfold iO;grind
  grind
 grind
section
variable {j:Nat}{u_:List aL}{Ek E:List DF}{R:DR}{LL:LG}{n0:Int}{kk:Nat}
theorem adY{now:Int}(I:GI g j u_ Ek E R LL n0 kk)(u:j<=2998)(h:aA H (Q::kx Q gb db g::F)) (k:∀Q' ys a c f,aH Q Q'->ys.map Oy.o=(dm g now).2.1->(∀y∈ys,fP Q' y)->aA f (Q'::ay 266 11 a ys.length c (flat bV ys)::kx Q' gb db (dm g now).1::F)->K (.tuple #[.slice a ys.length c,aD (dm g now).2.2]) f) : CF 121 #[PA gb 0,aD now] H K:=by have i:um g (cI g (fK now)):=⟨g.p,I.q_,rfl,rfl,.inr ⟨_,rfl,show (6:Int)≠1 by decide,λe b=>cS b (by simp[fK])⟩⟩;let⟨m,t,a1,a2,a3,a4,a5⟩:=I.call ez i;have d:=I.count;refine Yr (I.ok ez) (a1.ok ez) ez (λb=>OE (s:=g.s) (now:=now) (by unfold cI at b;grind)) (λa n h=>adx a1.hs.R.R.ok _ h) h k
theorem adZ{rows:DR}{syn m:Nat}{s0:aL}{C:List DF}{rs:List Rp}(u:gF o=true)(t:o.cfg.cells.toNat<=200)(b:Led o.cfg j (du rows) s0 C rs m)(d:TI o.g_ rows rows.length (LD o.g_ rows) j)(B:gh o.g_ rows=0)(I:j<=2998) (h:aA H (Q::eG db rows syn::F)) (k:∀Q' gb ys a c f,aH Q Q'->ys.map Oy.o=lC s0 s0.kept.length++(jA s0 rs).flatMap dp->(∀y∈ys,fP Q' y)->aA f (Q'::ay 266 11 a ys.length c (flat bV ys)::kx Q' gb db (mS o (dv s0 rs) rows)::F)->K (.tuple #[PA gb 0,.slice a ys.length c,aD 0]) f):CF 93 #[PA db 0,.agg ⟨kY o⟩] H K:=by
 have hs:=fA.hs ⟨s0,rs,m,b,rfl,rfl⟩;have e:=b.h0.R;have D:=b.len;have E:=d.len;have G:=d.hN;have hb:=hs.boots;have A:=hs.R.R.ok.boots;have v:=O9 (s:=dv s0 rs) ez;refine Yy u d.rok ez B ez (d.ok ez) e.R e.cfg (b.tell.imp (λh=>⟨h.1,h.2.1⟩) id) b.GK b.oks (e.few t ez) (λi hi=>?_) ez (by rw[v]) (by grind) h λQ' gb ys a c f n hm w h=>k Q' gb ys a c f n ?_ w h;.have:=(e.run (rs:=rs.take i) λr x=>b.GK r (K2 x)).few t (by grind);omega
 grind [O7]
theorem aeV(a:gF o=true):64<=o.g_/\o.g_<=1048576:=by unfold gF at a;grind
theorem DZ(a:gF o=true):fH o.cfg=true:=by unfold gF at a;grind
theorem ab2(a:gF o=true):TI o.g_ [] 0 (LD o.g_ []) 0/\gh o.g_ []=0:=by grind [aeV,abT,yJ,ti0]
theorem OG(a:gF o=true):fA o.cfg 0 (du []) (cz o.cfg) [] []:=by rw[yJ.2.1];exact fA.new (DZ a)
end
end
theorem afu{e:Pv}(h:gw e=true)(c:aG e.value)(r:List Int):evQ ⟨0,E9 e++r⟩=.ok (e,⟨0,r⟩):=by
 let⟨b,a⟩:=Dm h;have e1:E9 e++r=bS (GO e.stamp)++(bS (Hr e.value)++(gQ e.name e.labs++r)):=by grind [E9,aej,CK]
 have i1:dC ⟨0,bS (Hr e.value)++(gQ e.name e.labs++r)⟩=(e.value,⟨0,gQ e.name e.labs++r⟩):=by grind [dC,oe,vq,CI]
 unfold evQ;rw[e1,oe (rN _)];dsimp only;rw[i1];dsimp only;rw[Da a,MI (by unfold aG;omega)];rfl
theorem OH{l:List Pv}(h:∀e∈l,gw e=true/\aG e.value)(r:List Int):∀j,j<=l.length->j6 j ⟨0,l.flatMap E9++r⟩=.ok (l.take j,⟨0,(l.drop j).flatMap E9++r⟩)
 | 0,_=>rfl
 | j+1,hj=>by have a:j<l.length:=ez;have hm:=h _ (qa a);unfold j6;rw[OH h r j ez];dsimp only;rw[RU a,PV,FB,afu hm.1 hm.2];dsimp only;rw[q27,List.getElem?_eq_getElem a];rfl
theorem Zb(h:aI J):fj (bN J)=J:=by unfold fj bN;rw[strOfNums_data,XT];refine (q2e λx a=>?_).trans (List.map_id J);have:=h x a;simp only[Function.comp,UInt8.toNat_ofNat',id];omega
theorem OI(s:iM { kind:=P.kind } (aU P.kind) ((aU P.kind).map P.nums)={ P with evs:=[],sn:=⟨#[]⟩,sl:=[],data:=[] })(w:P.kind≠5->P.evs=[])(d:P.kind≠8->P.sn=⟨#[]⟩/\P.sl=[]/\P.data=[]) (t:∀e∈P.evs,aG e.value) (hd:aI P.data) (h0:jK P=0):cX (cO P)=.ok P:=by
 unfold jK at h0;split at h0;.cases h0
 rename_i j;split at h0;.cases h0
 rename_i v;have j:dQ P=true:=by grind
 have a:=j;unfold dQ at a;simp only[p_,za,XU]at a;have e:cO P=ei (gC P):=by unfold cO;grind
 unfold cX;rw[e,b_ v,BT,b_ eh];dsimp only;unfold nR pH;have hb:gC P=aP [P.kind]++(((aU P.kind).flatMap λi=>aP [P.nums i])++jJ P):=by grind [gC]
 rw[hb,uc ez ez];dsimp only;rw[nO];dsimp only;rw[zc (λi hi=>by have:=a.1.2 i hi;unfold aG;omega) _ _ (yb _),FJ,WD];dsimp only;rw[s];have u:lV { P with evs:=[],sn:=⟨#[]⟩,sl:=[],data:=[] } ⟨0,jJ P⟩=.ok (P,⟨0,[]⟩):=by
  have n:=a.2;unfold lV jJ;dsimp only;by_cases k5:P.kind=5
  .have b:gy P.next P.evs=true:=by unfold gg at n;grind
   unfold gy at b;simp only[p_,za,XU]at b;have a1:=d ez;rw[c_ k5,c_ k5];unfold mM;have:=OH (l:=P.evs) (λe h=>⟨b.2.2 e h,t e h⟩) [] P.evs.length (yb _);rw[HD,FJ,WD]at this;rw[ud (m:=64) ez ez];dsimp only;rw[Fw,this];let⟨k,_,_,_,_,_,_,_,_,_,_,sn,sl,data⟩:=P;grind
  rw[b_ k5,b_ k5];have a1:=w k5;by_cases k8:P.kind=8
  .have c:dB P.sn P.sl=true/\P.data.length<=4096:=by unfold gg at n;grind
   rw[c_ k8,c_ k8];unfold T0;have hs:(bN P.data).size=P.data.length:=nM _;rw[Da c.1];unfold FT;dsimp only;have e2:dh (bN P.data)=dh (bN P.data)++[]:=eh;rw[b_ eh,e2];dsimp only;rw[ue (m:=4096) ez ez,b_ eh,Zb hd];let⟨k,_,_,_,_,_,_,_,_,_,evs,sn,sl,data⟩:=P;grind
  rw[b_ k8,b_ k8];let⟨b1,b2,b3⟩:=d k8;let⟨k,_,_,_,_,_,_,_,_,_,evs,sn,sl,data⟩:=P;grind
 rw[show ([]:List Nat).flatMap (λi=>aP [P.nums i])++jJ P=jJ P from rfl,u];unfold Xm;dsimp only;have x:dG ⟨0,[]⟩=⟨0,[]⟩:=rfl;grind
theorem Zc(h:(fp t).2.2=true):dB (fp t).1 (fp t).2.1=true:=by unfold fp at *;grind
theorem Ea(f:Fq):aI (cO f):=by
 unfold cO;split;.exact jE
 split;.exact jE
 refine BS (dM (dM (gR _) (jU λi _=>gR _)) ?_);unfold jJ;split;.exact dM (gR _) (jU λe _=>vy e)
 split;.exact dM (yc _ _) (qu _)
 exact jE
theorem Eb(f:Fq):(cO f).length<=65536:=by grind [cO]
structure mT(o:Ou):Prop where
 by_:aI o.bs
 len:o.bs.length<=1000000
 msg:o.kind=1->∃f,cX o.bs=.ok f/\f.ag=o.ag
 emi:o.kind=3->∃f,cX o.bs=.ok f/\f.kind=8
theorem Zd(h:kj o):dQ (iR o)=true:=by have hd:=rM h.wc;have a:=Zc h.hK;have b:=h.win;simp[dQ,iR,aU,gg,Fq.nums,a,hd];omega
theorem Ze(h:kj o):cX (cO (iR o))=.ok (iR o):=by
 have hd:=rM h.wc;have b:=Zd h;refine OI rfl (λ_=>rfl) (λh=>cS rfl h) (λe a=>cS a (by simp[iR])) (Ke _) ?_;unfold jK;have c:=dP [(8:Int)];have l1:=Cg (iR o) (aU 8);have l2:=vv (fp o.1.hK).1 (fp o.1.hK).2.1;have l3:=nL (s:=bN (dY o.2)) (by grind [nM]);have l4:(ei (gC (iR o))).length<=65536:=by have hs:(bN (dY o.2)).size=(dY o.2).length:=nM _;have e1:(ei (gC (iR o))).length=(((aP [(8:Int)]++P_ (iR o) (aU 8))++(gQ (fp o.1.hK).1 (fp o.1.hK).2.1++dh (bN (dY o.2)))).length)+4:=rR _;grind [vC]
 grind
theorem OJ(h:kj o):mT (lX n o):=⟨Ea _,by have:=Eb (iR o);show (cO (iR o)).length<=_;omega,λh=>cS h (show ¬(3:Int)=1 by decide),λ_=>⟨iR o,Ze h,rfl⟩⟩
theorem ab5(h:cX (cO P)=.ok P):mT (iQ P):=⟨Ea _,by have:=Eb P;show (cO P).length<=_;omega,λ_=>⟨P,h,rfl⟩,λh=>cS h (show ¬(1:Int)=3 by decide)⟩
theorem abQ{e:DF}(h:okE e):∀o∈dp e,mT o:=by
 unfold dp;intro o a;split at a;.rw [CU]at a;subst a;exact ab5 (Y6 (h.1 ‹_›))
 split at a;.rw [CU]at a;subst a;exact ab5 (adA (h.2.1 ‹_›))
 split at a;.rw [CU]at a;subst a;exact⟨jE,eh,λh=>cS h (show ¬(2:Int)=1 by decide),λh=>cS h (show ¬(2:Int)=3 by decide)⟩
 split at a;.rw [CU]at a;subst a;exact OJ (h.2.2 ‹_›)
 cases a
theorem OK(h:∀e∈E,okE e):∀o∈E.flatMap dp,mT o:=λo a=>by let⟨e,b,a⟩:=q1z.1 a;exact abQ (h e b) o a
theorem OL{s:aL}(h:∀o∈s.kept,kj o):∀n,n<=s.kept.length->∀o∈lC s n,mT o
 | 0,_,o,a=>by cases a
 | n+1,hn,o,a=>by
  rw[lC]at a
  rcases C_.1 a with a|a
  .exact OL h n ez o a
  .rw [CU]at a;subst a;rw[List.getD_eq_getElem?_getD,List.getElem?_eq_getElem ez];exact OJ (h _ (qa _))
def cZ(f:Nat->Value):Nat->Nat->Xa->Xa
 | 0,_,T=>T
 | n+1,i,T=>f i::cZ f n (i+1) T
def CT{α:Type}(f:Nat->α)(j:Nat)(v:α):Nat->α:=λi=>if i=j then v else f i
theorem wm{α:Type}(f:Nat->α)(j:Nat)(v:α):CT f j v j=v:=c_ rfl
theorem wo{α:Type}(f:Nat->α)(v:α)(h:i≠j):CT f j v i=f i:=b_ h
theorem zh(f:Nat->Value)(T:Xa):∀(n i j:Nat),j<n->aT (cZ f n i T) j=some (f (i+j))
 | 0,_,_,h=>cS h ez
 | n+1,i,0,_=>rfl
 | n+1,i,j+1,h=>by show aT (cZ f n (i+1) T) j=_;rw[zh f T n (i+1) j ez];congr 2;omega
theorem zi(f:Nat->Value)(T:Xa)(v:Value):∀(n i j:Nat),j<n->(cZ f n i T).set j v=cZ (CT f (i+j) v) n i T
 | 0,_,_,h=>cS h ez
 | n+1,i,0,_=>by
  show v::cZ f n (i+1) T=CT f (i+0) v i::cZ (CT f (i+0) v) n (i+1) T;simp only[q28];rw[wm];congr 1;have:∀(m k:Nat),i<k->cZ f m k T=cZ (CT f i v) m k T:=by
   intro m
   induction m with
   | zero=>intros;rfl
   | succ m ih=>intro k a;show f k::_=CT f i v k::_;grind [wo]
  grind
 | n+1,i,j+1,h=>by
  show f i::(cZ f n (i+1) T).set j v=CT f (i+(j+1)) v i::cZ (CT f (i+(j+1)) v) n (i+1) T;rw[zi f T v n (i+1) j ez,wo f v ez,show i+1+j=i+(j+1) by omega]
theorem zj(f:Nat->Value)(T:Xa)(v:Value)(j:Nat):∀(n i:Nat),(cZ f n i T).set (n+j) v=cZ f n i (T.set j v)
 | 0,i=>by rw[CO];rfl
 | n+1,i=>by rw[show n+1+j=(n+j)+1 by omega];show f i::(cZ f n (i+1) T).set (n+j) v=_;rw[zj f T v j n (i+1)];rfl
theorem zk(f:Nat->Value)(T:Xa)(j:Nat):∀(n i:Nat),aT (cZ f n i T) (n+j)=aT T j
 | 0,i=>by rw[CO];rfl
 | n+1,i=>by rw[show n+1+j=(n+j)+1 by omega];exact zk f T j n (i+1)
structure Fc where
 id:E5
 boot:Int
 tr:Int
 e:Pv
structure Hc where
 id:E5
 boot:Int
 tr:Int
 e:Ev
variable {C:List Hc}
def Hc.p(x:Hc):Fc:=⟨x.id,x.boot,x.tr,x.e.p⟩
abbrev fM(x:Hc):Xa:=[aB x.id.ag,aB x.id.ep,aB x.id.sq,aB x.boot,aB x.tr,aB x.e.stamp,aB x.e.value,.string x.e.name,.slice x.e.la x.e.labs.length x.e.lc]
abbrev Pt:=Int×Int
variable {k:Pt}
abbrev ot(x:Pt):Xa:=[aB x.1,aB x.2]
abbrev nc(x:Pt):Value:=.agg ⟨ot x⟩
structure Sl where
 a:KQ
 c:Nat
 Xd:List Pt
variable {M:List (Pt×Sl)}
def Sl.z:Sl:=⟨none,0,[]⟩
abbrev Fp(s:Sl):Value:=.slice s.a s.Xd.length s.c
structure aY where
 o:Opt
 buf:Int
 pk:Int
 now:Int:=0
 nn:Ldg:=[]
 my:List (E5×Pt):=[]
 sink:List (List Int):=[]
 facts:List Fc:=[]
 rds:List (Pt×List Pt):=[]
 sN:Nat->Bool:=λ_=>false
 B_:Nat->Bool:=λ_=>false
 ags:Nat->Ag
 w:Wr
 g:Gg
variable {f:aY}
structure FlX where
 lb:Nat
 sm:Nat
 sa:KQ
 sc:Nat
 fa:KQ
 fc:Nat
 rm:Nat
 wb:Nat
 db:Nat
 gb:Nat
variable {x:FlX}
abbrev dW(f:aY)(x:FlX)(ab:Nat->Nat)(ns nf:Nat):Xa:=
 PA x.lb 0::.map (some x.sm)::.slice x.sa ns x.sc::.slice x.fa nf x.fc::.map (some x.rm)::cZ (λi=>.bool (f.sN i)) 64 0 (cZ (λi=>.bool (f.B_ i)) 64 0
  (kY f.o++(aB f.buf::aB f.pk::aB f.now::cZ (λi=>PA (ab i) 0) 64 0 [PA x.wb 0,PA x.db 0,PA x.gb 0])))
def pr(Q:aF)(ab:Nat->Nat)(ags:Nat->Ag)(sk:Nat):Nat->aF
 | 0=>emp
 | n+1=>if n=sk then pr Q ab ags sk n else FV Q (ab n) (ags n)*pr Q ab ags sk n
section
variable {F L:List aF}{H:aC}{K:KE}{Q Q':aF}{ab:Nat->Nat}{ags:Nat->Ag}
theorem OM{s s':Nat}:∀{n:Nat},n<=s->n<=s'->pr Q ab ags s n=pr Q ab ags s' n
 | 0,_,_=>rfl
 | n+1,h1,h2=>by unfold pr;rw[nO,nO,OM (s:=s) (s':=s') ez ez]
theorem Ec{j s:Nat}:∀{n:Nat},j<n->n<=s->pr Q ab ags s n=FV Q (ab j) (ags j)*pr Q ab ags j n
 | 0,h,_=>cS h ez
 | n+1,h,hs=>by
  unfold pr;rw[nO]
  by_cases e:n=j
  .subst e;rw[c_ rfl,OM (s:=s) (s':=n) ez (yb _)]
  .rw [b_ e,Ec (j:=j) (n:=n) ez ez,uD]
theorem Ed{j:Nat}{g:Ag}:∀{n:Nat},pr Q ab (CT ags j g) j n=pr Q ab ags j n
 | 0=>rfl
 | n+1=>by
  unfold pr
  split
  .exact Ed
  .rename_i h;rw[wo ags g h,Ed]
theorem sx(hs:aH Q Q'){s:Nat}:∀{n:Nat} {F:List aF} {H:aC},aA H (pr Q ab ags s n::F)->aA H (pr Q' ab ags s n::F)
 | 0,_,_,h=>h
 | n+1,F,H,h=>by
  unfold pr at h ⊢
  split
  .rename_i e;rw[c_ e]at h;exact sx hs h
  .rename_i e;rw[b_ e]at h;have h:=yG hs (iu.1 h);have h:=sx hs (bY h);exact iu.2 (bY h)
theorem ON{j:Nat}(a:j<64)(h:aA H (pr Q ab ags 64 64::F)):aA H (FV Q (ab j) (ags j)::pr Q ab ags j 64::F):=by rw[Ec a (yb _)]at h;exact iu.1 h
theorem Ee{j:Nat}{g:Ag}(a:j<64)(h:aA H (FV Q (ab j) g::pr Q ab ags j 64::F)):aA H (pr Q ab (CT ags j g) 64 64::F):=by rw[Ec (ags:=CT ags j g) a (yb _),wm,Ed];exact iu.2 h
theorem aiL:Fs Tryz.prog 44 71 9 96:=fU kf
theorem aiK:Fs Tryz.prog 111 211 2 16:=fU kf
theorem mtS:jB Tryz.prog 124 50 54 nc (0,0):=ny Tryz.underlying124 kf
theorem mtR:jB Tryz.prog 125 213 111 Fp Sl.z:=ny Tryz.underlying125 kf
theorem ajg:lH Tryz.prog 213 nc:=A9 (enc:=ot) Tryz.underlying213 (λx y h=>by grind) (λx y=>by have h:pq Tryz.prog 213 (ot x) (ot y)=some (x.1 == y.1&&(x.2 == y.2&&true)):=kf;rw[h];congr 1;grind) (λx=>kf) (λx n=>by unfold Instr.sameBits;simp[Instr.sameBits])
def A_:List (Pt×Sl)->aF
 | []=>emp
 | p::r=>ay 211 2 p.2.a p.2.Xd.length p.2.c (flat ot p.2.Xd)*A_ r
abbrev plR(m:List (Pt×Sl)):List (Pt×List Pt):=m.map λp=>(p.1,p.2.Xd)
def D0(rm:Nat)(rds:List (Pt×List Pt)):aF:=F7 λm:List (Pt×Sl)=>star [DA (plR m=rds),mapA nc Fp rm m,A_ m]
structure age(Q:aF)(fs:List Hc):Prop where
 kin:∀x∈fs,ge Q x.e
structure FA where
 x:FlX
 ys:List Fy
 fs:List Hc
def gx(Q:aF)(fb:Nat)(ab:Nat->Nat)(f:aY):aF:=F7 λy:FA=>star [DA (y.ys.map Fy.bs=f.sink/\oo Q y.ys/\y.fs.map Hc.p=f.facts/\age Q y.fs),
 ax fb (dW f y.x ab y.ys.length y.fs.length) 133,C1 y.x.lb f.nn,mapA ji nc y.x.sm f.my,DB y.x.sa y.x.sc y.ys,ay 71 9 y.x.fa y.fs.length y.x.fc (flat fM y.fs),D0 y.x.rm f.rds,pr Q ab f.ags 64 64,m_ Q y.x.wb f.w,kx Q y.x.gb y.x.db f.g]
abbrev pf(Q:aF)(fb:Nat)(ab:Nat->Nat)(f:aY)(x:FlX)(ys:List Fy)(fs:List Hc)(F:List aF):List aF:=
 ax fb (dW f x ab ys.length fs.length) 133::C1 x.lb f.nn::mapA ji nc x.sm f.my::DB x.sa x.sc ys::ay 71 9 x.fa fs.length x.fc (flat fM fs)::D0 x.rm f.rds::pr Q ab f.ags 64 64::m_ Q x.wb f.w::kx Q x.gb x.db f.g::F
structure FlI(Q:aF)(f:aY)(ys:List Fy)(fs:List Hc):Prop where
 sink:ys.map Fy.bs=f.sink
 ys:oo Q ys
 facts:fs.map Hc.p=f.facts
 fs:age Q fs
theorem cB{fb:Nat}{f:aY}:aA H (gx Q fb ab f::F)↔∃x ys fs,FlI Q f ys fs/\aA H (pf Q fb ab f x ys fs F):=by
 unfold gx;rw[cw];constructor;.intro⟨y,h⟩;let⟨a,h⟩:=qe.1 (aA.open h);exact⟨y.x,y.ys,y.fs,⟨a.1,a.2.1,a.2.2.1,a.2.2.2⟩,h⟩
 intro⟨x,ys,fs,h1,h⟩;exact⟨⟨x,ys,fs⟩,aA.shut [_,_,_,_,_,_,_,_,_,_] (h.DA ⟨h1.sink,h1.ys,h1.facts,h1.fs⟩)⟩
theorem FlI.sub{f:aY}{ys:List Fy}{fs:List Hc}(h:FlI Q f ys fs)(hs:aH Q Q'):FlI Q' f ys fs:=⟨h.sink,h.ys.sub hs,h.facts,⟨λx a=>(h.fs.kin x a).sub hs⟩⟩
end
def mU(f:aY)(up:Bool)(ag:Int)(bs:List Int):aY:={ f with w:=(iw f.w (up,ag,f.now,bs)).1 }
abbrev Ou.id(o:Ou):E5:=⟨o.ida,o.ide,o.seq⟩
abbrev Ou.vd(o:Ou):Vd:=⟨o.reason,o.win⟩
def gJ(f:aY)(o:Ou):aY:=
 if o.kind=1 then mU f false o.ag o.bs else
 if o.kind=2 then { f with nn:=(jl f.nn (Ou.id o) (Ou.vd o)).1,my:=if (jl f.nn (Ou.id o) (Ou.vd o)).2=0/\(aK (Ou.id o) f.nn).isSome=false then eO (Ou.id o) (o.lo,o.hi) f.my else f.my } else
 if o.kind=3/\o.num=(f.sink.length:Int) then { f with sink:=f.sink++[o.bs] } else f
def ff(f:aY)(l:List Ou):aY:=l.foldl gJ f
theorem sy{c:Wpc}(ok:ft w)(hb:aI c.2.2.2)(f:c.2.2.2.length<=1000000)(i:w.next<1000000000000):ft (iw w c).1/\(iw w c).1.next<=w.next+1/\w.next<=(iw w c).1.next/\(iw w c).1.most=w.most:=by
 have k:=ok.next;have n:=ok.most;unfold iw;split;.grind
 split;.grind
 rename_i j;have e:aK w.next w.m=none:=dX.2 λd=>by let⟨q,h,s⟩:=Ax.1 d;have:=ok.keys q h;omega
 refine⟨⟨ok.most,?_,λp a=>?_,by grind,λp a=>?_⟩,GG _,by grind,rfl⟩;.grind [Ar]
 .dsimp only;rcases DO.1 a with rfl|a;.grind
  have:=ok.keys p (nt.1 a).1;omega
 rcases DO.1 a with rfl|a;.rename_i b;refine⟨hb,f,?_⟩;unfold aaA at b;grind
 exact ok.bs p (nt.1 a).1
theorem aai{a:aF}(e:a=A*Q)(h:aA H (A::Q::F)):aA H (a::F):=e▸iu.2 h
theorem zl{ags:Nat->Ag}(hs:aH Q A)(h:aA H (pr Q B ags 64 64::kx Q j i b::F)):aA H (pr A B ags 64 64::kx A j i b::F):=bY (wi hs (bY (sx hs h)))
theorem Ef{up:Bool}(ok:ft f.w)(c:DJ Q a (J.map U8))(m:J.length<=1000000)(h:aA H (Q::gx Q l B f::F)) (k:∀Q' i,aH Q Q'->aA i (Q'::gx Q' l B (mU f up v J)::F)->K (.tuple #[]) i):CF 60 #[PA l 0,.bool up,aD v,.slice a J.length j] H K:=by
 let⟨x,ys,fs,d,h⟩:=cB.1 (bY h);refine cM 60 4 ⟨some ⟨x.wb,0,none⟩,h.r 0,_,h.r 0,h.al λb _ h=>⟨h.r 1,?_⟩⟩;have h:=h.o [10,8,0,1,2,3,4,5,6,7,9] 11;have e:flat mQ [(⟨up,v,f.now,a,j,J⟩:Pk)]=mQ ⟨up,v,f.now,a,j,J⟩:=by simp[flat]
 refine Ow (p:=⟨up,v,f.now,a,j,J⟩) ok (λH h=>by rw[e];exact h.ew 1 rfl) (λQ' H hs h=>(c.sub hs).at h 0 rfl) m h λQ' n hs h=>⟨_,_,rfl,k Q' _ hs ?_⟩;have h:=zl hs (h.o [9,10,0,1,3,4,5,6,7,8] 11);have h:=h.o [4,5,6,7,8,9,0,3,1,2] 10;exact bY (cB.2 ⟨x,ys,fs,⟨d.sink,(d.sub hs).ys,d.facts,(d.sub hs).fs⟩,h⟩)
theorem C3{f:aY}{c:Nat}{d:List Oy}(ok:ft f.w)(R:f.w.next+d.length<=1000000000000)(hk:f.sink.length+d.length<=100000000000)(hz:∀z∈d,fP Q z/\aI z.o.bs/\z.o.bs.length<=1000000)(h:aA H (Q::ay 266 11 a d.length c (flat bV d)::gx Q l B f::F))
  (k:∀Q' n,aH Q Q'->aA n (Q'::gx Q' l B (ff f (d.map Oy.o))::F)->K (.tuple #[]) n):CF 62 #[PA l 0,.slice a d.length c] H K:=by
 refine cN 62 0x15612399251151741728174917174994 [[],[],[],[(7,sB)],[],[],[(10,sI)]] ⟨λt n=>∃(j:Nat) (Q':aF),t=j/\j<=d.length/\aH Q Q'/\ft (ff f ((d.take j).map Oy.o)).w/\(ff f ((d.take j).map Oy.o)).w.next<=f.w.next+j/\(ff f ((d.take j).map Oy.o)).sink.length<=f.sink.length+j/\
  aA n (Q'::ay 266 11 a d.length c (flat bV d)::gx Q' l B (ff f ((d.take j).map Oy.o))::F),λt _=>d.length-t.toNat,⟨0,Q,rfl,ez,aH.refl Q,ok,by show f.w.next<=_;omega,by show f.sink.length<=_;omega,h⟩,?_⟩
 clear h
 rintro t H1 ⟨j,s,rfl,hj,hs,ab,n1,n2,h⟩;refine⟨λhx=>?_,λhx=>?_⟩
 .have E:j<d.length:=by grind
  have A:=hz _ (qa E);have hr:=h.a_ 1 rfl;have eN:ff f ((d.take (j+1)).map Oy.o)=gJ (ff f ((d.take j).map Oy.o)) d[j].o:=by
   grind [ff,List.take_succ_eq_append_getElem]
  generalize ff f ((d.take j).map Oy.o)=G at *;refine⟨⟨ez,ez⟩,_,_,hr.some yI ee E,_,_,_,_,_,_,_,_,_,_,_,_,_,hr.E6 yI E,h.al λb _ h=>h.st 0 rfl rfl λH2 h=>⟨_,h.r 0,?_⟩⟩
  have h:aA H2 (ax b (bV d[j]) 266::s::ay 266 11 a d.length c (flat bV d)::gx s l B G::F):=h;intro Jn hJ;have hw:i64.wrap ((j:Int)+1)=((j+1:Nat):Int):=by grind [aN]
  have fin:∀u N n,N=gJ G d[j].o->aH s u->ft N.w->N.w.next<=G.w.next+1->N.sink.length<=G.sink.length+1->aA n (u::gx u l B N::ay 266 11 a d.length c (flat bV d)::F)->Jn n:=by
   intro u N n e s2 o2 m1 m2 h;refine hJ _ ⟨⟨j+1,u,hw,E,hs.trans s2,by rw[eN,<-e];exact o2,by grind,by grind,by rw[eN,<-e];exact h.o [0,2,1] 3⟩,by grind⟩
  have h:=h.o [1,3,0,2] 4;refine⟨λP=>?_,λP=>?_⟩
  .have P:=j_ P;refine⟨_,h.r 2,_,_,_,h.r 2,Ef ab (A.1.kin.sub hs) A.2.2 h λu W s2 h=>⟨rfl,?_⟩⟩
   have hp:=sy (c:=(false,d[j].o.ag,G.now,d[j].o.bs)) ab A.2.1 A.2.2 ez;exact fin u _ _ (by unfold gJ;grind) s2 hp.1 hp.2.1 (by show G.sink.length<=_;omega) (h.o [0,1,3] 4)
  have P:=h_ P;intro h6 J;refine⟨λT=>?_,λT=>?_⟩
  .have T:=j_ T;let⟨x,ys,fs,C,h⟩:=cB.1 (h.o [1,0,2,3] 4);have h9:aM _ l 0=some (PA x.lb 0):=h.r 0;intro h5 h0;have tell:∀t n,t=(aK (Ou.id d[j].o) G.nn).isSome->aA n (C1 x.lb G.nn::ax l (dW G x B ys.length fs.length) 133::mapA ji nc x.sm G.my::DB x.sa x.sc ys::ay 71 9 x.fa fs.length x.fc (flat fM fs)::D0 x.rm G.rds::pr s B G.ags 64 64::m_ s x.wb G.w::kx s x.gb x.db G.g::s::ax b (bV d[j]) 266::ay 266 11 a d.length c (flat bV d)::F)->h5 t n:=by
    intro t n ht h;refine h0 _ _ ⟨some ⟨x.lb,0,none⟩,h.r 1,_,_,_,h.q 10,_,_,h.q 10,Yu (i:=Ou.id d[j].o) (v:=Ou.vd d[j].o) h λW h=>⟨_,rfl,?_⟩⟩
    have back:∀(V:List (E5×Pt)) n,V=(if (jl G.nn (Ou.id d[j].o) (Ou.vd d[j].o)).2=0/\(aK (Ou.id d[j].o) G.nn).isSome=false then eO (Ou.id d[j].o) (d[j].o.lo,d[j].o.hi) G.my else G.my)->aA n (C1 x.lb (jl G.nn (Ou.id d[j].o) (Ou.vd d[j].o)).1::ax l (dW G x B ys.length fs.length) 133::mapA ji nc x.sm V::DB x.sa x.sc ys::ay 71 9 x.fa fs.length x.fc (flat fM fs)::D0 x.rm G.rds::pr s B G.ags 64 64::m_ s x.wb G.w::kx s x.gb x.db G.g::s::ax b (bV d[j]) 266::ay 266 11 a d.length c (flat bV d)::F)->h6 n:=by
     intro V n e h;have h:=h.o [1,0,2,3,4,5,6,7,8,9,11] 12;refine J _ (fin s { G with nn:=(jl G.nn (Ou.id d[j].o) (Ou.vd d[j].o)).1,my:=V } _ (by rw[e];unfold gJ;grind) (aH.refl _) ab (by grind) (by grind) (bY (cB.2 ⟨x,ys,fs,⟨C.sink,C.ys,C.facts,C.fs⟩,h⟩)))
    intro h8 U;refine⟨λhc=>?_,λhc=>U _ (back G.my _ ?_ h)⟩
    .rw [p_,za,XB]at hc;refine⟨_,h.r 1,_,_,_,h.q 10,_,_,h.q 10,h.ix (x:=Ou.id d[j].o) (v:=(d[j].o.lo,d[j].o.hi)) mtS mR 2 rfl λZ h=>U _ (back _ _ (by grind) h)⟩
    grind
   refine⟨some ⟨x.lb,0,none⟩,h.r 0,_,_,_,h.q 10,?_,?_⟩
   .have h:=h.o [1,0,2,3,4,5,6,7,8,9,10,11] 12;refine zg (i:=Ou.id d[j].o) h λW h=>⟨_,_,_,rfl,h.al λb2 _ h=>h.st 0 rfl rfl λZ h=>tell _ _ rfl h.tl⟩
   .refine h.al λb3 _ h=>⟨h.q 11,h.r 1,?_⟩
    have h:=h.o [2,1,3,4,5,6,7,8,9,10,11,12,0] 13;refine zg (i:=Ou.id d[j].o) h λW h=>⟨_,_,_,rfl,h.st 12 rfl rfl λZ h=>tell _ _ rfl (h.o [0,1,2,3,4,5,6,7,8,9,10,11] 13)⟩
  have T:=h_ T;intro h7 O;have same:∀n,aA n (s::gx s l B G::ax b (bV d[j]) 266::ay 266 11 a d.length c (flat bV d)::F)->¬(d[j].o.kind=3/\d[j].o.num=(G.sink.length:Int))->h7 n:=λn h R=>
   O _ (J _ (fin s G _ (by unfold gJ;grind) (aH.refl _) ab ez ez (h.o [0,1,3] 4)))
  refine⟨λY=>?_,λY=>same _ h λR=>cS R.1 (h_ Y)⟩
  have Y:=j_ Y;obtain⟨x,ys,fs,C,h⟩:=cB.1 (h.o [1,0,2,3] 4);have j1:ys.length=G.sink.length:=by rw[<-C.sink,FI]
  refine⟨_,h.r 10,_,_,_,h.r 0,?_⟩;intro j2 S;refine⟨λh4=>?_,λh4=>S _ (same _ (bY ((cB.2 ⟨x,ys,fs,C,h⟩))) λR=>cS R.2 (by grind))⟩
  have h4:=j_ h4;refine⟨_,_,_,h.r 0,_,_,_,h.r 10,tC h (λH h=>(A.1.kin.sub hs).at h 9 rfl) ez λI D W h=>⟨_,_,_,rfl,h.r 1,h.al λb4 _ h=>⟨h.r 2,h.append (m:=1) (ws:=[cD ⟨I,D,d[j].o.bs⟩]) agV 5 rfl (h.ew 0 rfl) rfl rfl ez ez λa5 c5 Z h=>⟨_,_,_,rfl,h.st 2 rfl rfl λH5 h=>S _ (O _ (J _ ?_))⟩⟩⟩⟩
  have e:ys.length+1=(ys++[(⟨I,D,d[j].o.bs⟩:Fy)]).length:=eh
  have e2:ys.map cD++[cD ⟨I,D,d[j].o.bs⟩]=(ys++[(⟨I,D,d[j].o.bs⟩:Fy)]).map cD:=eh
  have h:aA H5 (ax b4 [cD ⟨I,D,d[j].o.bs⟩] 63::ay 5 1 I d[j].o.bs.length D (d[j].o.bs.map U8)::ax l (dW { G with sink:=G.sink++[d[j].o.bs] } { x with sa:=a5,sc:=c5 } B (ys.length+1) fs.length) 133::C1 x.lb G.nn::mapA ji nc x.sm G.my::ay 63 1 a5 (ys.length+1) c5 (ys.map cD++[cD ⟨I,D,d[j].o.bs⟩])::_):=h;rw[e,e2]at h;obtain⟨u,L⟩:∃u,u=ay 5 1 I d[j].o.bs.length D (d[j].o.bs.map U8)*s:=⟨_,rfl⟩;have s2:aH s u:=by rw[L];exact aH.add _ s
  have h:=h.o [1,11,2,3,4,5,6,7,8,9,10,13] 14;have h:=aai L h;have h:=sw s2 (h.o [8,0,1,2,3,4,5,6,7,9,10] 11);have h:=zl s2 (h.o [8,9,0,1,2,3,4,5,6,7,10] 11);have h:=h.o [4,5,6,7,8,9,0,2,1,3,10] 11;refine fin u { G with sink:=G.sink++[d[j].o.bs] } _ (by unfold gJ;grind) s2 ab (by grind) eh (bY ((cB (f:={ G with sink:=G.sink++[d[j].o.bs] })).2 ⟨{ x with sa:=a5,sc:=c5 },ys++[(⟨I,D,d[j].o.bs⟩:Fy)],fs,⟨by simp[C.sink],λy M=>?_,C.facts,(C.sub s2).fs⟩,h⟩))
  rcases C_.1 M with M|M
  .exact (C.ys y M).sub s2
  .rw [CU]at M;subst M;rw[L];exact DJ.sl
 .have hx:=h_ hx;obtain rfl:j=d.length:=ez
  rw[FJ]at h;exact k s _ hs (h.o [0,2] 3)
def adz(m:List (Pt×List Pt))(k p:Pt):List (Pt×List Pt):=eO k ((aK k m).getD []++[p]) m
def aeF(f:aY)(j:Nat):aY:={ f with rds:=adz f.rds ((j:Int),(f.ags j).boot) (f.now,(f.ags j).ck) }
def mj(f:aY)(j:Nat)(rd:Int):aY:=if (f.ags j).boot≠0/\0<=rd/\rd<=aas then aeF f j else f
theorem aeQ(k:Pt)(m:List (Pt×Sl)):plR (bF k m)=bF k (plR m):=by unfold plR bF;rw[List.filter_map];rfl
theorem Eg(k:Pt):∀m:List (Pt×Sl),aK k (plR m)=(aK k m).map Sl.Xd
 | []=>rfl
 | (a,b)::r=>by have c:=Eg k r;show aK k ((a,b.Xd)::plR r)=_;grind [aK]
abbrev slR(s:Sl):aF:=ay 211 2 s.a s.Xd.length s.c (flat ot s.Xd)
theorem Eh(h:aK k M=none):bF k M=M:=by grind [bF,List.filter_eq_self,dX]
theorem Ei{k:Pt}{s:Sl}:∀{m:List (Pt×Sl)},(aJ m).Nodup->aK k m=some s->A_ m=slR s*A_ (bF k m)
 | [],_,h=>by cases h
 | (a,b)::r,hn,h=>by
  have c:=q2d.1 hn
  by_cases e:a=k
  .subst e;have hb:b=s:=by grind [aK]
   subst hb;have d:aK a r=none:=dX.2 c.1;have:bF a ((a,b)::r)=r:=by
    show List.filter _ _=_;rw[List.filter_cons_of_neg eh];exact Eh d
   rw[this];rfl
  .have f:aK k r=some s:=by
    have:aK k ((a,b)::r)=aK k r:=by simp only[aK];grind
    grind
   have:bF k ((a,b)::r)=(a,b)::bF k r:=by
    show List.filter _ _=_;rw[List.filter_cons_of_pos (by grind)];rfl
   rw[this];show slR b*A_ r=slR s*(slR b*A_ (bF k r));rw[Ei c.2 f,uD]
theorem OO(a:(aJ M).Nodup)(h:aA H (A_ M::F)):aA H (slR ((aK k M).getD Sl.z)::A_ (bF k M)::F):=by
 cases hk:aK k M with
 | some s=>rw[Ei a hk]at h;exact iu.1 h
 | none=>rw[Eh hk];exact h.cp 211 2
theorem sC{rds:List (Pt×List Pt)}:aA H (D0 j rds::F)↔∃m,plR m=rds/\aA H (mapA nc Fp j m::A_ m::F):=by
 unfold D0;rw[cw];constructor;.intro⟨y,h⟩;let⟨a,h⟩:=qe.1 (aA.open h);exact⟨y,a,h⟩
 intro⟨m,h1,h⟩;exact⟨m,aA.shut [_,_,_] (h.DA h1)⟩
theorem Zf{F:List aF}{x:FlX}{c1 c2:Nat}(u:j<64)(hb:∀p∈f.rds,p.2.length<=1000000)(h:aA H (ax i [aD j] 2::ax c1 [PA (B j) 0] 109::ax c2 [PA l 0] 31::pf Q l B f x D C F)) (k:∀c0,aA c0 (ax i [aD j] 2::ax c1 [PA (B j) 0] 109::ax c2 [PA l 0] 31::pf Q l B (aeF f j) x D C F)->K (.tuple #[]) c0):CF 191 #[PA i 0,PA c1 0,PA c2 0] H K:=by
 have h:=ON u (h.o [9,0,1,2,3,4,5,6,7,8,10,11] 12);let⟨y,evs,e1,e2,h⟩:=dr.1 h;have h:=h.o [12,0,1,2,3,4,5,6,7,8,9,10,11,13,14] 15;let⟨m,c,h⟩:=sC.1 h;have e:(aJ m).Nodup:=Au (F:=star _) h;refine cM 191 20 ⟨_,h.r 6,some ⟨B j,0,none⟩,h.r 7,_,yH h 2 rfl,h.al λb _ h=>⟨yH h 3 rfl,h.r 8,h.r 7,h.st 0 rfl rfl λE h=>⟨some ⟨l,0,none⟩,h.r 9,_,h.r 10,_,_,h.q 0,some ⟨l,0,none⟩,h.r 9,_,h.r 10,some ⟨B j,0,none⟩,h.r 8,_,Ms h 3 rfl,h.al λb1 _ h=>⟨h.q 1,h.r 11,h.r 10,?_⟩⟩⟩⟩;have h:=h.o [2,3,0,1,4,5,6,7,8,9,10,11,12,13,14,15,16,17] 18;refine aA.aar mtR ajg (x:=((j:Int),(f.ags j).boot)) h λn O ys h hs=>⟨_,_,_,_,rfl,?_⟩;have h:=OO (k:=((j:Int),(f.ags j).boot)) e (bY h);have a:=Eg ((j:Int),(f.ags j).boot) m;rw[c]at a;have t:((aK ((j:Int),(f.ags j).boot) m).getD Sl.z).Xd.length<=1000000:=by cases hk:aK ((j:Int),(f.ags j).boot) m with
   | none=>simp[Sl.z]
   | some s=>rw[hk]at a;exact hb _ (eD a)
 have d:(aeF f j).rds=eO ((j:Int),(f.ags j).boot) (((aK ((j:Int),(f.ags j).boot) m).getD Sl.z).Xd++[(f.now,(f.ags j).ck)]) (plR m):=by show adz f.rds _ _=_;unfold adz;rw[a,<-c];cases aK ((j:Int),(f.ags j).boot) m <;> rfl
 generalize (aK ((j:Int),(f.ags j).boot) m).getD Sl.z=s at *;refine h.append (m:=1) (ws:=ot (f.now,(f.ags j).ck)) aiK 0 rfl (h.ew 3 rfl) rfl rfl ez ez λa5 c5 w h=>⟨_,_,_,rfl,?_⟩;have el:s.Xd.length+1=(s.Xd++[(f.now,(f.ags j).ck)]).length:=eh;have ab:flat ot s.Xd++ot (f.now,(f.ags j).ck)=flat ot (s.Xd++[(f.now,(f.ags j).ck)]):=by grind [flat]
 have h:=h.o [2,0,1,5,6,7,8,9,10,11,12,13,14,15,16,17,18] 19;conv=>whnf
 rw[el,ab]at *;refine hs _ w ⟨a5,c5,s.Xd++[(f.now,(f.ags j).ck)]⟩ _ h λfs h=>k _ ?_;have h:=(dr.2 ⟨y,evs,e1,e2,h.o [3,4,5,6,0,1,2,7,8,9,10,11,12,13,14,15,16] 17⟩);have h:=Ee u h;have v:CT f.ags j (f.ags j)=f.ags:=by grind [CT]
 rw[v]at h;have h:=iu.2 (h.o [2,3,0,1,4,5,6,7,8,9,10,11,12,13] 14);have h:=h.o [2,0,1,3,4,5,6,7,8,9,10,11,12] 13;have A:=sC.2 ⟨eO ((j:Int),(f.ags j).boot) ⟨a5,c5,s.Xd++[(f.now,(f.ags j).ck)]⟩ m,(show _=(aeF f j).rds by rw[d];show _::plR (bF _ m)=_::bF _ (plR m);rw[aeQ]),h⟩;exact A.o [2,3,4,5,6,7,8,9,0,1,10,11] 12
def aax(Q:aF)(fb:Nat)(ab:Nat->Nat)(f:aY)(j:Nat):aF:=F7 λy:FA=>star [DA (FlI Q f y.ys y.fs),ax fb (dW f y.x ab y.ys.length y.fs.length) 133,C1 y.x.lb f.nn,mapA ji nc y.x.sm f.my,DB y.x.sa y.x.sc y.ys,
 ay 71 9 y.x.fa y.fs.length y.x.fc (flat fM y.fs),D0 y.x.rm f.rds,pr Q ab f.ags j 64,m_ Q y.x.wb f.w,kx Q y.x.gb y.x.db f.g]
def gK(f:aY)(j:Nat)(g:Ag):aY:={ f with ags:=CT f.ags j g }
theorem wp:aA H (aax Q i B f j::F)↔∃x ys fs,FlI Q f ys fs/\aA H (ax i (dW f x B ys.length fs.length) 133::C1 x.lb f.nn::mapA ji nc x.sm f.my::DB x.sa x.sc ys::ay 71 9 x.fa fs.length x.fc (flat fM fs)::D0 x.rm f.rds::pr Q B f.ags j 64::m_ Q x.wb f.w::kx Q x.gb x.db f.g::F):=by
 unfold aax;rw[cw];constructor;.intro⟨y,h⟩;let⟨a,h⟩:=qe.1 (aA.open h);exact⟨y.x,y.ys,y.fs,a,h⟩
 intro⟨x,ys,fs,h1,h⟩;exact⟨⟨x,ys,fs⟩,aA.shut [_,_,_,_,_,_,_,_,_,_] (h.DA h1)⟩
theorem un(a:j<64)(h:aA H (gx Q i B f::F)):aA H (FV Q (B j) (f.ags j)::aax Q i B f j::F):=by let⟨x,ys,fs,b,h⟩:=cB.1 h;have h:=ON a (h.o [6,0,1,2,3,4,5,7,8] 9);have h:=h.o [2,3,4,5,6,7,1,8,9,0] 10;exact (wp.2 ⟨x,ys,fs,b,h⟩).o [1,0] 2
theorem wq(b:j<64)(h:aA H (FV Q (B j) g::aax Q i B f j::F)):aA H (gx Q i B (gK f j g)::F):=by let⟨x,ys,fs,a,h⟩:=wp.1 (h.o [1,0] 2);have h:=Ee b (h.o [9,6,0,1,2,3,4,5,7,8] 10);exact cB.2 ⟨x,ys,fs,⟨a.sink,a.ys,a.facts,a.fs⟩,h.o [1,2,3,4,5,6,0,7,8] 9⟩
theorem zm(hs:aH Q A)(h:aA H (aax Q i B f j::F)):aA H (aax A i B f j::F):=by let⟨x,ys,fs,a,h⟩:=wp.1 h;have h:=sw hs (h.o [7,0,1,2,3,4,5,6,8] 9);have h:=wi hs (h.o [8,0,1,2,3,4,5,6,7] 9);have h:=sx hs (h.o [8,0,1,2,3,4,5,6,7] 9);exact wp.2 ⟨x,ys,fs,a.sub hs,h.o [3,4,5,6,7,8,0,2,1] 9⟩
theorem zn(a:j<64):aT (dW f x B i l) (149+j)=some (PA (B j) 0):=by rw[show 149+j=(64+(64+(16+j)))+5 by omega];show aT (cZ _ 64 0 (cZ _ 64 0 _)) (64+(64+(16+j)))=_;rw[zk,zk,show 16+j=j+16 by omega];show aT (cZ _ 64 0 _) j=_;rw[zh _ _ 64 0 j a,CO]
theorem agf(a:j<64)(h:aA H (gx Q i B f::F)):bX Tryz.prog 113 #[PA (B j) 0] H (aD (f.ags j).boot):=by let⟨x,evs,_,_,h⟩:=dr.1 (un a h);exact yH h 0 rfl
theorem Ej{f:aY}{rd r:Int}{f':aY}{a:FuncId}{c:Xa}(m:j<64)(hb:∀p∈f'.rds,p.2.length<=1000000)(hm:bK a X.calls=true)(h:aA H (Q::gx Q l B f::F)) (call:∀(t s u:aF) (H':aC) (J:KE),aA H' (Q::gx Q l B f::t::s::u::F)->(∀Q' e,aH Q Q'->aA e (Q'::gx Q' l B f'::t::s::u::F)->J (aD r) e)->CF a ⟨PA (B j) 0::c⟩ H' J) (k:∀Q' H',aH Q Q'->aA H' (Q'::gx Q' l B (mj f' j rd)::F)->K (aD r) H'):CF 110 #[PA l 0,aD j,aD rd,.func (.func a) #[] ⟨c⟩] H K:=by
 let⟨x,ys,fs,d,h⟩:=cB.1 (h.o [1,0] 2);refine cN 110 73301849244 [[]] (h.al λb _ h=>h.al λb1 _ h=>⟨some ⟨l,0,none⟩,h.r 1,_,h.rd 0 rfl _,⟨⟨ez,ez⟩,some ⟨B j,0,none⟩,(h.r 2).trans (zn (f:=f) (x:=x) m),h.al λb2 _ h=>⟨(h.r 3).trans (zn (f:=f) (x:=x) m),h.r 1,h.r 2,h.st 0 rfl rfl λA h=>⟨some ⟨B j,0,none⟩,h.r 0,hm,?_⟩⟩⟩⟩);have h:=cB.2 ⟨x,ys,fs,d,h.o [3,4,5,6,7,8,9,10,11,12,0,1,2] 13⟩;refine call _ _ _ _ _ (h.o [1,0,2,3,4] 5) λQ' v hs h=>⟨_,rfl,some ⟨B j,0,none⟩,h.r 2,_,agf m (h.o [1,0,2,3,4] 5),?_⟩;unfold mj at k;intro w n;refine⟨λi=>⟨kf,?_⟩,λi=>n _ (k Q' _ hs ?_)⟩;.simp only[p_,XB,za,DC]at i;rw[c_ ⟨i.1.1,i.1.2,i.2⟩]at k;let⟨x,ys,fs,d,h⟩:=cB.1 (h.o [1,0,2,3,4] 5);have h:=h.o [11,10,12,0,1,2,3,4,5,6,7,8,9] 13;refine Zf m hb h λy h=>⟨rfl,n _ (k Q' _ hs (bY (cB.2 ⟨x,ys,fs,⟨d.sink,d.ys,d.facts,d.fs⟩,h.o [3,4,5,6,7,8,9,10,11,12] 13⟩)))⟩
 rw [b_];.exact h.o [0,1] 5
 grind
structure Et where
 kind:Int
 ag:Int:=0
 now:Int:=0
 rd:Int:=0
 bt:Int:=0
 val:Int:=0
 num:Int:=0
 eS:Int:=0
 nm:Fb:=⟨#[]⟩
 labs:List bO:=[]
 bs:List Int:=[]
variable {e:Et}
structure EtX where
 la:KQ:=none
 lc:Nat:=0
 ba:KQ:=none
 bc:Nat:=0
variable {I:EtX}
abbrev fB(e:Et)(x:EtX):Xa:=[aB e.kind,aB e.ag,aB e.now,aB e.rd,aB e.bt,aB e.val,aB e.num,aB e.eS,.string e.nm,.slice x.la e.labs.length x.lc,.slice x.ba e.bs.length x.bc]
theorem ade(f:Fq)(hd:aI f.data):aI (gC f):=by
 unfold gC jJ P_;refine pA (pA (gR _) ?_) ?_;.intro b hb;let⟨i,hi,hb⟩:=q1z.1 hb;exact gR _ b hb
 split;.refine pA (gR _) λb hb=>?_;let⟨e,a,hb⟩:=q1z.1 hb;exact vy e b hb
 split;.exact pA (yc _ _) (qu _)
 intro b hb;cases hb
theorem zo(hd:aI P.data):∀b∈j7 P,aI b/\b.length<=65536:=by
 unfold j7;intro b hb;split at hb
 .rename_i a;rw[CU]at hb;subst hb;unfold jK at a;unfold cO;split;.grind
  rename_i c;rw[b_ c]at a;grind [BS,ade]
 cases hb
theorem zp:aI ([]:List Int):=λb hb=>cS hb eh
theorem OP(g:Ag):∀(n:Nat),∀b∈jh g n,aI b/\b.length<=65536
 | 0,b,hb=>by cases hb
 | n+1,b,hb=>by
  unfold jh at hb
  split at hb
  .exact OP g n b hb
  .exact zo zp b hb
theorem OQ(g:Ag):∀(n:Nat),(jh g n).length<=1
 | 0=>by simp[jh]
 | n+1=>by
  unfold jh
  split
  .exact OQ g n
  .exact wj _
theorem OR{rd:Int}(ok:dJ g):(∀b∈(gU g rd).2.1,aI b/\b.length<=65536)/\(gU g rd).2.1.length<=10:=by
 unfold gU;split;.grind
 dsimp only;have ok:=su (rd:=rd) ok;unfold vT;split;.exact⟨zo zp,by grind [wj]⟩
 constructor
 .intro b hb;rcases C_.1 hb with hb|hb
  .rcases C_.1 hb with hb|hb;.let⟨p,_,hb⟩:=q1z.1 hb;exact zo zp b hb
   grind [OP]
  exact zo zp b hb
 have a:=D5 (KS (bD g rd).1) (bD g rd).1.q_;have c:=OQ (bD g rd).1 (min (bD g rd).1.kept.length 64);have d:=wj { kind:=7,ag:=(bD g rd).1.id,ep:=(bD g rd).1.ep,next:=(bD g rd).1.seq,stamp:=(bD g rd).1.ck };have:=ok.q_;grind
def lE(f:aY)(ag:Int)(l:List (List Int)):aY:=l.foldl (λf b=>mU f true ag b) f
def sD(f:aY)(j:Nat)(rd:Int):aY:=lE (gK f j (gU (f.ags j) rd).1) j (gU (f.ags j) rd).2.1
theorem Zg{C D:aF}{b:Nat}(M:j<64)(ok:dJ (f.ags j))(E:ft f.w)(V:f.w.next<=999999999000)(O:e.ag=(j:Int)) (h:aA H (Q::gx Q l B f::C::A::D::ax i (fB e I) 65::ax b [PA l 0] 31::F)) (k:∀Q' y,aH Q Q'->aA y (Q'::gx Q' l B (sD f j e.rd)::C::A::D::ax i (fB e I) 65::ax b [PA l 0] 31::F)->K (aD (gU (f.ags j) e.rd).2.2) y) : CF 115 #[PA (B j) 0,PA i 0,PA b 0] H K:=by
 let⟨x,n⟩:=OR (rd:=e.rd) ok;refine cN 115 0x1121561239925144c [[(18,sI)]] ⟨_,h.r 5,?_⟩;have h:=un M (h.o [1,0,2,3,4,5,6] 7);refine Ym (rd:=e.rd) ok (h.o [2,0,1,3,4,5,6,7] 8) λab ys a c S hs hm N h=>⟨_,_,_,_,rfl,?_⟩;have h:=zm hs (h.o [3,0,1,2,4,5,6,7,8] 9);have h:=wq M (h.o [3,0,1,2,4,5,6,7,8] 9);unfold sD at k;rw[<-hm]at k x n;rw[FI]at n;generalize (gU (f.ags j) e.rd).1=g at *;generalize (gU (f.ags j) e.rd).2.2=r at *;have h:aA S (gx ab l B (gK f j g)::ab::DB a c ys::C::A::D::ax i (fB e I) 65::ax b [PA l 0] 31::F):=h;refine⟨λt y=>∃(v:Nat) (u:aF),t=v/\v<=ys.length/\aH ab u/\ft (lE (gK f j g) j ((ys.take v).map Fy.bs)).w/\(lE (gK f j g) j ((ys.take v).map Fy.bs)).w.next<=f.w.next+v/\ aA y (u::gx u l B (lE (gK f j g) j ((ys.take v).map Fy.bs))::DB a c ys::C::A::D::ax i (fB e I) 65::ax b [PA l 0] 31::F),λt _=>ys.length-t.toNat,⟨0,ab,rfl,ez,aH.refl _,E,by show f.w.next<=_;omega,h.o [1,0,2,3,4,5,6,7] 8⟩,?_⟩;clear h;rintro t T ⟨v,u,rfl,hi,s2,m,n2,h⟩;refine⟨λJ=>?_,λJ=>?_⟩
 .have d:v<ys.length:=by grind
  have L:=(h.a_ 2 rfl).at d;have ex:=N _ (qa d);have s:=x _ (List.mem_map_of_mem (qa d));have eN:lE (gK f j g) j ((ys.take (v+1)).map Fy.bs)=mU (lE (gK f j g) j ((ys.take v).map Fy.bs)) true j ys[v].bs:=by grind [lE,List.take_succ_eq_append_getElem]
  have R:i64.wrap ((v:Int)+1)=((v+1:Nat):Int):=by grind [aN]
  generalize lE (gK f j g) j ((ys.take v).map Fy.bs)=G at *;refine⟨⟨ez,ez⟩,_,_,L.1,_,_,_,L.2,some ⟨l,0,none⟩,h.r 7,_,h.r 6,?_⟩;rw[O];refine Ef m (ex.sub s2) ez h λP U s3 h=>⟨rfl,⟨v+1,P,R,d,s2.trans s3,?_,?_,by rw[eN];exact h⟩,by grind⟩;.rw [eN];exact (sy (c:=(true,(j:Int),G.now,ys[v].bs)) m s.1 (by grind) ez).1
  rw [eN];have:=(sy (c:=(true,(j:Int),G.now,ys[v].bs)) m s.1 (by grind) ez).2.1;show (iw _ _).1.next<=_;grind
 have J:=h_ J;obtain rfl:v=ys.length:=ez;rw[FJ]at h;exact k u _ (hs.trans s2) (h.o [0,1,3,4,5,6,7] 8)
theorem Zh{F:List aF}(fb:j<64)(ok:dJ (f.ags j))(c:ft f.w)(m:f.w.next<=999999999000)(d:e.ag=(j:Int))(hb:∀p∈f.rds,p.2.length<=1000000)(h:aA H (Q::gx Q i B f::F)) (k:∀Q' a,aH Q Q'->aA a (Q'::gx Q' i B (mj (sD f j e.rd) j e.rd)::F)->K (aD (gU (f.ags j) e.rd).2.2) a):CF 56 #[PA i 0,.agg ⟨fB e I⟩] H K:=by
 have n:(sD f j e.rd).rds=f.rds:=by
  unfold sD;have:∀(l:List (List Int)) (G:aY),(lE G j l).rds=G.rds:=by intro l;induction l with
    | nil=>intro G;rfl
    | cons b l ih=>intro G;show (lE (mU G true j b) j l).rds=_;rw[ih];rfl
  rw[this];rfl
 refine cM 56 28 (h.al λb _ h=>h.al λb1 _ h=>⟨some ⟨i,0,none⟩,h.r 1,_,h.r 0,_,h.r 0,?_⟩);rw[d];refine Ej (rd:=e.rd) (r:=(gU (f.ags j) e.rd).2.2) (f':=sD f j e.rd) (F:=ax b1 (fB e I) 65::ax b [PA i 0] 31::F) fb (by grind) kf (h.o [2,3,0,1] 4) (λt s u a J h kk=>Zg fb ok c m d h kk) λQ' a hs h=>⟨_,rfl,k Q' _ hs (h.o [0,1] 4)⟩
def mV(f:aY)(j:Nat)(e:Et):aY×Int:=
 if (eK (f.ags j) e.rd e.val e.nm e.labs).2.2≠0 then (gK f j (eK (f.ags j) e.rd e.val e.nm e.labs).1,(eK (f.ags j) e.rd e.val e.nm e.labs).2.2) else
 ({ gK f j (eK (f.ags j) e.rd e.val e.nm e.labs).1 with facts:=f.facts++[⟨⟨j,(eK (f.ags j) e.rd e.val e.nm e.labs).1.ep,(eK (f.ags j) e.rd e.val e.nm e.labs).2.1⟩,(eK (f.ags j) e.rd e.val e.nm e.labs).1.boot,f.now,⟨(eK (f.ags j) e.rd e.val e.nm e.labs).1.ck,e.val,e.nm,e.labs⟩⟩] },0)
theorem OS{F:List aF}{Q:aF}{nm:Fb}{ls:List bO}(h:aA H (Q::F))(e:∀H,aA H (Q::F)->aQ H a (flat cJ ls))(f:ls.length<=1000000) (k:∀Q' la c d,aH Q Q'->DJ Q' la (flat cJ ls)->aA d (Q'::F)->K (.agg #[.string nm,.slice la ls.length c]) d):CF 50 #[.agg #[.string nm,.slice a ls.length l]] H K:=by refine cM 50 284 (h.al λb _ h=>h.al λb1 _ h=>⟨_,_,_,h.r 1,Bu (Q:=Q) (F:=ax b1 [.string ⟨#[]⟩,.slice none 0 0] 62::ax b [.string nm,.slice a ls.length l] 62::F) (h.o [2,0,1] 3) (λH h=>e H (h.o [0] 3)) f λQ' la c d hs i h=>⟨_,_,_,rfl,h.st 2 rfl rfl λm h=>⟨_,_,_,_,h.q 2,h.st 1 rfl rfl λj h=>⟨_,_,_,_,h.q 1,k Q' la c _ hs i (h.o [0] 3)⟩⟩⟩⟩)
theorem Zi{b:Ag}{rd r:Int}{nm:Fb}{ls:List bO}(e:eK g rd v nm ls=(b,n,r))(ok:dJ g)(h:aA H (Q::FV Q i g::F))(d:∀H,aA H (Q::F)->aQ H a (flat cJ ls)) (k:∀Q' c,aH Q Q'->aA c (Q'::FV Q' i b::F)->K (.tuple #[aD n,aD r]) c):CF 112 #[PA i 0,aD rd,aD v,.agg #[.string nm,.slice a ls.length j]] H K:=VJ ok h d (by rw[e];exact k)
theorem Zj{f:aY}{ex M:aF}{b:Nat}(w:j<64)(ok:dJ (f.ags j))(P:f.facts.length<=1000000)(N:e.ag=(j:Int))(D:DJ Q I.la (flat cJ e.labs))(s:e.labs.length<=1000000) (h:aA H (Q::gx Q l B f::A::ex::M::ax i (fB e I) 65::ax b [PA l 0] 31::F)) (k:∀Q' G,aH Q Q'->aA G (Q'::gx Q' l B (mV f j e).1::A::ex::M::ax i (fB e I) 65::ax b [PA l 0] 31::F)->K (aD (mV f j e).2) G) : CF 111 #[PA (B j) 0,PA i 0,PA b 0] H K:=by
 have t:∃g n r,eK (f.ags j) e.rd e.val e.nm e.labs=(g,n,r):=⟨_,_,_,rfl⟩;let⟨g,n,r,L⟩:=t;unfold mV at k;rw[L]at k;refine RM ⟨_,h.r 5,_,h.r 5,_,_,_,_,h.q 5,?_⟩;have h:=un w (h.o [1,0,2,3,4,5,6] 7);refine Zi L (rd:=e.rd) (v:=e.val) (nm:=e.nm) (ls:=e.labs) ok (h.o [2,0,1,3,4,5,6,7] 8) (λH h=>D.at h 0 rfl) λS Y hs h=>⟨_,_,rfl,?_⟩;have h:=zm hs (h.o [2,0,1,3,4,5,6,7] 8);refine⟨λc=>?_,λc=>?_⟩
 .have c:r≠0:=by grind
  rw[c_ c]at k;have h:=wq w (h.o [2,0,1,3,4,5,6,7] 8);exact k S _ hs (h.o [1,0,2,3,4,5,6] 7)
 have c:¬r≠0:=by grind
 rw[b_ c]at k;let⟨x,ys,fs,d,h⟩:=wp.1 h;let⟨y,evs,g1,g2,h⟩:=dr.1 (h.o [10,0,1,2,3,4,5,6,7,8,9,11,12,13,14,15] 16);have T:fs.length=f.facts.length:=by rw[<-d.facts,FI]
 have h:=h.o [12,3,7,0,16,17,1,2,4,5,6,8,9,10,11,13,14,15] 18;refine⟨some ⟨l,0,none⟩,h.r 5,some ⟨l,0,none⟩,h.r 5,_,_,_,h.r 1,_,h.r 4,_,Mt h 3 rfl,_,yH h 3 rfl,some ⟨l,0,none⟩,h.r 5,_,h.r 1,_,Ms h 3 rfl,_,h.r 4,_,_,_,_,h.q 4,OS (nm:=e.nm) (ls:=e.labs) h (λH h=>(D.sub hs).at h 0 rfl) s λC E ab W s2 J h=>⟨_,_,_,_,rfl,h.r 4,h.r 1,h.r 5,h.r 4,h.r 1,h.r 5,h.r 5,h.al λb2 _ h=>⟨h.r 2,h.r 6,h.r 6,?_⟩⟩⟩;let fc:Hc:=⟨⟨j,g.ep,n⟩,g.boot,f.now,⟨g.ck,e.val,e.nm,e.labs,E,ab⟩⟩;have u:fM fc=[aD e.ag,aD g.ep,aD n,aD g.boot,aD f.now,aD g.ck,aD e.val,.string e.nm,.slice E e.labs.length ab]:=by rw[N]
 refine h.append (m:=1) (ws:=fM fc) aiL 3 rfl (by rw[u];exact h.ew 0 rfl) rfl rfl ez ez λa5 c5 V h=>⟨_,_,_,rfl,h.r 6,h.st 2 rfl rfl λR h=>?_⟩;have el:fs.length+1=(fs++[fc]).length:=eh;have U:flat fM fs++fM fc=flat fM (fs++[fc]):=by grind [flat]
 have h:aA R (_::C::ax l (dW { gK f j g with facts:=f.facts++[fc.p] } { x with fa:=a5,fc:=c5 } B ys.length (fs.length+1)) 133::ay 71 9 a5 (fs.length+1) c5 (flat fM fs++fM fc)::_):=h;rw[el,U]at h;have h:=yG s2 (dr.2 ⟨y,evs,g1,g2,h.o [4,7,8,1,2,3,5,6,9,10,11,12,13,14,15,16,17,18] 19⟩);have h:=sw s2 (h.o [11,0,1,2,3,4,5,6,7,8,9,10,12,13,14,15] 16);have h:=wi s2 (h.o [12,0,1,2,3,4,5,6,7,8,9,10,11,13,14,15] 16);have h:=sx s2 (h.o [12,0,1,2,3,4,5,6,7,8,9,10,11,13,14,15] 16);have h:=Ee w (h.o [3,0,1,2,4,5,6,7,8,9,10,11,12,13,14,15] 16);have O:=(cB (f:={ gK f j g with facts:=f.facts++[fc.p] })).2 ⟨{ x with fa:=a5,fc:=c5 },ys,fs++[fc],⟨d.sink,(d.sub s2).ys,by rw[F6,d.facts];rfl,⟨λz a=>?_⟩⟩,h.o [4,8,9,10,5,11,0,2,1,3,12,13,14,6,7] 15⟩;.exact k C _ (hs.trans s2) (bY O)
 rcases C_.1 a with a|a;.exact (d.fs.kin z a).sub s2
 rw [CU]at a;subst a;exact J
theorem Zk{F:List aF}(m:j<64)(ok:dJ (f.ags j))(d:f.facts.length<=1000000)(i:e.ag=(j:Int))(n:DJ Q I.la (flat cJ e.labs))(c:e.labs.length<=1000000)(hb:∀p∈f.rds,p.2.length<=1000000)(h:aA H (Q::gx Q l B f::F)) (k:∀Q' a,aH Q Q'->aA a (Q'::gx Q' l B (mj (mV f j e).1 j e.rd)::F)->K (aD (mV f j e).2) a):CF 55 #[PA l 0,.agg ⟨fB e I⟩] H K:=by
 have s:(mV f j e).1.rds=f.rds:=by unfold mV;split <;> rfl
 refine cM 55 28 (h.al λb _ h=>h.al λb1 _ h=>⟨some ⟨l,0,none⟩,h.r 1,_,h.r 0,_,h.r 0,?_⟩);rw[i];refine Ej (rd:=e.rd) (r:=(mV f j e).2) (f':=(mV f j e).1) (F:=ax b1 (fB e I) 65::ax b [PA l 0] 31::F) m (by grind) kf (h.o [2,3,0,1] 4) (λu t v a J h kk=>Zj m ok d i n c h kk) λQ' a hs h=>⟨_,rfl,k Q' _ hs (h.o [0,1] 4)⟩
def qJ(f:aY)(c:Wpc)(rd:Int):aY×Int:=
 if c.1=true then ({ f with g:=(om f.g c.2.1 f.now c.2.2.2).1 },(om f.g c.2.1 f.now c.2.2.2).2) else
 (mj (gK f c.2.1.toNat (kX (f.ags c.2.1.toNat) rd c.2.2.2).1) c.2.1.toNat rd,(kX (f.ags c.2.1.toNat) rd c.2.2.2).2)
def adl(f:aY)(n rd:Int):aY×Int:=
 if (gI f.w n).2.2≠0 then (f,(gI f.w n).2.2) else qJ { f with w:=(gI f.w n).1 } (gI f.w n).2.1 rd
theorem El(w:Wr)(n:Int):(aK n w.m=none/\gI w n=(w,(false,0,0,[]),19))\/∃c,aK n w.m=some c/\gI w n=({ w with m:=bF n w.m },c,0):=by unfold gI;grind
theorem Zl{d n:aF}{a pb:Nat}{p:Pk}(c:j<64)(ok:dJ (f.ags j))(m:p.In Q)(hb:aI p.bs) (h:aA H (Q::gx Q l B f::A::d::n::ax a (fB e I) 65::ax pb (mQ p) 92::F)) (k:∀Q' b,aH Q Q'->aA b (Q'::gx Q' l B (gK f j (kX (f.ags j) e.rd p.bs).1)::A::d::n::ax a (fB e I) 65::ax pb (mQ p) 92::F)->K (aD (kX (f.ags j) e.rd p.bs).2) b) : CF 118 #[PA (B j) 0,PA a 0,PA pb 0] H K:=by refine cM 118 28 ⟨_,h.r 5,_,_,_,h.r 6,?_⟩;have h:=un c (h.o [1,0,2,3,4,5,6] 7);refine Yk (rd:=e.rd) ok (h.o [2,0,1,3,4,5,6,7] 8) (λH h=>m.rd.at h 0 rfl) hb m.le λs t hs h=>⟨_,rfl,?_⟩;have h:=zm hs (h.o [2,0,1,3,4,5,6,7] 8);have h:=wq c (h.o [2,0,1,3,4,5,6,7] 8);exact k s _ hs (h.o [1,0,2,3,4,5,6] 7)
theorem OT{a:Wr}{c:Wpc}(e:gI w n=(a,c,v))(h:aA H (m_ Q j w::F))(k:∀p d,p.In Q->p.core=c->aA d (m_ Q j a::F)->K (.tuple #[jO p,aD v]) d):CF 58 #[PA j 0,aD n] H K:=Ox h (by rw[e];exact k)
theorem Zm{g:Gg}{r:Int}(f:om g n v J=(b,r))(ok:iT g)(h:aA H (Q::kx Q j l g::F))(e:∀H,aA H (Q::F)->aQ H a (J.map U8))(hb:aI J)(c:J.length<=i) (k:∀Q' d,aH Q Q'->aA d (Q'::kx Q' j l b::F)->K (aD r) d):CF 117 #[PA j 0,aD n,aD v,.slice a J.length i] H K:=Yj ok h e hb c (by rw[f];exact k)
theorem wr{g:Gg}(hs:aH Q A)(a:FlI Q f D C) (h:aA H (kx A x.gb x.db g::ax j (dW f x B D.length C.length) 133::C1 x.lb f.nn::mapA ji nc x.sm f.my::DB x.sa x.sc D::ay 71 9 x.fa C.length x.fc (flat fM C)::D0 x.rm f.rds::pr Q B f.ags 64 64::m_ Q x.wb f.w::F)):aA H (gx A j B { f with g:=g }::F):=by have h:=sw hs (h.o [8,0,1,2,3,4,5,6,7] 9);have h:=sx hs (h.o [8,0,1,2,3,4,5,6,7] 9);exact cB.2 ⟨x,D,C,⟨a.sink,(a.sub hs).ys,a.facts,(a.sub hs).fs⟩,h.o [3,4,5,6,7,8,0,1,2] 9⟩
theorem Zn{F:List aF}{p:Pk}(t:iT f.g)(n:∀d,d<64->dJ (f.ags d))(hb:∀p∈f.rds,p.2.length<=1000000)(y:p.In Q)(c:aI p.bs)(m:0<=p.ag/\p.ag<64) (h:aA H (Q::gx Q l B f::ax i (mQ p) 92::ax j (fB e I) 65::F)) (k:∀Q' b,aH Q Q'->aA b (Q'::gx Q' l B (qJ f p.core e.rd).1::F)->K (aD (qJ f p.core e.rd).2) b) : ∃v,aM H i 0=some (.bool v)/\IF v (∃v1,aM H l 215=some (.pointer v1)/\∃v2,aM H i 1=some (aD v2)/\∃v3,aM H l 148=some (aD v3)/\∃A C ab,aM H i 3=some (.slice A C ab)/\ CF 117 ⟨[.pointer v1,aD v2,aD v3,.slice A C ab]⟩ H λu b=>∃r,u=aD r/\K (aD r) b) (∃v4,aM H i 1=some (aD v4)/\∃v5,aM H j 3=some (aD v5)/\CF 110 ⟨[PA l 0,aD v4,aD v5,.func (.func 118) #[] ⟨[PA j 0,PA i 0]⟩]⟩ H λu b=>∃r,u=aD r/\K (aD r) b):=by
 refine⟨_,h.r 2,λw=>?_,λw=>?_⟩
 .let⟨x,ys,fs,ex,h⟩:=cB.1 (h.o [1,0,2,3] 4);have pb:∃s r,om f.g p.ag f.now p.bs=(s,r):=⟨_,_,rfl⟩;let⟨s,r,pb⟩:=pb;have e0:qJ f p.core e.rd=({ f with g:=s },r):=by unfold qJ;rw[c_ (show p.core.1=true from w)];show (({ f with g:=(om f.g p.ag f.now p.bs).1 }:aY),(om f.g p.ag f.now p.bs).2)=_;rw[pb]
  rw[e0]at k;refine⟨some ⟨x.gb,0,none⟩,h.r 0,_,h.r 10,_,h.r 0,_,_,_,h.r 10,Zm pb t (h.o [9,8,0,1,2,3,4,5,6,7,10,11] 12) (λH h=>y.rd.at h 0 rfl) c y.le λD L hs h=>⟨_,rfl,k D _ hs (bY (wr hs ex (h.o [1,2,3,4,5,6,7,8,9,0] 12)))⟩⟩
 obtain⟨d,G⟩:∃d:Nat,p.ag=(d:Int):=⟨_,(q2i m.1).symm⟩;have a:d<64:=ez;have e0:qJ f p.core e.rd=(mj (gK f d (kX (f.ags d) e.rd p.bs).1) d e.rd,(kX (f.ags d) e.rd p.bs).2):=by
  have E:p.core.2.1.toNat=d:=by show p.ag.toNat=d;omega
  unfold qJ;rw[b_ (by rw[show p.core.1=p.up from rfl,w];decide),E];rfl
 rw[e0]at k;refine⟨_,h.r 2,_,h.r 3,?_⟩;rw[G];refine Ej (rd:=e.rd) (r:=(kX (f.ags d) e.rd p.bs).2) (f':=gK f d (kX (f.ags d) e.rd p.bs).1) (F:=ax j (fB e I) 65::ax i (mQ p) 92::F) a hb kf (h.o [0,1,3,2] 4) (λN M O b J h kk=>Zl a (n d a) y c h kk) λQ' b hs h=>⟨_,rfl,k Q' _ hs (h.o [0,1] 4)⟩
theorem Zo{f:aY}(C:iT f.g)(ab:ft f.w)(A:∀j,j<64->dJ (f.ags j))(hb:∀p∈f.rds,p.2.length<=1000000)(h:aA H (Q::gx Q l B f::F)) (k:∀Q' i,aH Q Q'->aA i (Q'::gx Q' l B (adl f e.num e.rd).1::F)->K (aD (adl f e.num e.rd).2) i):CF 57 #[PA l 0,.agg ⟨fB e I⟩] H K:=by
 have n:∃m c u,gI f.w e.num=(m,c,u):=⟨_,_,_,rfl⟩;let⟨m,c,u,n⟩:=n;unfold adl at k;rw[n]at k;have d:=El f.w e.num;rw[n]at d;refine RP (h.al λb _ h=>?_);intro ex J;let⟨x,ys,fs,y,h⟩:=cB.1 (h.o [2,0,1] 3);have go:∀(pb:Nat) (p:Pk) i,p.In Q->p.core=c->aA i (m_ Q x.wb m::ax l (dW f x B ys.length fs.length) 133::C1 x.lb f.nn::mapA ji nc x.sm f.my::DB x.sa x.sc ys::ay 71 9 x.fa fs.length x.fc (flat fM fs)::D0 x.rm f.rds::pr Q B f.ags 64 64::kx Q x.gb x.db f.g::ax b (fB e I) 65::Q::ax pb (mQ p) 92::F)->ex pb 0 u i:=by
  intro pb p i v t h;have h:aA i (gx Q l B { f with w:=m }::ax b (fB e I) 65::Q::ax pb (mQ p) 92::F):=(cB (f:={ f with w:=m })).2 ⟨x,ys,fs,⟨y.sink,y.ys,y.facts,y.fs⟩,h.o [1,2,3,4,5,6,7,0,8,9,10,11] 12⟩;refine J _ _ _ _ ⟨λa=>?_,λa=>?_⟩
  .have a:u≠0:=by grind
   rw[c_ a]at k;rcases d with ⟨_,e0⟩|⟨D,_,e0⟩;.have e1:m=f.w:=(Prod.mk.inj e0).1;subst e1;exact k Q _ (aH.refl Q) (h.o [2,0] 4)
   exact cS (Prod.mk.inj (Prod.mk.inj e0).2).2 a
  have a:¬u≠0:=by grind
  rw[b_ a]at k;rcases d with ⟨_,e0⟩|⟨D,G,e0⟩;.have:=(Prod.mk.inj (Prod.mk.inj e0).2).2;rw[this]at a;exact cS ee a
  have ec:c=D:=(Prod.mk.inj (Prod.mk.inj e0).2).1;subst ec t;have s:=ab.bs _ (eD G);refine Zn (f:={ f with w:=m }) (p:=p) C A hb v s.1 s.2.2 (h.o [2,0,3,1] 4) λQ' E hs h=>k Q' _ hs h
 refine⟨some ⟨x.wb,0,none⟩,h.r 0,_,h.r 9,?_,?_⟩;.have h:=h.o [7,0,1,2,3,4,5,6,8,9,10] 11;refine OT n h λp L v t h=>⟨_,_,_,_,_,_,_,rfl,h.al λb1 _ h=>h.st 0 rfl rfl λE h=>go b1 p _ v t (h.o [1,2,3,4,5,6,7,8,9,10,11,0] 12)⟩
 refine h.al λb2 _ h=>⟨h.r 10,h.r 1,?_⟩;have h:=h.o [8,1,2,3,4,5,6,7,9,10,11,0] 12;refine OT n h λp L v t h=>⟨_,_,_,_,_,_,_,rfl,h.st 11 rfl rfl λE h=>go b2 p _ v t h⟩
def ku(e:Et):Option Et:=
 if e.kind=0 then some { e with now:=0 } else if e.kind=1 then some { e with ag:=0,bt:=0 } else if e.kind=2 then some { e with ag:=0,rd:=0,val:=0,nm:=⟨#[]⟩,labs:=[] } else
 if e.kind=3 then some { e with ag:=0,rd:=0 } else if e.kind=4 then some { e with num:=0,rd:=0 } else if e.kind=5\/e.kind=6 then some { e with num:=0 } else
 if e.kind=7 then some { e with ag:=0,bs:=[] } else if e.kind=8\/e.kind=9\/e.kind=10 then some e else if e.kind=11 then some { e with eS:=0 } else none
def ZB(r:Et):List Int:=[r.ag,r.now,r.rd,r.bt,r.val,r.num,r.eS]
def aaQ(a:Int)(r:Et):Bool:=((((decide (0<=a)&&decide (a<64))&&decide (ZB r=[0,0,0,0,0,0,0]))&&(r.nm.toList == (⟨#[]⟩:Fb).toList))&&decide ((r.labs.length:Int)=0))&&decide ((r.bs.length:Int)=0)
def lh(e:Et):Bool:=match ku e with|none=>false|some r=>aaQ e.ag r
theorem wt:bX Tryz.prog 87 #[aD n] H (.bool (decide (0<=n)&&decide (n<64))):=cM 87 28 ⟨rfl,rfl⟩
theorem eq7(r:Et):i8 Tryz.prog .eql 248 (.agg ⟨[aD r.ag,aD r.now,aD r.rd,aD r.bt,aD r.val,aD r.num,aD r.eS]⟩) (.agg ⟨[aD 0,aD 0,aD 0,aD 0,aD 0,aD 0,aD 0]⟩) (decide (ZB r=[0,0,0,0,0,0,0])):=by
 have h:=(xp (P:=Tryz.prog) (t:=248) (xs:=[aD r.ag,aD r.now,aD r.rd,aD r.bt,aD r.val,aD r.num,aD r.eS]) (ys:=[aD 0,aD 0,aD 0,aD 0,aD 0,aD 0,aD 0]) (r:=(r.ag == 0&&(r.now == 0&&(r.rd == 0&&(r.bt == 0&&(r.val == 0&&(r.num == 0&&(r.eS == 0&&true)))))))) kf).1;have e:(r.ag == 0&&(r.now == 0&&(r.rd == 0&&(r.bt == 0&&(r.val == 0&&(r.num == 0&&(r.eS == 0&&true)))))))=decide (ZB r=[0,0,0,0,0,0,0]):=by unfold ZB;grind
 rw[e]at h;exact h
theorem Zp(h:aA H F)(k:∀s,aA s F->K (.bool (lh e)) s):CF 53 #[.agg ⟨fB e I⟩] H K:=by
 refine RQ (h.al λb _ h=>⟨_,_,_,_,_,_,_,_,_,_,_,_,_,_,_,h.q 0,h.al λb1 _ h=>h.st 0 rfl rfl λQ h=>⟨_,h.r 1,?_⟩⟩);intro R hJ;have fin:∀(r:Et) (rx:EtX) s,ku e=some r->aA s (ax b1 (fB r rx) 65::ax b (fB e I) 65::F)->R s:=by
  intro r rx s hr h;have V:lh e=aaQ e.ag r:=by grind [lh]
  rw[V]at k;refine hJ _ ⟨_,h.r 0,_,h.r 0,_,h.r 0,_,h.r 0,_,h.r 0,_,h.r 0,_,h.r 0,h.al λb2 _ h=>h.st 0 rfl rfl λH3 h=>⟨_,h.r 2,_,wt,_,_,_,_,_,_,_,λ_=>h.q 0,_,λ_=>eq7 r,_,λ_=>h.r 1,_,_,_,λ_=>h.r 1,_,_,_,λ_=>h.r 1,k _ h.tl.tl.tl⟩⟩
 refine⟨λh0=>h.st 0 rfl rfl λ_ h=>fin { e with now:=0 } I _ (by unfold ku;grind) h,λh0=>?_⟩;have h0:=h_ h0;intro h6 f;refine⟨λA=>h.st 0 rfl rfl λ_ h=>h.st 0 rfl rfl λ_ h=>f _ (fin { e with ag:=0,bt:=0 } I _ (by unfold ku;grind) h),λA=>?_⟩;have A:=h_ A;intro Z n;refine⟨λB=>h.st 0 rfl rfl λ_ h=>h.st 0 rfl rfl λ_ h=>h.st 0 rfl rfl λ_ h=>h.st 0 rfl rfl λ_ h=>h.st 0 rfl rfl λ_ h=>n _ (f _ (fin { e with ag:=0,rd:=0,val:=0,nm:=⟨#[]⟩,labs:=[] } { I with la:=none,lc:=0 } _ (by unfold ku;grind) h)),λB=>?_⟩;have B:=h_ B;intro j2 u;refine⟨λE=>h.st 0 rfl rfl λ_ h=>h.st 0 rfl rfl λ_ h=>u _ (n _ (f _ (fin { e with ag:=0,rd:=0 } I _ (by unfold ku;grind) h))),λE=>?_⟩;have E:=h_ E;intro N w;have c:∀H,R H->N H:=λH x=>w _ (u _ (n _ (f _ x)));refine⟨λJ=>h.st 0 rfl rfl λ_ h=>h.st 0 rfl rfl λ_ h=>c _ (fin { e with num:=0,rd:=0 } I _ (by unfold ku;grind) h),λJ=>?_⟩;have J:=h_ J;intro D M;have d:∀t,(t=true↔e.kind=5\/e.kind=6)->D t Q:=by
  intro t T;refine M t _ ?_;intro j1 i;refine⟨λex=>h.st 0 rfl rfl λ_ h=>i _ (c _ (fin { e with num:=0 } I _ (by unfold ku;grind) h)),λex=>?_⟩;have j3:¬(e.kind=5\/e.kind=6):=λhn=>by grind
  intro U m;refine⟨λC=>h.st 0 rfl rfl λ_ h=>h.st 0 rfl rfl λ_ h=>m _ (i _ (c _ (fin { e with ag:=0,bs:=[] } { I with ba:=none,bc:=0 } _ (by unfold ku;grind) h))),λC=>?_⟩;have C:=h_ C;intro G O;have a:∀t,(t=true↔e.kind=8\/e.kind=9\/e.kind=10)->G t Q:=by
   intro t T;refine O t _ ?_;intro Y v;refine⟨λex=>v _ (m _ (i _ (c _ (fin e I _ (by unfold ku;grind) h)))),λex=>?_⟩;have P:¬(e.kind=8\/e.kind=9\/e.kind=10):=λhn=>by grind
   refine⟨λL=>h.st 0 rfl rfl λ_ h=>v _ (m _ (i _ (c _ (fin { e with eS:=0 } I _ (by unfold ku;grind) h)))),λL=>?_⟩;have:lh e=false:=by unfold lh ku;grind
   rw[this]at k;exact k _ h.tl.tl
  refine⟨λy=>a _ (by grind),λy=>?_⟩;have y:=h_ y;intro S j;refine⟨λh9=>j _ _ (a _ (by grind)),λh9=>j _ _ (a _ ?_)⟩;grind
 refine⟨λW=>d _ (by grind),λW=>d _ ?_⟩;grind
theorem Zq(b:j<64)(h:aA H (gx Q i B f::F))(k:∀a,aA a (gx Q i B (gK f j (kg (f.ags j) n).1)::F)->K (aD (kg (f.ags j) n).2) a):CF 54 #[PA (B j) 0,aD n] H K:=VI (un b h) λa h=>k _ (wq b h)
theorem aiq(ok:iT f.g)(b:FlI Q f D C)(h:aA H (Q::pf Q j B f x D C F)) (k:∀Q' a,aH Q Q'->aA a (Q'::gx Q' j B { f with g:=(cI f.g (pT n)).1 }::F)->K (aD (cI f.g (pT n)).2) a):CF 64 #[PA x.gb 0,aD n] H K:=by refine Yi (next:=n) ok (h.o [0,9,1,2,3,4,5,6,7,8] 10) λQ' a hs h=>k Q' _ hs (bY (wr hs b (h.o [1,2,3,4,5,6,7,8,9,0] 10)))
theorem aip(ok:iT f.g)(e:∀r∈f.g.rows,r.1<=f.g.rl.hN)(j:FlI Q f D C)(h:aA H (Q::pf Q l B f x D C F)) (k:∀b a c d,b.map Oy.o=f.g.pend->(∀z∈b,fP Q z)->aA d (Q::ay 266 11 a b.length c (flat bV b)::gx Q l B { f with g:=j9 f.g }::F)->K (.slice a b.length c) d):CF 63 #[PA x.gb 0] H K:=by refine Yq ok e (h.o [0,9,1,2,3,4,5,6,7,8] 10) λb a c d hm i h=>k b a c _ hm i ?_;have h:=wr (aH.refl Q) j (h.o [2,3,4,5,6,7,8,9,10,0,1] 11);exact h.o [1,2,0] 3
theorem aio{Ek:List DF}{R:DR}{LL:LG}{now:Int}(I:GI f.g i N Ek E R LL n j)(hi:i<=2998)(kk:FlI Q f D C)(h:aA H (Q::pf Q l B f x D C F)) (k:∀Q' b a c d,aH Q Q'->b.map Oy.o=(dm f.g now).2.1->(∀z∈b,fP Q' z)->aA d (Q'::ay 266 11 a b.length c (flat bV b)::gx Q' l B { f with g:=(dm f.g now).1 }::F)->K (.tuple #[.slice a b.length c,aD (dm f.g now).2.2]) d):CF 121 #[PA x.gb 0,aD now] H K:=by refine adY I hi (h.o [0,9,1,2,3,4,5,6,7,8] 10) λQ' b a c d hs hm e h=>k Q' b a c _ hs hm e ?_;have h:=wr hs kk (h.o [2,3,4,5,6,7,8,9,10,0,1] 11);exact h.o [1,2,0] 3
theorem OU{g:Nat->Bool}{b:Bool}:CT (λi=>Value.bool (g i)) j (.bool b)=λi=>.bool (CT g j b i):=by funext i;unfold CT;split <;> rfl
theorem Em(g:Nat->Value)(T:Xa):∀(n i:Nat),(cZ g n i T).length=n+T.length
 | 0,_=>by simp[cZ]
 | n+1,i=>by show (cZ g n (i+1) T).length+1=_;rw[Em g T n (i+1)];omega
theorem OV:(dW f x B j i).length=216:=by simp only[dW,kY,CV,Em,po,HB]
theorem Zr(a:j<64):cu (dW f x B i l) (69+j) [.bool true]=dW { f with B_:=CT f.B_ j true } x B i l:=by show (dW f x B i l).set (69+j) (.bool true)=_;rw[show 69+j=(64+j)+5 by omega];show _::_::_::_::_::(cZ _ 64 0 (cZ _ 64 0 _)).set (64+j) (.bool true)=_;rw[zj,zi _ _ _ 64 0 j a,CO,OU]
theorem Zs(a:j<64):cu (dW f x B i l) (5+j) [.bool true]=dW { f with sN:=CT f.sN j true } x B i l:=by show (dW f x B i l).set (5+j) (.bool true)=_;rw[show 5+j=j+5 by omega];show _::_::_::_::_::(cZ _ 64 0 (cZ _ 64 0 _)).set j (.bool true)=_;rw[zi _ _ _ 64 0 j a,CO,OU]
theorem agQ{ns:Nat}{nf:Nat}(c:j<64)(h:aA H (ax i (dW f x B ns nf) 133::F))(k:∀a,aA a (ax i (dW { f with B_:=CT f.B_ j true } x B ns nf) 133::F)->G a):eA H i (69+j) [.bool true]/\∀a,a=fw H i (69+j) [.bool true]->G a:=by refine⟨h.can 0 rfl _ _ (by rw[OV];simp;omega),?_⟩;intro a rfl;have b:=h.set 0 rfl (69+j) [.bool true];rw[Zr c]at b;exact k _ b
theorem agR{ns:Nat}{nf:Nat}(c:j<64)(h:aA H (ax i (dW f x B ns nf) 133::F))(k:∀a,aA a (ax i (dW { f with sN:=CT f.sN j true } x B ns nf) 133::F)->G a):eA H i (5+j) [.bool true]/\∀a,a=fw H i (5+j) [.bool true]->G a:=by refine⟨h.can 0 rfl _ _ (by rw[OV];simp;omega),?_⟩;intro a rfl;have b:=h.set 0 rfl (5+j) [.bool true];rw[Zs c]at b;exact k _ b
def qK(s:aL)(i:Nat):Bool:=(kW s (i:Int)).2&&(kW s (i:Int)).1.fl.out
def mW(G:aY)(t:Nat):aY:={ G with B_:=λi=>G.B_ i||(decide (i<t)&&qK G.g.s i) }
def wu(f:aY):aY×Int:=
 if (dm f.g f.now).2.2≠0 then ({ f with g:=(dm f.g f.now).1 },(dm f.g f.now).2.2) else (mW (ff { f with g:=(dm f.g f.now).1 } (dm f.g f.now).2.1) 64,0)
theorem OW:∀(l:List Ou) (f:aY),(ff f l).g=f.g
 | [],f=>rfl
 | o::l,f=>by
  show (ff (gJ f o) l).g=f.g;rw[OW l];unfold gJ
  split
  .rfl
  split
  .rfl
  split <;> rfl
theorem Zt{G:aY}{t:Nat}:mW G (t+1)=if qK G.g.s t=true then { mW G t with B_:=CT (mW G t).B_ t true } else mW G t:=by
 have key:∀i,(G.B_ i||(decide (i<t+1)&&qK G.g.s i))=if i=t then (G.B_ t||qK G.g.s t) else (G.B_ i||(decide (i<t)&&qK G.g.s i)):=by grind
 split;.rename_i h;unfold mW CT;grind
 grind [mW]
theorem Zu{f:aY}{Ek:List DF}{R:DR}{LL:LG}(I:GI f.g i N Ek E R LL n j)(hi:i<=2998)(d:iT (dm f.g f.now).1)(u_:ft f.w)(hn:f.w.next<=999000000000)(hk:f.sink.length<=90000000000) (Y:∀o∈(dm f.g f.now).2.1,aI o.bs/\o.bs.length<=1000000) (O:(dm f.g f.now).2.1.length<=1000) (h:aA H (Q::gx Q l B f::F)) (k:∀Q' J,aH Q Q'->aA J (Q'::gx Q' l B (wu f).1::F)->K (aD (wu f).2) J):CF 61 #[PA l 0] H K:=by
 let⟨x,ys,fs,hI,h⟩:=cB.1 (bY h);refine cN 61 0x11d11215612399251117494c [[],[(32,sI)]] ⟨some ⟨x.gb,0,none⟩,h.r 0,_,h.r 0,?_⟩;have L:∃ab os r,dm f.g f.now=(ab,os,r):=⟨_,_,_,rfl⟩;refine aio (now:=f.now) I hi hI (h.o [9,0,1,2,3,4,5,6,7,8] 10) λQ1 zs a c H1 hs hm P h=>⟨_,_,_,_,rfl,?_⟩;let⟨ab,os,r,L⟩:=L;unfold wu at k;rw[L]at k hm Y O d h;rw[L];dsimp only at *;have Z:zs.length=os.length:=by grind
 refine⟨λD=>?_,λD=>?_⟩;.rw [c_ (by grind)]at k;exact k Q1 _ hs (h.o [0,2] 3)
 rw[b_ (by grind)]at k;refine C3 (f:={ f with g:=ab }) u_ (by grind) (by grind) (λz M=>⟨P z M,Y z.o (by grind)⟩) h λC H2 s2 h=>⟨rfl,?_⟩;rw[hm]at h;have T:(ff { f with g:=ab } os).g=ab:=OW _ _;have y:∃G,ff { f with g:=ab } os=G:=⟨_,rfl⟩;let⟨G,y⟩:=y;rw[y]at h k T;have d:iT G.g:=by rw[T];exact d
 let⟨x2,u,kk,m,h⟩:=cB.1 (bY h);refine⟨some ⟨x2.gb,0,none⟩,h.r 0,Om d (h.o [8,0,1,2,3,4,5,6,7,9] 10) λsb H3 h=>⟨some ⟨sb,0,none⟩,rfl,?_⟩⟩;have l0:mW G 0=G:=by unfold mW;simp
 refine⟨λt J=>∃n0:Nat,t=n0/\n0<=64/\aA J (ax l (dW (mW G n0) x2 B u.length kk.length) 133::s_ C sb G.g.s::kx C x2.gb x2.db G.g::C1 x2.lb G.nn::mapA ji nc x2.sm G.my::DB x2.sa x2.sc u::ay 71 9 x2.fa kk.length x2.fc (flat fM kk)::D0 x2.rm G.rds::pr C B G.ags 64 64::m_ C x2.wb G.w::C::F),λt _=>64-t.toNat,⟨0,rfl,ez,by rw[l0];exact h.o [2,0,1,3,4,5,6,7,8,9,10] 11⟩,?_⟩;clear h;rintro t H4 ⟨n0,rfl,V,h⟩;refine⟨λS=>?_,λS=>?_⟩
 .have A:n0<64:=by grind
  have W:i64.wrap ((n0:Int)+1)=((n0+1:Nat):Int):=by grind [aN]
  refine Mr (a:=(n0:Int)) d.R.ok (h.o [1,0,2,3,4,5,6,7,8,9,10] 11) λH5 h=>⟨_,_,_,_,_,_,_,_,_,_,_,_,rfl,h.al λb _ h=>h.st 0 rfl rfl λH6 h=>⟨_,λ_=>h.r 0,?_⟩⟩;have v:=@Zt G n0;intro Jn U;refine⟨λD=>⟨⟨ez,ez⟩,?_⟩,λD=>U _ ⟨⟨n0+1,W,A,?_⟩,by grind⟩⟩;.rw [c_ (show qK G.g.s n0=true from D)]at v;refine agQ (f:=mW G n0) (x:=x2) (ns:=u.length) (nf:=kk.length) A (h.o [2,0,1,3,4,5,6,7,8,9,10,11] 12) λH7 h=>U _ ⟨⟨n0+1,W,A,?_⟩,by grind⟩;rw[v];exact h.o [0,2,3,4,5,6,7,8,9,10,11] 12
  rw [b_ (show ¬qK G.g.s n0=true from λe=>by grind [qK])]at v;rw[v];exact h.o [2,1,3,4,5,6,7,8,9,10,11] 12
 have S:=h_ S;obtain rfl:n0=64:=ez;refine k C _ (hs.trans s2) (bY ((cB (f:=mW G 64)).2 ⟨x2,u,kk,⟨m.sink,m.ys,m.facts,m.fs⟩,h.o [0,3,4,5,6,7,8,9,2,10] 11⟩))
theorem Eo{w:Wr}(hs:aH Q A)(a:FlI Q f D C) (h:aA H (m_ A x.wb w::ax j (dW f x B D.length C.length) 133::C1 x.lb f.nn::mapA ji nc x.sm f.my::DB x.sa x.sc D::ay 71 9 x.fa C.length x.fc (flat fM C)::D0 x.rm f.rds::pr Q B f.ags 64 64::kx Q x.gb x.db f.g::F)):aA H (gx A j B { f with w:=w }::F):=by have h:=zl hs (h.o [7,8,0,1,2,3,4,5,6] 9);exact cB.2 ⟨x,D,C,⟨a.sink,(a.sub hs).ys,a.facts,(a.sub hs).fs⟩,h.o [3,4,5,6,7,8,0,2,1] 9⟩
theorem ad3(ok:ft f.w)(b:FlI Q f D C)(h:aA H (Q::pf Q j B f x D C F)) (k:∀Q' a,aH Q Q'->aA a (Q'::gx Q' j B { f with w:=(lD f.w n).1 }::F)->K (.tuple #[aD (lD f.w n).2.1,aD (lD f.w n).2.2]) a):CF 59 #[PA x.wb 0,aD n] H K:=by refine Ys ok (h.o [0,8,1,2,3,4,5,6,7,9] 10) λQ' a hs h=>k Q' _ hs (bY (Eo hs b (h.o [1,2,3,4,5,6,7,8,9,0] 10)))
theorem ad2(b:FlI Q f D C)(h:aA H (Q::pf Q j B f x D C F)) (k:∀p a,aA a (Q::gx Q j B { f with w:=(gI f.w n).1 }::F)->K (.tuple #[jO p,aD (gI f.w n).2.2]) a):CF 58 #[PA x.wb 0,aD n] H K:=by refine Ox (h.o [8,0,1,2,3,4,5,6,7,9] 10) λp a _ _ h=>k p _ (bY (Eo (aH.refl Q) b (h.o [0,2,3,4,5,6,7,8,9,1] 10)))
def HK(f:aY)(e:Et)(cr:aY×Int):aY×Int:=
 if lh e=false then (f,10) else
 if e.kind=0 then (if e.now<f.now\/aas<e.now then (f,11) else ({ f with now:=e.now },0)) else
 if e.kind=1 then (gK f e.ag.toNat (kg (f.ags e.ag.toNat) e.bt).1,(kg (f.ags e.ag.toNat) e.bt).2) else
 if e.kind=2 then (mj (mV f e.ag.toNat e).1 e.ag.toNat e.rd,(mV f e.ag.toNat e).2) else
 if e.kind=3 then (mj (sD f e.ag.toNat e.rd) e.ag.toNat e.rd,(gU (f.ags e.ag.toNat) e.rd).2.2) else
 if e.kind=4 then adl f e.num e.rd else
 if e.kind=5 then ({ f with w:=(gI f.w e.num).1 },(gI f.w e.num).2.2) else
 if e.kind=6 then ({ f with w:=(lD f.w e.num).1 },(lD f.w e.num).2.2) else
 if e.kind=7 then (mU { f with sN:=CT f.sN e.ag.toNat true } true e.ag e.bs,0) else
 if e.kind=8 then wu f else
 if e.kind=9 then (ff { f with g:=j9 f.g } f.g.pend,0) else
 if e.kind=10 then ({ f with g:=(cI f.g (pT f.sink.length)).1 },(cI f.g (pT f.sink.length)).2) else cr
theorem abC(h:lh e=true):0<=e.ag/\e.ag<64:=by
 unfold lh at h;split at h;.cases h
 unfold aaQ at h;grind
structure fR(f:aY)(i:Nat):Prop where
 gi:∃u_ Ek E R LL n0 kk,GI f.g i u_ Ek E R LL n0 kk
 o:f.g.o=f.o
 w:ft f.w
 ags:∀j,j<64->dJ (f.ags j)/\(f.ags j).drop<=i
 rds:∀p∈f.rds,p.2.length<=i
 next:f.w.next<=10000000*i
 sink:f.sink.length+f.nn.length<=10000000*i
 facts:f.facts.length<=i
theorem fR.agk(h:fR f i)(a:j<64):dJ (f.ags j):=(h.ags j a).1
theorem fR.rdk(h:fR f i)(hi:i<=2990):∀p∈f.rds,p.2.length<=1000000:=λp a=>by have:=h.rds p a;omega
theorem ad4{f:aY}{cr:aY×Int}(ok:fR f i)(hi:i<=2990)(hk:DJ Q I.la (flat cJ e.labs))(j3:e.labs.length<=1000000)(W:DJ Q I.ba (e.bs.map U8))(V:e.bs.length<=1000000) (ht:e.kind=8->iT (dm f.g f.now).1/\(∀o∈(dm f.g f.now).2.1,aI o.bs/\o.bs.length<=1000000)/\(dm f.g f.now).2.1.length<=1000) (hs:e.kind=9->(∀r∈f.g.rows,r.1<=f.g.rl.hN)/\(∀o∈f.g.pend,aI o.bs/\o.bs.length<=1000000)/\f.g.pend.length<=100000000) (hc:e.kind=11->∀(ab:aF) n (J:KE),aA n (Q::gx Q l B f::ab::F)->(∀Q' P,aH Q Q'->aA P (Q'::gx Q' l B cr.1::ab::F)->J (aD cr.2) P)->CF 65 ⟨[PA l 0,aD e.eS]⟩ n J) (h:aA H (Q::gx Q l B f::F)) (k:∀Q' n,aH Q Q'->aA n (Q'::gx Q' l B (HK f e cr).1::F)->K (aD (HK f e cr).2) n):CF 15 #[PA l 0,.agg ⟨fB e I⟩] H K:=by
 let⟨u_,Ek,E,R,LL,n0,kk,ex⟩:=ok.gi;have D:=ex.ok ez;refine RR (h.al λb _ h=>⟨_,_,_,_,_,_,_,_,_,_,_,_,_,_,_,h.q 0,Zp h λH1 h=>⟨_,rfl,λhr=>?_,λhr=>⟨_,h.r 0,?_⟩⟩⟩);.unfold HK at k;rw[c_ (by grind)]at k;exact k Q _ (aH.refl Q) (h.o [1,2] 3)
 have hr:lh e=true:=by grind
 let⟨a0,a1⟩:=abC hr;obtain⟨j,hj⟩:∃j:Nat,e.ag=(j:Int):=⟨_,(q2i a0).symm⟩;have d:j<64:=ez;have C:e.ag.toNat=j:=ez;unfold HK at k;rw[b_ (by grind),C]at k;have h:=h.o [1,2,0] 3;intro Jn hJ;refine⟨λh0=>?_,λh0=>⟨λt=>?_,λt=>⟨λs=>?_,λs=>⟨λu=>?_,λu=>⟨λy=>?_,λy=>⟨λN=>?_,λN=>⟨λU=>?_,λU=>?_⟩⟩⟩⟩⟩⟩⟩
 .rw [c_ (j_ h0)]at k;let⟨x,ys,fs,m,h⟩:=cB.1 (bY h);refine⟨_,h.r 10,_,h.r 0,_,λ_=>h.r 10,λj1=>?_,λj1=>⟨_,h.r 10,h.st 0 rfl rfl λT h=>hJ _ ?_⟩⟩;.rw [c_ (by grind)]at k;exact k Q _ (aH.refl Q) (bY (cB.2 ⟨x,ys,fs,m,h.o [0,1,2,3,4,5,6,7,8,9] 11⟩))
  rw [b_ (by grind)]at k;have h:aA T (ax l (dW { f with now:=e.now } x B ys.length fs.length) 133::_):=h;exact k Q _ (aH.refl Q) (bY ((cB (f:={ f with now:=e.now })).2 ⟨x,ys,fs,⟨m.sink,m.ys,m.facts,m.fs⟩,h.o [0,1,2,3,4,5,6,7,8,9] 11⟩))
 .rw [b_ (h_ h0),c_ (j_ t)]at k;let⟨x,ys,fs,m,h⟩:=cB.1 (bY h);refine⟨_,h.rd 10 rfl _,⟨ez,ez⟩,some ⟨B j,0,none⟩,(by rw[C];exact (h.r 0).trans (zn (f:=f) (x:=x) d)),_,h.r 10,Zq d (cB.2 ⟨x,ys,fs,m,h⟩) λn h=>⟨_,rfl,k Q _ (aH.refl Q) (h.o [1,0] 3)⟩⟩
 .have s:=j_ s;rw[b_ (h_ h0),b_ (h_ t),c_ s]at k;refine⟨_,_,_,_,_,_,_,_,_,_,_,_,_,_,_,h.q 2,Zk d (ok.agk d) (by have:=ok.facts;omega) hj hk j3 (ok.rdk hi) h λQ' n hs h=>⟨_,rfl,k Q' _ hs (h.o [0,1] 3)⟩⟩
 .have u:=j_ u;rw[b_ (h_ h0),b_ (h_ t),b_ (h_ s),c_ u]at k;refine⟨_,_,_,_,_,_,_,_,_,_,_,_,_,_,_,h.q 2,Zh d (ok.agk d) ok.w (by have:=ok.next;omega) hj (ok.rdk hi) h λQ' n hs h=>⟨_,rfl,k Q' _ hs (h.o [0,1] 3)⟩⟩
 .have y:=j_ y;rw[b_ (h_ h0),b_ (h_ t),b_ (h_ s),b_ (h_ u),c_ y]at k;refine⟨_,_,_,_,_,_,_,_,_,_,_,_,_,_,_,h.q 2,Zo D ok.w (λ_=>ok.agk) (ok.rdk hi) h λQ' n hs h=>⟨_,rfl,k Q' _ hs (h.o [0,1] 3)⟩⟩
 .rw [b_ (h_ h0),b_ (h_ t),b_ (h_ s),b_ (h_ u),b_ (h_ y),c_ (j_ N)]at k;intro r9 L;let⟨x,ys,fs,m,h⟩:=cB.1 (bY h);refine⟨some ⟨x.wb,0,none⟩,h.r 0,_,h.r 10,?_,?_⟩;.exact ad2 m (h.o [9,0,1,2,3,4,5,6,7,8,10] 11) λp n h=>⟨_,_,_,_,_,_,_,rfl,h.al λb1 _ h=>h.st 0 rfl rfl λT h=>L _ _ (k Q _ (aH.refl Q) (h.o [1,2] 4))⟩
  refine h.al λb2 _ h=>⟨h.r 11,h.r 1,ad2 m (h.o [10,1,2,3,4,5,6,7,8,9,0,11] 12) λp n h=>⟨_,_,_,_,_,_,_,rfl,h.st 2 rfl rfl λT h=>L _ _ (k Q _ (aH.refl Q) (h.o [0,1] 4))⟩⟩
 .rw [b_ (h_ h0),b_ (h_ t),b_ (h_ s),b_ (h_ u),b_ (h_ y),b_ (h_ N),c_ (j_ U)]at k;let⟨x,ys,fs,m,h⟩:=cB.1 (bY h);refine⟨some ⟨x.wb,0,none⟩,h.r 0,_,h.r 10,ad3 ok.w m (h.o [9,0,1,2,3,4,5,6,7,8,10] 11) λQ' n hs h=>⟨_,_,rfl,k Q' _ hs (h.o [0,1] 3)⟩⟩
 rw [b_ (h_ h0),b_ (h_ t),b_ (h_ s),b_ (h_ u),b_ (h_ y),b_ (h_ N),b_ (h_ U)]at k;intro l0 O;refine⟨λM=>?_,λM=>⟨λS=>?_,λS=>?_⟩⟩;.rw [c_ (j_ M)]at k;let⟨x,ys,fs,m,h⟩:=cB.1 (bY h);refine⟨_,h.rd 10 rfl _,⟨ez,ez⟩,?_⟩;rw[C];refine agR (f:=f) (x:=x) (ns:=ys.length) (nf:=fs.length) d h λT h=>⟨_,h.r 10,_,_,_,h.r 10,?_⟩;have hF:=(cB (f:={ f with sN:=CT f.sN j true })).2 ⟨x,ys,fs,⟨m.sink,m.ys,m.facts,m.fs⟩,h⟩;exact Ef (f:={ f with sN:=CT f.sN j true }) ok.w W V (bY hF) λQ' n hs h=>⟨rfl,O _ (hJ _ (k Q' _ hs (h.o [0,1] 3)))⟩
 .rw [b_ (h_ M),c_ (j_ S)]at k;let⟨t1,t2,t3⟩:=ht (j_ S);exact Zu ex ez t1 ok.w (by have:=ok.next;omega) (by have:=ok.sink;omega) t2 t3 h λQ' n hs h=>⟨_,rfl,k Q' _ hs (h.o [0,1] 3)⟩
 rw[b_ (h_ M),b_ (h_ S)]at k;intro l5 j2;refine⟨λG=>?_,λG=>⟨λv=>?_,λv=>⟨λA=>?_,λA=>?_⟩⟩⟩
 .rw [c_ (j_ G)]at k;let⟨s1,s2,s3⟩:=hs (j_ G);let⟨x,ys,fs,m,h⟩:=cB.1 (bY h);refine⟨some ⟨x.gb,0,none⟩,h.r 0,aip D s1 m (h.o [9,0,1,2,3,4,5,6,7,8,10] 11) λzs a c n hm hz h=>⟨_,_,_,rfl,?_⟩⟩;have r8:zs.length=f.g.pend.length:=by grind
  refine C3 (f:={ f with g:=j9 f.g }) ok.w (by have:=ok.next;grind) (by have:=ok.sink;grind) (λz Y=>⟨hz z Y,s2 z.o (by grind)⟩) h λQ' T hs h=>⟨rfl,j2 _ (O _ (hJ _ (k Q' _ hs ?_)))⟩;rw[hm]at h;exact h.o [0,1] 3
 .rw [b_ (h_ G),c_ (j_ v)]at k;let⟨x,ys,fs,m,h⟩:=cB.1 (bY h);have Z:ys.length=f.sink.length:=by rw[<-m.sink,FI]
  refine⟨some ⟨x.gb,0,none⟩,h.r 0,_,_,_,h.r 0,?_⟩;rw[<-Z]at k;exact aiq D m (h.o [9,0,1,2,3,4,5,6,7,8,10] 11) λQ' n hs h=>⟨_,rfl,k Q' _ hs (h.o [0,1] 3)⟩
 .rw [b_ (h_ G),b_ (h_ v)]at k;refine⟨_,h.r 2,hc (j_ A) _ _ _ h λQ' n hs h=>⟨_,rfl,k Q' _ hs (h.o [0,1] 3)⟩⟩
 exfalso;have e0:ku e=none:=by have q0:=h_ h0;have q1:=h_ t;have q2:=h_ s;have q3:=h_ u;have q4:=h_ y;have q5:=h_ N;have q6:=h_ U;have q7:=h_ M;have q8:=h_ S;have q9:=h_ G;have l6:=h_ v;have r0:=h_ A;unfold ku;grind
 grind [lh]
theorem abh{bt:Int}(ok:dJ g):dJ (kg g bt).1/\(kg g bt).1.drop<=g.drop/\(kg g bt).1.id=g.id:=by
 unfold kg;split;.grind
 split;.grind
 refine⟨⟨ok.id,ok.most,by grind,by grind,⟨GG _,show (0:Int)<=4611686018427387903 by decide⟩,eh,eh,eh,eh,λe a=>cS a eh⟩,ok.drop.1,rfl⟩
theorem ae6{rd:Int}{nm:Fb}{ls:List bO}(ok:dJ g)(c:aG v)(hd:g.drop+1<=1000000):dJ (eK g rd v nm ls).1/\(eK g rd v nm ls).1.drop<=g.drop+1/\(eK g rd v nm ls).1.id=g.id:=by
 let⟨o1,o2,o3,o4,o5,o6,o7,o8⟩:=se g rd;have a:=su (rd:=rd) ok;have same:dJ (bD g rd).1/\(bD g rd).1.drop<=g.drop+1/\(bD g rd).1.id=g.id:=⟨a,ez,o7⟩;unfold eK;split;.exact same
 split;.exact same
 split;.exact same
 split;.exact same
 split;.have:=ok.drop;exact⟨⟨a.id,a.most,a.boot,a.ep,a.ck,a.seq,a.kept,a.q_,by grind,a.evs⟩,by grind,o7⟩
 rename_i d f i j h;have hs:=ok.seq;have hm:=ok.most;refine⟨⟨a.id,a.most,a.boot,a.ep,a.ck,?_,?_,a.q_,a.drop,λe b=>?_⟩,by grind,o7⟩;.grind
 .grind
 rcases C_.1 b with b|b;.exact a.evs e (by grind)
 rw [CU]at b;subst b;have:=a.ck;grind
theorem Zv(h:(eK g n v t L).2.2=0):dB t L=true:=by grind [eK]
theorem abg{rd:Int}(ok:dJ g):dJ (gU g rd).1/\(gU g rd).1.drop<=g.drop/\(gU g rd).1.id=g.id:=by
 let⟨o1,o2,o3,o4,o5,o6,o7,o8⟩:=se g rd;have a:=su (rd:=rd) ok;unfold gU;split;.grind
 dsimp only;split;.grind
 exact⟨⟨a.id,a.most,a.boot,a.ep,a.ck,a.seq,a.kept,eh,a.drop,a.evs⟩,by grind,o7⟩
theorem aa8{rd:Int}{bs:List Int}(ok:dJ g):dJ (kX g rd bs).1/\(kX g rd bs).1.drop<=g.drop/\(kX g rd bs).1.id=g.id:=by
 let⟨o1,o2,o3,o4,o5,o6,o7,o8⟩:=se g rd;have a:=su (rd:=rd) ok;have same:dJ (bD g rd).1/\(bD g rd).1.drop<=g.drop/\(bD g rd).1.id=g.id:=⟨a,ez,o7⟩;unfold kX;split;.exact same
 split;.exact same
 rename_i f h;have b:=D3 h;unfold dQ at b;simp only[p_,za]at b;let⟨⟨⟨_,_,c⟩,_⟩,_⟩:=b;unfold TQ;split;.exact same
 split;.exact same
 split
 .split;.exact same
  split;.exact same
  split;.exact same
  exact⟨⟨a.id,a.most,a.boot,by grind,a.ck,a.seq,a.kept,a.q_,a.drop,a.evs⟩,by grind,o7⟩
 split
 .split;.exact same
  split;.exact same
  exact⟨⟨a.id,a.most,a.boot,a.ep,a.ck,a.seq,a.kept,by grind,a.drop,a.evs⟩,by grind,o7⟩
 split;.exact same
 split;.exact same
 have hs:=a.seq;have i:=a.kept;exact⟨⟨a.id,a.most,a.boot,a.ep,a.ck,by grind,by grind,a.q_,a.drop,λe d=>a.evs e (q22 d)⟩,by grind,o7⟩
theorem zq(a:iM { kind:=P.kind } (aU P.kind) ((aU P.kind).map P.nums)={ P with evs:=[],sn:=⟨#[]⟩,sl:=[],data:=[] })(h:P.kind≠5->P.evs=[])(c:P.sn=⟨#[]⟩/\P.sl=[]/\P.data=[]) (d:∀e∈P.evs,aG e.value):∀b∈j7 P,cX b=.ok P:=by grind [j7,OI,jE]
theorem OX{g:Ag}(ok:dJ g):∀(n:Nat),∀b∈jh g n,∃m,cX b=.ok (mO g m)
 | 0,b,hb=>by cases hb
 | n+1,b,hb=>by
  unfold jh at hb
  split at hb
  .exact OX ok n b hb
  .exact⟨n+1,zq rfl (λh=>cS rfl h) ⟨rfl,rfl,rfl⟩ (λe a=>(ok.evs e (K2 a)).2.1) b hb⟩
theorem Zw{rd:Int}(ok:dJ g):∀b∈(gU g rd).2.1,∃x,cX b=.ok x/\x.ag=g.id:=by
 let⟨o1,o2,o3,o4,o5,o6,o7,o8⟩:=se g rd;have c:=su (rd:=rd) ok;unfold gU;split;.grind
 dsimp only;unfold vT;split;.rename_i h0;rw[h0];exact λb hb=>⟨_,zq rfl (λ_=>rfl) ⟨rfl,rfl,rfl⟩ (λe a=>cS a eh) b hb,o7⟩
 intro b hb;rcases C_.1 hb with hb|hb
 .rcases C_.1 hb with hb|hb;.let⟨p,_,hb⟩:=q1z.1 hb;exact⟨_,zq rfl (λ_=>rfl) ⟨rfl,rfl,rfl⟩ (λe a=>cS a (by simp[KS])) b hb,o7⟩
  let⟨m,hm⟩:=OX c _ b hb;exact⟨_,hm,o7⟩
 exact⟨_,zq rfl (λ_=>rfl) ⟨rfl,rfl,rfl⟩ (λe a=>cS a eh) b hb,o7⟩
theorem Ep{s:aL}{now period:Int}{p:Pb}:∀n,∀o∈(dR s now period p n).2,∃f,o=iQ f
 | 0,o,a=>by cases a
 | n+1,o,a=>by
  unfold dR at a
  split at a
  .rcases C_.1 a with a|a
   .exact Ep n o a
   .rw [CU]at a;exact⟨_,a⟩
  .exact Ep n o a
theorem OY{s:aL}{now period:Int}{p:Pb}:∀n,(dR s now period p n).2.length<=n
 | 0=>yb _
 | n+1=>by
  have:=OY (s:=s) (now:=now) (period:=period) (p:=p) n;unfold dR
  split
  .rw [po,CV,HB];omega
  .omega
structure FFr(f:aY):Prop where
 now:0<=f.now/\f.now<=aas
 hS:∀p∈f.w.m,p.2.2.2.1<=f.now
 down:∀p∈f.w.m,p.2.1=false->∃x,cX p.2.2.2.2=.ok x/\x.ag=p.2.2.1
 up:∀p∈f.w.m,p.2.1=true->f.sN p.2.2.1.toNat=false->∃x,cX p.2.2.2.2=.ok x/\x.ag=p.2.2.1
 sk:∀b∈f.sink,aI b/\∃x,cX b=.ok x/\x.kind=8
 id:∀j,j<64->(f.ags j).id=j
 most:f.w.most=f.pk
 fc:∀x∈f.facts,x.tr<=f.now
 srt:f.facts.Pairwise λa b=>a.tr<=b.tr
 fl:∀x∈f.facts,dB x.e.name x.e.labs=true
structure Kp(f f':aY):Prop where
 now:f.now<=f'.now
 sink:f.sink <+: f'.sink
 facts:f.facts <+: f'.facts
 nn:∀k v,aK k f.nn=some v->aK k f'.nn=some v/\aK k f'.my=aK k f.my
 pk:f'.pk=f.pk
section
variable {f f' f'':aY}{i j:Nat}
theorem Kp.refl(f:aY):Kp f f:=⟨GG _,PR,PR,λ_ _ h=>⟨h,rfl⟩,rfl⟩
theorem Kp.trans(h:Kp f f')(e:Kp f' f''):Kp f f'':=⟨Int.le_trans h.now e.now,h.sink.trans e.sink,h.facts.trans e.facts,λk v i=>by let⟨a,b⟩:=h.nn k v i;let⟨c,d⟩:=e.nn k v a;grind,e.pk.trans h.pk⟩
theorem fR.up(h:fR f i)(hi:i<=j):fR f j:=by let⟨u_,Ek,E,R,LL,n0,kk,I⟩:=h.gi;have c:=h.next;have d:=h.sink;have e:=h.facts;exact⟨⟨_,_,_,_,_,_,_,I.up hi⟩,h.o,h.w,λq a=>⟨(h.ags q a).1,by have:=(h.ags q a).2;omega⟩,λp b=>by have:=h.rds p b;omega,ez,ez,ez⟩
theorem fR.ag(h:fR f i){g:Ag}(ok:dJ g)(hd:g.drop<=i):fR (gK f j g) i:=⟨h.gi,h.o,h.w,λq a=>by show dJ (CT f.ags j g q)/\(CT f.ags j g q).drop<=i;unfold CT;split;exact⟨ok,hd⟩;exact h.ags q a,h.rds,h.next,h.sink,h.facts⟩
theorem fR.aed(h:fR f i){w:Wr}(ok:ft w)(a:w.next<=10000000*i):fR { f with w:=w } i:=⟨h.gi,h.o,ok,h.ags,h.rds,a,h.sink,h.facts⟩
theorem fR.gate(h:fR f i){g:Gg}(b:∃u_ Ek E R LL n0 kk,GI g i u_ Ek E R LL n0 kk)(a:g.o=f.g.o):fR { f with g:=g } i:=⟨b,a.trans h.o,h.w,h.ags,h.rds,h.next,h.sink,h.facts⟩
theorem fR.DH(h:fR f i){rd:Int}:fR (mj f j rd) (i+1):=by
 unfold mj;split
 .have h:=h.up (YV i);have b:=h.rds;refine⟨h.gi,h.o,h.w,h.ags,λp a=>?_,h.next,h.sink,h.facts⟩;have a:p∈adz f.rds ((j:Int),(f.ags j).boot) (f.now,(f.ags j).ck):=a;unfold adz at a;rcases ly a with rfl|a;.dsimp only;rw[po];cases hl:aK ((j:Int),(f.ags j).boot) f.rds with
    | none=>simp
    | some l=>have:=(fR.rds ‹fR f i› _ (eD hl));grind
  grind
 exact h.up (YV i)
theorem OZ:∀(l:List Ou) (f:aY),∃nn my sink w,ff f l={ f with nn:=nn,my:=my,sink:=sink,w:=w }
 | [],f=>⟨f.nn,f.my,f.sink,f.w,rfl⟩
 | o::l,f=>by
  let⟨a,b,c,d,e⟩:=OZ l (gJ f o);show ∃_,_;have:∃nn my sink w,gJ f o={ f with nn:=nn,my:=my,sink:=sink,w:=w }:=by
   unfold gJ
   split
   .exact⟨f.nn,f.my,f.sink,_,rfl⟩
   split
   .grind
   split
   .grind
   grind
  grind [ff]
theorem Pa{w:Wr}{c:Wpc}:(iw w c).1=w\/aaA c=false/\(iw w c).1={ w with next:=w.next+1,m:=eO w.next c w.m }:=by unfold iw;grind
theorem FFr.put(h:FFr f){up:Bool}{ag:Int}{bs:List Int}(d:up=false->∃x,cX bs=.ok x/\x.ag=ag)(b:up=true->f.sN ag.toNat=false->∃x,cX bs=.ok x/\x.ag=ag):FFr (mU f up ag bs):=by
 unfold mU;rcases Pa (w:=f.w) (c:=(up,ag,f.now,bs)) with e|⟨_,e⟩;.rw [e];exact h
 rw [e];have key:∀p∈eO f.w.next (up,ag,f.now,bs) f.w.m,p=(f.w.next,(up,ag,f.now,bs))\/p∈f.w.m:=λp a=>ly a;refine⟨h.now,λp a=>?_,λp a=>?_,λp a=>?_,h.sk,h.id,h.most,h.fc,h.srt,h.fl⟩
 .rcases key p a with rfl|a;.grind
  exact h.hS p a
 .rcases key p a with rfl|a;.exact d
  exact h.down p a
 rcases key p a with rfl|a;.exact b
 exact h.up p a
theorem Kp.put{up:Bool}{ag:Int}{bs:List Int}:Kp f (mU f up ag bs):=⟨GG _,PR,PR,λ_ _ h=>⟨h,rfl⟩,rfl⟩
theorem Zx{l:Ldg}{k:E5}{v:Vd}{x:E5}{u:Vd}(h:aK x l=some u):aK x (jl l k v).1=some u:=by
 unfold jl;split;.exact h
 split
 .rename_i b;dsimp only;rw[pm,b_];.exact h
  grind
 rename_i o c;split;.exact h
 rename_i a;dsimp only;rw[pm];grind
theorem acm(l:Ldg)(k:E5)(v:Vd):(jl l k v).1.length<=l.length+1:=by
 have key:(eO k v l).length<=l.length+1:=by grind [eO,bF]
 unfold jl;grind
theorem aeT{o:Ou}(a:mT o)(d:ft f.w)(i:f.w.next<1000000000000)(h:FFr f):ft (gJ f o).w/\(gJ f o).w.next<=f.w.next+1/\(gJ f o).sink.length+(gJ f o).nn.length<=f.sink.length+f.nn.length+1/\FFr (gJ f o)/\Kp f (gJ f o):=by
 unfold gJ;split;.rename_i n;have e:=sy (c:=(false,o.ag,f.now,o.bs)) d a.by_ a.len i;exact⟨e.1,e.2.1,by show f.sink.length+f.nn.length<=_;omega,h.put (λ_=>a.msg n) (λh=>cS h ee),Kp.put⟩
 split
 .have m:=acm f.nn (Ou.id o) (Ou.vd o);refine⟨d,by grind,by grind,⟨h.now,h.hS,h.down,h.up,h.sk,h.id,h.most,h.fc,h.srt,h.fl⟩,⟨GG _,PR,PR,λk v j=>⟨Zx j,?_⟩,rfl⟩⟩;dsimp only;split;.rename_i t;rw[pm,b_];grind
  rfl
 split
 .rename_i s;refine⟨d,by grind,by simp;omega,⟨h.now,h.hS,h.down,h.up,λb hb=>?_,h.id,h.most,h.fc,h.srt,h.fl⟩,⟨GG _,List.prefix_append _ _,PR,λ_ _ h=>⟨h,rfl⟩,rfl⟩⟩;rcases C_.1 hb with hb|hb;.exact h.sk b hb
  rw [CU]at hb;subst hb;exact⟨a.by_,a.emi s.1⟩
 grind [Kp.refl]
theorem Pd:∀{l:List Ou} {f:aY},(∀o∈l,mT o)->ft f.w->f.w.next+l.length<=1000000000000->FFr f->ft (ff f l).w/\(ff f l).w.next<=f.w.next+l.length/\(ff f l).sink.length+(ff f l).nn.length<=f.sink.length+f.nn.length+l.length/\FFr (ff f l)/\Kp f (ff f l)
 | [],f,_,hw,_,h=>⟨hw,by show f.w.next<=_;simp,by show f.sink.length+f.nn.length<=_;simp,h,Kp.refl f⟩
 | o::l,f,ho,hw,hn,h=>by rw[CV]at hn;let⟨a1,a2,a3,a4,a5⟩:=aeT (ho o (D_ ..)) hw ez h;let⟨b1,b2,b3,b4,b5⟩:=Pd (l:=l) (f:=gJ f o) (λo h=>ho o (DG _ h)) a1 ez a4;rw[CV];exact⟨b1,by show (ff (gJ f o) l).w.next<=_;omega,by show (ff (gJ f o) l).sink.length+(ff (gJ f o) l).nn.length<=_;omega,b4,a5.trans b5⟩
structure Fi(f:aY)(i:Nat)(f0:aY):Prop where
 ok:fR f i
 fr:FFr f
 kp:Kp f0 f
variable {f0:aY}
theorem Fi.leave(h:Fi f i f0){l:List Ou}(c:∀o∈l,mT o)(j:l.length<=9000000)(hi:i<=3000):Fi (ff f l) (i+1) f0:=by have d:=h.ok.next;let⟨a1,a2,a3,a4,a5⟩:=Pd c h.ok.w ez h.fr;have b:=h.ok.sink;have a:=h.ok.up (YV i);refine⟨?_,a4,h.kp.trans a5⟩;let⟨nn,k,sk,w,e⟩:=OZ l f;rw[e]at a1 a2 a3 ⊢;exact⟨a.gi,a.o,a1,a.ags,a.rds,by grind,by grind,a.facts⟩
theorem Fi.up(h:Fi f i f0)(hi:i<=j):Fi f j f0:=⟨h.ok.up hi,h.fr,h.kp⟩
theorem Fi.ag(h:Fi f i f0){g:Ag}(c:j<64)(ok:dJ g)(hd:g.drop<=i)(a:g.id=(f.ags j).id):Fi (gK f j g) i f0:=⟨h.ok.ag ok hd,⟨h.fr.now,h.fr.hS,h.fr.down,h.fr.up,h.fr.sk,λq b=>by
 show (CT f.ags j g q).id=q;unfold CT;split;.rename_i e;subst e;rw[a];exact h.fr.id _ b
 exact h.fr.id q b,h.fr.most,h.fr.fc,h.fr.srt,h.fr.fl⟩,⟨h.kp.now,h.kp.sink,h.kp.facts,h.kp.nn,h.kp.pk⟩⟩
theorem Fi.DH(h:Fi f i f0){rd:Int}:Fi (mj f j rd) (i+1) f0:=by
 refine⟨h.ok.DH,?_,?_⟩
 .unfold mj;split;.exact⟨h.fr.now,h.fr.hS,h.fr.down,h.fr.up,h.fr.sk,h.fr.id,h.fr.most,h.fr.fc,h.fr.srt,h.fr.fl⟩
  exact h.fr
 unfold mj;split;.exact⟨h.kp.now,h.kp.sink,h.kp.facts,h.kp.nn,h.kp.pk⟩
 exact h.kp
theorem Fi.gate(h:Fi f i f0){g:Gg}(b:∃u_ Ek E R LL n0 kk,GI g i u_ Ek E R LL n0 kk)(a:g.o=f.g.o):Fi { f with g:=g } i f0:=⟨h.ok.gate b a,⟨h.fr.now,h.fr.hS,h.fr.down,h.fr.up,h.fr.sk,h.fr.id,h.fr.most,h.fr.fc,h.fr.srt,h.fr.fl⟩,⟨h.kp.now,h.kp.sink,h.kp.facts,h.kp.nn,h.kp.pk⟩⟩
theorem Fi.put(h:Fi f i f0){up:Bool}{ag:Int}{bs:List Int}(hb:aI bs)(e:bs.length<=1000000)(hi:i<=3000)(b:up=false->∃x,cX bs=.ok x/\x.ag=ag)(a:up=true->f.sN ag.toNat=false->∃x,cX bs=.ok x/\x.ag=ag):Fi (mU f up ag bs) (i+1) f0:=by have j:=h.ok.next;have d:=sy (c:=(up,ag,f.now,bs)) h.ok.w hb e ez;exact⟨(h.ok.up (YV i)).aed d.1 (by grind),h.fr.put b a,h.kp.trans Kp.put⟩
theorem aa0:∀{l:List (List Int)} {f:aY} {ag:Int},ft f.w->FFr f->(∀b∈l,aI b/\b.length<=65536/\∃x,cX b=.ok x/\x.ag=ag)->f.w.next+l.length<=1000000000000->∃w,lE f ag l={ f with w:=w }/\ft w/\w.next<=f.w.next+l.length/\FFr (lE f ag l)/\Kp f (lE f ag l)
 | [],f,ag,hw,h,_,_=>⟨f.w,rfl,hw,eh,h,Kp.refl f⟩
 | b::l,f,ag,hw,h,hl,hi=>by rw[CV]at hi ⊢;let⟨b1,b2,b3⟩:=hl b (D_ ..);have a:=sy (c:=(true,ag,f.now,b)) hw b1 (by grind) ez;have d:(mU f true ag b).w.next<=f.w.next+1:=a.2.1;let⟨w,c1,c2,c3,c4,c5⟩:=aa0 (l:=l) (f:=mU f true ag b) (ag:=ag) a.1 (h.put (λh=>cS h ee) (λ_ _=>b3)) (λc e=>hl c (DG _ e)) ez;exact⟨w,c1,c2,ez,c4,Kp.put.trans c5⟩
theorem Fi.ups(h:Fi f i f0){l:List (List Int)}{ag:Int}(c:∀b∈l,aI b/\b.length<=65536/\∃x,cX b=.ok x/\x.ag=ag)(d:l.length<=100)(hi:i<=3000):Fi (lE f ag l) (i+1) f0:=by have a:=h.ok.next;let⟨w,c1,c2,c3,c4,c5⟩:=aa0 h.ok.w h.fr c ez;refine⟨?_,c4,h.kp.trans c5⟩;rw[c1];exact (h.ok.up (YV i)).aed c2 ez
theorem Fi.take(h:Fi f i f0){n:Int}:Fi { f with w:=(gI f.w n).1 } i f0:=by
 rcases El f.w n with ⟨_,e⟩|⟨c,_,e⟩;.rw [e];exact h
 rw [e];have b:=h.ok.w;have d:∀p∈bF n f.w.m,p∈f.w.m:=λp a=>(nt.1 a).1;refine⟨h.ok.aed ⟨b.most,?_,λp a=>b.keys p (d p a),b.next,λp a=>b.bs p (d p a)⟩ h.ok.next,⟨h.fr.now,λp a=>h.fr.hS p (d p a),λp a=>h.fr.down p (d p a),λp a=>h.fr.up p (d p a),h.fr.sk,h.fr.id,h.fr.most,h.fr.fc,h.fr.srt,h.fr.fl⟩,⟨h.kp.now,h.kp.sink,h.kp.facts,h.kp.nn,h.kp.pk⟩⟩;have:=b.len;grind [bF]
theorem Fi.dbl(h:Fi f i f0){n:Int}(hi:i<=3000):Fi { f with w:=(lD f.w n).1 } (i+1) f0:=by
 unfold lD;split;.exact h.up (YV i)
 rename_i c d;have hm:=eD d;let⟨b1,b2,b3,b4⟩:=h.ok.w.bs _ hm;have j:=h.ok.next;have a:=sy (c:=c) h.ok.w b1 b2 ez;refine⟨(h.ok.up (YV i)).aed a.1 ez,?_,⟨h.kp.now,h.kp.sink,h.kp.facts,h.kp.nn,h.kp.pk⟩⟩;rcases Pa (w:=f.w) (c:=c) with e|⟨_,e⟩;.rw [e];exact h.fr
 rw [e];have key:∀p∈eO f.w.next c f.w.m,∃q∈f.w.m,p.2=q.2:=λp a=>by
  rcases ly a with rfl|a;.grind
  grind
 refine⟨h.fr.now,λp a=>?_,λp a=>?_,λp a=>?_,h.fr.sk,h.fr.id,h.fr.most,h.fr.fc,h.fr.srt,h.fr.fl⟩;.let⟨q,b,e⟩:=key p a;rw[e];exact h.fr.hS q b
 .let⟨q,b,e⟩:=key p a;rw[e];exact h.fr.down q b
 let⟨q,b,e⟩:=key p a;rw[e];exact h.fr.up q b
def ais(f:aY)(i:Nat)(cr:aY×Int):Prop:=∃g l,cr=(ff { f with g:=g } l,0)/\(∃u_ Ek E R LL n0 kk,GI g (i+3) u_ Ek E R LL n0 kk)/\g.o=f.g.o/\(∀o∈l,mT o)/\l.length<=9000000
theorem GI.Y_{g:Gg}{u_:List aL}{Ek E:List DF}{R:DR}{L:LG}{n0:Int}{kk:Nat}(I:GI g i u_ Ek E R L n0 kk):∀o∈g.pend,mT o:=by let⟨a,p1,p2⟩:=I.pend;rw[p2];exact OK λe b=>I.hs.rgt e (by grind)
theorem GI.abw{g:Gg}{u_:List aL}{Ek E:List DF}{R:DR}{L:LG}{n0:Int}{kk:Nat}(I:GI g i u_ Ek E R L n0 kk):∀r∈g.rows,r.1<=g.rl.hN:=by
 intro r a;rw[I.log.rows']at a;rcases C_.1 a with a|a;.exact Int.le_of_lt (I.log.low r a)
 let⟨x,c,a⟩:=q1z.1 a;obtain⟨b,_,rfl⟩:=Ax.1 a;exact I.log.hN x c
theorem GI.tick{g:Gg}{u_:List aL}{Ek E:List DF}{R:DR}{L:LG}{n0:Int}{kk:Nat}(I:GI g i u_ Ek E R L n0 kk)(hi:i<=2990)(now:Int) : iT (dm g now).1/\(∀o∈(dm g now).2.1,mT o)/\(dm g now).2.1.length<=1000/\(∃u_ Ek E R LL n0 kk,GI (dm g now).1 (i+1) u_ Ek E R LL n0 kk)/\(dm g now).1.o=g.o:=by
 let⟨b,c,a1,a2,a3,a4,a5,a6⟩:=I.step ez now;refine⟨a1.ok ez,λo a=>?_,?_,⟨_,_,_,_,_,_,_,a1⟩,a3⟩
 .let⟨b1,x,b2,b3,b4,b5⟩:=a6 o a;have:∃f,o=iQ f:=by grind [dm,Ep]
  obtain⟨y,rfl⟩:=this;exact⟨Ea _,by have:=Eb y;show (cO y).length<=_;omega,λ_=>⟨x,b2,b5⟩,λh=>cS h (show ¬(1:Int)=3 by decide)⟩
 grind [dm,OY]
theorem acZ{e:Et}{cr:aY×Int}(h:Fi f i f)(hi:i<=2980)(U:aG e.val)(hb:aI e.bs)(F:e.bs.length<=1000000)(P:e.kind=11->ais f i cr):Fi (HK f e cr).1 (i+4) f:=by
 have up:∀{g:aY} {k:Nat},Fi g k f->k<=i+4->Fi g (i+4) f:=λh Q=>h.up Q;let⟨u_,Ek,E,R,LL,n0,kk,I⟩:=h.ok.gi;unfold HK;by_cases D:lh e=false;.rw [c_ D];exact up h ez
 rw[b_ D];have D:lh e=true:=by grind
 let⟨a0,a1⟩:=abC D;obtain⟨j,hj⟩:∃j:Nat,e.ag=(j:Int):=⟨_,(q2i a0).symm⟩;have m:j<64:=ez;have G:e.ag.toNat=j:=ez;have t:=h.ok.ags j m;have O:=h.fr.id j m;rw[G];by_cases q0:e.kind=0
 .rw [c_ q0];split;.exact up h ez
  rename_i S;unfold aas at S;have Y:=h.fr.now.1;exact up ⟨⟨h.ok.gi,h.ok.o,h.ok.w,h.ok.ags,h.ok.rds,h.ok.next,h.ok.sink,h.ok.facts⟩,⟨by grind,λp J=>by have:=h.fr.hS p J;grind,h.fr.down,h.fr.up,h.fr.sk,h.fr.id,h.fr.most,λx s=>by have:=h.fr.fc x s;grind,h.fr.srt,h.fr.fl⟩,⟨by grind,PR,PR,λ_ _ h=>⟨h,rfl⟩,rfl⟩⟩ (Nat.le_add_right i 4)
 rw[b_ q0];by_cases q1:e.kind=1;.rw [c_ q1];let⟨b1,b2,b3⟩:=abh (bt:=e.bt) t.1;exact up (h.ag m b1 ez b3) ez
 rw[b_ q1];by_cases q2:e.kind=2
 .rw [c_ q2];let⟨b1,b2,b3⟩:=ae6 (rd:=e.rd) (v:=e.val) (nm:=e.nm) (ls:=e.labs) t.1 U ez;have C:=(up h (show i<=i+4 by omega));have C:Fi f (i+1) f:=h.up ez;have a:=C.ag m b1 ez b3;refine up (Fi.DH (i:=i+1) ?_) ez;unfold mV;split;.exact a
  rename_i Z;have h0:=h.ok.facts;have T:=Zv (Decidable.not_not.1 Z);refine⟨⟨a.ok.gi,a.ok.o,a.ok.w,a.ok.ags,a.ok.rds,a.ok.next,a.ok.sink,?_⟩,⟨a.fr.now,a.fr.hS,a.fr.down,a.fr.up,a.fr.sk,a.fr.id,a.fr.most,λx s=>?_,?_,λx s=>?_⟩,⟨a.kp.now,a.kp.sink,List.prefix_append _ _,a.kp.nn,a.kp.pk⟩⟩;.grind
  .rcases C_.1 s with s|s;.exact h.fr.fc x s
   rw [CU]at s;subst s;exact GG _
  .refine List.pairwise_append.2 ⟨h.fr.srt,List.pairwise_singleton _ _,λx s y M=>?_⟩;rw[CU]at M;subst M;exact h.fr.fc x s
  rcases C_.1 s with s|s;.exact h.fr.fl x s
  grind
 rw[b_ q2];by_cases q3:e.kind=3;.rw [c_ q3];let⟨b1,b2,b3⟩:=abg (rd:=e.rd) t.1;have a:=h.ag m b1 ez b3;have hs:=OR (rd:=e.rd) t.1;have d:=a.ups (l:=(gU (f.ags j) e.rd).2.1) (ag:=(j:Int)) (λb hb=>⟨(hs.1 b hb).1,(hs.1 b hb).2,by grind [Zw]⟩) ez ez;exact up d.DH ez
 rw[b_ q3];by_cases q4:e.kind=4
 .rw [c_ q4];unfold adl;split;.exact up h ez
  rename_i A;have a:=h.take (n:=e.num);unfold qJ;split;.have K:=YY (g:=f.g) I.q_ (gI f.w e.num).2.1.2.1 f.now (gI f.w e.num).2.1.2.2.2;let⟨N,L,c1,c2,c3,c4,c5⟩:=I.call ez K;exact up ((a.up (YV i)).gate ⟨_,_,_,_,_,_,_,c1⟩ c3) ez
  rcases El f.w e.num with ⟨_,H⟩|⟨c,hm,H⟩;.rw [H]at A;exact cS (show (19:Int)≠0 by decide) A
  rw [H]at a ⊢;dsimp only at a ⊢;let⟨_,_,d1,d2⟩:=h.ok.w.bs _ (eD hm);dsimp only at d1 d2;obtain⟨q,hq⟩:∃q:Nat,c.2.1=(q:Int):=⟨_,(q2i d1).symm⟩;rw[show c.2.1.toNat=q by omega];have u:q<64:=ez;have B:=h.ok.ags q u;let⟨b1,b2,b3⟩:=aa8 (rd:=e.rd) (bs:=c.2.2.2) B.1;exact up (a.ag u b1 (by grind) b3).DH ez
 rw[b_ q4];by_cases q5:e.kind=5;.rw [c_ q5];exact up h.take ez
 rw[b_ q5];by_cases q6:e.kind=6;.rw [c_ q6];exact up (h.dbl ez) ez
 rw[b_ q6];by_cases q7:e.kind=7;.rw [c_ q7];have a:Fi { f with sN:=CT f.sN j true } i f:=⟨⟨h.ok.gi,h.ok.o,h.ok.w,h.ok.ags,h.ok.rds,h.ok.next,h.ok.sink,h.ok.facts⟩,⟨h.fr.now,h.fr.hS,h.fr.down,λp J C a=>h.fr.up p J C (by grind [CT]),h.fr.sk,h.fr.id,h.fr.most,h.fr.fc,h.fr.srt,h.fr.fl⟩,⟨h.kp.now,h.kp.sink,h.kp.facts,h.kp.nn,h.kp.pk⟩⟩;refine up (a.put hb F ez (λh=>cS h ee) λ_ s=>?_) ez;grind [wm]
 rw[b_ q7];by_cases q8:e.kind=8
 .rw [c_ q8];let⟨t1,t2,t3,t4,t5⟩:=I.tick ez f.now;have a:=(h.up (YV i)).gate t4 t5;unfold wu;split;.exact up a ez
  have d:=a.leave t2 ez ez;exact up ⟨⟨d.ok.gi,d.ok.o,d.ok.w,d.ok.ags,d.ok.rds,d.ok.next,d.ok.sink,d.ok.facts⟩,⟨d.fr.now,d.fr.hS,d.fr.down,d.fr.up,d.fr.sk,d.fr.id,d.fr.most,d.fr.fc,d.fr.srt,d.fr.fl⟩,⟨d.kp.now,d.kp.sink,d.kp.facts,d.kp.nn,d.kp.pk⟩⟩ (show i+1+1<=i+4 by omega)
 rw[b_ q8];by_cases q9:e.kind=9;.rw [c_ q9];let⟨R',L,V,k',c1,c2,c3,c4⟩:=I.sync ez;have a:=(h.up (show i<=i+3 by omega)).gate ⟨_,_,_,_,_,_,_,c1⟩ c3;exact up (a.leave I.Y_ (by have:=I.aao;omega) ez) ez
 rw[b_ q9];by_cases q10:e.kind=10;.rw [c_ q10];let⟨N,L,c1,c2,c3,c4,c5⟩:=I.call ez (YZ I.q_ f.sink.length);exact up ((h.up (YV i)).gate ⟨_,_,_,_,_,_,_,c1⟩ c3) ez
 rw[b_ q10];have e11:e.kind=11:=by
  refine Classical.byContradiction λW=>?_;have e0:ku e=none:=by unfold ku;grind
  grind [lh]
 let⟨g,l,c1,c2,c3,c4,c5⟩:=P e11;rw[c1];have a:=(h.up (show i<=i+3 by omega)).gate c2 c3;exact a.leave c4 c5 ez
end
section
variable {F L:List aF}{H:aC}{K:KE}{Q Q':aF}{f:aY}{gb db i:Nat}{g:Gg}
theorem Zy{eS:Int}(b:aG eS)(c:g.rows.length<=549755813888)(h:aA H (kx Q gb db g::F))(k:∀a,aA a (eG db (eU g.rows g.syn eS) (eU g.rows g.syn eS).length::F)->K (.tuple #[]) a):CF 128 #[PA db 0,aD eS] H K:=by let⟨x,pb,ys,e1,e2,e3,h⟩:=iv.1 h;exact U0 b ez (h.o [5] 7) k
def CrW(f:aY)(i:Nat)(eS:Int)(cr:aY×Int):Prop:=ais f i cr/\∀(Q:aF) (fb:Nat) (ab:Nat->Nat) (F:List aF) (H:aC) (K:KE),aA H (Q::gx Q fb ab f::F)->
  (∀Q' H',aH Q Q'->aA H' (Q'::gx Q' fb ab cr.1::F)->K (aD cr.2) H')->CF 65 #[PA fb 0,aD eS] H K
def crF(f:aY)(eS:Int)(s0:aL)(rs:List Rp):aY×Int:=(ff { f with g:=mS f.o (dv s0 rs) (eU f.g.rows f.g.syn eS) } (lC s0 s0.kept.length++(jA s0 rs).flatMap dp),0)
theorem Pe{eS:Int}{s0:aL}{W:List DF}{rs:List Rp}{m:Nat}(ok:fR f i)(hi:i<=2980)(P:aG eS)(hd:Led f.o.cfg (i+1) (du (eU f.g.rows f.g.syn eS)) s0 W rs m):CrW f i eS (crF f eS s0 rs):=by
 let⟨u_,Ek,E,R,LL,n0,kk,I⟩:=ok.gi;have D:=I.ok ez;let⟨s,E1,E2,y,p1,p2,p3,p4,C,J⟩:=I.Z_ ez eS;have d:=I.opt;have b:=I.few;rw[ok.o]at C J d b;let⟨L',V⟩:=OA d b ⟨s0,rs,m,hd,rfl,rfl⟩ C ez;have hs:=fA.hs ⟨s0,rs,m,hd,rfl,rfl⟩;have h1:=hd.h0.R.few b (by have:=hd.len;omega);have t:∀o∈lC s0 s0.kept.length++(jA s0 rs).flatMap dp,mT o:=λo v=>by
  rcases C_.1 v with v|v;.exact OL hd.h0.R.R.kept _ (yb _) o v
  exact OK (λe M=>hs.rgt e (q2l _ M)) o v
 have n:(lC s0 s0.kept.length++(jA s0 rs).flatMap dp).length<=9000000:=by have h2:=hs.len;grind [O8,D7]
 unfold crF;obtain⟨l,y⟩:∃l,l=lC s0 s0.kept.length++(jA s0 rs).flatMap dp:=⟨_,rfl⟩;rw[<-y]at t n ⊢;obtain⟨u,j⟩:∃u,u=mS f.o (dv s0 rs) (eU f.g.rows f.g.syn eS):=⟨_,rfl⟩;rw[<-j];refine⟨⟨u,l,rfl,⟨_,_,_,_,_,_,_,by rw[j];exact V⟩,by rw[j,ok.o];rfl,t,n⟩,λQ fb ab F H K h k=>?_⟩;let⟨x,ys,fs,Z,h⟩:=cB.1 (bY h);refine cM 65 17944860 ⟨some ⟨x.db,0,none⟩,h.r 0,Zy P D.rows (h.o [8,0,1,2,3,4,5,6,7,9] 10) λH1 h=>⟨rfl,some ⟨x.db,0,none⟩,h.r 1,_,_,_,_,_,_,_,_,_,_,_,_,_,h.q 1,adZ d b hd C J ez (h.o [9,0,1,2,3,4,5,6,7,8] 10) λG gb A a c H2 s1 hm Y h=>⟨_,_,_,_,_,rfl,λO=>cS O eh,λ_=>h.st 3 rfl rfl λN h=>?_⟩⟩⟩;rw[<-j]at h;rw[<-y]at hm;have h:aA N (G::ay 266 11 a A.length c (flat bV A)::kx G gb x.db u::ax fb (dW f { x with gb:=gb } ab ys.length fs.length) 133::C1 x.lb f.nn::mapA ji nc x.sm f.my::DB x.sa x.sc ys::ay 71 9 x.fa fs.length x.fc (flat fM fs)::D0 x.rm f.rds::pr Q ab f.ags 64 64::m_ Q x.wb f.w::F):=h;have h:=wr (x:={ x with gb:=gb }) s1 Z (h.o [2,3,4,5,6,7,8,9,10,0,1] 11);have U:=ok.next;have S:=ok.sink;have T:A.length=l.length:=by grind
 refine C3 (f:={ f with g:=u }) ok.w (by grind) (by grind) (λz B=>⟨Y z B,?_⟩) (h.o [1,2,0] 3) λL H4 s2 h=>⟨rfl,k L _ (s1.trans s2) ?_⟩;.have:=t z.o (by grind);exact⟨this.by_,this.len⟩
 rw [hm]at h;exact h
theorem Zz{eS:Int}(ok:fR f i)(hi:i<=2980)(c:aG eS):∃b,CrW f i eS b:=by let⟨u_,Ek,E,R,LL,n0,kk,I⟩:=ok.gi;let⟨s,d,e,a,_⟩:=I.Z_ ez eS;have a:=a.mono (YV i);rw[ok.o]at a;let⟨s0,h,m,hd,_⟩:=a;exact⟨_,Pe ok hi c hd⟩
end
structure SO where
 o:Opt
 buf:Int
 pk:Int
abbrev iU(c:SO):Xa:=[aB c.o.cfg.width,aB c.o.cfg.r_,aB c.o.cfg.most,aB c.o.cfg.hY,aB c.o.cfg.kl,aB c.o.cfg.zx,aB c.o.cfg.agents,aB c.o.cfg.cells,aB c.o.cfg.hold,aB c.o.period,aB c.o.CS,aB c.o.g_,aB c.o.save,aB c.buf,aB c.pk]
def ptN(ab:Nat->Nat)(n i:Nat):Value:=bif Nat.blt i n then PA (ab i) 0 else .pointer none
theorem abK(h:i<j):ptN B j i=PA (B i) 0:=by grind [ptN,Nat.blt_eq]
theorem ag4(h:j<=i):ptN B j i=.pointer none:=by grind [ptN,Nat.blt_eq]
theorem aeI(ab:Nat->Nat)(n b:Nat):CT (ptN ab n) n (PA b 0)=ptN (CT ab n b) (n+1):=by grind [wo,abK,wm,ag4]
theorem aeJ(ab:Nat->Nat)(T:Xa):cZ (ptN ab 64) 64 0 T=cZ (λi=>PA (ab i) 0) 64 0 T:=by
 have:∀n i,n+i<=64->cZ (ptN ab 64) n i T=cZ (λi=>PA (ab i) 0) n i T:=by intro n;induction n with
   | zero=>intros;rfl
   | succ n ih=>intro i hi;show ptN ab 64 i::_=PA (ab i) 0::_;grind [abK]
 grind
abbrev pU(c:SO)(lb sm rm db:Nat)(ab:Nat->Nat)(n:Nat)(w:Value):Xa:=
 PA lb 0::.map (some sm)::.slice none 0 0::.slice none 0 0::.map (some rm)::cZ (λ_=>.bool false) 64 0 (cZ (λ_=>.bool false) 64 0
  (kY c.o++(aB c.buf::aB c.pk::aB 0::cZ (ptN ab n) 64 0 [w,PA db 0,.pointer none])))
def S_(c:SO):Bool:=(gF c.o&&decide (1<=c.buf/\c.buf<=1024))&&decide (1<=c.pk/\c.pk<=4096)
def XF(buf:Int)(i:Nat):Ag:={ id:=i,most:=buf }
theorem ahG(hb:n<=1024)(hi:i<64):dJ (XF n i):=⟨by show (0:Int)<=(i:Int)/\(i:Int)<=63;omega,hb,by simp[XF],by simp[XF],⟨GG _,show (0:Int)<=4611686018427387903 by decide⟩,by simp[XF],by simp[XF],by simp[XF],by simp[XF],λe a=>cS a (by simp[XF])⟩
section
variable {F L:List aF}{H:aC}{K:KE}{Q Q':aF}
theorem Pf{i:Nat}{buf:Int}(hi:i<64)(h:aA H F)(k1:¬(1<=buf/\buf<=1024)->K (.tuple #[.pointer none,aD 11]) H)
  (k2:1<=buf/\buf<=1024->∀ab a,aA a (FV Q ab (XF buf i)::F)->K (.tuple #[PA ab 0,aD 0]) a):CF 91 #[aD (i:Int),aD buf] H K:=by
 refine cM 91 476 ⟨λb=>k1 ?_,λb=>h.al λab a h=>k2 ?_ ab _ (dr.2 ⟨{},[],rfl,λe c=>cS c eh,?_⟩)⟩
 .grind
 .grind
 .exact ((h.cp 356 3).cp 69 4).o [2,0,1] 3
theorem aiu{buf:Int}(h:aA H F)(k:∀p a,aA a F->K (.tuple #[.pointer p,aD (eR (1<=buf/\buf<=1024))]) a):CF 91 #[aD 0,aD buf] H K:=by
 refine Pf (Q:=emp) (i:=0) ee h (λb=>?_) λc ab a h=>?_;.have:=k none _ h;rwa[show eR (1<=buf/\buf<=1024)=11 from b_ b]at this
 have:=k (some ⟨ab,0,none⟩) _ h.tl;rwa[show eR (1<=buf/\buf<=1024)=0 from c_ c]at this
theorem ajL{pk:Int}(h:aA H F)(k:∀p a,aA a F->K (.tuple #[.pointer p,aD (eR (1<=pk/\pk<=4096))]) a):CF 92 #[aD pk] H K:=by
 refine Ov (Q:=emp) h (λc=>?_) λb ab a h=>?_;.have:=k none _ h;rwa[show eR (1<=pk/\pk<=4096)=11 from nO]at this
 have:=k (some ⟨ab,0,none⟩) _ h.tl;rwa[show eR (1<=pk/\pk<=4096)=0 from c_ b]at this
theorem Z1{c:SO}(h:aA H F)(k:∀a,aA a F->K (.bool (S_ c)) a):CF 88 #[.agg ⟨iU c⟩] H K:=by
 refine cM 88 4380 (h.al λb _ h=>⟨_,h.r 0,aiu h λp i h=>⟨_,_,rfl,_,h.r 0,ajL h λp2 d h=>⟨_,_,rfl,_,_,_,_,_,_,_,_,_,_,_,_,_,h.q 0,MH (o:=c.o) h λf h=>⟨_,rfl,?_⟩⟩⟩⟩);have e:S_ c=((gF c.o&&decide (eR (1<=c.buf/\c.buf<=1024)=0))&&decide (eR (1<=c.pk/\c.pk<=4096)=0)):=by grind [S_]
 have:=k _ h.tl;rw[e]at this;exact this
theorem Pg{ab ab':Nat->Nat}{ags:Nat->Ag}{s:Nat}:∀{n:Nat},(∀i,i<n->ab i=ab' i)->pr Q ab ags s n=pr Q ab' ags s n
 | 0,_=>rfl
 | n+1,h=>by unfold pr;rw[Pg (n:=n) λi hi=>h i ez,h n ez]
theorem Z2{c:SO}{lb sm rm db n:Nat}{ab:Nat->Nat}{w:Value}:(pU c lb sm rm db ab n w).length=216:=by simp only[pU,kY,CV,Em,po,HB]
theorem Z3{c:SO}{lb sm rm db n b:Nat}{ab:Nat->Nat}{w:Value}(a:n<64):cu (pU c lb sm rm db ab n w) (149+n) [PA b 0]=pU c lb sm rm db (CT ab n b) (n+1) w:=by show (pU c lb sm rm db ab n w).set (149+n) (PA b 0)=_;rw[show 149+n=(64+(64+(n+16)))+5 by omega];show _::_::_::_::_::(cZ _ 64 0 (cZ _ 64 0 _)).set (64+(64+(n+16))) (PA b 0)=_;rw[zj,zj];show _::_::_::_::_::cZ _ 64 0 (cZ _ 64 0 (_::_::_::_::_::_::_::_::_::_::_::_::_::_::_::_::(cZ _ 64 0 _).set n (PA b 0)))=_;rw[zi _ _ _ 64 0 n a,CO,aeI];rfl
theorem agP{G:aC->Prop}{fb:Nat}{c:SO}{lb sm rm db n b:Nat}{ab:Nat->Nat}{w:Value}(e:n<64)(h:aA H (ax fb (pU c lb sm rm db ab n w) 133::F))(k:∀a,aA a (ax fb (pU c lb sm rm db (CT ab n b) (n+1) w) 133::F)->G a):eA H fb (149+n) [PA b 0]/\∀a,a=fw H fb (149+n) [PA b 0]->G a:=by refine⟨h.can 0 rfl _ _ (by grind [Z2]),?_⟩;intro a rfl;have d:=h.set 0 rfl (149+n) [PA b 0];rw[Z3 e]at d;exact k _ d
def fC(c:SO)(g:Gg):aY:={ o:=c.o,buf:=c.buf,pk:=c.pk,ags:=XF c.buf,w:=⟨c.pk,0,[]⟩,g:=g }
abbrev Xf(c:SO):Gg:=mS c.o (cz c.o.cfg) []
theorem wv{c:SO}(h:S_ c=true):gF c.o=true/\(1<=c.buf/\c.buf<=1024)/\1<=c.pk/\c.pk<=4096:=by unfold S_ at h;grind
theorem ab3{c:SO}{g:Gg}(h:S_ c=true)(f:∃u_ Ek E R LL n0 kk,GI g 2 u_ Ek E R LL n0 kk)(d:g.o=c.o):Fi (fC c g) 2 (fC c g):=by let⟨m,e,k⟩:=wv h;exact⟨⟨f,d,⟨k,by show (0:Int)<=c.pk;omega,λp a=>cS a (by simp[fC]),by simp[fC],λp a=>cS a (by simp[fC])⟩,λj i=>⟨ahG e.2 i,by simp[fC,XF]⟩,λp a=>cS a (by simp[fC]),by simp[fC],by simp[fC],by simp[fC]⟩,⟨⟨GG _,show (0:Int)<=4611686018427387903 by decide⟩,λp a=>cS a (by simp[fC]),λp a=>cS a (by simp[fC]),λp a=>cS a (by simp[fC]),λp a=>cS a (by simp[fC]),λj _=>rfl,rfl,λx b=>cS b (by simp[fC]),by simp[fC],λx b=>cS b (by simp[fC])⟩,Kp.refl _⟩
theorem Er{c:SO}(h:S_ c=true)(b:c.o.cfg.cells.toNat<=200):Fi (fC c (Xf c)) 2 (fC c (Xf c)):=by let⟨a,d,e⟩:=wv h;let⟨f,I⟩:=OA a b (OG a) (ab2 a).1 ez;exact ab3 h ⟨_,_,_,_,_,_,_,I⟩ rfl
theorem Ph{c:SO}(A:S_ c=true->c.o.cfg.cells.toNat<=200)(h:aA H (Q::F))(k1:S_ c=false->∀j,aA j (Q::F)->K (.tuple #[.pointer none,aD 11]) j) (k2:S_ c=true->∀Q' fb ab j,aH Q Q'->aA j (Q'::gx Q' fb ab (fC c (Xf c))::F)->K (.tuple #[PA fb 0,aD 0]) j):CF 31 #[.agg ⟨iU c⟩] H K:=by
 refine RT (h.al λb _ h=>⟨_,_,_,_,_,_,_,_,_,_,_,_,_,_,_,h.q 0,Z1 (c:=c) h λH1 h=>⟨_,rfl,λs=>k1 (by grind) _ h.tl,λs=>⟨_,_,_,_,_,_,_,_,_,_,_,_,_,_,_,h.q 0,?_⟩⟩⟩);have s:S_ c=true:=by grind
 let⟨r1,r2,r3⟩:=wv s;have J:=ab2 r1;have A:=A s;refine ED h λdb H2 h=>⟨_,rfl,h.q 1,h.al λfb _ h=>Yt h λlb H3 h=>⟨_,rfl,h.st 1 rfl rfl λH4 h=>h.XE ji nc λsm _ h=>h.st 2 rfl rfl λH5 h=>h.XE nc Fp λrm _ h=>h.st 3 rfl rfl λY h=>?_⟩⟩;have h:aA Y (mapA nc Fp rm []::mapA ji nc sm []::C1 lb []::ax fb (pU c lb sm rm db (λ_=>0) 0 (.pointer none)) 133::eG db [] 0::ax b (iU c) 27::Q::F):=h;refine⟨λt j=>∃(n:Nat) (ab:Nat->Nat),t=n/\n<=64/\aA j (ax fb (pU c lb sm rm db ab n (.pointer none)) 133::pr Q ab (XF c.buf) 64 n::mapA nc Fp rm []::mapA ji nc sm []::C1 lb []::eG db [] 0::ax b (iU c) 27::Q::F),λt _=>64-t.toNat,⟨0,_,rfl,ez,(l7 (h.o [3,0,1,2,4,5,6] 7)).o [1,0,2,3,4,5,6,7] 8⟩,?_⟩;clear h;rintro t H7 ⟨n,ab,rfl,hn,h⟩;refine⟨λk=>?_,λk=>?_⟩
 .have d:n<64:=by grind
  have R:i64.wrap ((n:Int)+1)=((n+1:Nat):Int):=by grind [aN]
  refine⟨_,h.r 6,Pf (Q:=Q) d h (λhb=>cS r2 hb) λ_ a W h=>⟨_,_,rfl,⟨ez,ez⟩,agP (b:=a) d (h.o [1,0,2,3,4,5,6,7,8] 9) λO h=>⟨⟨n+1,CT ab n a,R,d,?_⟩,by grind⟩⟩⟩;have e:pr Q (CT ab n a) (XF c.buf) 64 (n+1)=FV Q a (XF c.buf n)*pr Q ab (XF c.buf) 64 n:=by
   conv=>lhs;unfold pr
   rw[nO,wm,Pg (ab:=CT ab n a) (ab':=ab) λi hi=>wo ab a ez]
  rw[e];exact bY (iu.2 (h.o [1,2,0,3,4,5,6,7,8] 9))
 have k:=h_ k;obtain rfl:n=64:=ez;refine⟨_,h.r 6,Ov (Q:=Q) h (λhb=>cS r3 ez) λ_ wb W h=>⟨_,_,rfl,h.st 1 rfl rfl λO h=>⟨some ⟨db,0,none⟩,h.r 1,_,_,_,_,_,_,_,_,_,_,_,_,_,h.q 7,?_⟩⟩⟩;let⟨s0,L,m,hd,P,eE⟩:=OG r1;obtain⟨rfl,rfl,rfl⟩:s0=cz c.o.cfg/\L=[]/\m=0:=by have Z:=hd.len;have S:L=[]:=q20 ez;subst S;exact⟨P.symm,rfl,ez⟩
 refine adZ r1 A hd J.1 J.2 ez (h.o [8,6,0,1,2,3,4,5] 9) λI gb E a c1 V s1 hm M h=>⟨_,_,_,_,_,rfl,λk=>cS k eh,λ_=>h.st 4 rfl rfl λv h=>?_⟩;have C:E=[]:=by have:E.map Oy.o=[]:=hm;grind [List.map_eq_nil_iff]
 subst C;have D:=Er s A;have u:∃G,Xf c=G:=⟨_,rfl⟩;let⟨G,u⟩:=u;unfold Xf at u k2 D;have B:mS c.o (dv (cz c.o.cfg) []) []=G:=u;rw[B]at h;rw[u]at D;have k2:=k2 s;rw[u]at k2;have h:aA v (I::ay 266 11 a ([]:List Oy).length c1 (flat bV [])::kx I gb db G::m_ Q wb ⟨c.pk,0,[]⟩::ax fb (PA lb 0::.map (some sm)::.slice none 0 0::.slice none 0 0::.map (some rm)::cZ (λ_=>.bool false) 64 0 (cZ (λ_=>.bool false) 64 0 (kY c.o++(aD c.buf::aD c.pk::aD 0::cZ (ptN ab 64) 64 0 [PA wb 0,PA db 0,PA gb 0])))) 133::pr Q ab (XF c.buf) 64 64::mapA nc Fp rm []::mapA ji nc sm []::C1 lb []::F):=h;rw[aeJ]at h;have h:=sw s1 (h.o [3,0,1,2,4,5,6,7,8] 9);have h:=sx s1 (h.o [5,0,1,2,3,4,6,7,8] 9);have h:aA v (mapA nc Fp rm []::A_ []::_):=(l7 (h.o [6,0,1,2,3,4,5,7,8] 9)).o [1,0,2,3,4,5,6,7,8,9] 10;have h:=(sC (rds:=[])).2 ⟨[],rfl,h⟩;have h:=((h.cp 71 9).cp 63 1);have h:=(cB (f:=fC c G)).2 ⟨⟨lb,sm,none,0,none,0,rm,wb,db,gb⟩,[],[],⟨rfl,λy T=>cS T eh,rfl,⟨λx k=>cS k eh⟩⟩,h.o [8,10,9,0,1,2,3,4,7,5,6] 11⟩;refine C3 (f:=fC c G) D.ok.w (by simp[fC]) (by simp[fC]) (λz M=>cS M eh) (h.o [1,2,0] 3) λN U s2 h=>⟨rfl,k2 N fb ab _ (s1.trans s2) h⟩
end
section
variable {F L:List aF}{H:aC}{K:KE}{Q Q':aF}{f:aY}{fb wb:Nat}{ab:Nat->Nat}{w:Wr}
theorem uo(hs:aH Q Q')(h:aA H (gx Q fb ab f::F)):aA H (gx Q' fb ab f::F):=by let⟨x,ys,fs,a,h⟩:=cB.1 h;have h:=sw hs (h.o [7,0,1,2,3,4,5,6,8] 9);have h:=zl hs (h.o [7,8,0,1,2,3,4,5,6] 9);exact cB.2 ⟨x,ys,fs,a.sub hs,h.o [3,4,5,6,7,8,0,2,1] 9⟩
theorem Es(h:aA H (gx Q fb ab f::F)):bX Tryz.prog 14 #[PA fb 0] H (aD f.now):=by let⟨x,ys,fs,a,h⟩:=cB.1 h;exact cM 14 28 ⟨_,h.r 0,rfl,rfl⟩
theorem Z4{x:FlX}{ns nf j:Nat}(a:j<64):aT (dW f x ab ns nf) (5+j)=some (.bool (f.sN j)):=by rw[show 5+j=j+5 by omega];show aT (cZ _ 64 0 _) j=_;rw[zh _ _ 64 0 j a,CO]
theorem Z5{x:FlX}{ns nf j:Nat}(a:j<64):aT (dW f x ab ns nf) (69+j)=some (.bool (f.B_ j)):=by rw[show 69+j=(64+j)+5 by omega];show aT (cZ _ 64 0 (cZ _ 64 0 _)) (64+j)=_;rw[zk,zh _ _ 64 0 j a,CO]
def atB(g:Nat->Bool)(a:Int):Bool:=(decide (0<=a)&&decide (a<64))&&g a.toNat
theorem Eu{a:Int}(h:aA H (gx Q fb ab f::F)):bX Tryz.prog 30 #[PA fb 0,aD a] H (.bool (atB f.sN a)):=by
 let⟨x,ys,fs,c,h⟩:=cB.1 h;refine cM 30 28 ⟨_,wt,λ_=>trivial,λb=>?_,f.sN a.toNat,λb=>?_,rfl,rfl⟩;.grind
 simp only[p_,za]at b;exact (h.r 0).trans (Z4 ez)
theorem Z6{a:Int}(h:aA H (gx Q fb ab f::F)):bX Tryz.prog 41 #[PA fb 0,aD a] H (.bool (atB f.B_ a)):=by
 let⟨x,ys,fs,c,h⟩:=cB.1 h;refine cM 41 28 ⟨_,wt,λ_=>trivial,λb=>?_,f.B_ a.toNat,λb=>?_,rfl,rfl⟩;.grind
 simp only[p_,za]at b;exact (h.r 0).trans (Z5 ez)
theorem Z7(ok:iT f.g)(h:aA H (gx Q fb ab f::F))(k:∀sb a,aA a (s_ Q sb f.g.s::gx Q fb ab f::F)->K (PA sb 0) a):CF 18 #[PA fb 0] H K:=by let⟨x,ys,fs,b,h⟩:=cB.1 h;refine cM 18 28 ⟨some ⟨x.gb,0,none⟩,h.r 0,Om ok (h.o [8,0,1,2,3,4,5,6,7] 9) λsb a h=>⟨_,rfl,k sb _ (bY (cB.2 ⟨x,ys,fs,b,h.o [2,3,4,5,6,7,8,9,1,0] 10⟩))⟩⟩
theorem Z8(ok:iT f.g)(h:aA H (gx Q fb ab f::F))(k:∀a,aA a (gx Q fb ab f::F)->K (aD ((f.g.rows.length:Int)-f.g.syn)) a):CF 20 #[PA fb 0] H K:=by let⟨x,ys,fs,c,h⟩:=cB.1 h;refine cM 20 28 ⟨some ⟨x.db,0,none⟩,h.r 0,?_⟩;let⟨y,pb,b,e1,e2,e3,h⟩:=iv.1 (h.o [8,0,1,2,3,4,5,6,7] 9);refine BK (by have:=ok.rows;omega) (h.o [5,0,1,2,3,4,6] 7) λa h=>⟨_,rfl,k _ ?_⟩;have h:=iv.2 ⟨y,pb,b,e1,e2,e3,h.o [1,2,3,4,5,0,6] 7⟩;exact cB.2 ⟨x,ys,fs,c,h.o [1,2,3,4,5,6,7,8,0] 9⟩
theorem Pj(hb:∀b∈f.sink,b.length<=1000000)(W:f.sink.length<=100000000000)(h:aA H (Q::gx Q fb ab f::F)) (k:∀Q' ys a c A,aH Q Q'->ys.map Fy.bs=f.sink->oo Q' ys->(∀y∈ys,y.bs.length<=y.c)->aA A (Q'::DB a c ys::gx Q' fb ab f::F)->K (.slice a ys.length c) A):CF 11 #[PA fb 0] H K:=by
 let⟨x,ys,fs,C,h⟩:=cB.1 (bY h);have D:ys.length=f.sink.length:=by rw[<-C.sink,FI]
 have h:=(h.cp 63 1).o [0,10,1,2,3,4,5,6,7,8,9] 11;refine cN 11 0x1121561239925144c [[(3,sS),(12,sI)]] ⟨_,_,_,h.r 2,⟨λla J lc t A=>∃(j:Nat) (Q':aF) (d:List Fy),t=j/\j<=ys.length/\J=d.length/\aH Q Q'/\d.map Fy.bs=f.sink.take j/\oo Q' d/\(∀y∈d,y.bs.length<=y.c)/\aA A (DB la lc d::Q'::pf Q fb ab f x ys fs F),λ_ _ _ t _=>ys.length-t.toNat,⟨0,Q,[],rfl,EG _,rfl,aH.refl Q,rfl,λy i=>cS i eh,λy i=>cS i eh,h⟩,?_⟩⟩;clear h;rintro la J lc t U ⟨j,B,d,rfl,Y,rfl,hs,hm,L,R,h⟩;have O:d.length=j:=by have:=congrArg List.length hm;grind
 refine⟨λI=>?_,λI=>?_⟩
 .have n:j<ys.length:=by grind
  have w:j<f.sink.length:=ez;have T:i64.wrap ((j:Int)+1)=((j+1:Nat):Int):=by grind [aN]
  have E:=h.a_ 5 rfl;rw[show ys.map cD=flat (λy:Fy=>[cD y]) ys from q3f]at E;have S:ys[j].bs=f.sink[j]:=by have:=C.sink;grind
  have N:=hb _ (qa w);have G:aM U (aV x.sa) (aS x.sa+j)=some (.slice ys[j].a ys[j].bs.length ys[j].c):=eu (E.el (λ_=>rfl) n 0 (v:=.slice ys[j].a ys[j].bs.length ys[j].c) rfl);refine⟨⟨ez,ez⟩,_,_,E.some (λ_=>rfl) ee n,_,_,_,G,tC h (λH h=>((C.ys _ (qa n)).sub hs).at h 1 rfl) (by grind) λa1 c1 V h=>⟨_,_,_,rfl,h.al λb1 _ h=>h.append (m:=1) (ws:=[cD ⟨a1,c1,ys[j].bs⟩]) agV 2 rfl (h.ew 0 rfl) rfl rfl ez ez λa2 c2 P h=>⟨_,_,_,rfl,?_⟩⟩⟩;have M:ys[j].bs.length<=c1:=h.CD 1 rfl;obtain⟨u,s⟩:∃u,u=ay 5 1 a1 ys[j].bs.length c1 (ys[j].bs.map U8)*B:=⟨_,rfl⟩;have s2:aH B u:=by rw[s];exact aH.add _ B
  have e:d.length+1=(d++[(⟨a1,c1,ys[j].bs⟩:Fy)]).length:=eh;have e2:d.map cD++[cD ⟨a1,c1,ys[j].bs⟩]=(d++[(⟨a1,c1,ys[j].bs⟩:Fy)]).map cD:=eh;have h:=aai s (h.o [1,3,2,4,5,6,7,8,9,10,11,12] 13);have h:aA P (u::ay 63 1 a2 (d.length+1) c2 (d.map cD++[cD ⟨a1,c1,ys[j].bs⟩])::_):=h;rw[e,e2]at h;refine⟨⟨j+1,u,d++[⟨a1,c1,ys[j].bs⟩],T,n,e,hs.trans s2,?_,λy i=>?_,λy i=>?_,bY h⟩,by grind⟩;.simp_all
  .rcases C_.1 i with i|i;.exact (L y i).sub s2
   rw [CU]at i;subst i;rw[s];exact DJ.sl
  grind
 have I:=h_ I;obtain rfl:j=ys.length:=ez;rw[D,FJ]at hm;refine k B d la lc _ hs hm L R ?_;have h:=cB.2 ⟨x,ys,fs,C,h.o [2,3,4,5,6,7,8,9,10,0,1] 11⟩;exact (uo hs h).o [2,1,0] 3
theorem ZC{n:Int}(ok:ft w)(h:aA H (Q::m_ Q wb w::F)) (k:∀Q' p f,aH Q Q'->p.In Q'->p.core=(aK n w.m).getD (false,0,0,[])->aA f (Q'::m_ Q' wb w::F)->K (.tuple #[jO p,.bool (aK n w.m).isSome]) f):CF 28 #[PA wb 0,aD n] H K:=by
 let⟨mb,m,e1,e2,h⟩:=jk.1 (bY h);have c:=wk n m;rw[e1]at c;refine cM 28 284 (h.al λb _ h=>⟨_,h.r 1,?_⟩);have d:=h.v_ mtW Fo 2 rfl (x:=n);obtain⟨p,e,i,j,y,B,v⟩:∃(p:Pk) (e:Bool),p.core=(aK n w.m).getD (false,0,0,[])/\e=(aK n w.m).isSome/\(∀H F,aA H (Q::F)->aQ H p.a (p.bs.map U8))/\p.bs.length<=1000000/\dt Tryz.prog (Instr.lookup 151 (.map (some mb)) (aD n) true) _ (.tuple #[jO p,.bool e]):=by cases hm:aK n m with
   | none=>rw[hm]at c;exact⟨Pk.z,false,by rw[c];rfl,by grind,λH F _=>fN H none,by simp[Pk.z],(d.2 hm).1⟩
   | some p=>rw[hm]at c;exact⟨p,true,by grind,by grind,λH F h=>(e2 _ (eD hm)).rd.at h 0 rfl,(ok.bs _ (eD c)).2.1,(d.1 p hm).1⟩
 refine⟨_,_,_,_,_,_,_,v,h.al λb1 _ h=>h.st 0 rfl rfl λD h=>⟨_,_,_,_,_,_,h.q 0,D8 (p:=p) (h.o [4,0,1,2,3] 5) (λH h=>y H _ h) B λQ' s E hs A t h=>⟨_,_,_,_,_,_,rfl,h.st 2 rfl rfl λC h=>⟨_,_,_,_,_,_,h.q 2,?_⟩⟩⟩⟩;rw[j];exact k Q' s _ hs A (t.trans i) (bY (jk.2 ⟨mb,m,e1,λq u=>(e2 q u).sub hs,h.o [3,4,0] 5⟩))
end
theorem sE(x:Hc):(fM x).length=9:=rfl
theorem ZK(x:Hc):cU (fM x)=true:=rfl
theorem ZL(I:∀x∈f.facts,dB x.e.name x.e.labs=true)(T:f.facts.length<=1000000)(h:aA H (Q::gx Q l B f::F)) (k:∀Q' gs a c n,aH Q Q'->gs.map Hc.p=f.facts->age Q' gs->aA n (Q'::ay 71 9 a gs.length c (flat fM gs)::gx Q' l B f::F)->K (.slice a gs.length c) n):CF 12 #[PA l 0] H K:=by
 let⟨x,ys,fs,s,h⟩:=cB.1 (bY h);have N:fs.length=f.facts.length:=by rw[<-s.facts,FI]
 refine cN 12 0x1121561239925144c [[(13,sI)]] ⟨_,_,_,h.r 0,Cz aiL ee ee sE ZK (λh=>cM 49 476 h) h (λH h=>h.a_ 4 rfl) ez λa1 c1 V h=>⟨_,_,_,rfl,⟨λt n=>∃(j:Nat) (Q':aF) (gs:List Hc),t=j/\j<=fs.length/\gs.length=fs.length/\aH Q Q'/\gs.map Hc.p=f.facts/\age Q' gs/\aA n (ay 71 9 a1 fs.length c1 (flat fM gs)::Q'::pf Q l B f x ys fs F),λt _=>fs.length-t.toNat,⟨0,Q,fs,rfl,EG _,rfl,aH.refl Q,s.facts,s.fs,h.o [0,10,1,2,3,4,5,6,7,8,9] 11⟩,?_⟩⟩⟩;clear h;rintro t L ⟨j,P,gs,rfl,U,d,hs,hm,u,h⟩;refine⟨λC=>?_,λC=>?_⟩
 .have b:j<gs.length:=by grind
  have O:i64.wrap ((j:Int)+1)=((j+1:Nat):Int):=by grind [aN]
  have ab:gs[j].p∈f.facts:=by grind
  have i:=lQ (I _ ab);have M:=u.kin _ (qa b);have m:=h.a_ 0 rfl;have E:=m.el sE b 7 (v:=.string gs[j].e.name) rfl;have G:=m.el sE b 8 (v:=.slice gs[j].e.la gs[j].e.labs.length gs[j].e.lc) rfl;have A:bE L (aV a1) (aS a1+j*9+5+2) [.string gs[j].e.name,.slice gs[j].e.la gs[j].e.labs.length gs[j].e.lc]:=⟨E,G⟩;refine⟨⟨ez,ez⟩,_,_,m.some sE ee b,_,_,_,_,A,OS (nm:=gs[j].e.name) (ls:=gs[j].e.labs) (h.o [1,0,2,3,4,5,6,7,8,9,10] 11) (λH h=>M.at h 0 rfl) (by have:gs[j].e.labs.length<=8:=i.len;omega) λJ a2 c2 S s2 D h=>⟨_,_,_,_,rfl,⟨ez,ez⟩,_,_,m.some sE ee b,?_⟩⟩;let⟨g1,g2,g3⟩:=h.FE 1 rfl (j*9+7) [.string gs[j].e.name,.slice a2 gs[j].e.labs.length c2] (by rw[dS sE];simp;omega) eh;refine⟨by exact g2,?_⟩;intro R rfl;have e:=xh sE ({ gs[j] with e:={ gs[j].e with la:=a2,lc:=c2 } }:Hc) [.string gs[j].e.name,.slice a2 gs[j].e.labs.length c2] 7 (xs:=gs) (k:=j) b eh rfl;rw[e]at g3;refine⟨⟨j+1,J,gs.set j { gs[j] with e:={ gs[j].e with la:=a2,lc:=c2 } },O,ez,by simp[d],hs.trans s2,?_,⟨λy w=>?_⟩,bY g3⟩,by grind⟩
  .rw [List.map_set,<-hm];apply XS;.simp
   grind [Hc.p,Ev.p]
  rcases q34 w with w|rfl;.exact (u.kin y w).sub s2
  exact D
 have C:=h_ C;rw[<-d]at h ⊢;refine k P gs a1 c1 _ hs hm u ?_;have h:=cB.2 ⟨x,ys,fs,s,h.o [2,3,4,5,6,7,8,9,10,0,1] 11⟩;exact (uo hs h).o [2,1,0] 3
theorem ZM{F:List aF}{w:Wr}(ok:ft w)(h:aA H (Q::m_ Q l w::F)) (k:∀Q' cb m' c,aH Q Q'->m'.Perm w.m->aA c (Q'::m_ Q' cb { w with m:=m' }::m_ Q' l w::F)->K (PA cb 0) c):CF 68 #[PA l 0] H K:=by
 let⟨mb,m,e1,e2,h⟩:=jk.1 (bY h);have L:(aJ m).Nodup:=Au (F:=star _) (h.o [1,0,2] 3);refine cN 68 77147650571981132 [[]] ⟨_,h.r 0,_,h.r 0,h.XE aD jO λA _ h=>⟨h.r 1,h.r 1,h.al λcb _ h=>⟨_,h.r 2,h.F4 mtW 3 rfl λu W h=>⟨u,rfl,⟨λc=>∃(dn nm:PM) (Q':aF),aH Q Q'/\(gl nm).Perm (gl dn)/\(∀p∈nm,p.2.In Q')/\aA c (Q'::ax cb [aD w.most,aD w.next,.map (some A)] 153::mapA aD jO A nm::ax l [aD w.most,aD w.next,.map (some mb)] 153::jt aD jO u mb m dn::F),λc=>m.length-pu c u,⟨[],[],Q,aH.refl Q,.refl _,λp n=>cS n eh,h.o [4,0,1,2,3] 5⟩,?_⟩⟩⟩⟩⟩;clear h;intro S ⟨dn,nm,N,hs,n,j,h⟩;have E:=h.k_ 4 rfl;refine h.Fh 4 rfl (λb=>.inl ⟨rfl,(λC=>by cases C),λ_=>?_⟩) λp b s T h=>.inr ⟨_,_,rfl,(λ_=>?_),λC=>by cases C⟩
 .have h:=h.F5 4 rfl;have M:(gl nm).Perm w.m:=by rw[<-e1];exact n.trans (b.map _)
  refine k N cb (gl nm) _ hs M ?_;have h:=(jk (w:={ w with m:=gl nm })).2 ⟨A,nm,rfl,j,h.o [1,2,3,4,0] 5⟩;exact (jk.2 ⟨mb,m,e1,λq d=>(e2 q d).sub hs,h.o [1,2,0,3] 4⟩).o [2,1,0] 3
 have a:=h.k_ 4 rfl;rw[po]at a;simp only[q29]at a;have B:=e2 _ b;have y:(p.1,p.2.core)∈w.m:=by rw[<-e1];exact Ax.2 ⟨p,b,rfl⟩
 have e:=aA.DU (P:=Tryz.prog) h 4 rfl;refine⟨_,_,_,_,_,_,_,e,h.al λb1 _ h=>h.st 0 rfl rfl λO h=>⟨_,h.r 2,_,_,_,_,_,_,h.q 0,D8 (p:=p.2) (h.o [1,0,2,3,4,5] 6) (λH h=>(B.sub hs).rd.at h 0 rfl) (ok.bs _ y).2.1 λJ D U s2 t R h=>⟨_,_,_,_,_,_,rfl,h.r 2,h.ix (x:=p.1) (v:=D) mtW Fo 3 rfl λV h=>?_⟩⟩⟩;have f:aK p.1 nm=none:=by
  have G:=wk p.1 nm;have I:aK p.1 (gl nm)=none:=dX.2 λi=>by have:p.1∈aJ (gl dn):=(n.map Prod.fst).mem_iff.1 i;exact s (by simpa[gl,aJ] using this)
  rw[I]at G;cases hh:aK p.1 nm with
   | none=>rfl
   | some v=>grind
 refine⟨⟨dn++[p],eO p.1 D nm,J,hs.trans s2,?_,λq d=>?_,h.o [0,2,3,4,5] 6⟩,?_⟩
 .rw [Dn f];show ((p.1,D.core)::gl nm).Perm (gl (dn++[p]));have ec:gl (dn++[p])=gl dn++[(p.1,p.2.core)]:=by simp[gl]
  grind
 .rcases ly d with rfl|d;.exact t
  exact (j q d).sub s2
 have:=h.k_ 5 rfl;grind
theorem Pl(ok:ft f.w)(h:aA H (Q::gx Q j B f::F)) (k:∀Q' cb m' a,aH Q Q'->m'.Perm f.w.m->aA a (Q'::m_ Q' cb { f.w with m:=m' }::gx Q' j B f::F)->K (PA cb 0) a):CF 19 #[PA j 0] H K:=by let⟨x,ys,fs,c,h⟩:=cB.1 (bY h);refine cM 19 28 ⟨some ⟨x.wb,0,none⟩,h.r 0,ZM ok (h.o [9,7,0,1,2,3,4,5,6,8] 10) λQ' cb m' a hs b h=>⟨_,rfl,k Q' cb m' _ hs b ?_⟩⟩;have h:=Eo hs c (h.o [2,3,4,5,6,7,8,9,10,0,1] 11);exact h.o [1,2,0] 3
def FF(f:aY)(k:E5):Vd×Pt:=((aK k f.nn).getD ⟨0,0⟩,(aK k f.my).getD (0,0))
abbrev agD(s:Vd×Pt):Xa:=[aD s.1.re,aD s.1.win,aD s.2.1,aD s.2.2]
abbrev Fe(s:Vd×Pt):Value:=.agg ⟨agD s⟩
theorem ZN{mb:Nat}(A:List E5->aF)(h:aA H (A []::ax j [.map (some mb)] 237::mapA ji CX mb m::F)) (v:∀dn key (G:List aF) (n:aC) (t:KE),dn.length<m.length->aA n (A dn::G)->(∀c0,aA c0 (A (dn++[key])::G)->t (.bool true) c0)->fu Tryz.prog l [ji key] n t) (k:∀dn b,dn.Perm (aJ m)->aA b (A dn::ax j [.map (some mb)] 237::mapA ji CX mb m::F)->K (.tuple #[]) b) : CF 188 #[.func (.yield l) #[] #[],PA j 0] H K:=by
 refine cN 188 6017780034900889 [[]] ⟨_,h.r 1,?_⟩;conv=>whnf
 refine h.F4 mtL 2 rfl λf n h=>⟨f,rfl,⟨λb=>∃dn:Ldg,aA b (A (aJ dn)::ax j [.map (some mb)] 237::jt ji CX f mb m dn::F),λb=>m.length-pu b f,⟨[],h⟩,?_⟩⟩;intro c0 ⟨dn,h⟩;have s:=h.k_ 2 rfl;refine h.Fh 2 rfl (λy=>.inl ⟨rfl,(λd=>by cases d),λ_=>?_⟩) λp x w C h=>.inr ⟨_,_,rfl,(λ_=>?_),λd=>by cases d⟩;.exact k (aJ dn) _ (y.map Prod.fst) (h.F5 2 rfl)
 have a:=h.k_ 2 rfl;have c:=aA.DU (P:=Tryz.prog) h 2 rfl;refine⟨_,_,_,_,c,h.al λb1 _ h=>h.st 0 rfl rfl λB h=>⟨_,_,_,h.q 0,?_⟩⟩;rw[po]at a;have i:(aJ dn).length<m.length:=by grind
 refine v (aJ dn) p.1 _ _ _ i (h.o [1,0,2,3] 4) λu h=>⟨true,rfl,(λd=>by cases d),λ_=>?_⟩;have h:aA u (A (aJ dn++[p.1])::ax j [.map (some mb)] 237::jt ji CX f mb m (dn++[p])::F):=h.o [0,2,3] 4;refine⟨⟨dn++[p],?_⟩,?_⟩
 .have e:aJ (dn++[p])=aJ dn++[p.1]:=by grind
  rw[e];exact h
 have:=h.k_ 2 rfl;grind
theorem ZO{F:List aF}{m:Ldg}{mb:Nat}(y:m.length<=100000000000)(h:aA H (ax l [.map (some mb)] 237::mapA ji CX mb m::F)) (k:∀dn a c f,dn.Perm (aJ m)->aA f (ay 50 3 a dn.length c (flat mi dn)::mapA ji CX mb m::F)->K (.slice a dn.length c) f) : CF 267 #[.slice none 0 0,.func (.func 188) #[] #[PA l 0]] H K:=by
 refine cL 267 (.r (.seq (.r (.DT (.FH [.agg [.int .i64,.int .i64,.int .i64]] [none] .CA (.DT .CA)))) (.r .no))) (h.al λb _ h=>⟨rfl,λR e d s=>?_⟩);rename_i H0;have h:=h.FH R;have h:=h.cp 50 3;refine ZN (m:=m) (mb:=mb) (λdn=>F7 λp:KQ×Nat=>star [ax b [.slice p.1 dn.length p.2] 241,ay 50 3 p.1 dn.length p.2 (flat mi dn),pt (H0.size+1) (.loop R)]) (F:=pt H0.size (.deferred (some []))::F) ?_ ?_ ?_;.have h:=h.o [3,0,1,4,5,2] 6;exact cw.2 ⟨(none,0),aA.shut [_,_,_] h⟩
 .intro dn key G v C j h i;let⟨⟨a,c⟩,h⟩:=cw.1 h;have h:=aA.open (A:=[_,_,_]) h;refine s _ _ _ ⟨_,_,_,rfl,h.eY 2 rfl,h.al λb1 _ h=>h.st 0 rfl rfl λE h=>⟨h.eY 3 rfl,h.Fu 3 rfl λx h=>⟨_,_,_,h.r 1,_,_,_,h.q 0,h.al λb2 _ h=>h.append (m:=1) (ws:=mi key) akh 3 rfl (h.ew 0 rfl) rfl rfl ez ez λu n w h=>⟨_,_,_,rfl,h.st 2 rfl rfl λD h=>⟨h.eY 4 rfl,i _ ?_⟩⟩⟩⟩⟩;have h:=h.n_ 4 rfl (.loop R);refine cw.2 ⟨(u,n),aA.shut [_,_,_] ?_⟩;rw[iX,nv,po];exact h.o [2,3,4] 5
 intro dn v t h;let⟨⟨a,c⟩,h⟩:=cw.1 h;have h:=aA.open (A:=[_,_,_]) h;refine⟨.ready,none,ee,by rw[lp e d];exact h.eY 2 rfl,h.Fu 2 rfl λB h=>⟨rfl,⟨_,_,_,h.r 0,h.eY 5 rfl,?_⟩⟩⟩;have h:=h.n_ 5 rfl (.deferred none);exact k dn a c _ t (h.o [1,4] 6)
theorem ZP{lb:Nat}(D:m.length<=100000000000)(A:List E5->Nat->aF)(B:aF)(h:aA H (ax j [PA lb 0] 123::C1 lb m::B::F)) (u:∀ys G d,aA d (C1 lb m::B::G)->aA d (A ys 0::G)) (E:∀ys c0 (N:c0<ys.length) (G:List aF) (i:aC) (w:KE),ys.Perm (aJ m)->aA i (A ys c0::G)->(∀s,aA s (A ys (c0+1)::G)->w (.bool true) s)->fu Tryz.prog l [ji ys[c0],CX ((aK ys[c0] m).getD ⟨0,0⟩)] i w) (k:∀ys d,ys.Perm (aJ m)->aA d (A ys ys.length::F)->K (.tuple #[]) d) : CF 105 #[.func (.yield l) #[] #[],PA j 0] H K:=by
 let⟨mb,h⟩:=oq.1 (h.o [1,0,2] 3);refine cN 105 0x11561239925113994 [[(15,sI)]] ⟨some ⟨lb,0,none⟩,h.rd 2 rfl _,⟨_,h.r 0,Yx h 1 rfl λr i h=>⟨_,rfl,cM 108 28 (h.al λkc _ h=>⟨_,_,rfl,cM 107 4380 (cM 186 28 (ZO D h λdn a c i y h=>⟨_,_,_,rfl,_,_,_,rfl,?_⟩))⟩)⟩⟩⟩;have J:dn.length=m.length:=by rw[y.length_eq];grind
 refine Yw h 0 rfl ez λys s f h=>⟨rfl,⟨_,_,_,rfl,?_⟩⟩;have e:=f.trans y;have n:ys.length=dn.length:=f.length_eq;rw[<-n];have h:=oq.2 ⟨mb,h.o [2,3,5,0,1] 6⟩;have h:=u ys _ _ h;refine⟨λt d=>∃c0:Nat,t=c0/\c0<=ys.length/\aA d (A ys c0::ay 50 3 a ys.length c (flat mi ys)::mapA ji CX r m::F),λt _=>ys.length-t.toNat,⟨0,rfl,EG _,h⟩,?_⟩;rintro t C ⟨c0,rfl,N,h⟩;refine⟨λI=>?_,λI=>?_⟩
 .have b:c0<ys.length:=by grind
  have v:=h.a_ 1 rfl;have O:i64.wrap ((c0:Int)+1)=((c0+1:Nat):Int):=by grind [aN]
  refine⟨⟨ez,ez⟩,_,_,v.some D9 ez b,_,_,_,v.E6 D9 b,h.al λb1 _ h=>h.st 0 rfl rfl λL h=>⟨_,_,_,h.q 0,_,_,_,h.q 0,_,_,h.CB mtL mR 3 rfl (x:=ys[c0]),E ys c0 b _ L _ e (h.o [1,0,2,3] 4) λP h=>⟨true,rfl,(λM=>by cases M),λ_=>⟨⟨c0+1,O,b,h.o [0,2,3] 4⟩,by grind⟩⟩⟩⟩
 have:c0=ys.length:=by grind
 subst this;exact k ys C e (h.o [0] 3)
theorem ZQ{F:List aF}(D:f.nn.length<=100000000000)(A:List E5->Nat->aF)(ab:aF)(h:aA H (ax i [PA j 0] 31::gx Q j B f::ab::F)) (e:∀ys G a,aA a (ab::G)->aA a (A ys 0::G)) (E:∀ys fb (y:fb<ys.length) (G:List aF) (d:aC) (n:KE),ys.Perm (aJ f.nn)->aA d (A ys fb::G)->(∀v,aA v (A ys (fb+1)::G)->n (.bool true) v)->fu Tryz.prog l [ji ys[fb],Fe (FF f ys[fb])] d n) (k:∀ys a,ys.Perm (aJ f.nn)->aA a (gx Q j B f::A ys ys.length::F)->K (.tuple #[]) a) : CF 51 #[.func (.yield l) #[] #[],PA i 0] H K:=by
 let⟨x,c,fs,J,h⟩:=cB.1 (h.o [1,0,2] 3);refine cL 51 (.r (.r (.DT (.FH [.agg [.int .i64,.int .i64,.int .i64],.agg [.int .i64,.int .i64]] [none,(some .ret)] (.r .CA) (.DT (.r (.cond .no .no))))))) (h.al λb _ h=>⟨some ⟨j,0,none⟩,h.rd 10 rfl _,⟨some ⟨x.lb,0,none⟩,h.r 1,cM 52 28 (h.al λc1 _ h=>⟨_,_,rfl,rfl,λR s c0 t=>?_⟩)⟩⟩);rename_i H0;have h:=h.FH R;have h:=h.o [2,5,3,13,4,6,0,14,1,7,8,9,10,11,12] 15;refine ZP (m:=f.nn) (lb:=x.lb) D (λys fb=>star [ax b [.func (.yield l) #[] #[]] 137,ax i [PA j 0] 31,ax j (dW f x B c.length fs.length) 133,mapA ji nc x.sm f.my,C1 x.lb f.nn,pt (H0.size+1) (.loop R),A ys fb]) (star [ax b [.func (.yield l) #[] #[]] 137,ax i [PA j 0] 31,ax j (dW f x B c.length fs.length) 133,mapA ji nc x.sm f.my,pt (H0.size+1) (.loop R),ab]) (F:=pt H0.size (.deferred (some []))::DB x.sa x.sc c::ay 71 9 x.fa fs.length x.fc (flat fM fs)::D0 x.rm f.rds::pr Q B f.ags 64 64::m_ Q x.wb f.w::kx Q x.gb x.db f.g::F) ?_ ?_ ?_ ?_;.have h:=aA.shut [_,_,_,_,_,_] (h.o [2,3,4,5,6,7,0,1,8,9,10,11,12,13,14] 15);exact h.o [1,2,0,3,4,5,6,7,8,9] 10
 .intro ys G a h;have h:=aA.open (A:=[_,_,_,_,_,_]) (bY h);have h:=e ys _ _ (h.o [5,0,1,2,3,6,4] 7);exact aA.shut [_,_,_,_,_,_,_] (h.o [1,2,3,4,5,6,0] 7)
 .intro ys fb y G d n u h C;have h:=aA.open (A:=[_,_,_,_,_,_,_]) h;refine t _ _ _ ⟨_,_,_,_,_,rfl,h.eY 5 rfl,h.al λb1 _ h=>h.st 0 rfl rfl λN h=>h.al λb2 _ h=>h.st 0 rfl rfl λL h=>⟨h.eY 7 rfl,h.Fu 7 rfl λO h=>⟨_,h.r 2,_,_,_,h.q 1,_,_,h.q 0,some ⟨j,0,none⟩,h.rd 3 rfl _,⟨_,h.r 4,_,_,_,h.q 1,_,_,h.CB mtS mR 5 rfl (x:=ys[fb]),?_⟩⟩⟩⟩;refine E ys fb y _ _ _ u (h.o [8,0,1,2,3,4,5,6,7] 9) λP h=>⟨true,rfl,(λI=>by cases I),λ_=>⟨h.eY 8 rfl,C _ ?_⟩⟩;have h:=h.n_ 8 rfl (.loop R);exact aA.shut [_,_,_,_,_,_,_] (h.o [3,4,5,6,7,8,0] 9)
 intro ys d u h;have h:=aA.open (A:=[_,_,_,_,_,_,_]) h;refine⟨.ready,none,ee,by rw[lp s c0];exact h.eY 5 rfl,h.Fu 5 rfl λM h=>.inl ⟨rfl,h.eY 7 rfl,?_⟩⟩;have h:=h.n_ 7 rfl (.deferred none);exact k ys _ u (cB.2 ⟨x,c,fs,J,h.o [2,4,3,8,9,10,11,12,13,6] 14⟩)
structure Ey where
 e:Et
 x:EtX
variable {O:List Ey}
abbrev mX(y:Ey):Xa:=fB y.e y.x
theorem pg(y:Ey):(mX y).length=11:=rfl
structure SS(Q:aF)(e:Et)(x:EtX):Prop where
 lab:DJ Q x.la (flat cJ e.labs)
 bs:DJ Q x.ba (e.bs.map U8)
 by_:aI e.bs
 val:aG e.val
 eS:aG e.eS
 ll:e.labs.length<=maxLen
 bl:e.bs.length<=maxLen
structure EyK(Q:aF)(a:KQ)(xs:List Ey):Prop where
 row:DJ Q a (flat mX xs)
 ins:∀y∈xs,SS Q y.e y.x
 len:xs.length<=maxLen
theorem SS.sub{Q Q':aF}{e:Et}{x:EtX}(h:SS Q e x)(hs:aH Q Q'):SS Q' e x:=⟨h.lab.sub hs,h.bs.sub hs,h.by_,h.val,h.eS,h.ll,h.bl⟩
theorem EyK.sub{Q Q':aF}{a:KQ}{xs:List Ey}(h:EyK Q a xs)(hs:aH Q Q'):EyK Q' a xs:=⟨h.row.sub hs,λy b=>(h.ins y b).sub hs,h.len⟩
def grY(e:Et):Bool:=decide (500<(e.bs.length:Int))||grS e.nm e.labs
def grF(c:SO)(xs:List Ey):Bool:=decide (250<(xs.length:Int))||grC c.o.cfg 0||xs.any λy=>grY y.e
theorem X_{c:SO}{xs:List Ey}(h:grF c xs=false):xs.length<=250/\(S_ c=true->c.o.cfg.cells.toNat<=200)/\∀y∈xs,y.e.bs.length<=500/\y.e.labs.length<=100:=by
 unfold grF at h;simp only[E8,DC,List.any_eq_false,Bool.not_eq_true]at h;refine⟨ez,?_,λy b=>?_⟩;.intro a;exact Yh (xs:=[]) (DZ (wv a).1) (by grind [grR])
 grind [grY,grS]
section
variable {F L:List aF}{H:aC}{K:KE}{Q Q':aF}{f f0:aY}{fb i:Nat}{ab:Nat->Nat}{c:SO}
theorem ahQ{buf:Int}(h:aA H F)(k:∀p a,aA a F->K (.tuple #[.pointer p,aD (eR (1<=buf/\buf<=1024))]) a):CF 45 #[aD 0,aD buf] H K:=by
 refine cM 45 476 ⟨λc=>?_,λc=>?_⟩ <;> simp only[Jq,E8,za,DC]at c;.rw [eR,nO]at k;exact k _ _ h
 rw [eR,pO]at k;exact h.al λb _ h=>k _ _ h.tl
theorem ahK{pk:Int}(h:aA H F)(k:∀p a,aA a F->K (.tuple #[.pointer p,aD (eR (1<=pk/\pk<=4096))]) a):CF 46 #[aD pk] H K:=by
 refine cM 46 476 ⟨λc=>?_,λc=>?_⟩ <;> simp only[Jq,E8,za,DC]at c;.rw [eR,nO]at k;exact k _ _ h
 rw [eR,pO]at k;exact h.al λb _ h=>k _ _ h.tl
theorem adH(h:aA H F)(k:∀a,aA a F->K (.bool (S_ c)) a):CF 10 #[.agg ⟨iU c⟩] H K:=by
 refine cM 10 4380 (h.al λb _ h=>⟨_,h.r 0,ahQ h λp i h=>⟨_,_,rfl,_,h.r 0,ahK h λp2 d h=>⟨_,_,rfl,_,_,_,_,_,_,_,_,_,_,_,_,_,h.q 0,adI (o:=c.o) h λf h=>⟨_,rfl,?_⟩⟩⟩⟩);have e:S_ c=((gF c.o&&decide (eR (1<=c.buf/\c.buf<=1024)=0))&&decide (eR (1<=c.pk/\c.pk<=4096)=0)):=by grind [S_]
 have:=k _ h.tl;rw[e]at this;exact this
theorem adL(h:aA H F)(k:∀a,aA a F->K (.agg ⟨iU c⟩) a):CF 9 #[.agg ⟨iU c⟩] H K:=by refine cM 9 28 (h.al λb _ h=>h.al λb1 _ h=>⟨_,_,_,_,_,_,_,_,_,_,_,_,_,h.q 1,_,h.r 1,_,h.r 1,adK (o:=c.o) h λe h=>⟨_,_,_,_,_,_,_,_,_,_,_,_,_,rfl,h.r 1,h.r 1,h.st 0 rfl rfl λd h=>⟨_,_,_,_,_,_,_,_,_,_,_,_,_,_,_,h.q 0,k _ h.tl.tl⟩⟩⟩)
theorem ZR{e:Et}{x:EtX}(hi:SS Q e x)(A:e.bs.length<=500/\e.labs.length<=100)(h:aA H (Q::F))(k:∀Q' j s,aH Q Q'->SS Q' e j->aA s (Q'::F)->K (.agg ⟨fB e j⟩) s):CF 16 #[.agg ⟨fB e x⟩] H K:=by
 refine cM 16 4380 (h.al λb _ h=>h.al λb1 _ h=>h.al λb2 _ h=>⟨_,_,_,h.r 2,?_⟩);have u:=hi.lab.at h 3 rfl;have t:=aA.E3 (cs:=[]) h 2 0 eh;refine aA.append (m:=e.labs.length) aev t 0 rfl u (dS iI e.labs) (kz xL e.labs) ez ez λi n C h=>?_;rw[CO,Hi]at h;refine⟨_,_,_,by rw[CO],h.st 2 rfl rfl λy h=>⟨_,_,_,h.r 2,Sf h (λH h=>hi.bs.at h 3 rfl) ez λa2 c2 B h=>⟨_,_,_,rfl,h.st 3 rfl rfl λw h=>⟨_,_,_,_,_,_,_,_,_,_,_,_,_,_,_,h.q 3,h.st 2 rfl rfl λv h=>⟨_,_,_,_,_,_,_,_,_,_,_,_,_,_,_,h.q 2,?_⟩⟩⟩⟩⟩;obtain⟨d,c⟩:∃d,d=ay 223 2 i e.labs.length n (flat cJ e.labs)*Q:=⟨_,rfl⟩;obtain⟨f,a⟩:∃f,f=ay 5 1 a2 e.bs.length c2 (e.bs.map U8)*d:=⟨_,rfl⟩;have s1:aH Q d:=by rw[c];exact aH.add _ Q
 have s2:aH d f:=by rw[a];exact aH.add _ d
 have h:=aai c (h.o [1,4,0] 5);have h:=aai a (bY h);refine k f ⟨i,n,a2,c2⟩ _ (s1.trans s2) ⟨?_,by rw[a];exact DJ.sl,hi.by_,hi.val,hi.eS,hi.ll,hi.bl⟩ h;have:DJ d i (flat cJ e.labs):=by rw[c];exact DJ.sl
 exact this.sub s2
def alo(f:aY)(i:Nat)(e:Et)(f':aY)(r:Int):Prop:=∃cr,(e.kind=11->ais f i cr)/\f'=(HK f e cr).1/\r=(HK f e cr).2
theorem Fi.re{g:aY}{j:Nat}(h:Fi f i f0)(a:Fi g j f):Fi g j f0:=⟨a.ok,a.fr,h.kp.trans a.kp⟩
theorem aj_{e:Et}{x:EtX}{cr:aY×Int}(I:Fi f i f0)(hi:i<=2980)(c:SS Q e x)(m:e.bs.length<=500/\e.labs.length<=100)(d:e.kind=11->CrW f i e.eS cr)(h:aA H (Q::gx Q fb ab f::F)) (k:∀Q' a,aH Q Q'->Fi (HK f e cr).1 (i+4) f0->aA a (Q'::gx Q' fb ab (HK f e cr).1::F)->K (aD (HK f e cr).2) a):CF 15 #[PA fb 0,.agg ⟨fB e x⟩] H K:=by
 let⟨u_,Ek,E,R,LL,n0,kk,G⟩:=I.ok.gi;have hd:=acZ (e:=e) (cr:=cr) ⟨I.ok,I.fr,Kp.refl f⟩ hi c.val c.by_ ez λh=>(d h).1;refine ad4 (cr:=cr) I.ok ez c.lab ez c.bs ez (λ_=>?_) (λ_=>⟨G.abw,λo b=>?_,by have:=G.aao;omega⟩) (λj B a J h k=>(d j).2 Q fb ab (B::F) a J h k) h λQ' a hs h=>k Q' a hs (I.re hd) h;.let⟨t1,t2,t3,_,_⟩:=G.tick ez f.now;exact⟨t1,λo b=>⟨(t2 o b).by_,(t2 o b).len⟩,t3⟩
 have:=G.Y_ o b;exact⟨this.by_,this.len⟩
theorem aj9{e:Et}{x:EtX}(I:Fi f i f0)(hi:i<=2980)(c:SS Q e x)(j:e.bs.length<=500/\e.labs.length<=100)(h:aA H (Q::gx Q fb ab f::F)) (k:∀Q' f' r b,aH Q Q'->alo f i e f' r->Fi f' (i+4) f0->aA b (Q'::gx Q' fb ab f'::F)->K (aD r) b):CF 15 #[PA fb 0,.agg ⟨fB e x⟩] H K:=by let⟨m,a⟩:=Zz I.ok hi c.eS;exact aj_ I hi c j (λ_=>a) h λQ' b hs d h=>k Q' _ _ b hs ⟨m,λ_=>a.1,rfl,rfl⟩ d h
theorem ZS{a:KQ}{R:Nat}{xs:List Ey}(m:EyK Q a xs)(h:aA H (Q::F))(k:∀f,aA f (Q::F)->K (.bool (grF c xs)) f):CF 7 #[.agg ⟨iU c⟩,.slice a xs.length R] H K:=by
 have s:=m.len;unfold maxLen at s;refine cN 7 0x12283c921562139925283c94c [[(34,sB)],[(5,sI)],[(13,sB)]] (h.al λb _ h=>?_);intro Y L;refine⟨_,_,_,_,_,_,_,_,_,_,_,_,_,λ_=>h.q 0,λJ=>?_,λJ=>?_⟩
 .refine Za (o:=c.o) (xs:=[]) (a:=none) (c:=0) (h.o [1,0] 2) ⟨λH F _=>fN _ _,λx m=>cS m eh,λx m=>cS m eh,eh⟩ λZ h=>⟨_,rfl,L _ _ ?_⟩;have N:grG c.o []=grC c.o.cfg 0:=by simp[grG]
  have M:grF c xs=(grC c.o.cfg 0||xs.any λy=>grY y.e):=by unfold grF;grind
  rw[N];refine⟨λA=>?_,λA=>?_⟩;.rw [M,show grC c.o.cfg 0=true from A,Bool.true_or]at k;exact k _ (h.o [0] 2)
  rw[M,show grC c.o.cfg 0=false from A,q33]at k;refine⟨λi f=>∃j:Nat,i=j/\j<=xs.length/\(∀q (G:q<xs.length),q<j->grY xs[q].e=false)/\aA f (Q::ax b (iU c) 27::F),λi f=>xs.length-i.toNat,⟨0,rfl,EG _,λq _ h=>cS h ez,h⟩,?_⟩;rintro i S ⟨j,rfl,hj,I,h⟩;refine⟨λO=>?_,λO=>?_⟩
  .have d:j<xs.length:=by grind
   have V:i64.wrap ((j:Int)+1)=((j+1:Nat):Int):=by grind [aN]
   have n:=m.row.at h 0 rfl;have u:=m.ins _ (qa d);have e1:=n.el pg d 10 (v:=.slice xs[j].x.ba xs[j].e.bs.length xs[j].x.bc) rfl;have e2:=n.el pg d 8 (v:=.string xs[j].e.nm) rfl;have e3:=n.el pg d 9 (v:=.slice xs[j].x.la xs[j].e.labs.length xs[j].x.lc) rfl;have B:bE S (aV a) (aS a+j*11+8) [.string xs[j].e.nm,.slice xs[j].x.la xs[j].e.labs.length xs[j].x.lc]:=⟨e2,e3⟩;intro D w;have fin:∀t f,t=grY xs[j].e->aA f (Q::ax b (iU c) 27::F)->D t f:=by
    intro t f W h;refine w _ _ ⟨λC=>?_,λC=>⟨⟨j+1,V,d,λq G T=>?_,h⟩,by grind⟩⟩;.have:(xs.any λy=>grY y.e)=true:=List.any_eq_true.2 ⟨_,qa d,by grind⟩;rw[this]at k;exact k _ (h.o [0] 2)
    grind
   refine⟨⟨ez,ez⟩,_,_,n.some pg ee d,_,_,_,e1,λ_=>⟨ez,ez⟩,_,_,λ_=>n.some pg ee d,_,_,_,_,λ_=>B,λC=>?_,λC=>?_⟩;.refine Dw (F:=Q::ax b (iU c) 27::F) h (λH h=>u.lab.at h 0 rfl) u.ll λH3 h=>⟨_,rfl,fin _ _ ?_ h⟩;unfold grY;grind
   refine fin _ _ ?_ h;grind [grY]
  have E:j=xs.length:=by grind
  subst E;have:(xs.any λy=>grY y.e)=false:=by rw[List.any_eq_false];intro y P;obtain⟨q,G,rfl⟩:=XV P;grind
  rw[this]at k;exact k _ (h.o [0] 2)
 have J:decide (250<(xs.length:Int))=true:=by grind
 have:grF c xs=true:=by grind [grF]
 rw[this]at k;exact L _ _ ⟨λ_=>k _ h.tl,λU=>cS U eh⟩
theorem ZT{a:KQ}{x:Nat}{xs:List Ey}(u:EyK Q a xs)(v:grF c xs=false)(h:aA H (Q::F))(k1:S_ c=false->∀f,aA f (Q::F)->K (.pointer none) f) (k2:S_ c=true->∀Q' fb ab f' f,aH Q Q'->Fi f' (2+4*xs.length) (fC c (Xf c))->aA f (Q'::gx Q' fb ab f'::F)->K (PA fb 0) f):CF 8 #[.agg ⟨iU c⟩,.slice a xs.length x] H K:=by
 let⟨g1,g2,g3⟩:=X_ v;refine cN 8 0x11d2156213992544c [[(7,sI)]] (h.al λb _ h=>⟨_,_,_,_,_,_,_,_,_,_,_,_,_,_,_,h.q 0,Ph (c:=c) g2 (h.o [1,0] 2) (λe E h=>⟨_,_,rfl,λ_=>k1 e _ (h.o [0] 2),λm=>cS m ee⟩) λe D fb ab E s1 h=>⟨_,_,rfl,λm=>cS m eh,λ_=>?_⟩⟩);have t:=Er e (g2 e);obtain⟨N,n⟩:∃N,fC c (Xf c)=N:=⟨_,rfl⟩;rw[n]at h t k2;refine⟨λi f=>∃(j:Nat) (Q':aF) (f':aY),i=j/\j<=xs.length/\aH Q Q'/\Fi f' (2+4*j) N/\aA f (Q'::gx Q' fb ab f'::F),λi _=>xs.length-i.toNat,⟨0,D,N,rfl,EG _,s1,t,h.o [0,1] 3⟩,?_⟩;clear h;rintro i J ⟨j,y,f',rfl,P,hs,I,h⟩;refine⟨λw=>?_,λw=>?_⟩
 .have d:j<xs.length:=by grind
  have C:i64.wrap ((j:Int)+1)=((j+1:Nat):Int):=by grind [aN]
  have e:=(u.row.sub hs).at h 0 rfl;have s:=(u.ins _ (qa d)).sub hs;refine⟨⟨ez,ez⟩,_,_,e.some pg ee d,_,_,_,_,_,_,_,_,_,_,_,_,_,_,_,e.E6 pg d,ZR s (g3 _ (qa d)) h λL O M s3 k h=>⟨_,_,_,_,_,_,_,_,_,_,_,_,_,_,_,rfl,?_⟩⟩;have h:=(uo s3 (bY h));refine aj9 I ez k (g3 _ (qa d)) (bY h) λA f4 r G s4 _ B h=>⟨_,rfl,⟨j+1,A,f4,C,d,(hs.trans s3).trans s4,by rw[show 2+4*(j+1)=2+4*j+4 by omega];exact B,h⟩,by grind⟩
 obtain rfl:j=xs.length:=by grind
 exact k2 e y fb ab f' _ hs I h
end
end Go.Proofs.YtlmphkpeajnhjaaGreatDoor
