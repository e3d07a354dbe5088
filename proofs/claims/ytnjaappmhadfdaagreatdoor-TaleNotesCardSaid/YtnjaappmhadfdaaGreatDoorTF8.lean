/-
  Lemmas for TaleBack: part 8 of what it rests on. Conditions: none.
-/
import Derived.Test.YtnjaappmhadfdaaGreatDoorTF7
set_option linter.unusedVariables false
set_option linter.unusedSimpArgs false
set_option maxRecDepth 100000
set_option maxHeartbeats 16000000
open Go.IntKind (i64 u64 i8 u8 i32 u32 i16 u16)
namespace Go.Proofs.YtnjaappmhadfdaaGreatDoor
open Go
theorem ja.on{F L:List aD}{f:Fq}{x:QA}{evs:List Ev}(h:ja F f x evs)(m:∀H,aA H L->aA H F):ja L f x evs:=
 ⟨h.eq,⟨λH a=>h.ev.rd H (m H a),λe b H a=>h.ev.labs e b H (m H a)⟩,λH a=>h.lab H (m H a),λH a=>h.dat H (m H a),h.dA,h.sh,h.el,h.ll,h.sl,h.dl⟩
def mC(Q:aD)(ys:List Fy):Prop:=∀y∈ys,bB Q y.a (y.bs.map U8)
theorem mC.sub{Q Q':aD}{ys:List Fy}(h:mC Q ys)(hs:aH Q Q'):mC Q' ys:=λy a=>(h y a).sub hs
abbrev outC(ob:Nat)(oa:Xa)(oc:Nat)(ys:List Fy):aD:=cellsA ob [.slice oa ys.length oc] 110
abbrev outS(oa:Xa)(oc:Nat)(ys:List Fy):aD:=slA 38 1 oa ys.length oc (ys.map cF)
theorem Lt(p:As):(mr p).length=3:=rfl
theorem slYs:SlT Tryz.prog 110 38 1 24:=eG (by kernel_rfl)
section
variable {F L:List aD}{H:aC}{K:KQ}{Q Q':aD}{g:Ag}{ab ob:Nat}{x:AgX}
theorem xh{kd:Int}(h:aA H L)(i:Nat)(a:aS i L=cellsA ab (fX g x) 198)(k:∀H',aA H' L->K (.agg ⟨cD { kind:=kd,ag:=g.id,ep:=g.ep } {}⟩) H'):CF 276 #[PA ab 0,I64ZZ kd] H K:=by
 refine cM 276 28 (h.al λb _ h=>⟨_,h.rd (i+1) a _,_,h.rd (i+1) a _,h.st 0 rfl rfl λc h=>?_⟩)
 exact⟨_,_,_,_,_,_,_,_,_,_,_,_,_,_,_,_,_,_,_,_,h.q 0,k _ h.tl⟩
theorem Ue{f:Fq}{y:QA}{evs:List Ev}{t:Xa}{u:Nat}{ys:List Fy}(r:ja (Q::F) f y evs)(B:ys.length<=1000)(v:mC Q ys)(h:aA H (Q::outC ob t u ys::outS t u ys::F))
  (k:∀Q' s i d H',aH Q Q'->s.map Fy.bs=ys.map Fy.bs++jb f->(jU f≠0->Q'=Q/\s=ys/\i=t/\d=u)->mC Q' s->aA H' (Q'::outC ob i d s::outS i d s::F)->K (I64ZZ (jU f)) H'):CF 275 #[.agg ⟨cD f y⟩,PA ob 0] H K:=by
 refine cN 275 287405212 [[]] (h.al λb _ h=>⟨_,_,_,_,_,_,_,_,_,_,_,_,_,_,_,_,_,_,_,_,h.q 0,?_⟩)
 refine AF h (r.on λH h=>h.o [1] 4) λa c C h=>⟨_,_,_,_,rfl,?_⟩
 intro E w;refine⟨λj=>?_,λj=>w _ ?_⟩
 .have j:=V3 j;refine⟨_,_,_,h.r 3,h.al λb1 _ h=>?_⟩
  refine h.append (m:=1) (ws:=[cF ⟨a,c,dO f⟩]) slYs 5 rfl (h.ce_rd 0 rfl) rfl rfl (by omega) (by omega) λa5 c5 D h=>⟨_,_,_,rfl,h.st 4 rfl rfl λA h=>w _ ?_⟩
  have e:ys.length+1=(ys++[(⟨a,c,dO f⟩:Fy)]).length:=by simp
  have e2:ys.map cF++[cF ⟨a,c,dO f⟩]=(ys++[(⟨a,c,dO f⟩:Fy)]).map cF:=by simp
  have h:aA A (cellsA b1 [cF ⟨a,c,dO f⟩] 38::slA 5 1 a (dO f).length c ((dO f).map U8)::cellsA b (cD f y) 150::Q::cellsA ob [.slice a5 (ys.length+1) c5] 110::slA 38 1 a5 (ys.length+1) c5 (ys.map cF++[cF ⟨a,c,dO f⟩])::F):=h;rw[e,e2]at h;refine k (slA 5 1 a (dO f).length c ((dO f).map U8)*Q) (ys++[(⟨a,c,dO f⟩:Fy)]) a5 c5 _ (aH.add _ Q) (by unfold jb;grind) (λx=>V0 j x) (λz n=>?_) ?_
  .rcases VJ.1 n with n|n
   .exact (v z n).sub (aH.add _ Q)
   .rw [VH]at n;subst n;exact bB.sl
  .have h:=h.o [1,3,4,5] 6;exact iI.2 h
 .have j:=V2 j;exact k Q ys t u _ (aH.refl Q) (by unfold jb;grind) (λ_=>⟨rfl,rfl,rfl,rfl⟩) v (h.o [2,3,4] 5)
theorem fq0{F:List aD}{f:Fq}(d:f.evs=[])(j:f.sn=⟨#[]⟩)(b:f.sl=[])(c:f.data=[])(h:∀i,1<=i->i<=9->i∉aU f.kind->f.nums i=0):ja F f {} []:=
 ⟨d,⟨λH _=>fK H none,λe a=>V0 a (by simp)⟩,λH _=>by rw[b];exact fK H none,λH _=>by rw[c];exact fK H none,.inl rfl,⟨λ_=>⟨d,rfl,rfl⟩,λ_=>⟨j,b,rfl,rfl,c,rfl,rfl⟩,h⟩,by simp,λe a=>V0 a (by simp),by grind,by grind⟩
theorem xi{P:Nat->Prop}(h:P 1/\P 2/\P 3/\P 4/\P 5/\P 6/\P 7/\P 8/\P 9):∀i,1<=i->i<=9->P i:=by
 obtain⟨a,b,c,d,e,f,g,h,j⟩:=h;intro i m k
 match i,m,k with
 | 1,_,_=>exact a|2,_,_=>exact b|3,_,_=>exact c|4,_,_=>exact d|5,_,_=>exact e|6,_,_=>exact f|7,_,_=>exact g|8,_,_=>exact h|9,_,_=>exact j
abbrev Sent(Q0:aD)(ob:Nat)(H:aC)(G:List aD)(l:List (List Int)):Prop:=∃Q' ys oa oc,aH Q0 Q'/\ys.map Fy.bs=l/\mC Q' ys/\aA H (Q'::outC ob oa oc ys::outS oa oc ys::G)
theorem ur(f:Fq):(jb f).length<=1:=by grind [jb]
theorem AW{α:Type}(f:α->Fq)(l:List α):(l.flatMap λp=>jb (f p)).length<=l.length:=by
 induction l with
 | nil=>simp
 | cons a l ih=>grind [ur]
theorem Uf{rd:Int}(ok:gQ g)(h:aA H (Q::agA Q ab g::F))
  (k:∀Q' ys a c H',aH Q Q'->ys.map Fy.bs=(j7 g rd).2.1->mC Q' ys->aA H' (Q'::outS a c ys::agA Q' ab (j7 g rd).1::F)->K (.tuple #[.slice a ys.length c,I64ZZ (j7 g rd).2.2]) H') :
  CF 166 #[PA ab 0,I64ZZ rd] H K:=by
 obtain⟨x,evs,I,N,h⟩:=de.1 (h.o [1,0] 2);obtain⟨o1,o2,o3,o4,o5,o6,o7,o8⟩:=AJ g rd;have b:=AV (rd:=rd) ok;refine OY ?_;refine AI (rd:=rd) h λH1 h=>⟨_,rfl,?_⟩
 unfold j7 at k;rw[<-o4]at k;rw[<-o1,<-o2]at h;rw[<-o1]at I;generalize hG:(br g rd).1=G at *;refine⟨λC=>?_,λC=>?_⟩
 .rw [V1 (by grind)]at k;have h:=h.o [3,0,1,2] 4;exact k Q [] none 0 _ (aH.refl Q) rfl (λy E=>V0 E (by simp)) (((h.o [1,2,3,0] 4) |> λh=>swp (de.2 ⟨x,evs,I,N,h⟩)).sl_nil 38 1 |> swp)
 rw[Vz (by grind)]at k;have h6:G.kept.length=evs.length:=by grind
 have b2:=b.kept;have b3:=b.prb;have b4:=b.seq;have b5:=b.evs;refine h.al λob _ h=>?_
 have W:Sent Q ob _ (cellsA ab (fX G x) 198::slA 258 4 x.ka G.kept.length x.kc (aF bT evs)::slA 449 3 x.pa G.prb.length x.pc (aF mr G.prb)::F) []:=
  ⟨Q,[],none,0,aH.refl Q,rfl,λy E=>V0 E (by simp),(h.sl_nil 38 1).o [5,1,0,2,3,4] 6⟩
 have snd:∀{f:Fq} {y:QA} {es:List Ev} {fb:Nat} {l:List (List Int)} {G2:List aD} {H':aC} {J:KQ},(∀Q',aH Q Q'->ja (Q'::G2) f y es)->l.length<=500->Sent Q ob H' G2 l->(∀H2,Sent Q ob H2 G2 (l++jb f)->(jU f≠0->Sent Q ob H2 G2 l)->J (I64ZZ (jU f)) H2)->CF 275 #[.agg ⟨cD f y⟩,PA ob 0] H' J:=by
  rintro f y es fb l G2 H' J r hl ⟨Q',ys,d,i,s1,s2,s3,h⟩ kk;have h7:ys.length=l.length:=by grind
  exact Ue (r Q' s1) (by omega) s3 h λQ2 zs h3 Z H2 t1 t2 t3 t4 h5=>kk H2 ⟨Q2,zs,h3,Z,s1.trans t1,by rw[t2,s2],t4,h5⟩ λY=>by
   obtain⟨e1,e2,e3,e4⟩:=t3 Y;subst e1 e2 e3 e4;exact⟨_,_,_,_,s1,s2,s3,h5⟩
 refine⟨_,h.r 1,λv=>?_,λv=>?_⟩
 .have v:=V3 v;rw[V1 v]at k;refine xh h 1 rfl λH2 h=>⟨_,_,_,_,_,_,_,_,_,_,_,_,_,_,_,_,_,_,_,_,rfl,h.al λb1 _ h=>h.st 0 rfl rfl λH3 h=>⟨_,h.r 2,h.st 0 rfl rfl λM h=>⟨_,_,_,_,_,_,_,_,_,_,_,_,_,_,_,_,_,_,_,_,h.q 0,by kernel_rfl,?_⟩⟩⟩
  have W:Sent Q ob M (cellsA ab (fX G x) 198::slA 258 4 x.ka G.kept.length x.kc (aF bT evs)::slA 449 3 x.pa G.prb.length x.pc (aF mr G.prb)::F) []:=
   ⟨Q,[],none,0,aH.refl Q,rfl,λy E=>V0 E (by simp),(h.tl.sl_nil 38 1).o [5,1,0,2,3,4] 6⟩
  refine snd (f:={ kind:=1,ag:=G.id,ep:=G.ep,bt:=G.boot }) (y:={}) (es:=[]) (fb:=0) (λ_ _=>fq0 rfl rfl rfl rfl (xi (by grind [aU,Fq.nums]))) (by simp) W λH5 w _=>⟨_,rfl,?_⟩
  obtain⟨Q',ys,d,i,s1,s2,s3,h⟩:=w;refine⟨_,_,_,h.r 1,k Q' ys d i _ s1 ?_ s3 ?_⟩
  .rw [s2];unfold sendA;grind
  .have:=de.2 ⟨x,evs,I,λe D=>(N e D).sub s1,h.o [3,4,5,0,2] 6⟩
   exact this.o [1,2,0] 3
 have v:=V2 v;rw[Vz v]at k;refine⟨_,_,_,h.r 1,?_⟩;refine⟨λt H'=>∃j:Nat,t=j/\j<=G.prb.length/\Sent Q ob H' (cellsA ab (fX G x) 198::slA 258 4 x.ka G.kept.length x.kc (aF bT evs)::slA 449 3 x.pa G.prb.length x.pc (aF mr G.prb)::F) ((G.prb.take j).flatMap λp=>jb (repF G p)),λt _=>G.prb.length-t.toNat,⟨0,rfl,by omega,W⟩,?_⟩
 rintro t H2 ⟨j,rfl,hj,B,ys,d,i,s1,s2,s3,h⟩;refine⟨λA=>?_,λA=>?_⟩
 .have s:j<G.prb.length:=by grind
  have L:=(h.sl_rd 5 rfl);have j2:=AW (repF G) (G.prb.take j);refine⟨⟨by omega,by omega⟩,_,_,L.some Lt (by decide) s,_,_,_,L.els Lt s,h.al λb3 _ h=>h.st 0 rfl rfl λH3 h=>?_⟩
  refine xh h 4 rfl λM h=>⟨_,_,_,_,_,_,_,_,_,_,_,_,_,_,_,_,_,_,_,_,rfl,h.al λb4 _ h=>h.st 0 rfl rfl λH5 h=>⟨_,h.r 1,_,h.r 1,_,h.r 1,_,h.r 5,h.st 0 rfl rfl λH6 h=>⟨h.r 5,h.r 1,h.r 1,h.st 0 rfl rfl λH7 h=>⟨h.r 5,h.r 1,h.st 0 rfl rfl λH8 h=>⟨h.r 5,h.st 0 rfl rfl λH9 h=>⟨_,_,_,_,_,_,_,_,_,_,_,_,_,_,_,_,_,_,_,_,h.q 0,by kernel_rfl,?_⟩⟩⟩⟩⟩⟩
  refine snd (f:=repF G G.prb[j]) (y:={}) (es:=[]) (fb:=0) (l:=(G.prb.take j).flatMap λp=>jb (repF G p)) (λ_ _=>fq0 rfl rfl rfl rfl (xi (by grind [aU,Fq.nums,repF]))) (by grind) ⟨B,ys,d,i,s1,s2,s3,h.tl.tl⟩ λP w _=>⟨_,rfl,?_⟩
  have S:i64.wrap ((j:Int)+1)=((j+1:Nat):Int):=by grind [aJ]
  refine⟨⟨j+1,S,s,?_⟩,by grind⟩;rw[VU s,List.flatMap_append,Wo,List.flatMap_nil,VQ];exact w
 have A:=V2 A;obtain rfl:j=G.prb.length:=by omega
 rw[VO]at s2;have h9:=AW (repF G) G.prb;refine h.st 3 rfl rfl λH3 h=>⟨_,_,_,h.r 3,?_⟩
 generalize hR:(G.prb.flatMap λp=>jb (repF G p))=R at *
 have w:Sent Q ob H3 (cellsA ab (fX { G with prb:=[] } { x with pa:=none,pc:=0 }) 198::slA 258 4 x.ka G.kept.length x.kc (aF bT evs)::F) R:=
  ⟨B,ys,d,i,s1,s2,s3,h.o [0,1,2,3,4] 6⟩
 clear h
 intro Jn hJ;have fin:∀H',Sent Q ob H' (cellsA ab (fX { G with prb:=[] } { x with pa:=none,pc:=0 }) 198::slA 258 4 x.ka G.kept.length x.kc (aF bT evs)::F) (R++iF G (min G.kept.length 64))->Jn H':=by
  rintro H' ⟨B,ys,d,i,s1,s2,s3,h⟩;have h4:(iF G (min G.kept.length 64)).length<=1:=by
   generalize min G.kept.length 64=m
   induction m with
   | zero=>simp[iF]
   | succ m ih=>grind [iF,ur]
  refine hJ _ (xh (g:={ G with prb:=[] }) h 3 rfl λM h=>⟨_,_,_,_,_,_,_,_,_,_,_,_,_,_,_,_,_,_,_,_,rfl,h.al λb4 _ h=>h.st 0 rfl rfl λH5 h=>⟨_,h.r 4,_,h.r 4,h.st 0 rfl rfl λH6 h=>⟨h.r 4,h.st 0 rfl rfl λH7 h=>⟨_,_,_,_,_,_,_,_,_,_,_,_,_,_,_,_,_,_,_,_,h.q 0,by kernel_rfl,?_⟩⟩⟩⟩)
  refine snd (f:={ kind:=7,ag:=G.id,ep:=G.ep,next:=G.seq,stamp:=G.ck }) (y:={}) (es:=[]) (fb:=0) (λ_ _=>fq0 rfl rfl rfl rfl (xi (by grind [aU,Fq.nums]))) (by grind) ⟨B,ys,d,i,s1,s2,s3,h.tl⟩ λP w _=>⟨_,rfl,?_⟩
  obtain⟨Q',ys,d,i,s1,s2,s3,h⟩:=w;refine⟨_,_,_,h.r 1,k Q' ys d i _ s1 ?_ s3 ?_⟩
  .rw [s2];unfold sendA;grind
  .have h:=(h.sl_nil 449 3).o [4,5,0,1,3] 6;have:=(de (g:={ G with prb:=[] })).2 ⟨{ x with pa:=none,pc:=0 },evs,I,λe D=>(N e D).sub s1,h⟩
   exact this.o [1,2,0] 3
 have U:(if (64:Int)<(G.kept.length:Int) then 64 else (G.kept.length:Int))=((min G.kept.length 64:Nat):Int):=by grind
 refine⟨λt H'=>∃j:Nat,t=j/\j<=min G.kept.length 64/\iF G (min G.kept.length 64)=iF G j/\Sent Q ob H' (cellsA ab (fX { G with prb:=[] } { x with pa:=none,pc:=0 }) 198::slA 258 4 x.ka G.kept.length x.kc (aF bT evs)::F) R,λt _=>t.toNat,⟨_,U,VD _,rfl,w⟩,?_⟩
 rintro t M ⟨j,rfl,hj,hb,B,ys,d,i,s1,s2,s3,h⟩;refine⟨λA=>?_,λA=>fin _ ?_⟩
 .obtain⟨m,rfl⟩:∃m,j=m+1:=⟨j-1,by grind⟩;refine xh (g:={ G with prb:=[] }) h 3 rfl λH5 h=>⟨_,_,_,_,_,_,_,_,_,_,_,_,_,_,_,_,_,_,_,_,rfl,h.al λb4 _ h=>h.st 0 rfl rfl λH6 h=>⟨_,K9 (g:={ G with prb:=[] }) ⟨b.id,b.most,b.boot,b.ep,b.ck,b.seq,b.kept,by simp,b.drop,b.evs⟩ h 4 rfl,_,_,_,h.r 4,?_⟩⟩
  have j3:G.kept.length<=x.kc:=h.sl_nc 5 rfl;refine⟨⟨by omega,by omega,by grind⟩,h.st 0 rfl rfl λH7 h=>⟨h.r 4,h.st 0 rfl rfl λH8 h=>⟨_,_,_,_,_,_,_,_,_,_,_,_,_,_,_,_,_,_,_,_,h.q 0,by kernel_rfl,?_⟩⟩⟩
  have L:=h.sl_rd 5 rfl;have hs:=L.some dF (by decide) (k:=0) (by omega);have e0:bM x.ka 0 x.kc 4=x.ka:=by
   unfold bM;rw[nO,hs,VT,fu];simp
  have j1:((m+1:Nat):Int).toNat=(evs.take (m+1)).length:=by grind
  have T:(mz G (m+1)).evs.length=m+1:=by grind [mz]
  have V:cD (mz G (m+1)) { ea:=x.ka,ec:=x.kc }=[I64ZZ 5,I64ZZ G.id,I64ZZ G.ep,I64ZZ 0,I64ZZ 0,I64ZZ 0,I64ZZ 0,I64ZZ (G.seq-G.kept.length),I64ZZ 0,I64ZZ 0,.slice (bM x.ka 0 x.kc 4) ((m+1:Nat):Int).toNat x.kc,.string ⟨#[]⟩,.slice none 0 0,.slice none 0 0]:=by
   unfold cD;rw[T,e0];rfl
  have n:=snd (f:=mz G (m+1)) (y:={ ea:=x.ka,ec:=x.kc }) (es:=evs.take (m+1)) (fb:=0) (l:=R) (G2:=cellsA ab (fX { G with prb:=[] } { x with pa:=none,pc:=0 }) 198::slA 258 4 x.ka G.kept.length x.kc (aF bT evs)::F) (H':=H8)
   (J:=λu H_=>∃r,u=I64ZZ r/\((!decide (r=17))=true->Jn H_)/\((!decide (r=17))=false->(∃j:Nat,i64.wrap (((m+1:Nat):Int)-1)=j/\j<=min G.kept.length 64/\iF G (min G.kept.length 64)=iF G j/\Sent Q ob H_ (cellsA ab (fX { G with prb:=[] } { x with pa:=none,pc:=0 }) 198::slA 258 4 x.ka G.kept.length x.kc (aF bT evs)::F) R)/\(i64.wrap (((m+1:Nat):Int)-1)).toNat<((m+1:Nat):Int).toNat))
   (λQ2 O=>⟨by grind [mz,List.map_take],⟨λH hh=>?_,λe D H hh=>(N e (Ww D)).sub O |>.at hh 0 rfl⟩,λH _=>fK H none,λH _=>fK H none,.inl rfl,⟨λY=>V0 rfl Y,λ_=>⟨rfl,rfl,rfl,rfl,rfl,rfl,rfl⟩,xi (by grind [aU,Fq.nums])⟩,by grind,λe D=>?_,by simp[mz],by simp[mz]⟩) (by omega) ⟨B,ys,d,i,s1,s2,s3,h.tl⟩ λH9 t1 t2=>⟨_,rfl,λC=>?_,λC=>?_⟩
  .rw [V]at n;exact n
  .have hq:=(hh.sl_rd 2 rfl).take ((m+1)*4);rw[y4 dF]at hq;exact hq
  .have:=b5 e.p (by grind);have:=this.1;unfold df at this;simp only[V4,V5]at this;have h8:e.labs.length<=8:=this.1.2;omega
  .have C:¬jU (mz G (m+1))=17:=by grind
   refine fin _ ?_;rw[hb];unfold iF;rw[Vz C];exact t1
  .have C:jU (mz G (m+1))=17:=by grind
   have S:i64.wrap (((m+1:Nat):Int)-1)=(m:Int):=by grind [aJ]
   refine⟨⟨m,S,by omega,?_,t2 (by grind)⟩,by grind⟩;rw[hb];show (if _ then _ else _)=_
   grind
 .have A:=V2 A;obtain rfl:j=0:=by omega
  rw[hb];unfold iF;rw[VQ];exact⟨B,ys,d,i,s1,s2,s3,h⟩
end
def iJ(g:Gg):DR:=if g.saved=true/\¬((g.rl.next:Int)<=g.num) then ol g.seg g.rows else g.rows
def j8(g:Gg):Gg:=
 if g.o.save<=g.recs/\(stB g.s).length<=262144 then
  { g with pend:=[],recs:=0,saved:=true,num:=g.rl.next,seg:=g.rl.seg+1,rl:={ g.rl with syn:=g.rl.next,seg:=g.rl.seg+1,next:=g.rl.next+1 },rows:=iJ g++(cU ⟨0,stB g.s⟩).map λb=>(g.rl.seg+1,b),syn:=(iJ g).length }
 else { g with pend:=[],rl:={ g.rl with syn:=g.rl.next },rows:=iJ g,syn:=(iJ g).length }
theorem Ug(g:Gg):∀r∈iJ g,r∈g.rows:=by
 unfold iJ
 split
 .intro r a;exact (Ws.1 a).1
 grind
theorem Uh(g:Gg):(iJ g).length<=g.rows.length:=by
 unfold iJ
 split
 .exact List.length_filter_le _ _
 grind
section
variable {F L:List aD}{H:aC}{K:KQ}{Q:aD}{gb db:Nat}{g:Gg}
theorem Ui{bb b n c e:Nat}{a:Xa}(h:aA H F)(i:Nat)(j:aS i F=cellsA b [.slice a n c] 38)(s:262144<n)(f:n<=1099511627776)(k:K (.tuple #[I64ZZ (-1),I64ZZ 17]) H) :
  CF 174 #[PA bb 0,.slice (some ⟨b,0,none⟩) 1 e] H K:=by
 refine cN 174 0x112156123992511b421b1d1c [[(6,sI),(15,sI)]] ?_;refine⟨λsize i H'=>size=0/\i=0/\H'=H,λ_ _ _=>0,⟨rfl,rfl,rfl⟩,?_⟩
 rintro size i H' ⟨rfl,rfl,rfl⟩;refine⟨λ_=>?_,λm=>V0 m (by decide)⟩
 refine⟨by decide,_,_,rfl,_,_,_,h.rd i j _,λd=>?_,λd=>?_⟩
 .exact k
 .have d:=V2 d;rw[aJ]at d;omega
theorem BTrimAny{bb rb:Nat}{saved:Bool}{num seg:Int}{s:RL}{rows:DR}(d:rows.length<=1099511627776)(h:aA H (bookA bb rb saved num seg::reelA rb db s::diskX db rows rows.length::F))
  (k:∀e H' R,R=(if saved=true/\¬((s.syn:Int)<=num) then ol seg rows else rows)->aA H' (bookA bb rb saved num seg::reelA rb db s::diskX db R R.length::F)->K (I64ZZ e) H'):CF 173 #[PA bb 0] H K:=by
 refine TH d (VD _) h (λa=>k 19 H rows ?_ h) (λa c=>k 21 H rows ?_ h) (λa c b=>V0 b (by omega)) λa c b H' h=>k 0 H' (ol seg rows) ?_ h
 .grind
 .grind
 grind
theorem Uj(ok:jd g)(I:∀r∈g.rows,r.1<=g.rl.seg)(h:aA H (Q::gateA Q gb db g::F))
  (k:∀ys a c H',ys.map Oy.o=g.pend->(∀y∈ys,iG Q y)->aA H' (Q::slA 222 11 a ys.length c (aF cu ys)::gateA Q gb db (j8 g)::F)->K (.slice a ys.length c) H') :
  CF 106 #[PA gb 0] H K:=by
 obtain⟨x,pb,ys,e1,e2,e3,h⟩:=iq.1 (qC h);refine cN 106 76861503970953628 [[],[]] ⟨some ⟨x.bb,0,none⟩,h.r 0,some ⟨x.rb,0,none⟩,h.r 3,?_⟩;have h:=h.o [4,5,0,1,2,3,6,7] 8;refine Kq h λM h=>⟨rfl,some ⟨x.bb,0,none⟩,h.r 2,?_⟩
 have h:=h.o [5,0,1,2,3,4,6,7] 8;have G:=Uh g;refine BTrimAny (by have:=ok.rows;omega) h λe H2 R v h=>⟨_,rfl,?_⟩
 have v:R=iJ g:=v;subst v;refine⟨_,_,_,h.r 3,?_⟩;refine h.st 3 rfl rfl λJ h=>⟨_,h.r 3,_,h.r 3,?_⟩
 have h:aA J (bookA x.bb x.rb g.saved g.num g.seg::reelA x.rb db { g.rl with syn:=g.rl.next }::diskX db (iJ g) (iJ g).length::cellsA gb (kB g.o { x with pa:=none,pc:=0 } 0 g.recs) 213::stA Q x.sb g.s::slA 222 11 x.pa ys.length x.pc (aF cu ys)::prbA pb g.p::Q::F):=h;have d:=λ{H:aC} {F:List aD} (h:aA H F)=>h.sl_nil 222 11
 intro P A;refine⟨λj=>?_,λj=>A _ ?_⟩
 .have j:=V3 j;refine⟨some ⟨x.bb,0,none⟩,h.r 3,some ⟨x.sb,0,none⟩,h.r 3,?_⟩;have h:=h.o [7,4,0,1,2,3,5,6] 8;refine RZ ok.R.ok ok.R.ser (by have:=ok.kept;omega) h λba bc N h=>⟨_,_,_,rfl,h.r 6,?_⟩
  refine h.al λb1 _ h=>⟨h.r 7,?_⟩
  by_cases hl:(stB g.s).length<=262144
  .have h:=h.o [4,5,6,0,1,2,3,7,8,9] 10;have f:([(⟨ba,bc,stB g.s⟩:Fy)]:List Fy).flatMap Fy.bs=stB g.s:=by simp
   have u:({ g.rl with syn:=g.rl.next }:RL).ok:=⟨ok.rl.seg,ok.rl.most,ok.rl.next,ok.rl.next⟩;refine TG (parts:=[⟨ba,bc,stB g.s⟩]) u ok.seg (λr E=>I r (Ug g r E)) (by have:=ok.rows;omega) h (λH h=>h.ce_rd 0 rfl) (λH h y C=>by rw[VH]at C;subst C;exact h.sl_rd 1 rfl) (by rw[f];exact Sc _) (by simp) (by grind) λO h=>⟨_,_,rfl,?_⟩
   rw[f]at h;intro w i;refine⟨λ_=>?_,λB=>V0 B (by simp)⟩
   refine h.st 7 rfl rfl λL h=>i _ (A _ ?_)
   have n:j8 g={ g with pend:=[],recs:=0,saved:=true,num:=g.rl.next,seg:=g.rl.seg+1,rl:={ g.rl with syn:=g.rl.next,seg:=g.rl.seg+1,next:=g.rl.next+1 },rows:=iJ g++(cU ⟨0,stB g.s⟩).map λb=>(g.rl.seg+1,b),syn:=(iJ g).length }:=by
    unfold j8;grind
   have h:=(d (h.o [7,6,0,1,2,9,5,8] 10)).o [1,2,0,3,4,5,6,7,8] 9;have t:=(iq (Q:=Q) (g:=j8 g)).2 ⟨{ x with pa:=none,pc:=0 },pb,[],e1,by grind,λz m=>V0 m (by simp),by rw[n];exact h⟩
   exact k ys _ _ _ e2 e3 (t.o [1,2,0] 3)
  .have D:=stB_len ok.R.ok ok.R.ser (by have:=ok.kept;omega);refine Ui h 0 rfl (by omega) (by omega) ⟨_,_,rfl,?_⟩;intro w i;refine⟨λB=>V0 B (by decide),λ_=>i _ (A _ ?_)⟩
   have n:j8 g={ g with pend:=[],rl:={ g.rl with syn:=g.rl.next },rows:=iJ g,syn:=(iJ g).length }:=by
    unfold j8;grind
   have h:=(d (h.o [7,3,4,5,6,9,2,8] 10)).o [1,2,0,3,4,5,6,7,8] 9;have t:=(iq (Q:=Q) (g:=j8 g)).2 ⟨{ x with pa:=none,pc:=0 },pb,[],e1,by grind,λz m=>V0 m (by simp),by rw[n];exact h⟩
   exact k ys _ _ _ e2 e3 (t.o [1,2,0] 3)
 .have j:=V2 j;have n:j8 g={ g with pend:=[],rl:={ g.rl with syn:=g.rl.next },rows:=iJ g,syn:=(iJ g).length }:=by
   unfold j8;grind
  have h:=(d (h.o [3,4,0,1,2,6,7,5] 8)).o [1,2,0,3,4,5,6,7,8] 9;have t:=(iq (Q:=Q) (g:=j8 g)).2 ⟨{ x with pa:=none,pc:=0 },pb,[],e1,by grind,λz m=>V0 m (by simp),by rw[n];exact h⟩
  exact k ys _ _ _ e2 e3 (t.o [1,2,0] 3)
end
def fY(s:aV)(now period:Int)(p:Pb):Nat->Pb×List Ou
 | 0=>(p,[])
 | n+1=>if (j0 s (n:Nat)).2=true/\dueP (fY s now period p n).1 (n:Nat) now period=true then
   (sndP (fY s now period p n).1 (n:Nat) (j0 s (n:Nat)).1.en.epoch now,(fY s now period p n).2++[iH (kA (n:Nat) (fY s now period p n).1.boot (fY s now period p n).1.count)])
  else fY s now period p n
def fZ(g:Gg)(now:Int):Gg×List Ou×Int:=
 if (di g (eJ now)).2≠0 then ((di g (eJ now)).1,[],(di g (eJ now)).2) else
 ({ (di g (eJ now)).1 with p:=(fY (di g (eJ now)).1.s now g.o.period g.p 64).1 },(fY (di g (eJ now)).1.s now g.o.period g.p 64).2,0)
theorem mem_mset{k v:Int}{m:List (Int×Int)}{x:Int×Int}(h:x∈mset k v m):x=(k,v)\/x∈m:=by
 unfold mset at h
 rcases V9.1 h with h|h
 .grind
 .exact .inr (Ws.1 h).1
theorem sndP_ok{p:Pb}(h:mj p)(d:p.count<1000000000000){ag ep now:Int}(b:0<=now/\now<=4611686018427387903):mj (sndP p ag ep now):=by
 have f:=h.count;have e:=h.out;have c:=h.most;refine⟨?_,h.most,?_,λx a=>?_,h.boot⟩
 .show 0<=p.count+1/\p.count+1<=1000000000000;omega
 .grind [sndP]
 .rcases mem_mset a with rfl|a
  .exact b
  .exact h.last x a
theorem Lu{s:aV}{now period:Int}{p:Pb}(h:mj p)(b:p.count+64<=1000000000000)(a:0<=now/\now<=4611686018427387903):∀n,n<=64->mj (fY s now period p n).1/\(fY s now period p n).1.count<=p.count+n/\(fY s now period p n).2.length<=n
 | 0,_=>⟨h,by show p.count<=p.count+((0:Nat):Int);omega,VD _⟩
 | n+1,hl=>by
  obtain⟨a1,a2,a3⟩:=Lu h b a n (by omega);unfold fY
  split
  .refine⟨sndP_ok a1 (by omega) a,?_,?_⟩
   .show (fY s now period p n).1.count+1<=_;omega
   .simp only[V6,VA,VV];omega
  .exact⟨a1,by omega,by omega⟩
section
variable {F L:List aD}{H:aC}{K:KQ}{Q:aD}{gb db:Nat}{g:Gg}
theorem Uk{now:Int}(ok:jd g)(U:jd (di g (eJ now)).1)(Z:g.p.count+64<=1000000000000)(S:(di g (eJ now)).2=0->0<=now/\now<=4611686018427387903)
  (P:∀a:Nat,a<64->(j0 (di g (eJ now)).1.s a).2=true->1<=(j0 (di g (eJ now)).1.s a).1.en.epoch/\(j0 (di g (eJ now)).1.s a).1.en.epoch<=1099511627776)
  (h:aA H (Q::gateA Q gb db g::F))
  (k:∀Q' ys a c H',aH Q Q'->ys.map Oy.o=(fZ g now).2.1->(∀y∈ys,iG Q' y)->aA H' (Q'::slA 222 11 a ys.length c (aF cu ys)::gateA Q' gb db (fZ g now).1::F)->K (.tuple #[.slice a ys.length c,I64ZZ (fZ g now).2.2]) H') :
  CF 170 #[PA gb 0,I64ZZ now] H K:=by
 refine cN 170 0x121b12156123992a11213992821399144c [[(11,sA),(12,sI)],[(7,sS)],[(7,sS),(21,sI)]] ?_;refine Lp (r:=eJ now) ok (recN rfl) h λQ1 H1 L h=>⟨_,rfl,λhx=>?_,λhx=>?_⟩
 .have he:(di g (eJ now)).2≠0:=by grind
  unfold fZ at k;rw[V1 he]at k;exact k Q1 [] none 0 _ L rfl (λy hy=>V0 hy (by simp)) ((h.sl_nil 222 11).o [1,0,2] 3)
 have he:(di g (eJ now)).2=0:=by grind
 have hn:=S he;have ep:(di g (eJ now)).1.p=g.p:=by grind [di]
 have eo:(di g (eJ now)).1.o=g.o:=by grind [di]
 unfold fZ at k;rw[Vz (by grind)]at k;obtain⟨g1,h2⟩:∃g1,(di g (eJ now)).1=g1:=⟨_,rfl⟩;rw[h2]at k h U P ep eo;have h3:mj g.p:=ok.prb;refine⟨λla ln lc i H'=>∃(j:Nat) (ys:List Oy) (Q':aD),i=j/\j<=64/\ln=ys.length/\aH Q Q'/\ys.map Oy.o=(fY g1.s now g.o.period g.p j).2/\(∀y∈ys,iG Q' y)/\
   aA H' (Q'::slA 222 11 la ys.length lc (aF cu ys)::gateA Q' gb db { g1 with p:=(fY g1.s now g.o.period g.p j).1 }::F),
  λ_ _ _ i _=>64-i.toNat,⟨0,[],Q1,rfl,by omega,rfl,L,rfl,λy hy=>V0 hy (by simp),?_⟩,?_⟩
 .have e:({ g1 with p:=(fY g1.s now g.o.period g.p 0).1 }:Gg)=g1:=by
   show ({ g1 with p:=g.p }:Gg)=g1;rw[<-ep]
  rw[e];exact (h.sl_nil 222 11).o [1,0,2] 3
 rintro la ln lc i H2 ⟨j,ys,Q2,rfl,hj,rfl,D,hm,G,h⟩;obtain⟨W,pc,pl⟩:=Lu (s:=g1.s) (period:=g.o.period) h3 Z hn j hj;have h4:ys.length<=64:=by
  grind
 refine⟨λn=>?_,λn=>?_⟩
 .have n:j<64:=by grind
  have hw:i64.wrap ((j:Int)+1)=((j+1:Nat):Int):=by grind [aJ]
  intro Jn hJ;obtain⟨p,hp⟩:∃p,(fY g1.s now g.o.period g.p j).1=p:=⟨_,rfl⟩;rw[hp]at h W pc;obtain⟨x,pb,f,e1,e2,e3,h⟩:=iq.1 (h.o [2,0,1] 3);refine⟨some ⟨x.sb,0,none⟩,h.r 0,?_⟩;have h:=h.o [1,0,2,3,4,5,6,7,8] 9;refine Ji (s:=g1.s) U.R.ok h λH3 h=>⟨_,_,_,_,_,_,_,_,_,_,_,_,rfl,?_⟩
  have I:=P j n;obtain⟨A,hA⟩:∃A,j0 g1.s (j:Nat)=A:=⟨_,rfl⟩;have t:fY g1.s now g.o.period g.p (j+1)=if A.2=true/\dueP p (j:Nat) now g.o.period=true then (sndP p (j:Nat) A.1.en.epoch now,(fY g1.s now g.o.period g.p j).2++[iH (kA (j:Nat) p.boot p.count)]) else fY g1.s now g.o.period g.p j:=by
   grind [fY]
  rw[hA]at I ⊢;refine h.al λb _ h=>?_
  refine h.st 0 rfl rfl λH4 h=>?_
  have skip:¬(A.2=true/\dueP p (j:Nat) now g.o.period=true)->∀H',aA H' (stA Q2 x.sb g1.s::cellsA gb (kB g1.o x f.length g1.recs) 213::slA 222 11 x.pa f.length x.pc (aF cu f)::bookA x.bb x.rb g1.saved g1.num g1.seg::reelA x.rb db g1.rl::diskX db g1.rows g1.syn::prbA pb p::Q2::slA 222 11 la ys.length lc (aF cu ys)::F)->Jn la ys.length lc H':=by
   intro V H' h;rw[Vz V]at t;refine hJ _ _ _ _ ⟨⟨j+1,ys,Q2,hw,n,rfl,D,by grind,G,?_⟩,by grind⟩;rw[t,hp];have hg:=(iq (g:={ g1 with p:=p })).2 ⟨x,pb,f,e1,e2,e3,h.o [1,0,2,3,4,5,6,7,8] 9⟩;exact hg.o [1,2,0] 3
  have E:∀{H'},aA H' (cellsA b (encA A.1) 336::stA Q2 x.sb g1.s::cellsA gb (kB g1.o x f.length g1.recs) 213::slA 222 11 x.pa f.length x.pc (aF cu f)::bookA x.bb x.rb g1.saved g1.num g1.seg::reelA x.rb db g1.rl::diskX db g1.rows g1.syn::prbA pb p::Q2::slA 222 11 la ys.length lc (aF cu ys)::F)->aM H' gb (0+15)=some (PA pb 0):=λh=>(h.r 2).trans (by show some x.pv=_;rw[e1])
  have O:g1.o.period=g.o.period:=by rw[eo]
  have h:aA H4 (cellsA b (encA A.1) 336::stA Q2 x.sb g1.s::cellsA gb (kB g1.o x f.length g1.recs) 213::slA 222 11 x.pa f.length x.pc (aF cu f)::bookA x.bb x.rb g1.saved g1.num g1.seg::reelA x.rb db g1.rl::diskX db g1.rows g1.syn::prbA pb p::Q2::slA 222 11 la ys.length lc (aF cu ys)::F):=h;have w:=Su (ag:=(j:Nat)) (now:=now) (period:=g.o.period) W (h.o [7,0,1,2,3,4,5,6,8,9] 10);refine⟨λ_=>trivial,some ⟨pb,0,none⟩,λ_=>E h,λ_=>trivial,_,λ_=>h.r 2,dueP p (j:Nat) now g.o.period,λ_=>by rw[<-O]at w ⊢;exact w,λhx=>?_,λhx=>?_⟩
  .refine skip (λV=>?_) _ h.tl
   grind
  have v:A.2=true/\dueP p (j:Nat) now g.o.period=true:=by
   grind
  rw[V1 v]at t;have h6:=I v.1;have N:sndOk (j:Nat) A.1.en.epoch now=true:=by
   unfold sndOk tmB
   grind
  intro h0 Y;have J:∀(nb:Nat) (R:aD) H',aA H' (cellsA nb [I64ZZ p.boot,I64ZZ p.count] 452::cellsA b (encA A.1) 336::stA Q2 x.sb g1.s::cellsA gb (kB g1.o x f.length g1.recs) 213::slA 222 11 x.pa f.length x.pc (aF cu f)::bookA x.bb x.rb g1.saved g1.num g1.seg::reelA x.rb db g1.rl::diskX db g1.rows g1.syn::prbA pb (sndP p (j:Nat) A.1.en.epoch now)::Q2::slA 222 11 la ys.length lc (aF cu ys)::F)->h0 nb 0 0 H':=by
   intro nb R H' h;refine Y _ _ _ _ ⟨λZ=>V0 Z (by decide),λ_=>?_⟩
   refine h.al λb1 _ h=>?_
   refine h.st 0 rfl rfl λH8 h=>⟨_,_,_,h.q 0,_,h.r 1,_,h.r 1,?_⟩
   refine AM (T3 (j:Nat) p.boot p.count) h λB u H9 h=>⟨_,_,_,_,_,_,_,_,_,_,_,_,_,rfl,?_⟩
   refine h.al λb2 _ h=>?_
   refine h.append (m:=1) (ws:=cu ⟨iH (kA (j:Nat) p.boot p.count),B,u⟩) slOy 13 rfl (h.ce_rd 0 rfl) rfl (sd _) (by omega) (by omega) λa5 c5 h5 h=>⟨_,_,_,rfl,?_⟩
   have f1:aF cu ys++cu ⟨iH (kA (j:Nat) p.boot p.count),B,u⟩=aF cu (ys++[⟨iH (kA (j:Nat) p.boot p.count),B,u⟩]):=by grind [aF]
   have f2:ys.length+1=(ys++[(⟨iH (kA (j:Nat) p.boot p.count),B,u⟩:Oy)]).length:=by simp
   have h:=h.o [1,12,13,6,5,7,8,9,10,11] 14;rw[f1,f2]at h;rw[f2];have T:iG (slA 5 1 B (dO (kA (j:Nat) p.boot p.count)).length u ((dO (kA (j:Nat) p.boot p.count)).map U8)*Q2) ⟨iH (kA (j:Nat) p.boot p.count),B,u⟩:=⟨bB.sl (c:=u),h.sl_nc 0 rfl⟩;have h:=iI.2 h;generalize slA 5 1 B (dO (kA (j:Nat) p.boot p.count)).length u ((dO (kA (j:Nat) p.boot p.count)).map U8)=M at h T;have d:aH Q2 (M*Q2):=aH.add M Q2;have h:=Aa d (h.o [3,2,4,5,6,7,8,0,1] 9);have hg:=(iq (Q:=M*Q2) (g:={ g1 with p:=sndP p (j:Nat) A.1.en.epoch now })).2 ⟨x,pb,f,e1,e2,λz C=>(e3 z C).sub d,h.o [1,0,2,3,4,5,6,7,8] 9⟩
   refine hJ _ _ _ _ ⟨⟨j+1,ys++[⟨iH (kA (j:Nat) p.boot p.count),B,u⟩],M*Q2,hw,n,rfl,D.trans d,by grind,λz C=>?_,?_⟩,by grind⟩
   .rcases VJ.1 C with C|C
    .exact (G z C).sub d
    .rw [VH]at C;rw[C];exact T
   .rw [t];exact hg.o [1,2,0] 3
  refine⟨some ⟨pb,0,none⟩,E h,_,h.r 0,?_,?_⟩
  .have h:=h.o [7,0,1,2,3,4,5,6,8,9] 10;refine J6 W N h λH6 h=>⟨_,_,_,rfl,?_⟩
   refine h.al λb3 _ h=>?_
   refine h.st 0 rfl rfl λH7 h=>?_
   exact J b3 emp _ (h.o [0,2,3,4,5,6,7,8,1,9,10] 11)
  .refine h.al λb4 _ h=>⟨h.r 1,E h.tl,?_⟩
   have h:=h.o [8,0,1,2,3,4,5,6,7,9,10] 11;refine J6 W N h λH6 h=>⟨_,_,_,rfl,?_⟩
   refine h.st 1 rfl rfl λH7 h=>?_
   exact J b4 emp _ (h.o [1,2,3,4,5,6,7,8,0,9,10] 11)
 .have h1:j=64:=by grind
  subst h1;exact k Q2 ys _ _ _ D hm G h
end
structure Pk where
 up:Bool
 ag:Int
 sent:Int
 a:Xa
 c:Nat
 bs:List Int
def Pk.z:Pk:=⟨false,0,0,none,0,[]⟩
abbrev nE(p:Pk):Xb:=[.bool p.up,aB p.ag,aB p.sent,.slice p.a p.bs.length p.c]
abbrev mD(p:Pk):Value:=.agg #[.bool p.up,aB p.ag,aB p.sent,.slice p.a p.bs.length p.c]
abbrev Wpc:=Bool×Int×Int×List Int
def Pk.core(p:Pk):Wpc:=(p.up,p.ag,p.sent,p.bs)
structure Pk.In(Q:aD)(p:Pk):Prop where
 rd:bB Q p.a (p.bs.map U8)
 le:p.bs.length<=p.c
theorem Pk.In.sub{Q Q':aD}{p:Pk}(h:p.In Q)(hs:aH Q Q'):p.In Q':=⟨h.1.sub hs,h.2⟩
abbrev PM:=List (Int×Pk)
def oq(a:PM):List (Int×Wpc):=a.map λx=>(x.1,x.2.core)
theorem Lv(n:Int)(a:PM):oq (bD n a)=bD n (oq a):=by
 unfold oq bD;rw[List.filter_map];rfl
theorem Lw(n:Int):∀a:PM,aK n (oq a)=(aK n a).map Pk.core
 | []=>rfl
 | (x1,x2)::r=>by
  have b:=Lw n r;show aK n ((x1,x2.core)::oq r)=_;simp only[aK]
  split
  .rfl
  .exact b
structure Wr where
 most:Int
 next:Int:=0
 m:List (Int×Wpc):=[]
def badP(c:Wpc):Bool:=decide (c.2.1<0)||decide (64<=c.2.1)||decide (c.2.2.1<0)||decide (4611686018427387903<c.2.2.1)
def iK(w:Wr)(c:Wpc):Wr×Int×Int:=if badP c=true then (w,-1,10) else if w.most-w.m.length<1 then (w,-1,20) else ({ w with next:=w.next+1,m:=mset w.next c w.m },w.next,0)
def dblW(w:Wr)(n:Int):Wr×Int×Int:=match aK n w.m with|none=>(w,-1,19)|some c=>iK w c
def ir(w:Wr)(n:Int):Wr×Wpc×Int:=match aK n w.m with|none=>(w,(false,0,0,[]),19)|some c=>({ w with m:=bD n w.m },c,0)
structure kD(w:Wr):Prop where
 most:1<=w.most/\w.most<=4096
 len:(w.m.length:Int)<=w.most
 keys:∀p∈w.m,0<=p.1/\p.1<w.next
 next:0<=w.next/\w.next<=1000000000000
 bs:∀p∈w.m,aP p.2.2.2.2/\p.2.2.2.2.length<=1000000/\0<=p.2.2.1/\p.2.2.1<64
theorem xj(p:Pk):(nE p).length=4:=rfl
theorem mtW:hD Tryz.prog 199 2 230 mD Pk.z:=lP Tryz.underlying199 (by kernel_rfl)
def wireA(Q:aD)(wb:Nat)(w:Wr):aD:=exS λy:Nat×PM=>star [pur (oq y.2=w.m/\∀p∈y.2,p.2.In Q),cellsA wb [I64ZZ w.most,I64ZZ w.next,.map (some y.1)] 201,mapA I64ZZ mD y.1 y.2]
section
variable {F L:List aD}{H:aC}{K:KQ}{Q Q':aD}{w:Wr}{wb:Nat}
theorem ot:aA H (wireA Q wb w::F)↔∃mb m,oq m=w.m/\(∀p∈m,p.2.In Q)/\aA H (cellsA wb [I64ZZ w.most,I64ZZ w.next,.map (some mb)] 201::mapA I64ZZ mD mb m::F):=by
 unfold wireA;rw[cy]
 constructor
 .rintro⟨y,h⟩;obtain⟨a,h⟩:=nM.1 (aA.open h);exact⟨y.1,y.2,a.1,a.2,h⟩
 .rintro⟨x,evs,h1,h2,h⟩;exact⟨⟨x,evs⟩,aA.shut [_,_,_] (h.pur ⟨h1,h2⟩)⟩
theorem sf(hs:aH Q Q')(h:aA H (wireA Q wb w::F)):aA H (wireA Q' wb w::F):=by
 obtain⟨mb,m,b,a,h⟩:=ot.1 h;exact ot.2 ⟨mb,m,b,λe c=>(a e c).sub hs,h⟩
theorem Lx{most:Int}(h:aA H F)(k1:most<1\/4096<most->K (.tuple #[.pointer none,I64ZZ 11]) H)
  (k2:1<=most/\most<=4096->∀wb H',aA H' (wireA Q wb ⟨most,0,[]⟩::F)->K (.tuple #[PA wb 0,I64ZZ 0]) H'):CF 52 #[I64ZZ most] H K:=by
 refine cM 52 476 ⟨λa=>k1 (by grind),λa=>h.alm I64ZZ mD λmb _ h=>h.al λwb _ h=>?_⟩
 exact k2 (by grind) _ _ (ot.2 ⟨mb,[],rfl,λp b=>V0 b (by simp),h⟩)
theorem Ul{p:Pk}(h:aA H (Q::F))(j:∀H,aA H (Q::F)->aN H p.a (p.bs.map U8))(i:p.bs.length<=1000000)
  (k:∀Q' c H',aH Q Q'->c.In Q'->c.core=p.core->aA H' (Q'::F)->K (mD c) H'):CF 270 #[mD p] H K:=by
 refine cM 270 284 (h.al λb _ h=>h.al λb1 _ h=>⟨_,_,_,h.r 1,?_⟩)
 refine rE h (λH h=>j H (h.o [2] 3)) (by omega) λe f H' h=>⟨_,_,_,rfl,?_⟩
 have d:=h.sl_nc 0 rfl;refine h.st 2 rfl rfl λ_ h=>⟨_,_,_,_,_,_,h.q 2,h.st 1 rfl rfl λH2 h=>⟨_,_,_,_,_,_,h.q 1,?_⟩⟩
 have h:=h.o [0,3] 4;exact k _ ⟨p.up,p.ag,p.sent,e,f,p.bs⟩ _ (aH.add _ Q) ⟨bB.sl,d⟩ rfl (iI.2 h)
theorem Um{p:Pk}{la:Xa}{lc:Nat}(ok:kD w)(y:∀H,aA H (Q::F)->aN H la (aF nE [p]))(D:∀Q' H,aH Q Q'->aA H (Q'::F)->aN H p.a (p.bs.map U8))(hb:p.bs.length<=1000000)(h:aA H (Q::wireA Q wb w::F))
  (k:∀Q' H',aH Q Q'->aA H' (Q'::wireA Q' wb (iK w p.core).1::F)->K (.tuple #[I64ZZ (iK w p.core).2.1,I64ZZ (iK w p.core).2.2]) H'):CF 156 #[PA wb 0,.slice la 1 lc] H K:=by
 obtain⟨mb,m,e1,e2,h⟩:=ot.1 (swp h);have o1:=ok.most;have o2:=ok.len;have o3:=ok.next;have B:m.length=w.m.length:=by grind [oq]
 have c:∀{H'},aA H' (cellsA wb [I64ZZ w.most,I64ZZ w.next,.map (some mb)] 201::mapA I64ZZ mD mb m::Q::F)->aA H' (Q::wireA Q wb w::F):=λh=>swp (ot.2 ⟨mb,m,e1,e2,h⟩)
 refine cN 156 0x1215612399251b4d1215612399251144c [[(55,sI)],[(13,sI)]] ⟨λi H'=>(i=0\/i=1/\badP p.core=false)/\aA H' (cellsA wb [I64ZZ w.most,I64ZZ w.next,.map (some mb)] 201::mapA I64ZZ mD mb m::Q::F),λi _=>1-i.toNat,⟨.inl rfl,h⟩,?_⟩
 rintro i C ⟨hi,h⟩;refine⟨λA=>?_,λA=>?_⟩
 .obtain rfl:i=0:=by
   grind
  have j:=y C (h.o [2] 3);refine⟨⟨by omega,by omega⟩,_,_,j.some xj (by decide) (k:=0) (by simp),_,_,_,_,_,_,j.els xj (k:=0) (by simp),h.al λb1 _ h=>h.st 0 rfl rfl λH2 h=>⟨_,h.r 0,_,λ_=>h.r 0,_,λ_=>h.r 0,_,λ_=>h.r 0,λb=>?_,λb=>?_⟩⟩
  .have e:iK w p.core=(w,-1,10):=by unfold iK;rw[V1 (show badP p.core=true from b)]
   rw[e]at k;exact k Q _ (aH.refl Q) (c h.tl)
  .exact⟨⟨.inr ⟨by decide,b⟩,h.tl⟩,by dsimp only;decide⟩
 have hi:badP p.core=false:=by
  grind
 have u:i64.wrap (w.most-(m.length:Int))=w.most-w.m.length:=by grind [aJ]
 refine⟨_,h.r 0,_,h.r 0,_,h.mp_len mtW 1 rfl,?_⟩
 conv=>whnf
 rw[u];refine⟨λb=>?_,λb=>⟨_,h.r 0,?_⟩⟩
 .have e:iK w p.core=(w,-1,20):=by unfold iK;grind
  rw[e]at k;exact k Q _ (aH.refl Q) (c h)
 have e:iK w p.core=({ w with next:=w.next+1,m:=mset w.next p.core w.m },w.next,0):=by unfold iK;grind
 rw[e]at k;refine⟨λi H'=>i=0/\aA H' (cellsA wb [I64ZZ w.most,I64ZZ w.next,.map (some mb)] 201::mapA I64ZZ mD mb m::Q::F)\/i=1/\∃Q',aH Q Q'/\aA H' (Q'::wireA Q' wb { w with next:=w.next+1,m:=mset w.next p.core w.m }::F),λi _=>1-i.toNat,.inl ⟨rfl,h⟩,?_⟩
 clear h
 rintro i H2 h;refine⟨λd=>?_,λd=>?_⟩
 .rcases h with ⟨rfl,h⟩|⟨rfl,_⟩
  .have j:=y H2 (h.o [2] 3);refine⟨⟨by omega,by omega⟩,_,_,j.some xj (by decide) (k:=0) (by simp),_,_,_,_,_,_,j.els xj (k:=0) (by simp),h.al λb1 _ h=>h.st 0 rfl rfl λH2 h=>⟨_,h.r 1,_,h.r 1,_,_,_,_,_,_,h.q 0,?_⟩⟩
   refine Ul (p:=p) (h.o [3,1,2,0] 4) (λH h=>D Q H (aH.refl Q) (h.o [0] 4)) hb λQ2 x I f n t h=>⟨_,_,_,_,_,_,rfl,h.r 1,h.r 1,?_⟩
   refine h.mp_update (α:=Pk) (v:=x) mtW ko2 2 rfl λE h=>⟨_,h.r 1,?_⟩
   have u:i64.wrap (w.next+1)=w.next+1:=aJ
   conv=>whnf
   rw[u];refine h.st 1 rfl rfl λG h=>⟨.inr ⟨by decide,Q2,f,swp (ot.2 ⟨mb,mset w.next x m,?_,λq s=>?_,h.o [1,2,0] 4⟩)⟩,by dsimp only;decide⟩
   .grind [oq,mset,Lv]
   .rcases V9.1 s with rfl|s
    .exact n
    .exact (e2 q (mU.1 s).1).sub f
  .exact V0 d (by decide)
 .rcases h with ⟨rfl,_⟩|⟨rfl,Q',hs,h⟩
  .exact V0 d (by decide)
  .exact k Q' _ hs h
theorem Un{n:Int}(h:aA H (wireA Q wb w::F))(k:∀p H',p.In Q->p.core=(ir w n).2.1->aA H' (wireA Q wb (ir w n).1::F)->K (.tuple #[mD p,I64ZZ (ir w n).2.2]) H'):CF 103 #[PA wb 0,I64ZZ n] H K:=by
 obtain⟨mb,m,e1,e2,h⟩:=ot.1 h;have c:=Lw n m;rw[e1]at c;refine cM 103 72988 (h.al λb _ h=>⟨_,h.r 1,?_⟩)
 have hm:=h.mp_look (x:=n) mtW ko2 2 rfl
 cases hx:aK n m with
 | none=>
  rw[hx]at c;have e:ir w n=(w,(false,0,0,[]),19):=by grind [ir]
  rw[e]at k;refine⟨_,_,_,_,_,_,_,(hm.2 hx).1,h.al λb1 _ h=>h.st 0 rfl rfl λH2 h=>⟨λ_=>h.st 1 rfl rfl λd h=>⟨_,_,_,_,_,_,h.q 1,?_⟩,λa=>V0 a (by simp)⟩⟩
  exact k Pk.z _ ⟨bB.nil Q _,VD _⟩ rfl (ot.2 ⟨mb,m,e1,e2,h.tl.tl⟩)
 | some p=>
  rw[hx]at c;have e:ir w n=({ w with m:=bD n w.m },p.core,0):=by grind [ir]
  rw[e]at k;refine⟨_,_,_,_,_,_,_,(hm.1 p hx).1,h.al λb1 _ h=>h.st 0 rfl rfl λH2 h=>⟨λa=>V0 a (by simp),λ_=>⟨_,h.r 2,?_⟩⟩⟩
  refine h.mp_delete (α:=Pk) mtW ko2 3 rfl λd h=>⟨_,_,_,_,_,_,h.q 0,h.st 1 rfl rfl λi h=>⟨_,_,_,_,_,_,h.q 1,?_⟩⟩
  exact k p _ (e2 _ (fL hx)) rfl (ot.2 ⟨mb,bD n m,by grind [Lv],λq f=>e2 q (mU.1 f).1,h.tl.tl⟩)
end
structure Id3 where
 ag:Int
 ep:Int
 sq:Int
deriving DecidableEq
structure Vd where
 re:Int
 win:Int
deriving DecidableEq
abbrev kE(i:Id3):Xb:=[aB i.ag,aB i.ep,aB i.sq]
abbrev aggI3(i:Id3):Value:=.agg ⟨kE i⟩
abbrev encVd(v:Vd):Xb:=[aB v.re,aB v.win]
abbrev aggVd(v:Vd):Value:=.agg ⟨encVd v⟩
def badV(i:Id3)(v:Vd):Bool:=decide (i.ag<0)||decide (i.ep<0)||decide (i.sq<0)||decide (v.re<0)||decide (6<v.re)||((!decide (v.re=0))&&(!decide (v.win=0)))
abbrev Ldg:=List (Id3×Vd)
def j9(l:Ldg)(i:Id3)(v:Vd):Ldg×Int:=if badV i v=true then (l,10) else match aK i l with
 | none=>(mset i v l,0)
 | some o=>if o≠v then (l,18) else (mset i v l,0)
theorem mtL:hD Tryz.prog 191 136 138 aggVd ⟨0,0⟩:=lP Tryz.underlying191 (by kernel_rfl)
theorem mE:jG Tryz.prog 136 aggI3:=yB (enc:=kE) Tryz.underlying136 (λx y h=>by
  cases x;simp_all)
 (λx y=>by
  have h:nQ Tryz.prog 136 (kE x) (kE y)=some (x.ag == y.ag&&(x.ep == y.ep&&(x.sq == y.sq&&true))):=by kernel_rfl
  rw[h];congr 1;rw[Wd];simp only[Bool.and_true,V4,beq_iff_eq,V5]
  cases x;cases y
  simp)
 (λx=>by kernel_rfl) (λx n=>by unfold Instr.sameBits;simp[Instr.sameBits])
def ledA(lb:Nat)(l:Ldg):aD:=exS λmb:Nat=>star [cellsA lb [.map (some mb)] 193,mapA aggI3 aggVd mb l]
section
variable {F L:List aD}{H:aC}{K:KQ}{Q Q':aD}{l:Ldg}{lb:Nat}
theorem mF:aA H (ledA lb l::F)↔∃mb,aA H (cellsA lb [.map (some mb)] 193::mapA aggI3 aggVd mb l::F):=by
 grind [ledA,cy,aA.open,aA.shut]
theorem Uo(h:aA H F)(k:∀lb H',aA H' (ledA lb []::F)->K (PA lb 0) H'):CF 50 #[] H K:=by
 refine cM 50 28 (h.alm aggI3 aggVd λmb _ h=>h.al λlb _ h=>?_)
 exact k _ _ (mF.2 ⟨mb,h⟩)
theorem Ly{i:Id3}(h:aA H (ledA lb l::F))(k:∀H',aA H' (ledA lb l::F)->K (.tuple #[aggVd ((aK i l).getD ⟨0,0⟩),.bool (aK i l).isSome]) H'):CF 95 #[PA lb 0,aggI3 i] H K:=by
 obtain⟨mb,h⟩:=mF.1 h;refine cM 95 284 (h.al λb _ h=>h.al λb1 _ h=>⟨_,h.r 2,_,_,_,h.q 1,?_⟩)
 have hm:=h.mp_look (x:=i) mtL mE 3 rfl
 cases hx:aK i l with
 | none=>
  rw[hx]at k;refine⟨_,_,_,(hm.2 hx).1,h.al λb2 _ h=>⟨((h.mp_look (x:=i) mtL mE 4 rfl).2 hx).1,h.q 2,h.r 3,h.st 0 rfl rfl λa h=>⟨_,_,h.q 0,h.st 1 rfl rfl λH2 h=>⟨_,_,h.q 1,?_⟩⟩⟩⟩
  exact k _ (mF.2 ⟨mb,h.tl.tl.tl⟩)
 | some v=>
  rw[hx]at k;refine⟨_,_,_,(hm.1 v hx).1,h.al λb2 _ h=>⟨((h.mp_look (x:=i) mtL mE 4 rfl).1 v hx).1,h.q 2,h.r 3,h.st 0 rfl rfl λa h=>⟨_,_,h.q 0,h.st 1 rfl rfl λH2 h=>⟨_,_,h.q 1,?_⟩⟩⟩⟩
  exact k _ (mF.2 ⟨mb,h.tl.tl.tl⟩)
theorem neqVd(o v:Vd):fH Tryz.prog .neq 138 (aggVd o) (aggVd v) (!decide (o=v)):=by
 have h:nQ Tryz.prog 138 (encVd o) (encVd v)=some (o.re == v.re&&(o.win == v.win&&true)):=by kernel_rfl
 have e:(o.re == v.re&&(o.win == v.win&&true))=decide (o=v):=by
  rw[Wd];simp only[Bool.and_true,V4,beq_iff_eq,V5]
  cases o;cases v
  simp
 rw[e]at h;exact (rz h).2
theorem Up{i:Id3}{v:Vd}(h:aA H (ledA lb l::F))(k:∀H',aA H' (ledA lb (j9 l i v).1::F)->K (I64ZZ (j9 l i v).2) H'):CF 96 #[PA lb 0,aggI3 i,aggVd v] H K:=by
 obtain⟨mb,h⟩:=mF.1 h;refine cM 96 30546716 (h.al λb _ h=>h.al λb1 _ h=>⟨_,h.r 1,_,λ_=>h.r 1,_,λ_=>h.r 1,_,λ_=>h.r 0,_,λ_=>h.r 0,_,λ_=>h.r 0,_,λ_=>h.r 0,λc=>?_,λc=>⟨_,h.r 2,_,_,_,h.q 1,?_⟩⟩)
 .have e:j9 l i v=(l,10):=by unfold j9;rw[V1 (show badV i v=true from c)]
  rw[e]at k;exact k _ (mF.2 ⟨mb,h.tl.tl⟩)
 have c:¬badV i v=true:=by grind [badV]
 have hm:=h.mp_look (x:=i) mtL mE 3 rfl
 cases hx:aK i l with
 | none=>
  have e:j9 l i v=(mset i v l,0):=by unfold j9;grind
  rw[e]at k;refine⟨_,_,_,(hm.2 hx).1,h.al λb2 _ h=>⟨((h.mp_look (x:=i) mtL mE 4 rfl).2 hx).1,h.q 2,h.r 3,h.st 0 rfl rfl λd h=>⟨0,0,λa=>V0 a (by simp),0,0,λa=>V0 a (by simp),false,λa=>V0 a (by simp),λa=>V0 a (by simp),λ_=>⟨_,h.r 3,_,_,_,h.q 2,_,_,h.q 1,?_⟩⟩⟩⟩
  exact h.mp_update (x:=i) (v:=v) mtL mE 4 rfl λH2 h=>k _ (mF.2 ⟨mb,h.tl.tl.tl⟩)
 | some o=>
  refine⟨_,_,_,(hm.1 o hx).1,h.al λb2 _ h=>⟨((h.mp_look (x:=i) mtL mE 4 rfl).1 o hx).1,h.q 2,h.r 3,h.st 0 rfl rfl λd h=>⟨_,_,λ_=>h.q 0,_,_,λ_=>h.q 1,_,λ_=>neqVd o v,λa=>?_,λa=>⟨_,h.r 3,_,_,_,h.q 2,_,_,h.q 1,?_⟩⟩⟩⟩
  .have e:j9 l i v=(l,18):=by unfold j9;grind
   rw[e]at k;exact k _ (mF.2 ⟨mb,h.tl.tl.tl⟩)
  .have e:j9 l i v=(mset i v l,0):=by unfold j9;grind
   rw[e]at k;exact h.mp_update (x:=i) (v:=v) mtL mE 4 rfl λH2 h=>k _ (mF.2 ⟨mb,h.tl.tl.tl⟩)
end
open  Go.Shelf Go.RowKit Go.Lib Go.Sort
def or3(a b c:Int):Int:=if a≠0 then a else if b≠0 then b else c
theorem or189(a b c:Int)(k:Nat)(W:World)(w:W.cell? ⟨k,0,none⟩=some (.int .i64 a))(v:W.cell? ⟨k,1,none⟩=some (.int .i64 b))(u:W.cell? ⟨k,2,none⟩=some (.int .i64 c)) :
  Calls Tryz.prog 307 #[.slice (some ⟨k,0,none⟩) 3 3] W λe m=>e=.returned (.int .i64 (or3 a b c))/\m=W:=by
 obtain⟨r,h⟩:∃r,r=or3 a b c:=⟨_,rfl⟩;rw[<-h];have HS:Hid (r=or3 a b c):=h
 clear h
 go_enter Tryz.func307,Tryz.ntmps307
 go_wp2
 go_loop [8] (λi=>∃n:Nat,i=.int .i64 n/\n<=3/\(1<=n->a=0)/\(2<=n->b=0)/\(3<=n->c=0)) (λi=>3-(intOf i).toNat)
 case atStart=>grind
 case round=>
  obtain⟨n,rfl,t,q1,q2,q3⟩:=hrel;have s:n=0\/n=1\/n=2\/n=3:=by omega
  rcases s with rfl|rfl|rfl|rfl
  .go_wp2
   .go_ret
    have f:a≠0:=by grind
    exact⟨by rw[show r=a from by rw[HS.out];unfold or3;grind];rfl,rfl⟩
   .go_round
    case rel=>grind
    case measure=>simp[intOf]
  .have d:Hid (a=0):=q1 (by omega)
   clear q1 q2 q3
   go_wp2
   .go_ret
    have f:b≠0:=by grind
    exact⟨by rw[show r=b from by rw[HS.out];unfold or3;rw[Vz (by rw[d.out];simp),V1 f]];rfl,rfl⟩
   .go_round
    case rel=>exact⟨2,rfl,by omega,λ_=>d.out,λ_=>by grind,by omega⟩
    case measure=>simp[intOf]
  .have d:Hid (a=0):=q1 (by omega);have hb:Hid (b=0):=q2 (by omega)
   clear q1 q2 q3
   go_wp2
   .go_ret
    exact⟨by rw[show r=c from by rw[HS.out];unfold or3;rw[Vz (by rw[d.out];simp),Vz (by rw[hb.out];simp)]];rfl,rfl⟩
   .go_round
    case rel=>exact⟨3,rfl,by omega,λ_=>d.out,λ_=>hb.out,λ_=>by grind⟩
    case measure=>simp[intOf]
  .have d:Hid (a=0):=q1 (by omega);have hb:Hid (b=0):=q2 (by omega);have j:Hid (c=0):=q3 (by omega)
   clear q1 q2 q3
   go_wp2
   go_ret
   exact⟨by rw[show r=0 from by rw[HS.out];unfold or3;rw[Vz (by rw[d.out];simp),Vz (by rw[hb.out];simp),j.out]];rfl,rfl⟩
def nF(x y:Id3):Int:=or3 (jL x.ag y.ag) (jL x.ep y.ep) (jL x.sq y.sq)
theorem cmp109(x y:Id3)(W:World):Calls Tryz.prog 181 #[.agg #[.int .i64 x.ag,.int .i64 x.ep,.int .i64 x.sq],.agg #[.int .i64 y.ag,.int .i64 y.ep,.int .i64 y.sq]] W λe a=>e=.returned (.int .i64 (nF x y))/\∃q c,a=grow (W.drewN q) c:=by
 obtain⟨r,d⟩:∃r,r=nF x y:=⟨_,rfl⟩;rw[<-d];have HS:Hid (r=nF x y):=d
 clear d
 unfold nF at HS;have i:=λb=>vY x.ag y.ag b
 have h:=λb=>vY x.ep y.ep b
 have f:=λb=>vY x.sq y.sq b
 generalize jL x.ag y.ag=r1 at *;generalize jL x.ep y.ep=r2 at *;generalize jL x.sq y.sq=r3 at *
 go_enter Tryz.func181,Tryz.ntmps181
 go_wp2
 have e1:∀n,W.heap.size+1+n≠W.heap.size:=λn=>by omega
 go_region_held3 (λa=>a.cell? ⟨W.heap.size,0,none⟩=some (.int .i64 x.ag)/\a.cell? ⟨W.heap.size,1,none⟩=some (.int .i64 x.ep)/\a.cell? ⟨W.heap.size,2,none⟩=some (.int .i64 x.sq)/\a.cell? ⟨W.heap.size+1,0,none⟩=some (.int .i64 y.ag)/\a.cell? ⟨W.heap.size+1,1,none⟩=some (.int .i64 y.ep)/\a.cell? ⟨W.heap.size+1,2,none⟩=some (.int .i64 y.sq)) (go_keep)
  (first|(go_at_call_of 308 (Value.int .i64 x.ag);refine (i _).mono ?_;rintro e a ⟨rfl,rfl⟩)|(go_at_call_of 308 (Value.int .i64 x.ep);refine (h _).mono ?_;rintro e a ⟨rfl,rfl⟩)|(go_at_call_of 308 (Value.int .i64 x.sq);refine (f _).mono ?_;rintro e a ⟨rfl,rfl⟩)|(go_at_call 307;refine (or189 r1 r2 r3 _ _ ?_ ?_ ?_).mono ?_;(simp[go_sem]);(simp[go_sem]);(simp[go_sem]);rintro e a ⟨rfl,rfl⟩))
 all_goals go_wp2
 all_goals (go_ret;exact⟨by rw[HS.out];rfl,_,_,by rw[alloc_eq_grow,alloc_eq_grow,alloc_eq_grow,grow_grow,grow_grow];rfl⟩)
theorem ltI3(x y:Id3):ltOf nF x y=true↔x.ag<y.ag\/x.ag=y.ag/\(x.ep<y.ep\/x.ep=y.ep/\x.sq<y.sq):=by
 unfold ltOf nF or3 jL
 grind
theorem swoI3:SWO (ltOf nF) where
 irrefl x:=by rw[WA,Ne,ltI3];omega
 trans x y z h1 h2:=by grind [ltI3]
 ntrans x y z h1 h2:=by rw[WA,Ne,ltI3]at *;omega
theorem totI3(x y:Id3)(b:ltOf nF x y=false)(a:ltOf nF y x=false):x=y:=by
 rw[WA,Ne,ltI3]at b a
 cases x;cases y
 grind
instance:Inhabited Id3:=⟨⟨0,0,0⟩⟩
theorem AX(x:Id3):(kE x).length=3:=rfl
theorem slI3:SlT Tryz.prog 342 136 3 24:=eG (by kernel_rfl)
theorem Uq:∀args w,(callFunc 181 args).run Tryz.prog w=.ok (.enter 181 args) w:=λargs w=>by kernel_rfl
section
variable {L:List aD}{H:aC}{K:KQ}
theorem Ur{a:Xa}{c:Nat}{xs:List Id3}(h:aA H L)(i:Nat)(f:aS i L=slA 136 3 a xs.length c (aF kE xs))(b:xs.length<4611686018427387904)
  (k:∀ys H',ys.Perm xs->aA H' (put i (slA 136 3 a ys.length c (aF kE ys)) L)->K (.tuple #[]) H') :
  CF 305 #[.slice a xs.length c,.func (.func 181) #[] #[]] H K:=
 Gn Tryz.sortIA Tryz.isAgg136 Tryz.sizeOf136 AX (λx v d=>by simp[kE]at d;rcases d with rfl|rfl|rfl <;> rfl) swoI3 Uq cmp109 totI3 h i f b λH' h=>by
  have e:=List.mergeSort_perm xs λx y=>!(ltOf nF) y x
  exact k _ H' e (by rw[e.length_eq];exact h)
theorem Us{r:Nat}{m:Ldg}(h:aA H L)(i:Nat)(b:aS i L=mapA aggI3 aggVd r m)(k:∀a H',aA H' (mapA aggI3 aggVd a m::L)->K (.map (some a)) H'):CF 178 #[.map (some r)] H K:=tF Tryz.cloneI4 h i b λH' h _=>k _ H' h
end
def gR:Rp:=⟨1,0,0,0,0,0,0,Smp.z,[]⟩
def AY(o:Opt)(s:aV)(rows:DR):Gg:=
 ⟨o,(cH s gR).1,⟨(cH s gR).1.boots,o.probes,0,[],[]⟩,[],0,false,0,0,{ jS rows (opS o.segment rows) ⟨1,gR.bytes⟩ with syn:=(jS rows (opS o.segment rows) ⟨1,gR.bytes⟩).next },
  mq rows (opS o.segment rows) ⟨1,gR.bytes⟩,(mq rows (opS o.segment rows) ⟨1,gR.bytes⟩).length⟩
section
variable {F L:List aD}{H:aC}{K:KQ}{Q:aD}{o:Opt}{db:Nat}{syn:Nat}
theorem Ut{c:Cfg}{f:Fy}{e:Xa}{j:Nat}(A:iZ c=true)(R0:Rch (cR c))(h:aA H (Q::F))
  (k:∀sb a n H',aA H' (Q::slA 222 11 a 0 n []::stA Q sb (cR c)::F)->K (.tuple #[PA sb 0,.slice a 0 n,I64ZZ 0]) H') :
  CF 89 #[.agg ⟨qq c⟩,.agg #[cF f,.bool false,.slice e 0 j]] H K:=by
 refine cN 89 0x1121749d1215612399251442156123992511d1d44c [[(9,sS),(54,sI)],[(9,sS),(36,sI)],[(7,sP),(8,sI)]] ?_;refine h.al λb _ h=>?_
 refine h.al λb1 _ h=>⟨_,_,_,_,_,_,_,_,_,h.q 1,?_⟩
 refine RR (Q:=Q) h (λu=>V0 u (by grind)) λ_ sb v h=>⟨some ⟨sb,0,none⟩,_,rfl,_,h.r 1,?_⟩
 intro E y;refine⟨λhb=>V0 hb (by decide),λhb=>y _ _ _ ⟨λs=>V0 s (by decide),λ_=>?_⟩⟩
 have h:aA v (stA Q sb (cR c)::cellsA b1 [cF f,.bool false,.slice e 0 j] 205::cellsA b (qq c) 26::Q::F):=h;refine RU (by simp[cR]) (h.o [0,3,1] 4) λka kc D h=>⟨_,_,_,rfl,?_⟩
 refine⟨λla m lc i H'=>i=0/\m=0/\aA H' (Q::slA 222 11 la 0 lc []::stA Q sb (cR c)::cellsA b1 [cF f,.bool false,.slice e 0 j] 205::F),λ_ _ _ _ _=>0,⟨rfl,rfl,(h.sl_nil 222 11).o [3,0,2,4] 5⟩,?_⟩
 rintro la m lc i B ⟨rfl,rfl,h⟩;refine⟨λd=>V0 d (by simp[cR]),λ_=>?_⟩
 refine⟨_,_,_,h.r 3,?_⟩;refine⟨λla m lc i H'=>i=0/\m=0/\aA H' (Q::slA 222 11 la 0 lc []::stA Q sb (cR c)::cellsA b1 [cF f,.bool false,.slice e 0 j] 205::F),λ_ _ _ _ _=>0,⟨rfl,rfl,h⟩,?_⟩
 rintro x w t i2 C ⟨rfl,rfl,h⟩;refine⟨λd=>V0 d (by simp),λ_=>?_⟩
 exact k sb _ _ _ (h.o [0,1,2] 4)
theorem Uu(j:mA o=true)(v:iD o.segment []=0)(s:(opS o.segment []).seg<2147483647)(D:(opS o.segment []).ok)
  (m:(cH (cR o.cfg) gR).2.2=0) (f:1<=(cH (cR o.cfg) gR).1.boots/\(cH (cR o.cfg) gR).1.boots<=1099511627776)
  (h:aA H (Q::diskX db [] syn::F))
  (k:∀Q' gb a c H',aH Q Q'->aA H' (Q'::slA 222 11 a 0 c []::gateA Q' gb db (AY o (cR o.cfg) [])::F)->K (.tuple #[PA gb 0,.slice a 0 c,I64ZZ 0]) H'):CF 53 #[PA db 0,.agg ⟨nC o⟩] H K:=by
 refine cM 53 8194785019629852 ?_;have u:iZ o.cfg=true:=by
  unfold mA at j
  grind
 have R0:Rch (cR o.cfg):=Lk (wT u);refine h.al λb _ h=>⟨_,_,_,_,_,_,_,_,_,_,_,_,_,h.q 0,?_⟩
 refine KH (o:=o) h λH1 h=>⟨_,rfl,λd=>?_,λ_=>?_⟩
 .rw [j]at d;cases d
 refine⟨_,h.r 0,?_⟩;have h:=h.o [2,0,1] 3;refine TE (λr T=>by cases T) (by simp) h (λ_ P L fy w a c bb rb H2 n M h=>⟨_,_,_,_,_,_,_,_,_,rfl,?_⟩) λE=>V0 v E
 refine h.al λb1 _ h=>?_
 refine h.st 0 rfl rfl λH3 h=>⟨λd=>V0 d (by simp),λ_=>⟨_,_,_,_,_,_,_,_,_,h.q 6,_,_,_,_,_,_,_,h.q 0,?_⟩⟩
 have h:=h.o [7,4,3,0,1,2,5,6] 8;have G:=M.tell;have i:oo (jT [])=(none,[]):=by rw[ex_all.2.1];rfl
 rw[n,i]at G;obtain rfl:w=false:=by grind
 obtain rfl:L=[]:=by
  have:L.map Ry.rc=[]:=by grind
  exact List.map_eq_nil_iff.1 this
 refine Ut (c:=o.cfg) u R0 h λsb O Z H4 h=>⟨_,_,_,_,_,rfl,λd=>V0 d (by simp),λ_=>?_⟩
 have t:(cR o.cfg).kept.length<=1000000:=by simp[cR]
 obtain⟨I,B⟩:∃I,cR o.cfg=I:=⟨_,rfl⟩;rw[B]at R0 t m f k h;refine⟨_,_,_,_,_,_,_,_,_,_,_,_,_,h.q 9,?_⟩;refine h.al λb2 H5 h=>?_
 have h:=h.sl_nil 222 11;have h:=h.o [2,1,4,0,8,9,10,3,11] 12;have v:=Lo (r:=gR) R0 (λe J=>V0 J (by simp[gR]))
 refine KF (r:=gR) (x:=⟨bb,rb,sb,.pointer none,none,0⟩) (o:=o) (recs:=0) (ys:=[]) R0.ok (by have:=R0.sunk;omega) t (recN rfl) v.1 v.2 D (by simp) s (by omega) (by simp) (λy R=>V0 R (by simp)) h (λJ=>V0 m J) λ_ Q2 zs pa pc H6 A S N h=>?_
 refine⟨_,rfl,λd=>V0 d (by decide),λ_=>?_⟩
 refine⟨some ⟨bb,0,none⟩,h.r 1,some ⟨rb,0,none⟩,h.r 4,?_⟩;have h:=h.o [5,6,0,1,2,3,4,7,8] 9;refine Kq h λH7 h=>⟨rfl,?_⟩
 refine h.st 3 rfl rfl λH8 h=>?_
 refine h.st 3 rfl rfl λH9 h=>⟨some ⟨sb,0,none⟩,h.r 3,?_⟩
 refine⟨_,RT (h.o [4,0,1,2,3,5,6,7,8] 9),_,h.r 8,?_⟩;have C:1<=o.probes/\o.probes<=1024:=by
  unfold mA at j
  grind
 refine J4 h (λE=>V0 ⟨f.1,f.2,C⟩ E) λ_ pb V h=>⟨_,_,rfl,?_⟩
 refine h.st 4 rfl rfl λY h=>?_
 have h:=(h.o [4,5,7,1,2,0,3,8] 10).sl_nil 222 11;have h:=h.o [1,2,0,3,4,5,6,7,8] 9;have W:=(iq (Q:=Q2) (g:=AY o I [])).2 ⟨⟨bb,rb,sb,PA pb 0,none,0⟩,pb,[],rfl,rfl,λz U=>V0 U (by simp),h⟩
 exact k Q2 b2 O Z _ A (W.o [1,2,0] 3)
end
structure GCZZ where
 what:Int
 ag:Int
 now:Int
 next:Int
 keep:Int
 a:Xa
 c:Nat
 bs:List Int
abbrev encGc(x:GCZZ):Xb:=[I64ZZ x.what,I64ZZ x.ag,I64ZZ x.now,I64ZZ x.next,I64ZZ x.keep,.slice x.a x.bs.length x.c]
theorem Lz(x:GCZZ):(encGc x).length=6:=rfl
structure GcK(Q:aD)(a:Xa)(xs:List GCZZ):Prop where
 row:bB Q a (aF encGc xs)
 bs:∀x∈xs,bB Q x.a (x.bs.map U8)
 ok:∀x∈xs,aP x.bs/\aG x.keep
 len:xs.length<=maxLen
def grG(o:Opt)(xs:List GCZZ):Bool:=decide (60<xs.length)||grC o.cfg 0||xs.any λx=>decide (3000<x.bs.length)
section
variable {F L:List aD}{H:aC}{K:KQ}{Q:aD}{gb db:Nat}{g:Gg}{o:Opt}
abbrev eR(p:Prop)[Decidable p]:Int:=if p then 0 else 11
theorem Uv{a:Xa}{c:Nat}{xs:List GCZZ}(h:aA H (Q::F))(n:GcK Q a xs)(k:∀H',aA H' (Q::F)->K (.bool (grG o xs)) H'):CF 15 #[.agg ⟨nC o⟩,.slice a xs.length c] H K:=by
 refine cN 15 0x12283c921562139925b4c [[(5,sI)],[(13,sB)]] ?_;refine h.al λb _ h=>?_
 have m:=n.len;unfold maxLen at m;intro N v;refine⟨_,_,_,_,_,_,_,_,_,λ_=>h.q 0,λy=>?_,λy=>?_⟩
 .refine Se (cf:=o.cfg) (xs:=[]) (a:=none) (c:=0) (h.o [1,0] 2) ⟨λH F _=>fK _ _,λx n=>V0 n (by simp),by simp⟩ λM h=>⟨_,rfl,v _ _ ?_⟩
  have C:grR o.cfg []=grC o.cfg 0:=by simp[grR]
  rw[C];have I:decide (60<xs.length)=false:=decide_eq_false (by grind);have E:grG o xs=(grC o.cfg 0||xs.any λx=>decide (3000<x.bs.length)):=by unfold grG;grind
  refine⟨λe=>?_,λe=>?_⟩
  .have e:grC o.cfg 0=true:=e;have:grG o xs=true:=by grind
   rw[this]at k;exact k _ (h.o [0] 2)
  .refine⟨λi H'=>∃j:Nat,i=j/\j<=xs.length/\(∀q (w:q<xs.length),q<j->xs[q].bs.length<=3000)/\aA H' (Q::cellsA b (nC o) 28::F),λi H'=>xs.length-i.toNat,⟨0,rfl,by omega,λq _ h=>V0 h (by omega),h⟩,?_⟩
   rintro i H2 ⟨j,rfl,L,u,h⟩;refine⟨λA=>?_,λA=>?_⟩
   .have d:j<xs.length:=by grind
    have t:=n.row.at h 0 rfl;refine⟨⟨by omega,by omega⟩,_,_,t.some Lz (by decide) d,_,_,_,t.el Lz d 5 rfl,λf=>?_,λf=>?_⟩
    .have f:=V3 f;have:grG o xs=true:=by
      grind
     rw[this]at k;exact k _ (h.o [0] 2)
    .have f:=V2 f;have J:i64.wrap ((j:Int)+1)=((j+1:Nat):Int):=by grind [aJ]
     refine⟨⟨j+1,J,d,λq w B=>?_,h⟩,by grind⟩
     grind
   .have G:¬j<xs.length:=by grind
    have:grG o xs=false:=by
     have e:grC o.cfg 0=false:=e;rw[E,e,WE,List.any_eq_false];intro x s;obtain⟨q,w,rfl⟩:=Wu s
     grind
    rw[this]at k;exact k _ (h.o [0] 2)
 .have:grG o xs=true:=by
   unfold grG
   grind
  rw[this]at k;exact v _ _ ⟨λ_=>k _ h.tl,λD=>V0 D (by simp)⟩
section
variable {j:Nat}{was:List aV}{Ek E:List Eff}{R:DR}{LL:LG}{n0:Int}{kk:Nat}
theorem opt_cfg(a:mA o=true):iZ o.cfg=true:=by
 unfold mA at a
 grind
end
end
def cY(f:Nat->Value):Nat->Nat->Xb->Xb
 | 0,_,T=>T
 | n+1,i,T=>f i::cY f n (i+1) T
def upd{α:Type}(f:Nat->α)(j:Nat)(v:α):Nat->α:=λi=>if i=j then v else f i
theorem xk{α:Type}(f:Nat->α)(j:Nat)(v:α):upd f j v j=v:=V1 rfl
theorem ut{α:Type}(f:Nat->α){j i:Nat}(v:α)(h:i≠j):upd f j v i=f i:=Vz h
theorem L0(f:Nat->Value)(T:Xb):∀(n i j:Nat),j<n->aI (cY f n i T) j=some (f (i+j))
 | 0,_,_,h=>V0 h (by omega)
 | n+1,i,0,_=>rfl
 | n+1,i,j+1,h=>by
  show aI (cY f n (i+1) T) j=_;rw[L0 f T n (i+1) j (by omega)];congr 2;omega
theorem AZ(f:Nat->Value)(T:Xb)(v:Value):∀(n i j:Nat),j<n->(cY f n i T).set j v=cY (upd f (i+j) v) n i T
 | 0,_,_,h=>V0 h (by omega)
 | n+1,i,0,_=>by
  show v::cY f n (i+1) T=upd f (i+0) v i::cY (upd f (i+0) v) n (i+1) T;simp only[Wk];rw[xk];congr 1;have:∀(m k:Nat),i<k->cY f m k T=cY (upd f i v) m k T:=by
   intro m
   induction m with
   | zero=>intros;rfl
   | succ m ih=>intro k a;show f k::_=upd f i v k::_;grind [ut]
  grind
 | n+1,i,j+1,h=>by
  show f i::(cY f n (i+1) T).set j v=upd f (i+(j+1)) v i::cY (upd f (i+(j+1)) v) n (i+1) T;rw[AZ f T v n (i+1) j (by omega),ut f v (by omega),show i+1+j=i+(j+1) by omega]
theorem xl(f:Nat->Value)(T:Xb)(v:Value)(j:Nat):∀(n i:Nat),(cY f n i T).set (n+j) v=cY f n i (T.set j v)
 | 0,i=>by rw[VB];rfl
 | n+1,i=>by
  rw[show n+1+j=(n+j)+1 by omega];show f i::(cY f n (i+1) T).set (n+j) v=_;rw[xl f T v j n (i+1)];rfl
theorem Ba(f:Nat->Value)(T:Xb)(j:Nat):∀(n i:Nat),aI (cY f n i T) (n+j)=aI T j
 | 0,i=>by rw[VB];rfl
 | n+1,i=>by
  rw[show n+1+j=(n+j)+1 by omega];exact Ba f T j n (i+1)
structure Fc where
 id:Id3
 boot:Int
 tr:Int
 e:Pv
structure FcE where
 id:Id3
 boot:Int
 tr:Int
 e:Ev
def FcE.p(x:FcE):Fc:=⟨x.id,x.boot,x.tr,x.e.p⟩
abbrev iL(x:FcE):Xb:=[aB x.id.ag,aB x.id.ep,aB x.id.sq,aB x.boot,aB x.tr,aB x.e.stamp,aB x.e.value,.string x.e.name,.slice x.e.la x.e.labs.length x.e.lc]
abbrev Pt:=Int×Int
abbrev nG(x:Pt):Xb:=[aB x.1,aB x.2]
abbrev aggPt(x:Pt):Value:=.agg ⟨nG x⟩
structure Sl where
 a:Xa
 c:Nat
 pts:List Pt
def Sl.z:Sl:=⟨none,0,[]⟩
abbrev aggSl(s:Sl):Value:=.slice s.a s.pts.length s.c
structure bG where
 o:Opt
 buf:Int
 pk:Int
 now:Int:=0
 led:Ldg:=[]
 spans:List (Id3×Pt):=[]
 sink:List (List Int):=[]
 facts:List Fc:=[]
 rds:List (Pt×List Pt):=[]
 forged:Nat->Bool:=λ_=>false
 lagged:Nat->Bool:=λ_=>false
 ags:Nat->Ag
 w:Wr
 g:Gg
structure FlX where
 lb:Nat
 sm:Nat
 sa:Xa
 sc:Nat
 fa:Xa
 fc:Nat
 rm:Nat
 wb:Nat
 db:Nat
 gb:Nat
abbrev fE(f:bG)(x:FlX)(ab:Nat->Nat)(ns nf:Nat):Xb:=
 PA x.lb 0::.map (some x.sm)::.slice x.sa ns x.sc::.slice x.fa nf x.fc::.map (some x.rm)::cY (λi=>.bool (f.forged i)) 64 0 (cY (λi=>.bool (f.lagged i)) 64 0
  (nC f.o++(aB f.buf::aB f.pk::aB f.now::cY (λi=>PA (ab i) 0) 64 0 [PA x.wb 0,PA x.db 0,PA x.gb 0])))
def agsX(Q:aD)(ab:Nat->Nat)(ags:Nat->Ag)(sk:Nat):Nat->aD
 | 0=>emp
 | n+1=>if n=sk then agsX Q ab ags sk n else agA Q (ab n) (ags n)*agsX Q ab ags sk n
section
variable {F L:List aD}{H:aC}{K:KQ}{Q Q':aD}{ab:Nat->Nat}{ags:Nat->Ag}
theorem L1{s s':Nat}:∀{n:Nat},n<=s->n<=s'->agsX Q ab ags s n=agsX Q ab ags s' n
 | 0,_,_=>rfl
 | n+1,h1,h2=>by unfold agsX;rw[nO,nO,L1 (s:=s) (s':=s') (by omega) (by omega)]
theorem Bb{j s:Nat}:∀{n:Nat},j<n->n<=s->agsX Q ab ags s n=agA Q (ab j) (ags j)*agsX Q ab ags j n
 | 0,h,_=>V0 h (by omega)
 | n+1,h,hs=>by
  unfold agsX;rw[nO]
  by_cases e:n=j
  .subst e;rw[V1 rfl,L1 (s:=s) (s':=n) (by omega) (VD _)]
  .rw [Vz e,Bb (j:=j) (n:=n) (by omega) (by omega),sW]
theorem Bc{j:Nat}{g:Ag}:∀{n:Nat},agsX Q ab (upd ags j g) j n=agsX Q ab ags j n
 | 0=>rfl
 | n+1=>by
  unfold agsX
  split
  .exact Bc
  .rename_i h;rw[ut ags g h,Bc]
theorem qD(hs:aH Q Q'){s:Nat}:∀{n:Nat} {F:List aD} {H:aC},aA H (agsX Q ab ags s n::F)->aA H (agsX Q' ab ags s n::F)
 | 0,_,_,h=>h
 | n+1,F,H,h=>by
  unfold agsX at h ⊢
  split
  .rename_i e;rw[V1 e]at h;exact qD hs h
  .rename_i e;rw[Vz e]at h;have h:=xe hs (iI.1 h);have h:=qD hs (swp h);exact iI.2 (swp h)
theorem L2{j:Nat}(a:j<64)(h:aA H (agsX Q ab ags 64 64::F)):aA H (agA Q (ab j) (ags j)::agsX Q ab ags j 64::F):=by
 rw[Bb a (VD _)]at h;exact iI.1 h
theorem Bd{j:Nat}{g:Ag}(a:j<64)(h:aA H (agA Q (ab j) g::agsX Q ab ags j 64::F)):aA H (agsX Q ab (upd ags j g) 64 64::F):=by
 rw[Bb (ags:=upd ags j g) a (VD _),xk,Bc];exact iI.2 h
theorem slFc:SlT Tryz.prog 111 322 9 96:=eG (by kernel_rfl)
theorem slPt:SlT Tryz.prog 441 443 2 16:=eG (by kernel_rfl)
theorem mtS:hD Tryz.prog 109 136 140 aggPt (0,0):=lP Tryz.underlying109 (by kernel_rfl)
theorem mtR:hD Tryz.prog 112 440 441 aggSl Sl.z:=lP Tryz.underlying112 (by kernel_rfl)
theorem koLf:jG Tryz.prog 440 aggPt:=yB (enc:=nG) Tryz.underlying440 (λx y h=>by
  grind)
 (λx y=>by
  have h:nQ Tryz.prog 440 (nG x) (nG y)=some (x.1 == y.1&&(x.2 == y.2&&true)):=by kernel_rfl
  rw[h];congr 1
  grind)
 (λx=>by kernel_rfl) (λx n=>by unfold Instr.sameBits;simp[Instr.sameBits])
def rowsRZZ:List (Pt×Sl)->aD
 | []=>emp
 | p::r=>slA 443 2 p.2.a p.2.pts.length p.2.c (aF nG p.2.pts)*rowsRZZ r
abbrev plR(m:List (Pt×Sl)):List (Pt×List Pt):=m.map λp=>(p.1,p.2.pts)
def readA(rm:Nat)(rds:List (Pt×List Pt)):aD:=exS λm:List (Pt×Sl)=>star [pur (plR m=rds),mapA aggPt aggSl rm m,rowsRZZ m]
structure FcIn(Q:aD)(fs:List FcE):Prop where
 kin:∀x∈fs,gJ Q x.e
structure FA where
 x:FlX
 ys:List Fy
 fs:List FcE
def fltA(Q:aD)(fb:Nat)(ab:Nat->Nat)(f:bG):aD:=exS λy:FA=>star [pur (y.ys.map Fy.bs=f.sink/\mC Q y.ys/\y.fs.map FcE.p=f.facts/\FcIn Q y.fs),
 cellsA fb (fE f y.x ab y.ys.length y.fs.length) 121,ledA y.x.lb f.led,mapA aggI3 aggPt y.x.sm f.spans,outS y.x.sa y.x.sc y.ys,slA 322 9 y.x.fa y.fs.length y.x.fc (aF iL y.fs),readA y.x.rm f.rds,agsX Q ab f.ags 64 64,wireA Q y.x.wb f.w,gateA Q y.x.gb y.x.db f.g]
abbrev flP(Q:aD)(fb:Nat)(ab:Nat->Nat)(f:bG)(x:FlX)(ys:List Fy)(fs:List FcE)(F:List aD):List aD:=
 cellsA fb (fE f x ab ys.length fs.length) 121::ledA x.lb f.led::mapA aggI3 aggPt x.sm f.spans::outS x.sa x.sc ys::slA 322 9 x.fa fs.length x.fc (aF iL fs)::readA x.rm f.rds::agsX Q ab f.ags 64 64::wireA Q x.wb f.w::gateA Q x.gb x.db f.g::F
structure FlI(Q:aD)(f:bG)(ys:List Fy)(fs:List FcE):Prop where
 sink:ys.map Fy.bs=f.sink
 ys:mC Q ys
 facts:fs.map FcE.p=f.facts
 fs:FcIn Q fs
theorem dr{fb:Nat}{f:bG}:aA H (fltA Q fb ab f::F)↔∃x ys fs,FlI Q f ys fs/\aA H (flP Q fb ab f x ys fs F):=by
 unfold fltA;rw[cy]
 constructor
 .rintro⟨y,h⟩;obtain⟨a,h⟩:=nM.1 (aA.open h);exact⟨y.x,y.ys,y.fs,⟨a.1,a.2.1,a.2.2.1,a.2.2.2⟩,h⟩
 .rintro⟨x,ys,fs,h1,h⟩;exact⟨⟨x,ys,fs⟩,aA.shut [_,_,_,_,_,_,_,_,_,_] (h.pur ⟨h1.sink,h1.ys,h1.facts,h1.fs⟩)⟩
theorem FlI.sub{f:bG}{ys:List Fy}{fs:List FcE}(h:FlI Q f ys fs)(hs:aH Q Q'):FlI Q' f ys fs:=⟨h.sink,h.ys.sub hs,h.facts,⟨λx a=>(h.fs.kin x a).sub hs⟩⟩
end
def putF(f:bG)(up:Bool)(ag:Int)(bs:List Int):bG:={ f with w:=(iK f.w (up,ag,f.now,bs)).1 }
abbrev Ou.id(o:Ou):Id3:=⟨o.ida,o.ide,o.seq⟩
abbrev Ou.vd(o:Ou):Vd:=⟨o.reason,o.win⟩
def out1(f:bG)(o:Ou):bG:=
 if o.kind=1 then putF f false o.ag o.bs else
 if o.kind=2 then { f with led:=(j9 f.led (Ou.id o) (Ou.vd o)).1,spans:=if (j9 f.led (Ou.id o) (Ou.vd o)).2=0/\(aK (Ou.id o) f.led).isSome=false then mset (Ou.id o) (o.lo,o.hi) f.spans else f.spans } else
 if o.kind=3/\o.num=(f.sink.length:Int) then { f with sink:=f.sink++[o.bs] } else f
def je(f:bG)(l:List Ou):bG:=l.foldl out1 f
theorem Be{w:Wr}{c:Wpc}(ok:kD w)(hb:aP c.2.2.2)(h:c.2.2.2.length<=1000000)(i:w.next<1000000000000):kD (iK w c).1/\(iK w c).1.next<=w.next+1/\w.next<=(iK w c).1.next/\(iK w c).1.most=w.most:=by
 have k:=ok.next;have j:=ok.most;unfold iK
 split
 .grind
 split
 .grind
 .rename_i n;have e:aK w.next w.m=none:=eB.2 λb=>by
   obtain⟨q,f,s⟩:=V8.1 b;have:=ok.keys q f;omega
  refine⟨⟨ok.most,?_,λp a=>?_,by grind,λp a=>?_⟩,Wc _,by grind,rfl⟩
  .grind [Dx]
  .dsimp only
   rcases V9.1 a with rfl|a
   .grind
   .have:=ok.keys p (mU.1 a).1;omega
  .rcases V9.1 a with rfl|a
   .rename_i d;refine⟨hb,h,?_⟩;unfold badP at d
    grind
   .exact ok.bs p (mU.1 a).1
section
variable {F L:List aD}{H:aC}{K:KQ}{Q Q':aD}{f:bG}{fb:Nat}{ab:Nat->Nat}
theorem lv{A Q2:aD}(e:Q2=A*Q)(h:aA H (A::Q::F)):aA H (Q2::F):=e▸iI.2 h
theorem Bf{ags:Nat->Ag}{gb db:Nat}{g:Gg}(hs:aH Q Q')(h:aA H (agsX Q ab ags 64 64::gateA Q gb db g::F)):aA H (agsX Q' ab ags 64 64::gateA Q' gb db g::F):=swp (uq hs (swp (qD hs h)))
theorem L3{up:Bool}{ag:Int}{a:Xa}{c:Nat}{bs:List Int}(ok:kD f.w)(i:bB Q a (bs.map U8))(j:bs.length<=1000000)(h:aA H (Q::fltA Q fb ab f::F))
  (k:∀Q' H',aH Q Q'->aA H' (Q'::fltA Q' fb ab (putF f up ag bs)::F)->K (.tuple #[]) H'):CF 94 #[PA fb 0,.bool up,I64ZZ ag,.slice a bs.length c] H K:=by
 obtain⟨x,ys,fs,d,h⟩:=dr.1 (swp h);refine cM 94 4 ⟨some ⟨x.wb,0,none⟩,h.r 0,_,h.r 0,h.al λb _ h=>⟨h.r 1,?_⟩⟩
 have h:=h.o [10,8,0,1,2,3,4,5,6,7,9] 11;have e:aF nE [(⟨up,ag,f.now,a,c,bs⟩:Pk)]=nE ⟨up,ag,f.now,a,c,bs⟩:=by simp[aF]
 refine Um (p:=⟨up,ag,f.now,a,c,bs⟩) ok (λH h=>by rw[e];exact h.ce_rd 1 rfl) (λQ' H hs h=>(i.sub hs).at h 0 rfl) j h λQ' m hs h=>⟨_,_,rfl,k Q' _ hs ?_⟩
 have h:=Bf hs (h.o [9,10,0,1,3,4,5,6,7,8] 11);have h:=h.o [4,5,6,7,8,9,0,3,1,2] 10;exact swp (dr.2 ⟨x,ys,fs,⟨d.sink,(d.sub hs).ys,d.facts,(d.sub hs).fs⟩,h⟩)
theorem Leave_spec{a:Xa}{c:Nat}{d:List Oy}(ok:kD f.w)(P:f.w.next+d.length<=1000000000000)(hk:f.sink.length+d.length<=100000000000)(hz:∀z∈d,iG Q z/\aP z.o.bs/\z.o.bs.length<=1000000)(h:aA H (Q::slA 222 11 a d.length c (aF cu d)::fltA Q fb ab f::F))
  (k:∀Q' H',aH Q Q'->aA H' (Q'::fltA Q' fb ab (je f (d.map Oy.o))::F)->K (.tuple #[]) H'):CF 54 #[PA fb 0,.slice a d.length c] H K:=by
 refine cN 54 0x15612399251151741728174917174994 [[],[],[],[(7,sB)],[],[],[(10,sI)]] ⟨λt H'=>∃(j:Nat) (Q':aD),t=j/\j<=d.length/\aH Q Q'/\kD (je f ((d.take j).map Oy.o)).w/\(je f ((d.take j).map Oy.o)).w.next<=f.w.next+j/\(je f ((d.take j).map Oy.o)).sink.length<=f.sink.length+j/\
  aA H' (Q'::slA 222 11 a d.length c (aF cu d)::fltA Q' fb ab (je f ((d.take j).map Oy.o))::F),λt _=>d.length-t.toNat,⟨0,Q,rfl,by omega,aH.refl Q,ok,by show f.w.next<=_;omega,by show f.sink.length<=_;omega,h⟩,?_⟩
 clear h
 rintro t H1 ⟨j,n,rfl,hj,hs,A,n1,n2,h⟩;refine⟨λhx=>?_,λhx=>?_⟩
 .have D:j<d.length:=by grind
  have s:=hz _ (V7 D);have hr:=h.sl_rd 1 rfl;have eN:je f ((d.take (j+1)).map Oy.o)=out1 (je f ((d.take j).map Oy.o)) d[j].o:=by
   grind [je,List.take_succ_eq_append_getElem]
  generalize je f ((d.take j).map Oy.o)=G at *;refine⟨⟨by omega,by omega⟩,_,_,hr.some AK (by decide) D,_,_,_,_,_,_,_,_,_,_,_,_,_,hr.els AK D,h.al λb _ h=>h.st 0 rfl rfl λH2 h=>⟨_,h.r 0,?_⟩⟩
  have h:aA H2 (cellsA b (cu d[j]) 222::n::slA 222 11 a d.length c (aF cu d)::fltA n fb ab G::F):=h;intro Jn hJ;have hw:i64.wrap ((j:Int)+1)=((j+1:Nat):Int):=by grind [aJ]
  have fin:∀Q2 G2 H',G2=out1 G d[j].o->aH n Q2->kD G2.w->G2.w.next<=G.w.next+1->G2.sink.length<=G.sink.length+1->aA H' (Q2::fltA Q2 fb ab G2::slA 222 11 a d.length c (aF cu d)::F)->Jn H':=by
   intro Q2 G2 H' e s2 o2 m1 m2 h;refine hJ _ ⟨⟨j+1,Q2,hw,D,hs.trans s2,by rw[eN,<-e];exact o2,by grind,by grind,by rw[eN,<-e];exact h.o [0,2,1] 3⟩,by grind⟩
  have h:=h.o [1,3,0,2] 4;refine⟨λM=>?_,λM=>?_⟩
  .have M:=V3 M;refine⟨_,h.r 2,_,_,_,h.r 2,?_⟩;refine L3 A (s.1.kin.sub hs) s.2.2 h λQ2 U s2 h=>⟨rfl,?_⟩
   have hp:=Be (c:=(false,d[j].o.ag,G.now,d[j].o.bs)) A s.2.1 s.2.2 (by omega);exact fin Q2 _ _ (by unfold out1;grind) s2 hp.1 hp.2.1 (by show G.sink.length<=_;omega) (h.o [0,1,3] 4)
  have M:=V2 M;intro V E;refine⟨λR=>?_,λR=>?_⟩
  .have R:=V3 R;obtain⟨x,ys,fs,u,h⟩:=dr.1 (h.o [1,0,2,3] 4);have h8:aM _ fb 0=some (PA x.lb 0):=h.r 0;intro Z Y;have tell:∀t H',t=(aK (Ou.id d[j].o) G.led).isSome->aA H' (ledA x.lb G.led::cellsA fb (fE G x ab ys.length fs.length) 121::mapA aggI3 aggPt x.sm G.spans::outS x.sa x.sc ys::slA 322 9 x.fa fs.length x.fc (aF iL fs)::readA x.rm G.rds::agsX n ab G.ags 64 64::wireA n x.wb G.w::gateA n x.gb x.db G.g::n::cellsA b (cu d[j]) 222::slA 222 11 a d.length c (aF cu d)::F)->Z t H':=by
    intro t H' ht h;refine Y _ _ ⟨some ⟨x.lb,0,none⟩,h.r 1,_,_,_,h.q 10,_,_,h.q 10,?_⟩;refine Up (i:=Ou.id d[j].o) (v:=Ou.vd d[j].o) h λU h=>⟨_,rfl,?_⟩
    have back:∀(T:List (Id3×Pt)) H',T=(if (j9 G.led (Ou.id d[j].o) (Ou.vd d[j].o)).2=0/\(aK (Ou.id d[j].o) G.led).isSome=false then mset (Ou.id d[j].o) (d[j].o.lo,d[j].o.hi) G.spans else G.spans)->aA H' (ledA x.lb (j9 G.led (Ou.id d[j].o) (Ou.vd d[j].o)).1::cellsA fb (fE G x ab ys.length fs.length) 121::mapA aggI3 aggPt x.sm T::outS x.sa x.sc ys::slA 322 9 x.fa fs.length x.fc (aF iL fs)::readA x.rm G.rds::agsX n ab G.ags 64 64::wireA n x.wb G.w::gateA n x.gb x.db G.g::n::cellsA b (cu d[j]) 222::slA 222 11 a d.length c (aF cu d)::F)->V H':=by
     intro T H' e h;have h:=h.o [1,0,2,3,4,5,6,7,8,9,11] 12;refine E _ (fin n { G with led:=(j9 G.led (Ou.id d[j].o) (Ou.vd d[j].o)).1,spans:=T } _ (by rw[e];unfold out1;grind) (aH.refl _) A (by grind) (by grind) (swp (dr.2 ⟨x,ys,fs,⟨u.sink,u.ys,u.facts,u.fs⟩,h⟩)))
    intro h5 O;refine⟨λhc=>?_,λhc=>O _ (back G.spans _ ?_ h)⟩
    .rw [V4,V5,Wa]at hc;refine⟨_,h.r 1,_,_,_,h.q 10,_,_,h.q 10,?_⟩;exact h.mp_update (x:=Ou.id d[j].o) (v:=(d[j].o.lo,d[j].o.hi)) mtS mE 2 rfl λH4 h=>O _ (back _ _ (by grind) h)
    grind
   refine⟨some ⟨x.lb,0,none⟩,h.r 0,_,_,_,h.q 10,?_,?_⟩
   .have h:=h.o [1,0,2,3,4,5,6,7,8,9,10,11] 12;refine Ly (i:=Ou.id d[j].o) h λU h=>⟨_,_,_,rfl,h.al λb2 _ h=>h.st 0 rfl rfl λH4 h=>tell _ _ rfl h.tl⟩
   .refine h.al λb3 _ h=>⟨h.q 11,h.r 1,?_⟩
    have h:=h.o [2,1,3,4,5,6,7,8,9,10,11,12,0] 13;refine Ly (i:=Ou.id d[j].o) h λU h=>⟨_,_,_,rfl,h.st 12 rfl rfl λH4 h=>tell _ _ rfl (h.o [0,1,2,3,4,5,6,7,8,9,10,11] 13)⟩
  have R:=V2 R;intro h0 L;have same:∀H',aA H' (n::fltA n fb ab G::cellsA b (cu d[j]) 222::slA 222 11 a d.length c (aF cu d)::F)->¬(d[j].o.kind=3/\d[j].o.num=(G.sink.length:Int))->h0 H':=λH' h P=>
   L _ (E _ (fin n G _ (by unfold out1;grind) (aH.refl _) A (by omega) (by omega) (h.o [0,1,3] 4)))
  refine⟨λS=>?_,λS=>same _ h λP=>V0 P.1 (V2 S)⟩
  have S:=V3 S;obtain⟨x,ys,fs,u,h⟩:=dr.1 (h.o [1,0,2,3] 4);have h6:ys.length=G.sink.length:=by rw[<-u.sink,VP]
  refine⟨_,h.r 10,_,_,_,h.r 0,?_⟩;intro h7 N;refine⟨λW=>?_,λW=>N _ (same _ (swp ((dr.2 ⟨x,ys,fs,u,h⟩))) λP=>V0 P.2 (by grind))⟩
  have W:=V3 W;refine⟨_,_,_,h.r 0,_,_,_,h.r 10,?_⟩;refine rE h (λH h=>(s.1.kin.sub hs).at h 9 rfl) (by omega) λB C U h=>⟨_,_,_,rfl,h.r 1,h.al λb4 _ h=>⟨h.r 2,?_⟩⟩
  refine h.append (m:=1) (ws:=[cF ⟨B,C,d[j].o.bs⟩]) slYs 5 rfl (h.ce_rd 0 rfl) rfl rfl (by omega) (by omega) λa5 c5 H4 h=>⟨_,_,_,rfl,h.st 2 rfl rfl λH5 h=>N _ (L _ (E _ ?_))⟩
  have e:ys.length+1=(ys++[(⟨B,C,d[j].o.bs⟩:Fy)]).length:=by simp
  have e2:ys.map cF++[cF ⟨B,C,d[j].o.bs⟩]=(ys++[(⟨B,C,d[j].o.bs⟩:Fy)]).map cF:=by simp
  have h:aA H5 (cellsA b4 [cF ⟨B,C,d[j].o.bs⟩] 38::slA 5 1 B d[j].o.bs.length C (d[j].o.bs.map U8)::cellsA fb (fE { G with sink:=G.sink++[d[j].o.bs] } { x with sa:=a5,sc:=c5 } ab (ys.length+1) fs.length) 121::ledA x.lb G.led::mapA aggI3 aggPt x.sm G.spans::slA 38 1 a5 (ys.length+1) c5 (ys.map cF++[cF ⟨B,C,d[j].o.bs⟩])::_):=h;rw[e,e2]at h;obtain⟨Q2,I⟩:∃Q2,Q2=slA 5 1 B d[j].o.bs.length C (d[j].o.bs.map U8)*n:=⟨_,rfl⟩;have s2:aH n Q2:=by rw[I];exact aH.add _ n
  have h:=h.o [1,11,2,3,4,5,6,7,8,9,10,13] 14;have h:=lv I h;have h:=sf s2 (h.o [8,0,1,2,3,4,5,6,7,9,10] 11);have h:=Bf s2 (h.o [8,9,0,1,2,3,4,5,6,7,10] 11);have h:=h.o [4,5,6,7,8,9,0,2,1,3,10] 11;refine fin Q2 { G with sink:=G.sink++[d[j].o.bs] } _ (by unfold out1;grind) s2 A (by grind) (by simp) (swp ((dr (f:={ G with sink:=G.sink++[d[j].o.bs] })).2 ⟨{ x with sa:=a5,sc:=c5 },ys++[(⟨B,C,d[j].o.bs⟩:Fy)],fs,⟨by simp[u.sink],λy J=>?_,u.facts,(u.sub s2).fs⟩,h⟩))
  rcases VJ.1 J with J|J
  .exact (u.ys y J).sub s2
  .rw [VH]at J;subst J;rw[I];exact bB.sl
 .have hx:=V2 hx;obtain rfl:j=d.length:=by omega
  rw[VO]at h;exact k n _ hs (h.o [0,2] 3)
end
def addR(m:List (Pt×List Pt))(k p:Pt):List (Pt×List Pt):=mset k ((aK k m).getD []++[p]) m
def recF(f:bG)(j:Nat):bG:={ f with rds:=addR f.rds ((j:Int),(f.ags j).boot) (f.now,(f.ags j).ck) }
def hrdF(f:bG)(j:Nat)(rd:Int):bG:=if (f.ags j).boot≠0/\0<=rd/\rd<=maxT then recF f j else f
theorem plR_del(k:Pt)(m:List (Pt×Sl)):plR (bD k m)=bD k (plR m):=by
 unfold plR bD;rw[List.filter_map];rfl
theorem L4(k:Pt):∀m:List (Pt×Sl),aK k (plR m)=(aK k m).map Sl.pts
 | []=>rfl
 | (a,b)::r=>by
  have c:=L4 k r;show aK k ((a,b.pts)::plR r)=_
  grind [aK]
abbrev slR(s:Sl):aD:=slA 443 2 s.a s.pts.length s.c (aF nG s.pts)
theorem L5{k:Pt}{m:List (Pt×Sl)}(h:aK k m=none):bD k m=m:=by
 grind [bD,List.filter_eq_self,eB]
theorem L6{k:Pt}{s:Sl}:∀{m:List (Pt×Sl)},(aL m).Nodup->aK k m=some s->rowsRZZ m=slR s*rowsRZZ (bD k m)
 | [],_,h=>by cases h
 | (a,b)::r,hn,h=>by
  have c:=W1.1 hn
  by_cases e:a=k
  .subst e;have hb:b=s:=by grind [aK]
   subst hb;have d:aK a r=none:=eB.2 c.1;have:bD a ((a,b)::r)=r:=by
    show List.filter _ _=_;rw[List.filter_cons_of_neg (by simp)];exact L5 d
   rw[this];rfl
  .have f:aK k r=some s:=by
    have:aK k ((a,b)::r)=aK k r:=by simp only[aK];grind
    grind
   have:bD k ((a,b)::r)=(a,b)::bD k r:=by
    show List.filter _ _=_;rw[List.filter_cons_of_pos (by grind)];rfl
   rw[this];show slR b*rowsRZZ r=slR s*(slR b*rowsRZZ (bD k r));rw[L6 c.2 f,sW]
section
variable {F L:List aD}{H:aC}{K:KQ}{Q Q':aD}{f:bG}{fb:Nat}{ab:Nat->Nat}{x:FlX}{ys:List Fy}{fs:List FcE}
theorem Uw{k:Pt}{m:List (Pt×Sl)}(a:(aL m).Nodup)(h:aA H (rowsRZZ m::F)):aA H (slR ((aK k m).getD Sl.z)::rowsRZZ (bD k m)::F):=by
 cases hk:aK k m with
 | some s=>rw[L6 a hk]at h;exact iI.1 h
 | none=>rw[L5 hk];exact h.sl_nil 443 2
theorem Bg{rm:Nat}{rds:List (Pt×List Pt)}:aA H (readA rm rds::F)↔∃m,plR m=rds/\aA H (mapA aggPt aggSl rm m::rowsRZZ m::F):=by
 unfold readA;rw[cy]
 constructor
 .rintro⟨y,h⟩;obtain⟨a,h⟩:=nM.1 (aA.open h);exact⟨y,a,h⟩
 .rintro⟨m,h1,h⟩;exact⟨m,aA.shut [_,_,_] (h.pur h1)⟩
theorem Ux{j:Nat}{c0 c1 c2:Nat}(i:j<64)(hb:∀p∈f.rds,p.2.length<=1000000)(h:aA H (cellsA c0 [I64ZZ j] 2::cellsA c1 [PA (ab j) 0] 116::cellsA c2 [PA fb 0] 73::flP Q fb ab f x ys fs F))
  (k:∀H',aA H' (cellsA c0 [I64ZZ j] 2::cellsA c1 [PA (ab j) 0] 116::cellsA c2 [PA fb 0] 73::flP Q fb ab (recF f j) x ys fs F)->K (.tuple #[]) H'):CF 271 #[PA c0 0,PA c1 0,PA c2 0] H K:=by
 have h:=L2 i (h.o [9,0,1,2,3,4,5,6,7,8,10,11] 12);obtain⟨y,evs,e1,e2,h⟩:=de.1 h;have h:=h.o [12,0,1,2,3,4,5,6,7,8,9,10,11,13,14] 15;obtain⟨m,d,h⟩:=Bg.1 h;have e:(aL m).Nodup:=D3 (F:=star _) h;refine cM 271 20 ⟨_,h.r 6,some ⟨ab j,0,none⟩,h.r 7,_,xg h 2 rfl,h.al λb _ h=>⟨xg h 3 rfl,h.r 8,h.r 7,h.st 0 rfl rfl λB h=>⟨some ⟨fb,0,none⟩,h.r 9,_,h.r 10,_,_,h.q 0,some ⟨fb,0,none⟩,h.r 9,_,h.r 10,some ⟨ab j,0,none⟩,h.r 8,_,K8 h 3 rfl,h.al λb1 _ h=>⟨h.q 1,h.r 11,h.r 10,?_⟩⟩⟩⟩
 have h:=h.o [2,3,0,1,4,5,6,7,8,9,10,11,12,13,14,15,16,17] 18;refine aA.mp_entry2 mtR koLf (x:=((j:Int),(f.ags j).boot)) h λn O D h hs=>⟨_,_,_,_,rfl,?_⟩
 have h:=Uw (k:=((j:Int),(f.ags j).boot)) e (swp h);have a:=L4 ((j:Int),(f.ags j).boot) m;rw[d]at a;have t:((aK ((j:Int),(f.ags j).boot) m).getD Sl.z).pts.length<=1000000:=by
  cases hk:aK ((j:Int),(f.ags j).boot) m with
  | none=>simp[Sl.z]
  | some s=>
   rw[hk]at a;exact hb _ (fL a)
 have c:(recF f j).rds=mset ((j:Int),(f.ags j).boot) (((aK ((j:Int),(f.ags j).boot) m).getD Sl.z).pts++[(f.now,(f.ags j).ck)]) (plR m):=by
  show addR f.rds _ _=_;unfold addR;rw[a,<-d]
  cases aK ((j:Int),(f.ags j).boot) m <;> rfl
 generalize (aK ((j:Int),(f.ags j).boot) m).getD Sl.z=s at *;refine h.append (m:=1) (ws:=nG (f.now,(f.ags j).ck)) slPt 0 rfl (h.ce_rd 3 rfl) rfl rfl (by omega) (by omega) λa5 c5 w h=>⟨_,_,_,rfl,?_⟩
 have el:s.pts.length+1=(s.pts++[(f.now,(f.ags j).ck)]).length:=by simp
 have u:aF nG s.pts++nG (f.now,(f.ags j).ck)=aF nG (s.pts++[(f.now,(f.ags j).ck)]):=by grind [aF]
 have h:=h.o [2,0,1,5,6,7,8,9,10,11,12,13,14,15,16,17,18] 19
 conv=>whnf
 rw[el,u]at *;refine hs _ w ⟨a5,c5,s.pts++[(f.now,(f.ags j).ck)]⟩ _ h λC h=>k _ ?_
 have h:=(de.2 ⟨y,evs,e1,e2,h.o [3,4,5,6,0,1,2,7,8,9,10,11,12,13,14,15,16] 17⟩);have h:=Bd i h;have v:upd f.ags j (f.ags j)=f.ags:=by grind [upd]
 rw[v]at h;have h:=iI.2 (h.o [2,3,0,1,4,5,6,7,8,9,10,11,12,13] 14);have h:=h.o [2,0,1,3,4,5,6,7,8,9,10,11,12] 13;have A:=Bg.2 ⟨mset ((j:Int),(f.ags j).boot) ⟨a5,c5,s.pts++[(f.now,(f.ags j).ck)]⟩ m,(show _=(recF f j).rds by
  rw[c];show _::plR (bD _ m)=_::bD _ (plR m);rw[plR_del]),h⟩
 exact A.o [2,3,4,5,6,7,8,9,0,1,10,11] 12
end
def fltH(Q:aD)(fb:Nat)(ab:Nat->Nat)(f:bG)(j:Nat):aD:=exS λy:FA=>star [pur (FlI Q f y.ys y.fs),cellsA fb (fE f y.x ab y.ys.length y.fs.length) 121,ledA y.x.lb f.led,mapA aggI3 aggPt y.x.sm f.spans,outS y.x.sa y.x.sc y.ys,
 slA 322 9 y.x.fa y.fs.length y.x.fc (aF iL y.fs),readA y.x.rm f.rds,agsX Q ab f.ags j 64,wireA Q y.x.wb f.w,gateA Q y.x.gb y.x.db f.g]
def gS(f:bG)(j:Nat)(g:Ag):bG:={ f with ags:=upd f.ags j g }
section
variable {F L:List aD}{H:aC}{K:KQ}{Q Q':aD}{f:bG}{fb j:Nat}{ab:Nat->Nat}
theorem uu:aA H (fltH Q fb ab f j::F)↔∃x ys fs,FlI Q f ys fs/\aA H (cellsA fb (fE f x ab ys.length fs.length) 121::ledA x.lb f.led::mapA aggI3 aggPt x.sm f.spans::outS x.sa x.sc ys::slA 322 9 x.fa fs.length x.fc (aF iL fs)::readA x.rm f.rds::agsX Q ab f.ags j 64::wireA Q x.wb f.w::gateA Q x.gb x.db f.g::F):=by
 unfold fltH;rw[cy]
 constructor
 .rintro⟨y,h⟩;obtain⟨a,h⟩:=nM.1 (aA.open h);exact⟨y.x,y.ys,y.fs,a,h⟩
 .rintro⟨x,ys,fs,h1,h⟩;exact⟨⟨x,ys,fs⟩,aA.shut [_,_,_,_,_,_,_,_,_,_] (h.pur h1)⟩
theorem uv(b:j<64)(h:aA H (fltA Q fb ab f::F)):aA H (agA Q (ab j) (f.ags j)::fltH Q fb ab f j::F):=by
 obtain⟨x,ys,fs,a,h⟩:=dr.1 h;have h:=L2 b (h.o [6,0,1,2,3,4,5,7,8] 9);have h:=h.o [2,3,4,5,6,7,1,8,9,0] 10;exact (uu.2 ⟨x,ys,fs,a,h⟩).o [1,0] 2
theorem xm{g:Ag}(b:j<64)(h:aA H (agA Q (ab j) g::fltH Q fb ab f j::F)):aA H (fltA Q fb ab (gS f j g)::F):=by
 obtain⟨x,ys,fs,a,h⟩:=uu.1 (h.o [1,0] 2);have h:=Bd b (h.o [9,6,0,1,2,3,4,5,7,8] 10);exact dr.2 ⟨x,ys,fs,⟨a.sink,a.ys,a.facts,a.fs⟩,h.o [1,2,3,4,5,6,0,7,8] 9⟩
theorem Bh(hs:aH Q Q')(h:aA H (fltH Q fb ab f j::F)):aA H (fltH Q' fb ab f j::F):=by
 obtain⟨x,ys,fs,a,h⟩:=uu.1 h;have h:=sf hs (h.o [7,0,1,2,3,4,5,6,8] 9);have h:=uq hs (h.o [8,0,1,2,3,4,5,6,7] 9);have h:=qD hs (h.o [8,0,1,2,3,4,5,6,7] 9);exact uu.2 ⟨x,ys,fs,a.sub hs,h.o [3,4,5,6,7,8,0,2,1] 9⟩
theorem Bi{x:FlX}{ns nf:Nat}(a:j<64):aI (fE f x ab ns nf) (149+j)=some (PA (ab j) 0):=by
 rw[show 149+j=(64+(64+(16+j)))+5 by omega];show aI (cY _ 64 0 (cY _ 64 0 _)) (64+(64+(16+j)))=_;rw[Ba,Ba,show 16+j=j+16 by omega];show aI (cY _ 64 0 _) j=_;rw[L0 _ _ 64 0 j a,VB]
theorem FBoot_q(a:j<64)(h:aA H (fltA Q fb ab f::F)):bO Tryz.prog 162 #[PA (ab j) 0] H (I64ZZ (f.ags j).boot):=by
 obtain⟨x,evs,_,_,h⟩:=de.1 (uv a h);exact xg h 0 rfl
theorem Bj{rd r:Int}{f':bG}{a:FuncId}{c:Xb}(m:j<64)(hb:∀p∈f'.rds,p.2.length<=1000000)(hm:bK a X.calls=true)(h:aA H (Q::fltA Q fb ab f::F))
  (call:∀(t s n:aD) (H':aC) (J:KQ),aA H' (Q::fltA Q fb ab f::t::s::n::F)->(∀Q' i,aH Q Q'->aA i (Q'::fltA Q' fb ab f'::t::s::n::F)->J (I64ZZ r) i)->CF a ⟨PA (ab j) 0::c⟩ H' J)
  (k:∀Q' H',aH Q Q'->aA H' (Q'::fltA Q' fb ab (hrdF f' j rd)::F)->K (I64ZZ r) H'):CF 158 #[PA fb 0,I64ZZ j,I64ZZ rd,.func (.func a) #[] ⟨c⟩] H K:=by
 obtain⟨x,ys,fs,d,h⟩:=dr.1 (h.o [1,0] 2);refine cN 158 73301849244 [[]] (h.al λb _ h=>h.al λb1 _ h=>⟨some ⟨fb,0,none⟩,h.r 1,_,h.rd 0 rfl _,⟨⟨by omega,by omega⟩,some ⟨ab j,0,none⟩,(h.r 2).trans (Bi (f:=f) (x:=x) m),h.al λb2 _ h=>⟨(h.r 3).trans (Bi (f:=f) (x:=x) m),h.r 1,h.r 2,h.st 0 rfl rfl λv h=>⟨some ⟨ab j,0,none⟩,h.r 0,hm,?_⟩⟩⟩⟩)
 have h:=dr.2 ⟨x,ys,fs,d,h.o [3,4,5,6,7,8,9,10,11,12,0,1,2] 13⟩;refine call _ _ _ _ _ (h.o [1,0,2,3,4] 5) λQ' H2 hs h=>⟨_,rfl,some ⟨ab j,0,none⟩,h.r 2,_,FBoot_q m (h.o [1,0,2,3,4] 5),?_⟩
 unfold hrdF at k;intro y u;refine⟨λe=>⟨by kernel_rfl,?_⟩,λe=>u _ (k Q' _ hs ?_)⟩
 .simp only[V4,Wa,V5,VG]at e;rw[V1 ⟨e.1.1,e.1.2,e.2⟩]at k;obtain⟨x,ys,fs,d,h⟩:=dr.1 (h.o [1,0,2,3,4] 5);have h:=h.o [11,10,12,0,1,2,3,4,5,6,7,8,9] 13;refine Ux m hb h λw h=>⟨rfl,u _ (k Q' _ hs ?_)⟩
  exact swp (dr.2 ⟨x,ys,fs,⟨d.sink,d.ys,d.facts,d.fs⟩,h.o [3,4,5,6,7,8,9,10,11,12] 13⟩)
 .rw [Vz]
  .exact h.o [0,1] 5
  grind
end
structure Et where
 kind:Int
 ag:Int:=0
 now:Int:=0
 rd:Int:=0
 bt:Int:=0
 val:Int:=0
 num:Int:=0
 keep:Int:=0
 nm:Eq:=⟨#[]⟩
 labs:List bg:=[]
 bs:List Int:=[]
structure EtX where
 la:Xa:=none
 lc:Nat:=0
 ba:Xa:=none
 bc:Nat:=0
abbrev aY(e:Et)(x:EtX):Xb:=[aB e.kind,aB e.ag,aB e.now,aB e.rd,aB e.bt,aB e.val,aB e.num,aB e.keep,.string e.nm,.slice x.la e.labs.length x.lc,.slice x.ba e.bs.length x.bc]
theorem bodyF_by(f:Fq)(hd:aP f.data):aP (kz f):=by
 unfold kz nB nmF;refine pZ (pZ (gK _) ?_) ?_
 .intro b hb;obtain⟨i,hi,hb⟩:=WK.1 hb;exact gK _ b hb
 .split
  .refine pZ (gK _) λb hb=>?_
   obtain⟨e,a,hb⟩:=WK.1 hb;exact wA e b hb
  .split
   .exact pZ (zB _ _) (rK _)
   .intro b hb;cases hb
theorem xn{f:Fq}(hd:aP f.data):∀b∈jb f,aP b/\b.length<=65536:=by
 unfold jb;intro b hb
 split at hb
 .rename_i a;rw[VH]at hb;subst hb;unfold jU at a;unfold dO
  split
  .grind
  .rename_i c;rw[Vz c]at a
   grind [Ka,bodyF_by]
 .cases hb
theorem xo:aP ([]:List Int):=λb hb=>V0 hb (by simp)
theorem L7(g:Ag):∀(n:Nat),∀b∈iF g n,aP b/\b.length<=65536
 | 0,b,hb=>by cases hb
 | n+1,b,hb=>by
  unfold iF at hb
  split at hb
  .exact L7 g n b hb
  .exact xn xo b hb
theorem L8(g:Ag):∀(n:Nat),(iF g n).length<=1
 | 0=>by simp[iF]
 | n+1=>by
  unfold iF
  split
  .exact L8 g n
  .exact ur _
theorem step_by{g:Ag}{rd:Int}(ok:gQ g):(∀b∈(j7 g rd).2.1,aP b/\b.length<=65536)/\(j7 g rd).2.1.length<=10:=by
 unfold j7
 split
 .grind
 .dsimp only;have ok:=AV (rd:=rd) ok;unfold sendA
  split
  .exact⟨xn xo,by grind [ur]⟩
  .constructor
   .intro b hb
    rcases VJ.1 hb with hb|hb
    .rcases VJ.1 hb with hb|hb
     .obtain⟨p,_,hb⟩:=WK.1 hb;exact xn xo b hb
     grind [L7]
    .exact xn xo b hb
   .have d:=AW (repF (br g rd).1) (br g rd).1.prb;have c:=L8 (br g rd).1 (min (br g rd).1.kept.length 64);have a:=ur { kind:=7,ag:=(br g rd).1.id,ep:=(br g rd).1.ep,next:=(br g rd).1.seq,stamp:=(br g rd).1.ck };have:=ok.prb
    grind
def mG(f:bG)(ag:Int)(l:List (List Int)):bG:=l.foldl (λf b=>putF f true ag b) f
def pe(f:bG)(j:Nat)(rd:Int):bG:=mG (gS f j (j7 (f.ags j) rd).1) j (j7 (f.ags j) rd).2.1
section
variable {F L:List aD}{H:aC}{K:KQ}{Q Q':aD}{f:bG}{fb j:Nat}{ab:Nat->Nat}{e:Et}{ex:EtX}
theorem Uy{A y x:aD}{u b:Nat}(J:j<64)(ok:gQ (f.ags j))(C:kD f.w)(R:f.w.next<=999999999000)(L:e.ag=(j:Int))
  (h:aA H (Q::fltA Q fb ab f::A::y::x::cellsA u (aY e ex) 40::cellsA b [PA fb 0] 73::F))
  (k:∀Q' H',aH Q Q'->aA H' (Q'::fltA Q' fb ab (pe f j e.rd)::A::y::x::cellsA u (aY e ex) 40::cellsA b [PA fb 0] 73::F)->K (I64ZZ (j7 (f.ags j) e.rd).2.2) H') :
  CF 165 #[PA (ab j) 0,PA u 0,PA b 0] H K:=by
 obtain⟨n,v⟩:=step_by (rd:=e.rd) ok;refine cN 165 0x1121561239925144c [[(18,sI)]] ⟨_,h.r 5,?_⟩;have h:=uv J (h.o [1,0,2,3,4,5,6] 7);refine Uf (rd:=e.rd) ok (h.o [2,0,1,3,4,5,6,7] 8) λB ys a c O hs hm M h=>⟨_,_,_,_,rfl,?_⟩
 have h:=Bh hs (h.o [3,0,1,2,4,5,6,7,8] 9);have h:=xm J (h.o [3,0,1,2,4,5,6,7,8] 9);unfold pe at k;rw[<-hm]at k n v;rw[VP]at v;generalize (j7 (f.ags j) e.rd).1=g at *;generalize (j7 (f.ags j) e.rd).2.2=r at *;have h:aA O (fltA B fb ab (gS f j g)::B::outS a c ys::A::y::x::cellsA u (aY e ex) 40::cellsA b [PA fb 0] 73::F):=h;refine⟨λt H'=>∃(i:Nat) (Q2:aD),t=i/\i<=ys.length/\aH B Q2/\kD (mG (gS f j g) j ((ys.take i).map Fy.bs)).w/\(mG (gS f j g) j ((ys.take i).map Fy.bs)).w.next<=f.w.next+i/\
  aA H' (Q2::fltA Q2 fb ab (mG (gS f j g) j ((ys.take i).map Fy.bs))::outS a c ys::A::y::x::cellsA u (aY e ex) 40::cellsA b [PA fb 0] 73::F),λt _=>ys.length-t.toNat,
  ⟨0,B,rfl,by omega,aH.refl _,C,by show f.w.next<=_;omega,h.o [1,0,2,3,4,5,6,7] 8⟩,?_⟩
 clear h
 rintro t H2 ⟨i,Q2,rfl,hi,s2,m,n2,h⟩;refine⟨λE=>?_,λE=>?_⟩
 .have d:i<ys.length:=by grind
  have I:=(h.sl_rd 2 rfl).at d;have D:=M _ (V7 d);have s:=n _ (List.mem_map_of_mem (V7 d));have eN:mG (gS f j g) j ((ys.take (i+1)).map Fy.bs)=putF (mG (gS f j g) j ((ys.take i).map Fy.bs)) true j ys[i].bs:=by
   grind [mG,List.take_succ_eq_append_getElem]
  have P:i64.wrap ((i:Int)+1)=((i+1:Nat):Int):=by grind [aJ]
  generalize mG (gS f j g) j ((ys.take i).map Fy.bs)=G at *;refine⟨⟨by omega,by omega⟩,_,_,I.1,_,_,_,I.2,some ⟨fb,0,none⟩,h.r 7,_,h.r 6,?_⟩;rw[L];refine L3 m (D.sub s2) (by omega) h λN S s3 h=>⟨rfl,⟨i+1,N,P,d,s2.trans s3,?_,?_,by rw[eN];exact h⟩,by grind⟩
  .rw [eN];exact (Be (c:=(true,(j:Int),G.now,ys[i].bs)) m s.1 (by grind) (by omega)).1
  .rw [eN];have:=(Be (c:=(true,(j:Int),G.now,ys[i].bs)) m s.1 (by grind) (by omega)).2.1;show (iK _ _).1.next<=_;grind
 .have E:=V2 E;obtain rfl:i=ys.length:=by omega
  rw[VO]at h;exact k Q2 _ (hs.trans s2) (h.o [0,1,3,4,5,6,7] 8)
theorem Uz(c:j<64)(ok:gQ (f.ags j))(a:kD f.w)(i:f.w.next<=999999999000)(d:e.ag=(j:Int))(hb:∀p∈f.rds,p.2.length<=1000000)(h:aA H (Q::fltA Q fb ab f::F))
  (k:∀Q' H',aH Q Q'->aA H' (Q'::fltA Q' fb ab (hrdF (pe f j e.rd) j e.rd)::F)->K (I64ZZ (j7 (f.ags j) e.rd).2.2) H'):CF 101 #[PA fb 0,.agg ⟨aY e ex⟩] H K:=by
 have t:(pe f j e.rd).rds=f.rds:=by
  unfold pe;have:∀(l:List (List Int)) (G:bG),(mG G j l).rds=G.rds:=by
   intro l
   induction l with
   | nil=>intro G;rfl
   | cons b l ih=>intro G;show (mG (putF G true j b) j l).rds=_;rw[ih];rfl
  rw[this];rfl
 refine cM 101 28 (h.al λb _ h=>h.al λb1 _ h=>⟨some ⟨fb,0,none⟩,h.r 1,_,h.r 0,_,h.r 0,?_⟩)
 rw[d];refine Bj (rd:=e.rd) (r:=(j7 (f.ags j) e.rd).2.2) (f':=pe f j e.rd) (F:=cellsA b1 (aY e ex) 40::cellsA b [PA fb 0] 73::F) c (by grind) (by kernel_rfl) (h.o [2,3,0,1] 4) (λn m s H' J h kk=>Uy c ok a i d h kk) λQ' H' hs h=>⟨_,rfl,k Q' _ hs (h.o [0,1] 4)⟩
end
def lw(f:bG)(j:Nat)(e:Et):bG×Int:=
 if (eI (f.ags j) e.rd e.val e.nm e.labs).2.2≠0 then (gS f j (eI (f.ags j) e.rd e.val e.nm e.labs).1,(eI (f.ags j) e.rd e.val e.nm e.labs).2.2) else
 ({ gS f j (eI (f.ags j) e.rd e.val e.nm e.labs).1 with facts:=f.facts++[⟨⟨j,(eI (f.ags j) e.rd e.val e.nm e.labs).1.ep,(eI (f.ags j) e.rd e.val e.nm e.labs).2.1⟩,(eI (f.ags j) e.rd e.val e.nm e.labs).1.boot,f.now,⟨(eI (f.ags j) e.rd e.val e.nm e.labs).1.ck,e.val,e.nm,e.labs⟩⟩] },0)
section
variable {F L:List aD}{H:aC}{K:KQ}{Q Q':aD}{f:bG}{fb j:Nat}{ab:Nat->Nat}{e:Et}{ex:EtX}
theorem U0{nm:Eq}{ls:List bg}{la:Xa}{lc:Nat}(h:aA H (Q::F))(d:∀H,aA H (Q::F)->aN H la (aF aZ ls))(e:ls.length<=1000000)
  (k:∀Q' a c H',aH Q Q'->bB Q' a (aF aZ ls)->aA H' (Q'::F)->K (.agg #[.string nm,.slice a ls.length c]) H'):CF 164 #[.agg #[.string nm,.slice la ls.length lc]] H K:=by
 refine cM 164 284 (h.al λb _ h=>h.al λb1 _ h=>⟨_,_,_,h.r 1,?_⟩)
 refine zL (Q:=Q) (F:=cellsA b1 [.string ⟨#[]⟩,.slice none 0 0] 37::cellsA b [.string nm,.slice la ls.length lc] 37::F) (h.o [2,0,1] 3) (λH h=>d H (h.o [0] 3)) e λQ' a c H' hs f h=>⟨_,_,_,rfl,?_⟩
 refine h.st 2 rfl rfl λi h=>⟨_,_,_,_,h.q 2,h.st 1 rfl rfl λH2 h=>⟨_,_,_,_,h.q 1,?_⟩⟩
 exact k Q' a c _ hs f (h.o [0] 3)
theorem U1{g b:Ag}{rd v n r:Int}{nm:Eq}{ls:List bg}{la:Xa}{lc a:Nat}(d:eI g rd v nm ls=(b,n,r))(ok:gQ g)(h:aA H (Q::agA Q a g::F))(c:∀H,aA H (Q::F)->aN H la (aF aZ ls))
  (k:∀Q' H',aH Q Q'->aA H' (Q'::agA Q' a b::F)->K (.tuple #[I64ZZ n,I64ZZ r]) H'):CF 160 #[PA a 0,I64ZZ rd,I64ZZ v,.agg #[.string nm,.slice la ls.length lc]] H K:=
 Ty ok h c (by rw[d];exact k)
theorem U2{I E C:aD}{s b:Nat}(t:j<64)(ok:gQ (f.ags j))(N:f.facts.length<=1000000)(O:e.ag=(j:Int))(D:bB Q ex.la (aF aZ e.labs))(w:e.labs.length<=1000000)
  (h:aA H (Q::fltA Q fb ab f::I::E::C::cellsA s (aY e ex) 40::cellsA b [PA fb 0] 73::F))
  (k:∀Q' H',aH Q Q'->aA H' (Q'::fltA Q' fb ab (lw f j e).1::I::E::C::cellsA s (aY e ex) 40::cellsA b [PA fb 0] 73::F)->K (I64ZZ (lw f j e).2) H') :
  CF 159 #[PA (ab j) 0,PA s 0,PA b 0] H K:=by
 have i:∃g n r,eI (f.ags j) e.rd e.val e.nm e.labs=(g,n,r):=⟨_,_,_,rfl⟩;obtain⟨g,n,r,J⟩:=i;unfold lw at k;rw[J]at k;refine OZ ⟨_,h.r 5,_,h.r 5,_,_,_,_,h.q 5,?_⟩;have h:=uv t (h.o [1,0,2,3,4,5,6] 7);refine U1 J (rd:=e.rd) (v:=e.val) (nm:=e.nm) (ls:=e.labs) ok (h.o [2,0,1,3,4,5,6,7] 8) (λH h=>D.at h 0 rfl) λS T hs h=>⟨_,_,rfl,?_⟩
 have h:=Bh hs (h.o [2,0,1,3,4,5,6,7] 8);refine⟨λc=>?_,λc=>?_⟩
 .have c:r≠0:=by grind
  rw[V1 c]at k;have h:=xm t (h.o [2,0,1,3,4,5,6,7] 8);exact k S _ hs (h.o [1,0,2,3,4,5,6] 7)
 have c:¬r≠0:=by grind
 rw[Vz c]at k;obtain⟨x,ys,fs,d,h⟩:=uu.1 h;obtain⟨y,evs,g1,g2,h⟩:=de.1 (h.o [10,0,1,2,3,4,5,6,7,8,9,11,12,13,14,15] 16);have M:fs.length=f.facts.length:=by rw[<-d.facts,VP]
 have h:=h.o [12,3,7,0,16,17,1,2,4,5,6,8,9,10,11,13,14,15] 18;refine⟨some ⟨fb,0,none⟩,h.r 5,some ⟨fb,0,none⟩,h.r 5,_,_,_,h.r 1,_,h.r 4,_,Tw h 3 rfl,_,xg h 3 rfl,some ⟨fb,0,none⟩,h.r 5,_,h.r 1,_,K8 h 3 rfl,_,h.r 4,_,_,_,_,h.q 4,?_⟩;refine U0 (nm:=e.nm) (ls:=e.labs) h (λH h=>(D.sub hs).at h 0 rfl) w λQ2 B G H2 s2 A h=>⟨_,_,_,_,rfl,h.r 4,h.r 1,h.r 5,h.r 4,h.r 1,h.r 5,h.r 5,h.al λb2 _ h=>⟨h.r 2,h.r 6,h.r 6,?_⟩⟩
 let fc:FcE:=⟨⟨j,g.ep,n⟩,g.boot,f.now,⟨g.ck,e.val,e.nm,e.labs,B,G⟩⟩
 have u:iL fc=[I64ZZ e.ag,I64ZZ g.ep,I64ZZ n,I64ZZ g.boot,I64ZZ f.now,I64ZZ g.ck,I64ZZ e.val,.string e.nm,.slice B e.labs.length G]:=by rw[O]
 refine h.append (m:=1) (ws:=iL fc) slFc 3 rfl (by rw[u];exact h.ce_rd 0 rfl) rfl rfl (by omega) (by omega) λa5 c5 U h=>⟨_,_,_,rfl,h.r 6,h.st 2 rfl rfl λR h=>?_⟩
 have el:fs.length+1=(fs++[fc]).length:=by simp
 have L:aF iL fs++iL fc=aF iL (fs++[fc]):=by grind [aF]
 have h:aA R (_::Q2::cellsA fb (fE { gS f j g with facts:=f.facts++[fc.p] } { x with fa:=a5,fc:=c5 } ab ys.length (fs.length+1)) 121::slA 322 9 a5 (fs.length+1) c5 (aF iL fs++iL fc)::_):=h;rw[el,L]at h;have h:=xe s2 (de.2 ⟨y,evs,g1,g2,h.o [4,7,8,1,2,3,5,6,9,10,11,12,13,14,15,16,17,18] 19⟩);have h:=sf s2 (h.o [11,0,1,2,3,4,5,6,7,8,9,10,12,13,14,15] 16);have h:=uq s2 (h.o [12,0,1,2,3,4,5,6,7,8,9,10,11,13,14,15] 16);have h:=qD s2 (h.o [12,0,1,2,3,4,5,6,7,8,9,10,11,13,14,15] 16);have h:=Bd t (h.o [3,0,1,2,4,5,6,7,8,9,10,11,12,13,14,15] 16);have P:=(dr (f:={ gS f j g with facts:=f.facts++[fc.p] })).2 ⟨{ x with fa:=a5,fc:=c5 },ys,fs++[fc],⟨d.sink,(d.sub s2).ys,by rw[VS,d.facts];rfl,⟨λz a=>?_⟩⟩,h.o [4,8,9,10,5,11,0,2,1,3,12,13,14,6,7] 15⟩
 .exact k Q2 _ (hs.trans s2) (swp P)
 .rcases VJ.1 a with a|a
  .exact (d.fs.kin z a).sub s2
  .rw [VH]at a;subst a;exact A
theorem U3(d:j<64)(ok:gQ (f.ags j))(c:f.facts.length<=1000000)(i:e.ag=(j:Int))(m:bB Q ex.la (aF aZ e.labs))(a:e.labs.length<=1000000)(hb:∀p∈f.rds,p.2.length<=1000000)(h:aA H (Q::fltA Q fb ab f::F))
  (k:∀Q' H',aH Q Q'->aA H' (Q'::fltA Q' fb ab (hrdF (lw f j e).1 j e.rd)::F)->K (I64ZZ (lw f j e).2) H'):CF 100 #[PA fb 0,.agg ⟨aY e ex⟩] H K:=by
 have u:(lw f j e).1.rds=f.rds:=by unfold lw;split <;> rfl
 refine cM 100 28 (h.al λb _ h=>h.al λb1 _ h=>⟨some ⟨fb,0,none⟩,h.r 1,_,h.r 0,_,h.r 0,?_⟩)
 rw[i];refine Bj (rd:=e.rd) (r:=(lw f j e).2) (f':=(lw f j e).1) (F:=cellsA b1 (aY e ex) 40::cellsA b [PA fb 0] 73::F) d (by grind) (by kernel_rfl) (h.o [2,3,0,1] 4) (λs n t H' J h kk=>U2 d ok c i m a h kk) λQ' H' hs h=>⟨_,rfl,k Q' _ hs (h.o [0,1] 4)⟩
end
def pf(f:bG)(c:Wpc)(rd:Int):bG×Int:=
 if c.1=true then ({ f with g:=(mB f.g c.2.1 f.now c.2.2.2).1 },(mB f.g c.2.1 f.now c.2.2.2).2) else
 (hrdF (gS f c.2.1.toNat (mw (f.ags c.2.1.toNat) rd c.2.2.2).1) c.2.1.toNat rd,(mw (f.ags c.2.1.toNat) rd c.2.2.2).2)
def arrF(f:bG)(n rd:Int):bG×Int:=
 if (ir f.w n).2.2≠0 then (f,(ir f.w n).2.2) else pf { f with w:=(ir f.w n).1 } (ir f.w n).2.1 rd
theorem U4(w:Wr)(n:Int):(aK n w.m=none/\ir w n=(w,(false,0,0,[]),19))\/∃c,aK n w.m=some c/\ir w n=({ w with m:=bD n w.m },c,0):=by
 unfold ir
 grind
section
variable {F L:List aD}{H:aC}{K:KQ}{Q Q':aD}{f:bG}{fb j:Nat}{ab:Nat->Nat}{e:Et}{ex:EtX}
theorem U5{d c i:aD}{a pb:Nat}{p:Pk}(b:j<64)(ok:gQ (f.ags j))(m:p.In Q)(hb:aP p.bs)
  (h:aA H (Q::fltA Q fb ab f::d::c::i::cellsA a (aY e ex) 40::cellsA pb (nE p) 230::F))
  (k:∀Q' H',aH Q Q'->aA H' (Q'::fltA Q' fb ab (gS f j (mw (f.ags j) e.rd p.bs).1)::d::c::i::cellsA a (aY e ex) 40::cellsA pb (nE p) 230::F)->K (I64ZZ (mw (f.ags j) e.rd p.bs).2) H') :
  CF 168 #[PA (ab j) 0,PA a 0,PA pb 0] H K:=by
 refine cM 168 28 ⟨_,h.r 5,_,_,_,h.r 6,?_⟩;have h:=uv b (h.o [1,0,2,3,4,5,6] 7);refine Ud (rd:=e.rd) ok (h.o [2,0,1,3,4,5,6,7] 8) (λH h=>m.rd.at h 0 rfl) hb m.le λn s hs h=>⟨_,rfl,?_⟩
 have h:=Bh hs (h.o [2,0,1,3,4,5,6,7] 8);have h:=xm b (h.o [2,0,1,3,4,5,6,7] 8);exact k n _ hs (h.o [1,0,2,3,4,5,6] 7)
theorem L9{w a:Wr}{n b:Int}{c:Wpc}{wb:Nat}(d:ir w n=(a,c,b))(h:aA H (wireA Q wb w::F))(k:∀p H',p.In Q->p.core=c->aA H' (wireA Q wb a::F)->K (.tuple #[mD p,I64ZZ b]) H'):CF 103 #[PA wb 0,I64ZZ n] H K:=
 Un h (by rw[d];exact k)
theorem U6{gb db:Nat}{g b:Gg}{agent now r:Int}{a:Xa}{c:Nat}{bs:List Int}(f:mB g agent now bs=(b,r))(ok:jd g)(h:aA H (Q::gateA Q gb db g::F))(d:∀H,aA H (Q::F)->aN H a (bs.map U8))(hb:aP bs)(e:bs.length<=c)
  (k:∀Q' H',aH Q Q'->aA H' (Q'::gateA Q' gb db b::F)->K (I64ZZ r) H'):CF 167 #[PA gb 0,I64ZZ agent,I64ZZ now,.slice a bs.length c] H K:=
 Uc ok h d hb e (by rw[f];exact k)
theorem Bk{g:Gg}{x:FlX}{ys:List Fy}{fs:List FcE}(hs:aH Q Q')(a:FlI Q f ys fs)
  (h:aA H (gateA Q' x.gb x.db g::cellsA fb (fE f x ab ys.length fs.length) 121::ledA x.lb f.led::mapA aggI3 aggPt x.sm f.spans::outS x.sa x.sc ys::slA 322 9 x.fa fs.length x.fc (aF iL fs)::readA x.rm f.rds::agsX Q ab f.ags 64 64::wireA Q x.wb f.w::F)):aA H (fltA Q' fb ab { f with g:=g }::F):=by
 have h:=sf hs (h.o [8,0,1,2,3,4,5,6,7] 9);have h:=qD hs (h.o [8,0,1,2,3,4,5,6,7] 9);exact dr.2 ⟨x,ys,fs,⟨a.sink,(a.sub hs).ys,a.facts,(a.sub hs).fs⟩,h.o [3,4,5,6,7,8,0,1,2] 9⟩
theorem U7{c pb:Nat}{p:Pk}(n:jd f.g)(m:∀j,j<64->gQ (f.ags j))(hb:∀p∈f.rds,p.2.length<=1000000)(w:p.In Q)(b:aP p.bs)(i:0<=p.ag/\p.ag<64)
  (h:aA H (Q::fltA Q fb ab f::cellsA pb (nE p) 230::cellsA c (aY e ex) 40::F))
  (k:∀Q' H',aH Q Q'->aA H' (Q'::fltA Q' fb ab (pf f p.core e.rd).1::F)->K (I64ZZ (pf f p.core e.rd).2) H') :
  ∃v,aM H pb 0=some (.bool v)/\IF v (∃v1,aM H fb 215=some (.pointer v1)/\∃v2,aM H pb 1=some (I64ZZ v2)/\∃v3,aM H fb 148=some (I64ZZ v3)/\∃A B y,aM H pb 3=some (.slice A B y)/\
    CF 167 ⟨[.pointer v1,I64ZZ v2,I64ZZ v3,.slice A B y]⟩ H λu H'=>∃r,u=I64ZZ r/\K (I64ZZ r) H')
   (∃v4,aM H pb 1=some (I64ZZ v4)/\∃v5,aM H c 3=some (I64ZZ v5)/\CF 158 ⟨[PA fb 0,I64ZZ v4,I64ZZ v5,.func (.func 168) #[] ⟨[PA c 0,PA pb 0]⟩]⟩ H λu H'=>∃r,u=I64ZZ r/\K (I64ZZ r) H'):=by
 refine⟨_,h.r 2,λs=>?_,λs=>?_⟩
 .obtain⟨x,ys,fs,D,h⟩:=dr.1 (h.o [1,0,2,3] 4);have d:∃t r,mB f.g p.ag f.now p.bs=(t,r):=⟨_,_,rfl⟩;obtain⟨t,r,d⟩:=d;have e0:pf f p.core e.rd=({ f with g:=t },r):=by
   unfold pf;rw[V1 (show p.core.1=true from s)];show (({ f with g:=(mB f.g p.ag f.now p.bs).1 }:bG),(mB f.g p.ag f.now p.bs).2)=_;rw[d]
  rw[e0]at k;refine⟨some ⟨x.gb,0,none⟩,h.r 0,_,h.r 10,_,h.r 0,_,_,_,h.r 10,?_⟩;refine U6 d n (h.o [9,8,0,1,2,3,4,5,6,7,10,11] 12) (λH h=>w.rd.at h 0 rfl) b w.le λQ2 H2 hs h=>⟨_,rfl,k Q2 _ hs ?_⟩
  exact swp (Bk hs D (h.o [1,2,3,4,5,6,7,8,9,0] 12))
 .obtain⟨j,E⟩:∃j:Nat,p.ag=(j:Int):=⟨_,(Int.toNat_of_nonneg i.1).symm⟩;have a:j<64:=by omega
  have e0:pf f p.core e.rd=(hrdF (gS f j (mw (f.ags j) e.rd p.bs).1) j e.rd,(mw (f.ags j) e.rd p.bs).2):=by
   have C:p.core.2.1.toNat=j:=by show p.ag.toNat=j;omega
   unfold pf;rw[Vz (by rw[show p.core.1=p.up from rfl,s];decide),C];rfl
  rw[e0]at k;refine⟨_,h.r 2,_,h.r 3,?_⟩;rw[E];refine Bj (rd:=e.rd) (r:=(mw (f.ags j) e.rd p.bs).2) (f':=gS f j (mw (f.ags j) e.rd p.bs).1) (F:=cellsA c (aY e ex) 40::cellsA pb (nE p) 230::F) a hb (by kernel_rfl) (h.o [0,1,3,2] 4) (λL I G H' J h kk=>U5 a (m j a) w b h kk) λQ' H' hs h=>⟨_,rfl,k Q' _ hs (h.o [0,1] 4)⟩
theorem U9(A:jd f.g)(B:kD f.w)(y:∀j,j<64->gQ (f.ags j))(hb:∀p∈f.rds,p.2.length<=1000000)(h:aA H (Q::fltA Q fb ab f::F))
  (k:∀Q' H',aH Q Q'->aA H' (Q'::fltA Q' fb ab (arrF f e.num e.rd).1::F)->K (I64ZZ (arrF f e.num e.rd).2) H'):CF 102 #[PA fb 0,.agg ⟨aY e ex⟩] H K:=by
 have m:∃d c s,ir f.w e.num=(d,c,s):=⟨_,_,_,rfl⟩;obtain⟨d,c,s,m⟩:=m;unfold arrF at k;rw[m]at k;have i:=U4 f.w e.num;rw[m]at i;refine Pa (h.al λb _ h=>?_)
 intro I G;obtain⟨x,ys,fs,v,h⟩:=dr.1 (h.o [2,0,1] 3);have go:∀(pb:Nat) (p:Pk) H',p.In Q->p.core=c->aA H' (wireA Q x.wb d::cellsA fb (fE f x ab ys.length fs.length) 121::ledA x.lb f.led::mapA aggI3 aggPt x.sm f.spans::outS x.sa x.sc ys::slA 322 9 x.fa fs.length x.fc (aF iL fs)::readA x.rm f.rds::agsX Q ab f.ags 64 64::gateA Q x.gb x.db f.g::cellsA b (aY e ex) 40::Q::cellsA pb (nE p) 230::F)->I pb 0 s H':=by
  intro pb p H' u n h;have h:aA H' (fltA Q fb ab { f with w:=d }::cellsA b (aY e ex) 40::Q::cellsA pb (nE p) 230::F):=(dr (f:={ f with w:=d })).2 ⟨x,ys,fs,⟨v.sink,v.ys,v.facts,v.fs⟩,h.o [1,2,3,4,5,6,7,0,8,9,10,11] 12⟩;refine G _ _ _ _ ⟨λa=>?_,λa=>?_⟩
  .have a:s≠0:=by grind
   rw[V1 a]at k
   rcases i with ⟨_,e0⟩|⟨C,_,e0⟩
   .have e1:d=f.w:=(Prod.mk.inj e0).1;subst e1;exact k Q _ (aH.refl Q) (h.o [2,0] 4)
   .exact V0 (Prod.mk.inj (Prod.mk.inj e0).2).2 a
  .have a:¬s≠0:=by grind
   rw[Vz a]at k
   rcases i with ⟨_,e0⟩|⟨C,D,e0⟩
   .have:=(Prod.mk.inj (Prod.mk.inj e0).2).2;rw[this]at a;exact V0 (by decide) a
   have ec:c=C:=(Prod.mk.inj (Prod.mk.inj e0).2).1;subst ec n;have t:=B.bs _ (fL D);refine U7 (f:={ f with w:=d }) (p:=p) A y hb u t.1 t.2.2 (h.o [2,0,3,1] 4) λQ' H2 hs h=>k Q' _ hs h
 refine⟨some ⟨x.wb,0,none⟩,h.r 0,_,h.r 9,?_,?_⟩
 .have h:=h.o [7,0,1,2,3,4,5,6,8,9,10] 11;refine L9 m h λp E u n h=>⟨_,_,_,_,_,_,_,rfl,h.al λb1 _ h=>h.st 0 rfl rfl λH2 h=>go b1 p _ u n ?_⟩
  exact h.o [1,2,3,4,5,6,7,8,9,10,11,0] 12
 .refine h.al λb2 _ h=>⟨h.r 10,h.r 1,?_⟩
  have h:=h.o [8,1,2,3,4,5,6,7,9,10,11,0] 12;refine L9 m h λp E u n h=>⟨_,_,_,_,_,_,_,rfl,h.st 11 rfl rfl λH2 h=>go b2 p _ u n h⟩
end
deriving instance DecidableEq for bg,Et
inductive Fk where
 | whole (o:Nat) (least most:Int)
 | keep
 | ser
 | data
 deriving DecidableEq
def lx(e:Et):Nat->Int
 | 1=>e.ag|2=>e.now|3=>e.rd|4=>e.bt|5=>e.val|_=>e.num
def setN(e:Et)(v:Int):Nat->Et
 | 1=>{ e with ag:=v }|2=>{ e with now:=v }|3=>{ e with rd:=v }|4=>{ e with bt:=v }|5=>{ e with val:=v }|_=>{ e with num:=v }
def ly(n:Nat):UInt8:=UInt8.ofNat (if n<10 then 48+n else 87+n)
def hexL(bs:List Int):List UInt8:=if bs=[] then [45] else bs.flatMap λb=>[ly (b.toNat/16),ly (b.toNat%16)]
def wrF:Fk->Et->List UInt8
 | .whole o _ _,e=>Go.Lib.itoa (lx e o)
 | .keep,e=>Go.Lib.itoa e.keep
 | .ser,e=>aR (dv e.nm e.labs)
 | .data,e=>hexL e.bs
def rdF:Fk->Et->Bool
 | .whole o l m,e=>decide (l<=lx e o)&&decide (lx e o<=m)
 | .keep,_=>true
 | .ser,e=>df e.nm e.labs
 | .data,_=>true
def cpF:Fk->Et->Et->Et
 | .whole o _ _,e,b=>setN b (lx e o) o
 | .keep,e,b=>{ b with keep:=e.keep }
 | .ser,e,b=>{ b with nm:=e.nm,labs:=e.labs }
 | .data,e,b=>{ b with bs:=e.bs }
abbrev fN(o:Nat):Fk:=.whole o (-9223372036854775808) 9223372036854775807
abbrev fA:Fk:=.whole 1 0 63
def fi(k:Int):Option (List UInt8×List Fk):=
 if k=0 then some ([116,105,109,101],[fN 2])
 else if k=1 then some ([98,111,111,116],[fA,fN 4])
 else if k=2 then some ([109,101,97,115,117,114,101],[fA,fN 3,fN 5,.ser])
 else if k=3 then some ([115,116,101,112],[fA,fN 3])
 else if k=4 then some ([97,114,114,105,118,101],[fN 6,fN 3])
 else if k=5 then some ([108,111,115,101],[fN 6])
 else if k=6 then some ([100,111,117,98,108,101],[fN 6])
 else if k=7 then some ([102,111,114,103,101],[fA,.data])
 else if k=8 then some ([116,105,99,107],[])
 else if k=9 then some ([115,121,110,99],[])
 else if k=10 then some ([115,105,110,107],[])
 else if k=11 then some ([99,114,97,115,104],[.keep])
 else none
def iu(e:Et)(fs:List Fk):Et:=fs.foldl (λb d=>cpF d e b) { kind:=e.kind }
def fk(e:Et)(w:List UInt8)(fs:List Fk):List (List UInt8):=w::fs.map λd=>wrF d e
def cO(e:Et):Option (List UInt8):=match fi e.kind with
 | none=>none
 | some (w,fs)=>if decide (e.bs.length<=4096)&&fs.all (λd=>rdF d e)&&decide (iu e fs=e) then some (Go.Lib.join (fk e w fs) [32]) else none
theorem pu_app(c:UInt8):∀(l:List UInt8) (d:Nat),Go.Lib.parseUint10 d (l++[c])=match Go.Lib.parseUint10 d l with
  | .ok a=>Go.Lib.parseUint10 a [c]
  | .syntax=>.syntax
  | .range=>.range
 | [],d=>rfl
 | b::l,d=>by
  rw[WF,Go.Lib.parseUint10,Go.Lib.parseUint10]
  split
  .split
   .rfl
   .split
    .rfl
    .exact pu_app c l _
  .rfl
theorem xp{n:Nat}(h:n<10):(UInt8.ofNat (48+n)).toNat=48+n:=by
 rw[UInt8.toNat_ofNat'];omega
theorem pu_dec:∀(u:Nat),u<18446744073709551616->Go.Lib.parseUint10 0 (Go.Lib.decDigits u)=.ok u:=by
 intro u
 induction u using Nat.strongRecOn with
 | _ u ih=>
  intro h;rw[Go.Lib.decDigits]
  split
  .next h10=>
   simp only[Go.Lib.parseUint10,xp h10];rw[pO,nO,nO];congr 1;omega
  .next h10=>
   have hd:=xp (n:=u%10) (by omega);rw[pu_app,ih (u/10) (by omega) (by omega)];simp only[Go.Lib.parseUint10,hd];rw[pO,nO,nO];congr 1;omega
theorem Bl:∀(u:Nat) (c:UInt8),c∈Go.Lib.decDigits u->48<=c.toNat/\c.toNat<=57:=by
 intro u
 induction u using Nat.strongRecOn with
 | _ u ih=>
  intro c h;rw[Go.Lib.decDigits]at h
  split at h
  .next h10=>
   obtain rfl:=VH.1 h;rw[xp h10];omega
  .next h10=>
   rcases VJ.1 h with h|h
   .exact ih (u/10) (by omega) c h
   .obtain rfl:=VH.1 h;rw[xp (by omega)];omega
theorem dec_ne(u:Nat):Go.Lib.decDigits u≠[]:=by
 rw[Go.Lib.decDigits];split <;> simp
theorem UA{v:Int}(h:aG v):Go.Lib.parseIntB 64 (Go.Lib.itoa v)=.ok v:=by
 obtain⟨j,i⟩:=h;rw[Go.Lib.parseIntB_64,Go.Lib.itoa]
 split
 .next hn=>
  have b:=pu_dec v.natAbs (by omega);unfold Go.Lib.atoiAll;simp only[show ((45:UInt8).toNat=43\/(45:UInt8).toNat=45) from .inr rfl,if_true,Go.Lib.parseMag,Vz (dec_ne _),b];rw[Vz (by simp),Vz (by intro a;have:=a.2;omega),V1 (show UInt8.toNat 45=45 from rfl)];congr 1;omega
 .next hn=>
  have b:=pu_dec v.toNat (by omega);obtain⟨c,r,a⟩:∃c r,Go.Lib.decDigits v.toNat=c::r:=List.exists_cons_of_ne_nil (dec_ne _);have hm:=Bl v.toNat c (by rw[a];exact VI ..);rw[a]at b ⊢;unfold Go.Lib.atoiAll;have e:¬(c.toNat=45):=λh=>by rw[h]at hm;omega
  have f:¬(c.toNat=43):=λh=>by rw[h]at hm;omega
  try unfold Go.Lib.atoiAll
  have d:¬(9223372036854775808<=v.toNat):=by omega
  simp only[f,e,or_self,if_false,Go.Lib.parseMag,Vz (List.cons_ne_nil c r),b,not_false_eq_true,true_and,false_and,d];congr 1;omega
theorem itoa_mem{v:Int}{c:UInt8}(h:c∈Go.Lib.itoa v):c.toNat=45\/(48<=c.toNat/\c.toNat<=57):=by
 unfold Go.Lib.itoa at h
 split at h
 .rcases V9.1 h with rfl|h
  .exact .inl rfl
  .exact .inr (Bl _ _ h)
 .exact .inr (Bl _ _ h)
def cX(c:UInt8):List UInt8->List (List UInt8)
 | []=>[[]]
 | b::r=>if b=c then []::cX c r else match cX c r with
  | []=>[[b]]
  | h::t=>(b::h)::t
theorem LE(c:UInt8)(l:List UInt8):cX c l≠[]:=by
 induction l with
 | nil=>simp[cX]
 | cons b r ih=>unfold cX;grind
theorem xq{c:UInt8}:∀{a:List UInt8} (r:List UInt8),c∉a->cX c (a++c::r)=a::cX c r
 | [],r,_=>by rw[VZ,cX,V1 rfl]
 | b::a,r,h=>by
  rw[WF,cX,Vz (by grind),xq r (by grind)]
theorem xr{c:UInt8}:∀{a:List UInt8},c∉a->cX c a=[a]
 | [],_=>rfl
 | b::a,h=>by
  rw[cX,Vz (by grind),xr (by grind)]
theorem LF{c:UInt8}:∀{l:List UInt8},c∈l->∃a r,l=a++c::r/\c∉a
 | [],h=>V0 h (by simp)
 | b::l,h=>by
  by_cases hb:b=c
  .exact⟨[],l,by rw[hb];rfl,by simp⟩
  .obtain⟨a,r,rfl,d⟩:=LF (c:=c) (l:=l) (by grind);exact⟨b::a,r,rfl,by grind⟩
theorem LH{c:UInt8}:∀{a:List UInt8} (r:List UInt8),c∉a->Go.Lib.index (a++c::r) [c]=a.length
 | [],r,_=>by simp[Go.Lib.index]
 | b::a,r,h=>by
  have hb:c≠b:=by grind
  have d:=LH (c:=c) (a:=a) r (by grind);rw[WF,Go.Lib.index,Vz (by simp[hb]),d,Vz (by simp)];simp
theorem LI{c:UInt8}:∀(n:Nat) (l:List UInt8),l.count c=n->Go.Lib.splitK [c] 0 n l=cX c l
 | 0,l,h=>by
  have d:c∉l:=List.count_eq_zero.1 h;rw[xr d];rfl
 | n+1,l,h=>by
  have hm:c∈l:=List.count_pos_iff.1 (by omega);obtain⟨a,r,rfl,b⟩:=LF hm;rw[xq r b,Go.Lib.splitK,LH r b,Vz (by simp)];have e:a.count c=0:=List.count_eq_zero.2 b;rw[List.count_append,e,List.count_cons_self]at h;have e1:(a++c::r).take ((a.length:Int).toNat+0)=a:=by simp
  have e2:(a++c::r).drop ((a.length:Int).toNat+[c].length)=r:=by
   simp[List.drop_append]
  rw[e1,e2,LI n r (by omega)]
theorem splitB_C(c:UInt8)(s:Eq):Go.Lib.splitB (bL [c]) 0 (Go.Lib.countB s (bL [c])) s=(cX c (aR s)).map bL:=by
 have h:=Go.Lib.splitB_data (bL [c]) 0 (Go.Lib.countB s (bL [c])) s;have a:Go.Lib.countB s (bL [c])=(aR s).count c:=Go.Lib.count_one c _;rw[a]at h ⊢;rw[show (bL [c]).data.toList=[c] from rfl,LI _ _ rfl]at h;rw[<-h,Wg];have:(bL∘λx:Eq=>x.data.toList)=id:=funext λx=>jW x
 rw[this,List.map_id]
theorem joinC(c:UInt8)(x y:List UInt8)(ws:List (List UInt8)):Go.Lib.join (x::y::ws) [c]=x++c::Go.Lib.join (y::ws) [c]:=by
 rw[Go.Lib.join_cons,Go.Lib.join_cons];simp[Go.Lib.joinTail]
theorem LJ{c:UInt8}:∀{x:List UInt8} {ws:List (List UInt8)},(∀w∈x::ws,c∉w)->cX c (Go.Lib.join (x::ws) [c])=x::ws
 | x,[],h=>by rw[Go.Lib.join_one];exact xr (h x (by simp))
 | x,y::ws,h=>by
  have b:=LJ (x:=y) (ws:=ws) λw a=>h w (VF _ a)
  rw[joinC,xq _ (h x (by simp)),b]
theorem Bm{c:UInt8}:∀{ls:List (List UInt8)} (t:List UInt8),(∀l∈ls,c∉l)->cX c (ls.flatMap (·++[c])++t)=ls++cX c t
 | [],t,_=>rfl
 | l::ls,t,h=>by
  rw[Wo,VX,VX,List.singleton_append,xq _ (h l (by simp)),Bm t λx a=>h x (VF _ a)]
  rfl
def chC(c:UInt8):Prop:=33<=c.toNat/\c.toNat<=126
theorem chC_ne{c:UInt8}(h:chC c):c≠32/\c≠10:=by
 constructor <;> (rintro rfl;revert h;unfold chC;decide)
theorem LK{n:Nat}(h:n<16):(ly n).toNat=if n<10 then 48+n else 87+n:=by
 unfold ly;rw[UInt8.toNat_ofNat']
 split <;> omega
theorem hexL_ok{bs:List Int}(hb:aP bs):∀c∈hexL bs,chC c:=by
 intro c a;unfold hexL at a
 split at a
 .obtain rfl:=VH.1 a;exact⟨by decide,by decide⟩
 .obtain⟨b,d,a⟩:=WK.1 a;have h:=hb b d;have f:=LK (n:=b.toNat/16) (by omega);have e:=LK (n:=b.toNat%16) (by omega)
  rcases V9.1 a with rfl|a
  .unfold chC;rw[f];split <;> omega
  .obtain rfl:=VH.1 a;unfold chC;rw[e];split <;> omega
theorem LM{v:Int}:∀c∈Go.Lib.itoa v,chC c:=λc a=>by
 have:=itoa_mem a;unfold chC;omega
theorem LN{c:UInt8}(h:nj c=true):chC c:=by
 unfold nj lowC at h;unfold chC;simp only[VY,V4,V5]at h;omega
theorem valC_ok{c:UInt8}(h:ld c=true):chC c:=by
 unfold ld at h;unfold chC;simp only[V4,V5]at h;exact h.1
theorem Bn{c d:UInt8}:∀{xs:List (List UInt8)},c∈Go.Lib.join xs [d]->c=d\/∃x∈xs,c∈x
 | [],h=>V0 h (by simp[Go.Lib.join,List.intercalate])
 | [x],h=>by rw[Go.Lib.join_one]at h;exact .inr ⟨x,by simp,h⟩
 | x::y::r,h=>by
  rw[joinC]at h
  rcases VJ.1 h with h|h
  .exact .inr ⟨x,by simp,h⟩
  rcases V9.1 h with h|h
  .exact .inl h
  .rcases Bn h with h|⟨z,b,a⟩
   .exact .inl h
   .exact .inr ⟨z,VF _ b,a⟩
theorem text_ok{name:Eq}{labs:List bg}(h:df name labs=true):∀c∈aR (dv name labs),chC c:=by
 intro c a;have d:=lX h;have b:∀c∈aR name,chC c:=λc a=>LN (um d.named c a)
 unfold dv at a;rw[V1 h]at a
 split at a
 .exact b c a
 .rw [oZ,oZ,oZ]at a;have f:aR (iV labs)=Go.Lib.join ((labs.map dV).map aR) [44]:=jc _;rw[f]at a;simp only[VJ]at a
  rcases a with ((a|a)|a)|a
  .exact b c a
  .obtain rfl:=VH.1 a;exact⟨by decide,by decide⟩
  .rcases Bn a with rfl|⟨x,e,a⟩
   .exact⟨by decide,by decide⟩
   .rw [Wg]at e;obtain⟨l,i,rfl⟩:=V8.1 e;have a:c∈aR (dV l):=a;rw[un]at a;obtain⟨j,k⟩:=AR (d.val l i)
    rcases VJ.1 a with a|a
    .exact LN (um k c a)
    .rcases V9.1 a with rfl|a
     .exact⟨by decide,by decide⟩
     .exact valC_ok (j c a)
  .obtain rfl:=VH.1 a;exact⟨by decide,by decide⟩
theorem wrF_ok{e:Et}(hb:aP e.bs){d:Fk}(h:rdF d e=true):∀c∈wrF d e,chC c:=by
 cases d with
 | whole o l m=>exact LM
 | keep=>exact LM
 | ser=>exact text_ok h
 | data=>exact hexL_ok hb
theorem qE{k:Int}{w:List UInt8}{fs:List Fk}(h:fi k=some (w,fs)):∃n:_root_.Fin 12,k=(n.val:Int):=by
 rcases Int.lt_or_le k 0 with b|b
 .unfold fi at h;rw[nO,nO,nO,nO,nO,nO,nO,nO,nO,nO,nO,nO]at h
  cases h
 .rcases Int.lt_or_le k 12 with a|a
  .exact⟨⟨k.toNat,by omega⟩,by simp;omega⟩
  .unfold fi at h;rw[nO,nO,nO,nO,nO,nO,nO,nO,nO,nO,nO,nO]at h
   cases h
theorem form_chk:∀n:_root_.Fin 12,(match fi (n.val:Int) with|some (w,_)=>(w.all λc=>decide (33<=c.toNat)&&decide (c.toNat<=126))&&(match w with|[]=>false|c::_=>decide (c≠35))|none=>true)=true:=by decide
theorem LO{k:Int}{w:List UInt8}{fs:List Fk}(h:fi k=some (w,fs)):(∀c∈w,chC c)/\∃c r,w=c::r/\c≠35:=by
 obtain⟨n,rfl⟩:=qE h;have:=form_chk n;rw[h]at this;simp only[V4,VK,V5]at this;refine⟨λc a=>this.1 c a,?_⟩
 cases w with
 | nil=>simp at this
 | cons c r=>exact⟨c,r,rfl,V3 this.2⟩
structure pg(e:Et)(l:List UInt8)(w:List UInt8)(fs:List Fk):Prop where
 form:fi e.kind=some (w,fs)
 bs:e.bs.length<=4096
 rd:∀d∈fs,rdF d e=true
 back:iu e fs=e
 eq:l=Go.Lib.join (fk e w fs) [32]
theorem Bo{e:Et}{l:List UInt8}(h:cO e=some l):∃w fs,pg e l w fs:=by
 unfold cO at h
 split at h
 .cases h
 .next w fs hf=>
  split at h
  .next hc=>
   simp only[V4,V5,VK]at hc;exact⟨w,fs,hf,hc.1.1,hc.1.2,hc.2,(Option.some.inj h).symm⟩
  .cases h
theorem pg.words{e:Et}{l w:List UInt8}{fs:List Fk}(h:pg e l w fs)(hb:aP e.bs):∀x∈fk e w fs,∀c∈x,chC c:=by
 intro x a
 rcases V9.1 a with rfl|a
 .exact (LO h.form).1
 .obtain⟨d,hd,rfl⟩:=V8.1 a;exact wrF_ok hb (h.rd d hd)
theorem pg.cut{e:Et}{l w:List UInt8}{fs:List Fk}(h:pg e l w fs)(hb:aP e.bs):cX 32 l=fk e w fs:=by
 rw[h.eq];exact LJ λx b a=>(chC_ne (h.words hb x b _ a)).1 rfl
theorem pg.line{e:Et}{l w:List UInt8}{fs:List Fk}(h:pg e l w fs)(hb:aP e.bs):(10:UInt8)∉l/\∃c r,l=c::r/\c≠35:=by
 refine⟨λa=>?_,?_⟩
 .rw [h.eq]at a
  rcases Bn a with a|⟨x,f,a⟩
  .exact V0 a (by decide)
  .exact (chC_ne (h.words hb x f _ a)).2 rfl
 .obtain⟨c,r,b,a⟩:=(LO h.form).2;refine⟨c,r++Go.Lib.joinTail [32] (fs.map λd=>wrF d e),?_,a⟩
  rw[h.eq,fk,Go.Lib.join_cons,b];rfl
theorem UB:∀n m:_root_.Fin 12,(fi (n.val:Int)).map Prod.fst=(fi (m.val:Int)).map Prod.fst->n=m:=by decide
theorem form_inj{k b:Int}{w:List UInt8}{fs a:List Fk}(h:fi k=some (w,fs))(c:fi b=some (w,a)):k=b:=by
 obtain⟨n,rfl⟩:=qE h;obtain⟨m,rfl⟩:=qE c;rw[UB n m (by rw[h,c];rfl)]
def uw(p:List UInt8):Prop:=∀k w fs,fi k=some (w,fs)->¬((cX 32 p).head?=some w/\(cX 32 p).length=1+fs.length)
def ou(Q:aD)(g:Nat)(cs:Array Value):Prop:=∀H F,aA H (Q::F)->∃t fz,H[g]?=some (.cells cs t fz)
theorem ou.sub{Q Q':aD}{g:Nat}{cs:Array Value}(h:ou Q g cs)(hs:aH Q Q'):ou Q' g cs:=λH F a=>by
 obtain⟨c,b⟩:=hs H F a;exact h H c b
def reasonL:List Eq:=[⟨#[99,111,117,110,116,101,100]⟩,⟨#[108,97,116,101]⟩,⟨#[104,101,108,100]⟩,⟨#[119,105,100,101]⟩,⟨#[102,117,108,108]⟩,⟨#[115,116,97,108,101]⟩,⟨#[102,111,114,109]⟩]
structure Gl(Q:aD):Prop where
 pow:ou Q 4 (Go.Lib.pow10Tab.map λz=>Value.int .u64 z).toArray
 mx:∃m:Int,ou Q 3 #[aB m]
 rs:ou Q 0 (reasonL.map Value.string).toArray
theorem Gl.sub{Q Q':aD}(h:Gl Q)(hs:aH Q Q'):Gl Q':=⟨h.pow.sub hs,let ⟨m,hm⟩:=h.mx;⟨m,hm.sub hs⟩,h.rs.sub hs⟩
section
variable {F L:List aD}{H:aC}{K:KQ}{Q:aD}
theorem LP(w:World)(n:Nat)(os:Array Obj):cV w.heap (Sort.grow (w.drewN n) os).heap:=by
 intro b hb;show (w.heap++os)[b]?=w.heap[b]?;exact Array.getElem?_append_left hb
theorem Bp{v:Int}(a:aG v)(g:Gl Q)(h:aA H (Q::F))(k:∀H',aA H' (Q::F)->K (.string (bL (Go.Lib.itoa v))) H'):CF 67 #[I64ZZ v,I64ZZ 10] H K:=by
 refine .mk λw b=>?_
 subst b;refine ib (Any.strconv_FormatInt_10 Tryz.fmtA v a.1 a.2 w ?_) ?_
 .obtain⟨t,d,c⟩:=g.pow _ _ h;have e:Tryz.prog.globalNamed "internal/strconv.uint64pow10"=some 4:=by kernel_rfl
  unfold Go.Lib.TabIs World.var?;rw[e];simp only[Option.bind_some,c]
 .rintro e f ⟨rfl,j,os,rfl⟩;exact⟨_,rfl,⟨rfl,rfl,rfl⟩,k _ (h.grow (LP w j os))⟩
theorem UC{v:Int}(b:aG v)(h:aA H L)(k:∀H',aA H' L->K (.tuple #[I64ZZ v,.nilIface]) H'):CF 128 #[.string (bL (Go.Lib.itoa v)),I64ZZ 10,I64ZZ 64] H K:=by
 refine .mk λw a=>?_
 subst a;have d:=Go.Lib.itoa_length_le v b.1 b.2;refine ib (Any.strconv_ParseInt_10_at64_ok Tryz.prsA (bL (Go.Lib.itoa v)) ?_ v ?_ w) ?_
 .show (Go.Lib.itoa v).toArray.size<=_;simp;omega
 .show Go.Lib.parseIntB 64 (aR (bL (Go.Lib.itoa v)))=_;rw[jc];exact UA b
 .rintro e c ⟨rfl,a⟩
  rcases a with rfl|⟨t,rfl⟩
  .exact⟨_,rfl,⟨rfl,rfl,rfl⟩,k _ h⟩
  .have hb:=Go.Lib.bytesWorld_below w 5 t;exact⟨_,rfl,ru hb,k _ (h.grow (rq hb))⟩
theorem LQ{s:Eq}{c:UInt8}(hs:s.size<=1000000000)(g:Gl Q)(h:aA H (Q::F))
  (k:∀b H',aA H' (cellsA b ((cX c (aR s)).map λx=>.string (bL x)) 9::Q::F)->K (.slice (some ⟨b,0,none⟩) (cX c (aR s)).length (cX c (aR s)).length) H'):CF 23 #[.string s,.string (bL [c])] H K:=by
 refine .mk λw j=>?_
 subst j;obtain⟨m,hm⟩:=g.mx;obtain⟨t,u,d⟩:=hm _ _ h;refine ib (Any.strings_Split Tryz.splA (by kernel_rfl) s (bL [c]) m w (by omega) ?_ (by show 1<=1;omega)) ?_
 .show w.cell? ⟨3,0,none⟩=_;rw[cell?_cellAt];simp[aM,d]
 .rintro e n ⟨rfl,rfl⟩;have a:=splitB_C c s;have f:(cX c (aR s)).length=Go.Lib.countB s (bL [c])+1:=by
   have:=Go.Lib.splitB_all (bL [c]) (by show 1<=1;omega) 0 _ s rfl;rw[a,VP]at this;exact this
  rw[a];refine⟨_,rfl,⟨rfl,rfl,rfl⟩,?_⟩;rw[<-f];have i:=k w.heap.size (w.heap.push (.cells ((cX c (aR s)).map λx=>.string (bL x)).toArray 9)) (h.push _)
  rw[Wg];exact i
end
section
variable {F L:List aD}{H:aC}{K:KQ}{Q:aD}
theorem neqLab(x y:bg):fH Tryz.prog .neq 48 (.agg ⟨aZ x⟩) (.agg ⟨aZ y⟩) (!decide (x=y)):=by
 have h:=rz (P:=Tryz.prog) (t:=48) (xs:=aZ x) (ys:=aZ y) (r:=(x.name == y.name&&(x.value == y.value&&true))) (by kernel_rfl);have e:(x.name == y.name&&(x.value == y.value&&true))=decide (x=y):=by
  cases x;cases y
  rw[Wd];simp only[bg.mk.injEq,Bool.and_true,V4,V5,Go.MapKept.bytes_beq]
 rw[e]at h;exact h.2
theorem LR{α:Type}{xs ys:List α}{j:Nat}(b:j<xs.length)(a:j<ys.length)(h:xs.take j=ys.take j)(c:xs[j]=ys[j]):xs.take (j+1)=ys.take (j+1):=by
 rw[We,We,List.getElem?_eq_getElem b,List.getElem?_eq_getElem a,h,c]
theorem UD{xs ys:List bg}{a b:Xa}{c d:Nat}(y:xs.length<=1000000)(h:aA H L)(u:aN H a (aF aZ xs))(hb:aN H b (aF aZ ys))(k:K (.bool (decide (xs=ys))) H) :
  CF 79 #[.slice a xs.length c,.slice b ys.length d] H K:=by
 refine cN 79 0x1d215612399251b4c [[(13,sI)]] ⟨λm=>?_,λm=>?_⟩
 .have:decide (xs=ys)=false:=by grind
  rw[this]at k;exact k
 have n:xs.length=ys.length:=by grind
 refine⟨λi H'=>H'=H/\∃j:Nat,i=j/\j<=xs.length/\xs.take j=ys.take j,λi _=>xs.length-i.toNat,⟨rfl,0,rfl,by omega,rfl⟩,?_⟩
 rintro i x ⟨rfl,j,rfl,w,t⟩;refine⟨λm=>?_,λm=>?_⟩
 .have f:j<xs.length:=by grind
  have e:j<ys.length:=by omega
  have v:i64.wrap ((j:Int)+1)=((j+1:Nat):Int):=by grind [aJ]
  refine⟨⟨by omega,by omega⟩,_,_,u.some dB (by decide) f,_,_,u.els dB f,⟨by omega,by omega⟩,_,_,hb.some dB (by decide) e,_,_,hb.els dB e,_,neqLab _ _,λm=>?_,λm=>⟨⟨rfl,j+1,v,f,?_⟩,by grind⟩⟩
  .have:decide (xs=ys)=false:=by grind
   rw[this]at k;exact k
  .exact LR f e t (by grind)
 .have s:j=xs.length:=by grind
  have:decide (xs=ys)=true:=by
   subst s;rw[VO,n,VO]at t;simpa using t
  rw[this]at k;exact k
theorem UE{xs ys:List Int}{a b:Xa}{c d:Nat}(B:xs.length<=1000000)(t:aN H a (xs.map U8))(hb:aN H b (ys.map U8))(k:K (.bool (decide (xs=ys))) H) :
  CF 80 #[.slice a xs.length c,.slice b ys.length d] H K:=by
 refine cN 80 0x1d215612399251b4c [[(13,sI)]] ⟨λh=>?_,λh=>?_⟩
 .have:decide (xs=ys)=false:=by grind
  rw[this]at k;exact k
 have m:xs.length=ys.length:=by grind
 refine⟨λi H'=>H'=H/\∃j:Nat,i=j/\j<=xs.length/\xs.take j=ys.take j,λi _=>xs.length-i.toNat,⟨rfl,0,rfl,by omega,rfl⟩,?_⟩
 rintro i A ⟨rfl,j,rfl,y,s⟩;refine⟨λh=>?_,λh=>?_⟩
 .have f:j<xs.length:=by grind
  have e:j<ys.length:=by omega
  have v:i64.wrap ((j:Int)+1)=((j+1:Nat):Int):=by grind [aJ]
  obtain⟨ea,w⟩:=t.at (j:=j) (by simpa using f);obtain⟨x,u⟩:=hb.at (j:=j) (by simpa using e);refine⟨⟨by omega,by omega⟩,_,_,ea,_,w,⟨by omega,by omega⟩,_,_,x,_,u,λh=>?_,λh=>⟨⟨rfl,j+1,v,f,?_⟩,by grind⟩⟩
  .have:decide (xs=ys)=false:=by grind
   rw[this]at k;exact k
  .exact LR f e s (by grind)
 .have n:j=xs.length:=by grind
  have:decide (xs=ys)=true:=by
   subst n;rw[VO,m,VO]at s;simpa using s
  rw[this]at k;exact k
def iM(e:Et):List Int:=[e.kind,e.ag,e.now,e.rd,e.bt,e.val,e.num,e.keep]
theorem eq8(x y:Et):fH Tryz.prog .eql 178 (.agg ⟨(iM x).map I64ZZ⟩) (.agg ⟨(iM y).map I64ZZ⟩) (decide (iM x=iM y)):=by
 have h:=(tz (P:=Tryz.prog) (t:=178) (xs:=(iM x).map I64ZZ) (ys:=(iM y).map I64ZZ)
  (r:=(x.kind == y.kind&&(x.ag == y.ag&&(x.now == y.now&&(x.rd == y.rd&&(x.bt == y.bt&&(x.val == y.val&&(x.num == y.num&&(x.keep == y.keep&&true))))))))) (by kernel_rfl)).1
 have e:(x.kind == y.kind&&(x.ag == y.ag&&(x.now == y.now&&(x.rd == y.rd&&(x.bt == y.bt&&(x.val == y.val&&(x.num == y.num&&(x.keep == y.keep&&true))))))))=decide (iM x=iM y):=by
  unfold iM
  grind
 rw[e]at h;exact h
theorem UF{x y:Et}{ex ey:EtX}(f:∀H,aA H F->aN H ex.la (aF aZ x.labs))(e:∀H,aA H F->aN H ex.ba (x.bs.map U8))(c:∀H,aA H F->aN H ey.la (aF aZ y.labs))(d:∀H,aA H F->aN H ey.ba (y.bs.map U8))
  (n:x.labs.length<=1000000) (hb:x.bs.length<=1000000) (h:aA H F) (k:∀H',aA H' F->K (.bool (decide (x=y))) H'):CF 42 #[.agg ⟨aY x ex⟩,.agg ⟨aY y ey⟩] H K:=by
 refine cN 42 1118857 [[(4,sB)]] (h.al λb _ h=>h.al λb1 _ h=>⟨_,h.r 1,_,h.r 1,_,h.r 1,_,h.r 1,_,h.r 1,_,h.r 1,_,h.r 1,_,h.r 1,h.al λb2 _ h=>h.st 0 rfl rfl λu h=>?_⟩)
 have h:aA u (cellsA b2 ((iM x).map I64ZZ) 178::cellsA b1 (aY y ey) 40::cellsA b (aY x ex) 40::F):=h;refine⟨_,h.r 1,_,h.r 1,_,h.r 1,_,h.r 1,_,h.r 1,_,h.r 1,_,h.r 1,_,h.r 1,h.al λb3 _ h=>h.st 0 rfl rfl λm h=>?_⟩
 have h:aA m (cellsA b3 ((iM y).map I64ZZ) 178::cellsA b2 ((iM x).map I64ZZ) 178::cellsA b1 (aY y ey) 40::cellsA b (aY x ex) 40::F):=h;intro w v;have fin:∀t H',aA H' (cellsA b3 ((iM y).map I64ZZ) 178::cellsA b2 ((iM x).map I64ZZ) 178::cellsA b1 (aY y ey) 40::cellsA b (aY x ex) 40::F)->t=decide (x=y)->w t H':=by
  intro t H' h i;rw[<-i]at k;exact v _ _ (k _ h.tl.tl.tl.tl)
 have s:decide (x=y)=(((decide (iM x=iM y)&&(x.nm.toList == y.nm.toList))&&decide (x.labs=y.labs))&&decide (x.bs=y.bs)):=by
  rw[Wd]
  cases x;cases y
  simp[iM];rw[show ∀a b:Eq,(a.toList=b.toList)=(a=b) from λa b=>by
   rw[ByteArray.toList_eq,ByteArray.toList_eq];exact propext ⟨λh=>ByteArray.ext (Array.toList_inj.mp h),λh=>by rw[h]⟩]
  simp only[and_assoc]
 refine⟨_,_,_,_,_,_,_,_,h.q 1,_,_,_,_,_,_,_,_,h.q 0,_,eq8 x y,_,λ_=>h.r 3,_,λ_=>h.r 2,_,_,_,λ_=>h.r 3,_,_,_,λ_=>h.r 2,λj=>?_,λj=>?_⟩
 .refine UD n h (f _ h.tl.tl.tl.tl) (c _ h.tl.tl.tl.tl) ⟨_,rfl,?_⟩;refine⟨_,_,_,λ_=>h.r 3,_,_,_,λ_=>h.r 2,λhd=>?_,λhd=>?_⟩
  .exact UE hb (e _ h.tl.tl.tl.tl) (d _ h.tl.tl.tl.tl) ⟨_,rfl,fin _ _ h (by grind)⟩
  .exact fin _ _ h (by grind)
 .refine⟨_,_,_,λ_=>h.r 3,_,_,_,λ_=>h.r 2,λhd=>?_,λhd=>?_⟩
  .grind
  .exact fin _ _ h (by grind)
end
structure FdX where
 b1:Nat:=0
 b2:Nat:=0
 b3:Nat:=0
def fnO:Nat->Nat
 | 1=>32|2=>34|3=>35|4=>36|5=>37|_=>38
abbrev fv(f:Nat)(cap:Xb):Value:=.func (.func f) ⟨[]⟩ ⟨cap⟩
def wrN:Fk->Nat|.whole _ _ _=>66|.keep=>77|.ser=>70|.data=>73
def rdN:Fk->Nat|.whole _ _ _=>68|.keep=>78|.ser=>71|.data=>75
def wrC:Fk->FdX->Xb
 | .whole _ _ _,x=>[PA x.b1 0]
 | _,_=>[]
def rdC:Fk->FdX->Xb
 | .whole _ _ _,x=>[PA x.b2 0,PA x.b3 0,PA x.b1 0]
 | _,_=>[]
abbrev bJ(y:Fk×FdX):Xb:=[fv (wrN y.1) (wrC y.1 y.2),fv (rdN y.1) (rdC y.1 y.2)]
theorem xt(y:Fk×FdX):(bJ y).length=2:=rfl
def jA(Q:aD)(d:Fk)(x:FdX):Prop:=match d with
 | .whole o l m=>(1<=o/\o<=6)/\bB Q (some ⟨x.b1,0,none⟩) [fv (fnO o) []]/\bB Q (some ⟨x.b2,0,none⟩) [aB l]/\bB Q (some ⟨x.b3,0,none⟩) [aB m]
 | _=>True
theorem jA.sub{Q Q':aD}{d:Fk}{x:FdX}(h:jA Q d x)(hs:aH Q Q'):jA Q' d x:=by
 cases d with
 | whole o l m=>exact⟨h.1,h.2.1.sub hs,h.2.2.1.sub hs,h.2.2.2.sub hs⟩
 | keep=>trivial
 | ser=>trivial
 | data=>trivial
theorem xu{Q:aD}{b:Nat}{v:Value}{H:aC}{L:List aD}(h:bB Q (some ⟨b,0,none⟩) [v])(hs:aA H L)(i:Nat)(a:aS i L=Q):aM H b 0=some v:=
 (h.at hs i a 0 v rfl).2
section
variable {F L:List aD}{H:aC}{K:KQ}{Q:aD}{e:Et}{ex:EtX}{b:Nat}{x:FdX}
theorem LS{o:Nat}(h:1<=o/\o<=6):bK (fnO o) X.calls=true:=by
 obtain⟨j,i⟩:=h;have:o=1\/o=2\/o=3\/o=4\/o=5\/o=6:=by omega
 have c:bK 32 X.calls=true:=by kernel_rfl
 have a:bK 34 X.calls=true:=by kernel_rfl
 have b:bK 35 X.calls=true:=by kernel_rfl
 have f:bK 36 X.calls=true:=by kernel_rfl
 have e:bK 37 X.calls=true:=by kernel_rfl
 have d:bK 38 X.calls=true:=by kernel_rfl
 rcases this with rfl|rfl|rfl|rfl|rfl|rfl <;> assumption
theorem Of_spec{o:Nat}(h:1<=o/\o<=6)(k:K (PA b o) H):CF (fnO o) #[PA b 0] H K:=by
 obtain⟨c,a⟩:=h;have:o=1\/o=2\/o=3\/o=4\/o=5\/o=6:=by omega
 rcases this with rfl|rfl|rfl|rfl|rfl|rfl
 .exact cM 32 28 k
 .exact cM 34 28 k
 .exact cM 35 28 k
 .exact cM 36 28 k
 .exact cM 37 28 k
 .exact cM 38 28 k
theorem UG{o:Nat}(h:1<=o/\o<=6)(v:Int):cq (aY e ex) o [I64ZZ v]=aY (setN e v o) ex:=by
 obtain⟨b,a⟩:=h;have:o=1\/o=2\/o=3\/o=4\/o=5\/o=6:=by omega
 rcases this with rfl|rfl|rfl|rfl|rfl|rfl <;> rfl
theorem ble_o{o:Nat}{v:Value}(h:1<=o/\o<=6):Nat.ble (o+[v].length) (aY e ex).length=true:=by
 have:(aY e ex).length=11:=rfl;rw[this,Nat.ble_eq];simp;omega
theorem at_o{M:List aD}(h:aA H (cellsA b (aY e ex) 40::M)){o:Nat}(a:1<=o/\o<=6):aM H b o=some (I64ZZ (lx e o)):=by
 obtain⟨d,c⟩:=a;have:o=1\/o=2\/o=3\/o=4\/o=5\/o=6:=by omega
 rcases this with rfl|rfl|rfl|rfl|rfl|rfl <;> exact h.r 0
theorem WrW{o:Nat}{l m:Int}(g:Gl Q)(hi:jA Q (.whole o l m) x)(a:aG (lx e o))(h:aA H (cellsA b (aY e ex) 40::Q::F))(k:∀H',aA H' (cellsA b (aY e ex) 40::Q::F)->K (.string (bL (Go.Lib.itoa (lx e o)))) H') :
  CF 66 #[PA b 0,PA x.b1 0] H K:=by
 refine cM 66 28 ⟨_,xu hi.2.1 h 1 rfl,LS hi.1,?_⟩;refine Of_spec hi.1 ⟨some ⟨b,o,none⟩,rfl,_,at_o h hi.1,?_⟩;exact Bp a g (h.o [1,0] 2) λc h=>⟨_,rfl,k _ (h.o [1,0] 2)⟩
theorem neqNil:EqRunY Tryz.prog .neq 64 (.const .nilIface) .nilIface .nilIface false:=by
 intro a w
 cases a <;> kernel_rfl
theorem LT{v:Int}(g:Gl Q)(b:aG v)(h:aA H (Q::F))(k:∀H',aA H' (Q::F)->K (.tuple #[I64ZZ v,.bool true]) H'):CF 69 #[.string (bL (Go.Lib.itoa v))] H K:=by
 refine cN 69 4599594140 [[(18,sB)]] ?_;refine UC b h λd h=>⟨_,_,rfl,?_⟩
 intro e c;refine⟨false,neqNil,λ_=>Bp b g h λH2 h=>⟨_,rfl,c _ _ ⟨λa=>?_,λa=>k _ h⟩⟩,λa=>V0 rfl a⟩
 simp at a
theorem RdW{o:Nat}{l m v:Int}{bk:Et}{bx:EtX}(g:Gl Q)(hi:jA Q (.whole o l m) x)(c:aG v)(h:aA H (cellsA b (aY bk bx) 40::Q::F))(k1:(decide (l<=v)&&decide (v<=m))=true->∀H',aA H' (cellsA b (aY (setN bk v o) bx) 40::Q::F)->K (.bool true) H')
  (k2:(decide (l<=v)&&decide (v<=m))=false->∀H',aA H' (cellsA b (aY bk bx) 40::Q::F)->K (.bool false) H') :
  CF 68 #[PA b 0,.string (bL (Go.Lib.itoa v)),PA x.b2 0,PA x.b3 0,PA x.b1 0] H K:=by
 refine cM 68 72988 ?_;refine LT g c (h.o [1,0] 2) λd h=>⟨_,_,rfl,_,λ_=>xu hi.2.2.1 h 0 rfl,_,λ_=>xu hi.2.2.2 h 0 rfl,λa=>?_,λa=>⟨_,xu hi.2.1 h 0 rfl,LS hi.1,?_⟩⟩
 .exact k2 (by grind) _ (h.o [1,0] 2)
 .have h:=h.o [1,0] 2;refine Of_spec hi.1 ⟨some ⟨b,o,none⟩,rfl,h.st 0 rfl (ble_o hi.1) λH2 h=>k1 (by grind) _ ?_⟩
  have h:aA H2 (cellsA b (cq (aY bk bx) o [I64ZZ v]) 40::Q::F):=h;rw[UG hi.1]at h;exact h
end
def digS:Eq:=⟨#[48,49,50,51,52,53,54,55,56,57,97,98,99,100,101,102]⟩
theorem aA.mk0e{P:Program}{t bytes e sz:Nat}{H:aC}{L:List aD}(T:SlT P t e sz bytes){K:KQ}{d kc:IntKind}{c:Nat}{x:Int}(f:x=(c:Int))(h:aA H L)(hb:bytes*c<=281474976710656)(b:c<=1099511627776)
  (k:∀a H',aA H' (slA e sz a 0 c []::L)->K (.slice a 0 c) H'):bS P (Instr.makeSlice t (.int d 0) (.int kc x)) H K:=by
 subst f;exact h.mk0 T hb b k
theorem LU:∀n:_root_.Fin 16,bAt digS n.val=((ly n.val).toNat:Int):=by decide
theorem LV:∀n:_root_.Fin 16,cI (ly n.val) (aR digS)=(n.val:Int):=by decide
theorem shr4:∀n:_root_.Fin 256,Int.fdiv (n.val:Int) (2^(min (Int.toNat 4) (u8.bits)))=((n.val/16:Nat):Int):=by decide +kernel
theorem and15:∀n:_root_.Fin 256,aX .and .u8 (n.val:Int) 15=((n.val%16:Nat):Int):=by decide +kernel
def iN(b:Int):List UInt8:=[ly (b.toNat/16),ly (b.toNat%16)]
theorem xv{bs:List Int}(h:bs≠[]):hexL bs=bs.flatMap iN:=by unfold hexL;rw[Vz h];rfl
theorem LW:∀{bs:List Int} {j:Nat} (h:j<bs.length),(bs.flatMap iN)[2*j]?=some (ly (bs[j].toNat/16))/\(bs.flatMap iN)[2*j+1]?=some (ly (bs[j].toNat%16))
 | b::bs,0,_=>⟨rfl,rfl⟩
 | b::bs,j+1,h=>by
  have a:=LW (bs:=bs) (j:=j) (by simpa using h);rw[Wo];exact a
theorem Bq(bs:List Int):(bs.flatMap iN).length=2*bs.length:=by
 induction bs with
 | nil=>rfl
 | cons b r ih=>rw[Wo,V6,ih,VA];show 2+_=_;omega
theorem bAt_bL(l:List UInt8)(i:Nat){c:UInt8}(h:l[i]?=some c):bAt (bL l) i=(c.toNat:Int):=by
 unfold bAt;simp[h]
theorem or8:∀n m:_root_.Fin 16,u8.wrap (aX .or .i64 (i64.wrap ((n.val:Int)*2^(min (Int.toNat 4) (i64.bits)))) (m.val:Int))=((n.val*16+m.val:Nat):Int):=by decide +kernel
abbrev u8I(l:List UInt8):List Int:=l.map λc=>(c.toNat:Int)
theorem UH(l:List UInt8):u8I l=gk (bL l):=by simp[u8I,gk,bL]
section
variable {F L:List aD}{H:aC}{K:KQ}{Q:aD}
theorem UI{a:Xa}{c:Nat}{bs:List Int}(hb:aP bs)(Q:bs.length<=5000)(h:aA H F)(I:∀H,aA H F->aN H a (bs.map U8))(k:∀H',aA H' F->K (.string (bL (hexL bs))) H'):CF 74 #[.slice a bs.length c] H K:=by
 refine cN 74 0x1d121561239925144c [[(3,sS),(15,sI)]] ⟨λt=>?_,λt=>?_⟩
 .have:bs=[]:=W5.1 (by have:=V3 t;omega);subst this;exact k _ h
 have s:bs≠[]:=λe=>by subst e;exact V0 t (by decide)
 have y:i64.wrap (2*(bs.length:Int))=((2*bs.length:Nat):Int):=by grind [aJ]
 refine aA.mk0e sl32 y h (by omega) (by omega) λR T h=>⟨_,_,_,rfl,?_⟩
 refine⟨λo n cp i H'=>∃j:Nat,i=j/\j<=bs.length/\n=2*j/\aA H' (slA 5 1 o (2*j) cp ((u8I ((bs.take j).flatMap iN)).map U8)::F),λ_ _ _ i _=>bs.length-i.toNat,⟨0,rfl,by omega,rfl,h⟩,?_⟩
 rintro o n cp i H2 ⟨j,rfl,S,rfl,h⟩;refine⟨λN=>?_,λN=>?_⟩
 .have d:j<bs.length:=by grind
  have M:i64.wrap ((j:Int)+1)=((j+1:Nat):Int):=by grind [aJ]
  obtain⟨ea,G⟩:=(I _ h.tl).at (j:=j) (by simpa using d);have E:=hb _ (V7 d);obtain⟨n,D⟩:∃n:_root_.Fin 256,bs[j]=(n.val:Int):=⟨⟨bs[j].toNat,by omega⟩,by simp;omega⟩;have v:=shr4 n;have A:=and15 n;rw[<-D]at v A;have w:=LU ⟨n.val/16,by omega⟩;have u:=LU ⟨n.val%16,by omega⟩;refine⟨⟨by omega,by omega⟩,_,_,ea,_,G,by decide,⟨by omega,by rw[v];show _<(16:Int);omega⟩,⟨by omega,by rw[A];show _<(16:Int);omega⟩,h.al λb1 J h=>?_⟩
  have ec:(u8I (iN bs[j])).map U8=[.int .u8 (bAt digS (Int.fdiv bs[j] (2^(min (Int.toNat 4) (u8.bits)))).toNat),.int .u8 (bAt digS (aX .and .u8 bs[j] 15).toNat)]:=by
   rw[v,A,VL,VL];unfold iN;rw[D,VL];simp only[u8I,VR,List.map_nil];rw[w,u]
  have h:aA J (cellsA b1 ((u8I (iN bs[j])).map U8) 5::slA 5 1 o (2*j) cp ((u8I ((bs.take j).flatMap iN)).map U8)::F):=by rw[ec];exact h
  refine aA.append (m:=2) sl32 h 1 rfl (h.ce_rd 0 rfl) rfl (mW (λ_=>rfl) _) (by omega) (by omega) λP V U h=>⟨_,_,_,rfl,⟨j+1,M,d,rfl,?_⟩,by grind⟩
  have h:=h.tl;rw[We,List.getElem?_eq_getElem d,Wj,List.flatMap_append];have e:(u8I ((bs.take j).flatMap iN)).map U8++(u8I (iN bs[j])).map U8=(u8I ((bs.take j).flatMap iN++[bs[j]].flatMap iN)).map U8:=by simp[u8I]
  rw[e]at h;exact h
 .have B:j=bs.length:=by grind
  subst B;have x:=h.sl_rd 0 rfl;have f:(u8I (bs.flatMap iN)).length=2*bs.length:=by
   have:=h.sl_len 0 rfl;rw[VO]at this;simpa using this
  rw[VO]at x;refine⟨cw (u8I (bs.flatMap iN)),?_,?_⟩
  .rw [VO]at h;have L:o=none\/∃b O,o=some ⟨b,O,none⟩:=by
    rcases Nat.eq_zero_or_pos bs.length with C|C
    .exact V0 (W5.1 C) s
    .exact .inr ⟨_,_,(x.at (j:=0) (by have:=f;rw[VP]at this ⊢;simp at this ⊢;omega)).1⟩
   have:=pY (c:=cp) L x;rw[f]at this;exact this
  .rw [UH,TJ,<-xv s];exact k _ h.tl
theorem UJ{bs:List Int}{s:Eq}(hb:aP bs)(L:bs.length<=4096)(b:s=bL (hexL bs))(h:aA H F)(k:∀a c H',aA H' (slA 5 1 a bs.length c (bs.map U8)::F)->K (.tuple #[.slice a bs.length c,.bool true]) H'):CF 76 #[.string s] H K:=by
 refine cN 76 0x1dd1215621399251d44c [[(4,sS),(5,sI)]] ⟨λt=>?_,λt=>?_⟩
 .rw [vX]at t;have t:=V3 t;have:bs=[]:=by
   refine Classical.byContradiction λd=>?_
   have e:=congrArg ByteArray.size t;rw[b,xv d]at e;have E:=Bq bs;have:(bL (bs.flatMap iN)).size=(bs.flatMap iN).length:=by show Array.size _=_;simp
   rw[this,E]at e;have:(⟨#[45]⟩:Eq).size=1:=rfl;omega
  subst this;exact k _ _ _ (h.sl_nil 5 1)
 .have d:bs≠[]:=by
   rintro rfl;rw[vX]at t;exact V0 b (V2 t)
  have C:1<=bs.length:=by cases bs with|nil=>exact V0 rfl d|cons=>simp
  rw[xv d]at b;have u:s.size=2*bs.length:=by
   rw[b,<-Bq bs];show Array.size _=_;simp
  have hd:i64.wrap (Int.tdiv (s.size:Int) 2)=(bs.length:Int):=by
   rw[u];have:Int.tdiv ((2*bs.length:Nat):Int) 2=(bs.length:Int):=by
    rw[Int.tdiv_eq_ediv_of_nonneg (by omega)];omega
   rw[this,aJ]
  refine⟨λ_=>by decide,λw=>?_,λ_=>⟨by decide,aA.mk0e sl32 hd h (by omega) (by omega) λM O h=>⟨_,_,_,rfl,?_⟩⟩⟩
  .exfalso;simp only[VY,V5,Wa,VG]at w;have:Int.tmod (s.size:Int) 2=0:=by
    rw[u,Int.tmod_eq_emod_of_nonneg (by omega)];omega
   omega
  refine⟨λo n cp i H'=>∃j:Nat,i=((2*j:Nat):Int)/\j<=bs.length/\n=j/\aA H' (slA 5 1 o j cp ((bs.take j).map U8)::F),λ_ _ _ i _=>s.size-i.toNat,⟨0,rfl,by omega,rfl,h⟩,?_⟩
  rintro o n cp i H2 ⟨j,rfl,N,rfl,h⟩;refine⟨λw=>?_,λw=>?_⟩
  .have f:n<bs.length:=by have:=V3 w;omega
   have I:i64.wrap (((2*n:Nat):Int)+2)=((2*(n+1):Nat):Int):=by rw[aJ];omega
   have v:i64.wrap (((2*n:Nat):Int)+1)=((2*n+1:Nat):Int):=by rw[aJ];omega
   have D:=hb _ (V7 f);obtain⟨c1,c2⟩:=LW f;have a1:=bAt_bL _ _ c1;have a2:=bAt_bL _ _ c2;rw[<-b]at a1 a2;have i1:=LV ⟨bs[n].toNat/16,by omega⟩;have i2:=LV ⟨bs[n].toNat%16,by omega⟩;have e8:=or8 ⟨bs[n].toNat/16,by omega⟩ ⟨bs[n].toNat%16,by omega⟩;simp only at i1 i2 e8;have y:∀x:UInt8,(x.toNat:Int).toNat.toUInt8=x:=λx=>by simp
   refine⟨⟨by omega,by omega⟩,⟨by omega,by omega⟩,zn ⟨_,rfl,zn ⟨_,rfl,λA=>?_,λ_=>⟨by decide,h.al λb1 G h=>?_⟩⟩⟩⟩
   .exfalso;rw[v,VL,VL,a1,a2,y,y]at A;change (decide (cI (ly (bs[n].toNat/16)) (aR digS)<0)||decide (cI (ly (bs[n].toNat%16)) (aR digS)<0))=true at A;rw[i1,i2]at A;simp at A;omega
   .have ec:(u8.wrap (aX .or .i64 (i64.wrap (cI (bAt s ((2*n:Nat):Int).toNat).toNat.toUInt8 (aR digS)*2^(min (Int.toNat 4) (i64.bits)))) (cI (bAt s (i64.wrap (((2*n:Nat):Int)+1)).toNat).toNat.toUInt8 (aR digS))))=bs[n]:=by
     rw[v,VL,VL,a1,a2,y,y,i1,i2,e8];omega
    have h:aA G (cellsA b1 [U8 bs[n]] 5::slA 5 1 o n cp ((bs.take n).map U8)::F):=by rw[<-ec];exact h
    refine aA.append (m:=1) sl32 h 1 rfl (h.ce_rd 0 rfl) rfl rfl (by omega) (by omega) λJ Q P h=>⟨_,_,_,rfl,⟨n+1,I,f,rfl,?_⟩,by grind⟩
    have h:=h.tl;rw[We,List.getElem?_eq_getElem f,Wj,VS];exact h
  .have B:n=bs.length:=by have:=V2 w;omega
   subst B;rw[VO]at h;exact k _ _ _ h
end
structure EtK(Q:aD)(e:Et)(x:EtX):Prop where
 lab:bB Q x.la (aF aZ e.labs)
 bs:bB Q x.ba (e.bs.map U8)
theorem EtK.sub{Q Q':aD}{e:Et}{x:EtX}(h:EtK Q e x)(hs:aH Q Q'):EtK Q' e x:=⟨h.lab.sub hs,h.bs.sub hs⟩
structure EtW(e:Et):Prop where
 num:∀o,1<=o/\o<=6->aG (lx e o)
 keep:aG e.keep
 by_:aP e.bs
 bl:e.bs.length<=4096
 ll:e.labs.length<=1000000
theorem Br{name:Eq}{labs:List bg}:(dv name labs).size<=5000:=by
 by_cases h:df name labs=true
 .exact Lg h
 .unfold dv;rw[Vz h];show (0:Nat)<=_;omega
section
variable {F L:List aD}{H:aC}{K:KQ}{Q:aD}{e:Et}{ex:EtX}{b:Nat}{x:FdX}
theorem UK{v:Int}(a:aG v)(g:Gl Q)(h:aA H (Q::F))(k:∀H',aA H' (Q::F)->K (.string (bL (Go.Lib.itoa v))) H'):CF 127 #[I64ZZ v,I64ZZ 10] H K:=by
 refine .mk λw b=>?_
 subst b;refine ib (Any.internal_strconv_FormatInt_10 { Tryz.fmtA with } v a.1 a.2 w ?_) ?_
 .obtain⟨t,d,c⟩:=g.pow _ _ h;have e:Tryz.prog.globalNamed "internal/strconv.uint64pow10"=some 4:=by kernel_rfl
  unfold Go.Lib.TabIs World.var?;rw[e];simp only[Option.bind_some,c]
 .rintro e f ⟨rfl,j,os,rfl⟩;exact⟨_,rfl,⟨rfl,rfl,rfl⟩,k _ (h.grow (LP w j os))⟩
theorem LX{v:Int}(a:aG v)(g:Gl Q)(h:aA H (Q::F))(k:∀H',aA H' (Q::F)->K (.string (bL (Go.Lib.itoa v))) H'):CF 62 #[I64ZZ v] H K:=by
 refine cM 62 28 (cM 121 28 ?_);exact UK a g h λb h=>⟨_,rfl,_,rfl,k _ h⟩
theorem Wr77(g:Gl Q)(a:EtW e)(h:aA H (cellsA b (aY e ex) 40::Q::F))(k:∀H',aA H' (cellsA b (aY e ex) 40::Q::F)->K (.string (bL (Go.Lib.itoa e.keep))) H'):CF 77 #[PA b 0] H K:=by
 refine cM 77 28 ⟨_,h.r 0,?_⟩;exact LX a.keep g (h.o [1,0] 2) λc h=>⟨_,rfl,k _ (h.o [1,0] 2)⟩
theorem Rd78{v:Int}{bk:Et}{bx:EtX}(g:Gl Q)(c:aG v)(h:aA H (cellsA b (aY bk bx) 40::Q::F))(k:∀H',aA H' (cellsA b (aY { bk with keep:=v } bx) 40::Q::F)->K (.bool true) H'):CF 78 #[PA b 0,.string (bL (Go.Lib.itoa v))] H K:=by
 refine cM 78 72988 ?_;refine LT g c (h.o [1,0] 2) λd h=>⟨_,_,rfl,λa=>?_,λa=>?_⟩
 .simp at a
 .have h:=h.o [1,0] 2;exact h.st 0 rfl rfl λH2 h=>k _ h
theorem Wr70(h:aA H (cellsA b (aY e ex) 40::Q::F))(a:EtK Q e ex)(k:∀H',aA H' (cellsA b (aY e ex) 40::Q::F)->K (.string (dv e.nm e.labs)) H'):CF 70 #[PA b 0] H K:=by
 refine cM 70 28 ⟨_,_,_,_,h.q 0,?_⟩;exact zo h (λH h=>a.lab.at h 1 rfl) λc h=>⟨_,rfl,k _ h⟩
theorem LY{t nm:Eq}{labs:List bg}{ok:Bool}(b:t.size<=1099511627776)(d:gH t=(nm,labs,ok))(h:aA H F)
  (k:∀a c H',aA H' (slA 48 2 a labs.length c (aF aZ labs)::F)->K (.tuple #[.agg #[.string nm,.slice a labs.length c],.bool ok]) H'):CF 72 #[.string t] H K:=by
 refine Ic b h λa c H' h=>?_
 rw[d]at h ⊢;exact k a c H' h
theorem UL:gH ⟨#[]⟩=(⟨#[]⟩,[],false):=by kernel_rfl
theorem Rd71{bk:Et}{bx:EtX}{nm:Eq}{labs:List bg}{m:Eq}(f:m=dv nm labs)(h:aA H (cellsA b (aY bk bx) 40::Q::F))(k1:df nm labs=true->∀Q' d H',aH Q Q'->bB Q' d.la (aF aZ labs)->d.ba=bx.ba->aA H' (cellsA b (aY { bk with nm:=nm,labs:=labs } d) 40::Q'::F)->K (.bool true) H')
  (k2:df nm labs=false->∀H',aA H' (cellsA b (aY bk bx) 40::Q::F)->K (.bool false) H'):CF 71 #[PA b 0,.string m] H K:=by
 have v:=Br (name:=nm) (labs:=labs);refine cN 71 287405212 [[]] ?_
 cases hr:df nm labs with
 | true=>
  have n:=KU hr;rw[<-f]at n;refine LY (by rw[f];omega) n h λa c t h=>⟨_,_,_,_,_,rfl,h.al λb1 _ h=>h.st 0 rfl rfl λH2 h=>?_⟩
  have h:aA H2 (cellsA b1 [.string nm,.slice a labs.length c] 37::slA 48 2 a labs.length c (aF aZ labs)::cellsA b (aY bk bx) 40::Q::F):=h;intro w i;refine⟨λ_=>⟨_,_,_,_,h.q 0,h.st 2 rfl rfl λu h=>?_⟩,λj=>V0 j (by simp)⟩
  have h:aA u (cellsA b1 [.string nm,.slice a labs.length c] 37::slA 48 2 a labs.length c (aF aZ labs)::cellsA b (aY { bk with nm:=nm,labs:=labs } { bx with la:=a,lc:=c }) 40::Q::F):=h;obtain⟨k,e⟩:∃k,k=slA 48 2 a labs.length c (aF aZ labs)*Q:=⟨_,rfl⟩;have h:=lv e (h.o [1,3,2] 4);exact i _ (k1 hr k { bx with la:=a,lc:=c } _ (by rw[e];exact aH.add _ Q) (by rw[e];exact bB.sl) rfl (swp h))
 | false=>
  have s:dv nm labs=⟨#[]⟩:=by unfold dv;rw[Vz (by simp[hr])]
  rw[s]at f;subst f;refine LY (by show (0:Nat)<=_;omega) UL h λa c t h=>⟨_,_,_,_,_,rfl,h.al λb1 _ h=>h.st 0 rfl rfl λH2 h=>?_⟩
  intro w i;refine⟨λj=>V0 j (by simp),λ_=>i _ (k2 hr _ (h.o [2,3] 4))⟩
theorem Wr73(a:EtW e)(c:EtK Q e ex)(h:aA H (cellsA b (aY e ex) 40::Q::F))(k:∀H',aA H' (cellsA b (aY e ex) 40::Q::F)->K (.string (bL (hexL e.bs))) H'):CF 73 #[PA b 0] H K:=by
 have d:=a.bl;refine cM 73 28 ⟨_,_,_,h.r 0,?_⟩;exact UI a.by_ (by omega) h (λH h=>c.bs.at h 1 rfl) λf h=>⟨_,rfl,k _ h⟩
theorem Rd75{bs:List Int}{bk:Et}{bx:EtX}(hb:aP bs)(i:bs.length<=4096)(h:aA H (cellsA b (aY bk bx) 40::Q::F))(k:∀Q' d H',aH Q Q'->bB Q' d.ba (bs.map U8)->d.la=bx.la->aA H' (cellsA b (aY { bk with bs:=bs } d) 40::Q'::F)->K (.bool true) H'):CF 75 #[PA b 0,.string (bL (hexL bs))] H K:=by
 refine cN 75 287405212 [[]] ?_;refine UJ hb i rfl h λa c n h=>⟨_,_,_,_,rfl,?_⟩
 intro s j;refine⟨λ_=>h.st 1 rfl rfl λH2 h=>?_,λm=>V0 m (by simp)⟩
 have h:aA H2 (slA 5 1 a bs.length c (bs.map U8)::cellsA b (aY { bk with bs:=bs } { bx with ba:=a,bc:=c }) 40::Q::F):=h;obtain⟨f,e⟩:∃f,f=slA 5 1 a bs.length c (bs.map U8)*Q:=⟨_,rfl⟩;have h:=lv e (h.o [0,2,1] 3);exact j _ (k f { bx with ba:=a,bc:=c } _ (by rw[e];exact aH.add _ Q) (by rw[e];exact bB.sl) rfl (swp h))
theorem UM(d:Fk):bK (wrN d) X.calls=true:=by
 have a:bK 66 X.calls=true:=by kernel_rfl
 have e:bK 77 X.calls=true:=by kernel_rfl
 have b:bK 70 X.calls=true:=by kernel_rfl
 have c:bK 73 X.calls=true:=by kernel_rfl
 cases d <;> assumption
theorem LZ(d:Fk):bK (rdN d) X.calls=true:=by
 have a:bK 68 X.calls=true:=by kernel_rfl
 have c:bK 78 X.calls=true:=by kernel_rfl
 have b:bK 71 X.calls=true:=by kernel_rfl
 have e:bK 75 X.calls=true:=by kernel_rfl
 cases d <;> assumption
theorem Wr_spec{d:Fk}(g:Gl Q)(hi:jA Q d x)(a:EtW e)(c:EtK Q e ex)(h:aA H (cellsA b (aY e ex) 40::Q::F))(k:∀H',aA H' (cellsA b (aY e ex) 40::Q::F)->K (.string (bL (wrF d e))) H') :
  CF (wrN d) ⟨[PA b 0]++wrC d x⟩ H K:=by
 cases d with
 | whole o l m=>exact WrW g hi (a.num o hi.1) h k
 | keep=>exact Wr77 g a h k
 | ser=>
  refine Wr70 h c λf h=>?_
  have:=k f h;unfold wrF at this;rw[jW]at this;exact this
 | data=>exact Wr73 a c h k
theorem Mb{d:Fk}{bk:Et}{bx:EtX}(g:Gl Q)(hi:jA Q d x)(j:EtW e)(f:EtK Q bk bx)(h:aA H (cellsA b (aY bk bx) 40::Q::F))
  (k1:rdF d e=true->∀Q' a H',aH Q Q'->EtK Q' (cpF d e bk) a->aA H' (cellsA b (aY (cpF d e bk) a) 40::Q'::F)->K (.bool true) H')
  (k2:rdF d e=false->∀H',aA H' (cellsA b (aY bk bx) 40::Q::F)->K (.bool false) H') :
  CF (rdN d) ⟨[PA b 0,.string (bL (wrF d e))]++rdC d x⟩ H K:=by
 cases d with
 | whole o l m=>
  refine RdW g hi (j.num o hi.1) h (λi c h=>k1 i Q bx c (aH.refl Q) ?_ h) λi c h=>k2 i c h
  have hs:(setN bk (lx e o) o).labs=bk.labs/\(setN bk (lx e o) o).bs=bk.bs:=by unfold setN;split <;> exact⟨rfl,rfl⟩
  exact⟨by rw[show (cpF (.whole o l m) e bk).labs=bk.labs from hs.1];exact f.lab,by rw[show (cpF (.whole o l m) e bk).bs=bk.bs from hs.2];exact f.bs⟩
 | keep=>exact Rd78 g j.keep h λc h=>k1 rfl Q bx c (aH.refl Q) ⟨f.lab,f.bs⟩ h
 | ser=>exact Rd71 (jW _) h (λi Q' a c hs k hb h=>k1 i Q' a c hs ⟨k,by rw[hb];exact f.bs.sub hs⟩ h) k2
 | data=>exact Rd75 j.by_ j.bl h λQ' a c hs hb k h=>k1 rfl Q' a c hs ⟨by rw[k];exact f.lab.sub hs,hb⟩ h
end
section
variable {F L:List aD}{H:aC}{K:KQ}{Q:aD}
theorem less_irr(s:Eq):Op.bytesLess s.toList s.toList=false:=by
 generalize s.toList=l
 induction l with
 | nil=>rfl
 | cons c r ih=>simp[Op.bytesLess,ih]
theorem Bs(s:Eq):bO Tryz.prog 138 #[.string s,.string s] H (I64ZZ 0):=by
 unfold bO;refine cM 138 7644 ⟨λa=>?_,λ_=>⟨λa=>?_,λ_=>⟨rfl,rfl⟩⟩⟩
 .rw [less_irr]at a;cases a
 .simp at a
theorem UN{nm:Eq}{ls:List bg}{a b:Xa}{c d:Nat}(x:ls.length<=1000000)(h:aA H F)(n:∀H,aA H F->aN H a (aF aZ ls))(hb:∀H,aA H F->aN H b (aF aZ ls))(k:∀H',aA H' F->K (I64ZZ 0) H') :
  CF 86 #[.agg ⟨[.string nm,.slice a ls.length c]⟩,.agg ⟨[.string nm,.slice b ls.length d]⟩] H K:=by
 refine cN 86 0x1121562139925dd117494c [[(5,sI)],[(5,sI),(6,sI)]] (h.al λb0 _ h=>h.al λb1 w h=>⟨_,h.r 1,_,h.r 0,_,Bs nm,?_⟩)
 refine⟨λout i H'=>∃j:Nat,i=j/\j<=ls.length/\out=0/\aA H' (cellsA b1 [.string nm,.slice b ls.length d] 104::cellsA b0 [.string nm,.slice a ls.length c] 104::F),λ_ i _=>ls.length-i.toNat,⟨0,rfl,VE _,rfl,h⟩,?_⟩
 clear h
 rintro out i H2 ⟨j,rfl,v,rfl,h⟩;refine⟨_,_,_,λ_=>h.r 1,_,_,_,λ_=>h.r 0,λu=>?_,λu=>?_⟩
 .have e:j<ls.length:=by grind
  have t:i64.wrap ((j:Int)+1)=((j+1:Nat):Int):=by grind [aJ]
  have m:=n _ h.tl.tl;have rb:=hb _ h.tl.tl;have sa:=m.some dB (by decide) e;have sb:=rb.some dB (by decide) e;refine⟨_,_,_,h.r 1,λf=>V0 f (by simp;omega),λ_=>⟨_,_,_,h.r 0,λf=>V0 f (by simp;omega),λ_=>?_⟩⟩
  refine⟨_,_,_,h.rd 1 rfl _,⟨by omega,by omega⟩,_,_,sa,_,m.el dB e 0 rfl,_,_,_,h.rd 0 rfl _,⟨by omega,by omega⟩,_,_,sb,_,rb.el dB e 0 rfl,_,Bs _,?_⟩;intro y s;refine⟨λ_=>⟨_,_,_,h.rd 1 rfl _,⟨by omega,by omega⟩,_,_,sa,_,m.el dB e 1 rfl,_,_,_,h.rd 0 rfl _,⟨by omega,by omega⟩,_,_,sb,_,rb.el dB e 1 rfl,_,Bs _,?_⟩,λf=>V0 f (by simp)⟩
  exact s _ _ ⟨⟨j+1,t,e,rfl,h⟩,by grind⟩
 .exact k _ h.tl.tl
theorem SameR_eq{nm:Eq}{ls:List bg}{a b:Xa}{c d:Nat}(f:ls.length<=1000000)(h:aA H F)(e:∀H,aA H F->aN H a (aF aZ ls))(hb:∀H,aA H F->aN H b (aF aZ ls))(k:∀H',aA H' F->K (.bool true) H') :
  CF 46 #[.agg ⟨[.string nm,.slice a ls.length c]⟩,.agg ⟨[.string nm,.slice b ls.length d]⟩] H K:=by
 refine cM 46 28 (h.al λb0 _ h=>h.al λb1 i h=>⟨_,_,_,_,h.q 1,_,_,_,_,h.q 0,?_⟩)
 exact UN f h (λH h=>e H h.tl.tl) (λH h=>hb H h.tl.tl) λH2 h=>⟨_,rfl,k _ h.tl.tl⟩
theorem Mc{nm:Eq}{la:Xa}{lc:Nat}{ls:List bg}(t:∀H,aA H F->aN H la (aF aZ ls))(y:ls.length<=1000000)(h:aA H F)
  (k:∀a c H',aA H' (slA 186 2 a ls.length c (aF aZ ls)::F)->K (.agg ⟨[.string nm,.slice a ls.length c]⟩) H'):CF 47 #[.agg ⟨[.string nm,.slice la ls.length lc]⟩] H K:=by
 refine Of_70_c (h.al λb _ h=>h.al λb1 _ h=>⟨_,h.r 1,h.al λb2 _ h=>h.st 0 rfl rfl λH2 h=>?_⟩)
 refine⟨λi H'=>∃(j:Nat) (a:Xa) (c:Nat),i=j/\j<=ls.length/\aA H' (cellsA b2 [.string nm,.slice a j c] 104::slA 186 2 a j c (aF aZ (ls.take j))::cellsA b1 [.string ⟨#[]⟩,.slice none 0 0] 104::cellsA b [.string nm,.slice la ls.length lc] 37::F),λi _=>ls.length-i.toNat,⟨0,none,0,rfl,VE _,(h.sl_nil 186 2).o [1,0,2,3] 4⟩,?_⟩
 clear h
 rintro i C ⟨j,a,c,rfl,w,h⟩;refine⟨_,_,_,h.r 3,λv=>?_,λv=>?_⟩
 .have d:j<ls.length:=by grind
  have u:i64.wrap ((j:Int)+1)=((j+1:Nat):Int):=by grind [aJ]
  have f:=t _ h.tl.tl.tl.tl;have s1:=f.some dB (by decide) d;have e:SlT Tryz.prog 102 186 2 32:=eG (by kernel_rfl);refine⟨_,_,_,h.r 0,_,_,_,h.rd 3 rfl _,⟨by omega,by omega⟩,_,_,s1,_,f.el dB d 0 rfl,_,_,_,h.rd 3 rfl _,⟨by omega,by omega⟩,_,_,s1,_,f.el dB d 1 rfl,h.al λb5 _ h=>⟨h.r 1,?_⟩⟩
  refine h.append (m:=1) (ws:=aZ ls[j]) e 2 rfl (h.ce_rd 0 rfl) rfl rfl (by omega) (by omega) λn s x h=>⟨_,_,_,rfl,h.st 1 rfl rfl λB h=>⟨⟨j+1,n,s,u,d,?_⟩,by grind⟩⟩
  have e1:aF aZ (ls.take j)++aZ ls[j]=aF aZ (ls.take (j+1)):=by grind [List.take_succ_eq_append_getElem,aF]
  have h:=h.tl;rw[<-e1];exact h
 .obtain rfl:j=ls.length:=by grind
  rw[VO]at h;exact⟨_,_,_,_,h.q 0,h.st 2 rfl rfl λA h=>⟨_,_,_,_,h.q 2,k _ _ _ (h.o [1] 4)⟩⟩
theorem UO{nm:Eq}{ls:List bg}{a b:Xa}{c d:Nat}(e:ls.length<=1000000)(h:aA H F)(f:∀H,aA H F->aN H a (aF aZ ls))(hb:∀H,aA H F->aN H b (aF aZ ls))(k:∀H',aA H' F->K (.bool true) H') :
  CF 25 #[.agg ⟨[.string nm,.slice a ls.length c]⟩,.agg ⟨[.string nm,.slice b ls.length d]⟩] H K:=by
 refine cM 25 28 (h.al λb0 _ h=>h.al λb1 i h=>⟨_,_,_,_,h.q 1,_,_,_,_,h.q 0,?_⟩)
 refine Mc (λH h=>f H h.tl.tl) e h λa1 c1 H2 h=>⟨_,_,_,_,rfl,h.q 1,?_⟩
 refine Mc (λH h=>hb H h.tl.tl.tl) e h λa2 c2 m h=>⟨_,_,_,_,rfl,?_⟩
 exact SameR_eq e h (λH h=>h.sl_rd 1 rfl) (λH h=>h.sl_rd 0 rfl) λj h=>⟨_,rfl,k _ h.tl.tl.tl.tl⟩
theorem Md{e:Et}{ex ey:EtX}(b:EtK Q e ex)(a:EtK Q e ey)(i:e.labs.length<=1000000)(hb:e.bs.length<=1000000)(h:aA H (Q::F))(k:∀H',aA H' (Q::F)->K (.bool true) H'):CF 11 #[.agg ⟨aY e ex⟩,.agg ⟨aY e ey⟩] H K:=by
 refine cN 11 4745 [[(4,sB)]] (h.al λb0 _ h=>h.al λb1 m h=>?_)
 intro n j;refine⟨_,h.r 1,_,h.r 0,_,λ_=>h.r 1,_,λ_=>h.r 0,_,λ_=>h.r 1,_,λ_=>h.r 0,_,λ_=>h.r 1,_,λ_=>h.r 0,_,λ_=>h.r 1,_,λ_=>h.r 0,_,λ_=>h.r 1,_,λ_=>h.r 0,_,λ_=>h.r 1,_,λ_=>h.r 0,_,λ_=>h.r 1,_,λ_=>h.r 0,_,_,_,_,λ_=>h.q 1,_,_,_,_,λ_=>h.q 0,λ_=>?_,λf=>V0 f (by simp)⟩
 refine UO i h (λH h=>b.lab.at h 2 rfl) (λH h=>a.lab.at h 2 rfl) λH2 h=>⟨_,rfl,_,_,_,λ_=>h.r 1,_,_,_,λ_=>h.r 0,true,λ_=>?_,j _ _ (k _ h.tl.tl)⟩
 have:=EB (c:=ex.bc) (d:=ey.bc) (b.bs.at h 2 rfl) (a.bs.at h 2 rfl) (by omega);rw[WI rfl]at this;exact this
end
end Go.Proofs.YtnjaappmhadfdaaGreatDoor
