/-
  Lemmas for TaleBack: part 6 of what it rests on. Conditions: none.
-/
import Derived.Test.YtnjaappmhadfdaaGreatDoorTF5
set_option linter.unusedVariables false
set_option linter.unusedSimpArgs false
set_option maxRecDepth 100000
set_option maxHeartbeats 16000000
open Go.IntKind (i64 u64 i8 u8 i32 u32 i16 u16)
namespace Go.Proofs.YtnjaappmhadfdaaGreatDoor
open Go
section
variable {F L:List aD}{H:aC}{K KP:KQ}{Q Q':aD}{sb:Nat}{s:aV}
theorem RT(h:aA H (stA Q sb s::F)):bO Tryz.prog 93 #[PA sb 0] H (aB s.boots):=by
 obtain⟨p,h⟩:=dx.1 h;exact cM 93 28 ⟨_,h.r 0,rfl,rfl⟩
theorem RU(b:s.kept.length<=1000000)(h:aA H (stA Q sb s::F))
  (k:∀a c H',aA H' (slA 288 74 a s.kept.length c (aF cW s.kept)::stA Q sb s::F)->K (.slice a s.kept.length c) H'):CF 145 #[PA sb 0] H K:=by
 obtain⟨p,h⟩:=dx.1 h;refine cM 145 28 ⟨_,_,_,h.r 0,?_⟩;refine Ij h (λH h=>h.sl_rd 8 rfl) b λd e H' h=>⟨_,_,_,rfl,k _ _ _ ?_⟩
 have h:=h.o [1,2,3,4,5,6,7,8,9,0] 10;have h:=dx.2 ⟨p,h⟩;exact h.o [1,0] 2
theorem Jh{k:Nat}{st:Str}(a:s.sts[k]?=some (some st)):s.sts.set k (some st)=s.sts:=by
 grind [List.set_getElem_self]
theorem RV{a:Int}{st:Str}(h:io s a=some st):0<=a/\s.sts[a.toNat]?=some (some st):=by
 grind [io]
theorem Ae{st:Str}(a:qw s.cfg st):∀q∈st.hs.rows,aG q.1:=λq b=>by
 have e:=(a.rows q b).1;have d:=(a.hs.rows.inb q b).1;have c:=a.hs.next0;unfold aG;omega
theorem Af{st:Str}(a:qw s.cfg st):st.hs.rows.length<=256:=by
 have c:=a.hs.rows.length;have b:=a.hs.most2;omega
theorem Ji{a:Int}(ok:dh s)(h:aA H (stA Q sb s::F))(k:∀H',aA H' (stA Q sb s::F)->K (.tuple #[.agg ⟨encA (j0 s a).1⟩,.bool (j0 s a).2]) H') :
  CF 172 #[PA sb 0,aB a] H K:=by
 refine OO ?_;refine h.al λb _ h=>?_
 have h:=h.o [1,0] 2;obtain⟨p,h⟩:=dx.1 h;refine⟨_,h.r 0,?_⟩;have h:=h.o [1,2,0,3,4,5,6,7,8,9] 10;refine Ro.Of_spec ok.rows (agent:=a) h λH2 h=>⟨_,_,_,_,rfl,?_⟩
 refine h.al λb1 _ h=>?_
 refine h.st 0 rfl rfl ?_;intro D h;unfold j0 at k;refine⟨λt=>?_,λt=>?_⟩
 .rw [Vz (by grind)]at k;refine h.st 10 rfl rfl ?_;intro v h;refine⟨_,_,_,_,_,_,_,_,_,_,_,h.q 10,?_⟩;have h:=h.o [3,1,2,4,5,6,7,8,9] 11;exact k _ (dx.2 ⟨p,h⟩)
 have n:0<(bE s.rows a).epoch:=by grind
 rw[V1 n]at k;obtain⟨j,st,d⟩:=ok.str n;rw[wR j d]at k;dsimp only at k;have i:((a.toNat:Nat):Int)=a:=by omega
 have c:=ok.sts st (VW d);refine⟨_,h.r 3,?_⟩;have h:=h.o [4,5,0,1,2,3,6,7,8,9,10] 11;refine Ma.Of_spec (a:=a) h λv h=>⟨_,_,_,_,_,rfl,?_⟩
 refine h.al λb2 _ h=>?_
 refine h.st 0 rfl rfl ?_;intro C h;have h:=h.o [9,0,1,2,3,4,5,6,7,8,10,11] 12;obtain⟨u,bl,f,h⟩:=qt h d;have h:=h.o [1,0,2,3,4,5,6,7,8,9,10,11,12,13] 14;obtain⟨cb,hb,h⟩:=gM.1 h;have e:=qu f h 3 rfl;rw[i]at e;have m:=Af c;refine⟨_,h.r 11,_,e,_,_,_,h.q 8,_,_,_,_,h.q 5,dX ⟨_,h.r 0,dX ⟨_,h.r 0,_,tT (h.o [2] 3),dX ⟨_,h.r 0,dX ⟨_,h.rd 0 rfl 0,?_⟩⟩⟩⟩⟩;have h:=h.o [2,0,1,3,4,5,6,7,8,9,10,11,12,13,14,15] 16;refine zO h c.hs.rows.rising (Ae c) (by omega) λB wc y h=>⟨_,_,_,rfl,h.rd 2 rfl 0,h.r 2,h.q 6,h.q 9,?_⟩
 have h:=h.o [3,0,1,2,4,5,6,7,8,9,10,11,12,13,14,15,16] 17;have w:=c.ck.len;refine zg h (by omega) λsa sc A h=>⟨_,_,_,rfl,h.r 4,h.q 7,h.q 10,?_⟩
 refine h.st 17 rfl rfl ?_;intro x h;refine⟨_,_,_,_,_,_,_,_,_,_,_,h.q 17,k _ ?_⟩;have h:=h.o [4,1,3,5,6,13,11,12,8,9,14,15,16] 18;have h:=gM.2 ⟨cb,hb,h⟩;have h:=h.o [1,0,2,3,4,5,6,7,8,9,10] 11;have h:=rR f h;rw[Jh d]at h;exact dx.2 ⟨p,h.o [1,2,3,4,5,6,7,0,8] 9⟩
end
def flN(bs:List Bool):Nat->Int
 | 0=>0
 | n+1=>flN bs n+if bs.getD n false then (2:Int)^n else 0
def cbB(k:Ky)(c:Cl):List Int:=dG [k.win]++eH [k.ser,cw (iX c)]
abbrev smB(x:Smp):List Int:=bC [x.asked,x.got,x.sent,x.came]
abbrev rwB(p:Int×Pv):List Int:=bC [p.1]++evB p.2
def agB1(a:Int)(e:En)(fl:Fl)(st:Str):List Int:=
 (bC [a,e.epoch,e.boot,e.time,fl.t,flN [fl.out,fl.was,fl.held] 3]++dG [st.last])++bC [flN [st.ck.held] 1,st.ck.streak,(st.ck.smps.length:Int)]
def agB(a:Int)(e:En)(fl:Fl)(st:Str):List Int:=
 ((agB1 a e fl st++st.ck.smps.flatMap smB)++bC [st.hs.next,(st.hs.rows.length:Int)])++st.hs.rows.flatMap rwB
theorem flN_in(bs:List Bool):∀n,n<=3->0<=flN bs n/\flN bs n<(2:Int)^n
 | 0,_=>⟨Wc _,by show (0:Int)<1;decide⟩
 | n+1,h=>by
  have a:=flN_in bs n (by omega)
  grind [flN]
section
variable {F L:List aD}{H:aC}{K KP:KQ}{Q Q':aD}{sb:Nat}{s:aV}
theorem Jj{b:Nat}{bs:List Bool}(y:bs.length<=3)(h:aA H F)(i:Nat)(u:aS i F=cellsA b (bs.map .bool) 4):bO Tryz.prog 388 #[.slice (some ⟨b,0,none⟩) bs.length bs.length] H (aB (flN bs bs.length)):=by
 refine cN 388 0x1121561239925117494c [[(3,sI)],[(3,sI),(8,sI)]] ?_;refine⟨λsum i H'=>H'=H/\∃j:Nat,i=j/\j<=bs.length/\sum=flN bs j,λ_ i _=>bs.length-i.toNat,⟨rfl,0,rfl,by omega,rfl⟩,?_⟩
 rintro sum t m ⟨rfl,j,rfl,w,rfl⟩;refine⟨λn=>?_,λn=>?_⟩
 .have f:j<bs.length:=by grind
  have c:=(h.ce_rd i u).at f;refine⟨by omega,_,_,c.1,_,c.2,?_⟩;have hb:=flN_in bs j (by omega);have A:(2:Int)^j<=4:=by
   rcases (by omega:j=0\/j=1\/j=2) with rfl|rfl|rfl <;> decide
  have hs:flN bs (j+1)=flN bs j+if bs[j] then (2:Int)^j else 0:=by
   grind [flN]
  intro v s;have a:v (flN bs (j+1)) m:=by
   refine s _ _ ?_
   conv=>whnf
   rw[aJ (x:=(j:Int)+1)]
   grind
  refine⟨λk=>⟨by omega,?_⟩,λk=>?_⟩
  .rw [hs,V1 k]at a;have e:i64.wrap (1*2^(min (Int.toNat (j:Int)) (i64.bits)))=(2:Int)^j:=by
    rcases (by omega:j=0\/j=1\/j=2) with rfl|rfl|rfl <;> decide
   conv=>whnf
   rw[e,aJ];exact a
  .rw [hs,Vz (by grind),Int.add_zero]at a;exact a
 .have d:j=bs.length:=by grind
  subst d;exact⟨rfl,rfl⟩
theorem Jk{k:Ky}{c:Cl}(wc:WC c)(hs:k.ser.size<=5000):(cbB k c).length<=10100:=by
 have a:=lY [k.win]
 grind [nk,wq,tS,eH,cbB]
theorem Jl{key:Ky}{c:Cl}(wc:WC c)(hs:key.ser.size<=5000)(h:aA H F)
  (k:∀a m H',aA H' (slA 5 1 a (cbB key c).length m ((cbB key c).map U8)::F)->K (.slice a (cbB key c).length m) H'):CF 299 #[aggK key,aggC c] H K:=by
 have d:=Jk wc hs;have u:=wq wc;have w:=tS (iX c);refine cM 299 28 ?_;refine h.al λb _ h=>?_
 refine h.al λb1 _ h=>⟨_,h.r 1,_,h.r 1,_,_,_,_,_,_,_,_,h.rda 0 rfl,?_⟩
 refine h.al λb2 _ h=>⟨h.rda 1 rfl,h.r 2,?_⟩
 refine qm h 0 rfl λa1 c1 H2 h=>⟨_,_,_,rfl,h.rda 2 rfl,h.r 3,?_⟩
 refine GB wc h λa2 c2 A h=>⟨_,_,_,rfl,h.r 4,?_⟩
 have f:=pY (c:=c2) (bs:=iX c) (by
  rcases (jF (F:=star _) h).2 with ⟨n,_⟩|⟨b,t,post,x,fr,n,_⟩
  .grind
  grind) (h.sl_rd 0 rfl)
 refine⟨_,f,?_⟩;refine h.al λb3 _ h=>?_
 have e:eH [key.ser,cw (iX c)]=dM key.ser++dM (cw (iX c)):=by simp[eH]
 have l1:=nk (s:=key.ser) (by omega);have l2:=nk (s:=cw (iX c)) (by omega);refine wo (ts:=[key.ser,cw (iX c)]) h (λH h=>h.ce_rd 0 rfl) (λi=>?_) (by
   grind) (by simp) λa3 c3 y h=>⟨_,_,_,rfl,?_⟩
 .grind [eH,List.take_append_drop,List.length_append]
 .have j:(dG [key.win]++eH [key.ser,cw (iX c)]).length<=10100:=d;rw[V6]at j;refine dd h (i:=3) rfl rfl rfl (h.sl_rd 0 rfl) (by omega) λa4 c4 v h=>⟨_,_,_,rfl,?_⟩
  exact k _ _ _ (h.o [3] 7)
theorem Jm(l:List Smp):(l.flatMap smB).length<=40*l.length:=by
 induction l with
 | nil=>simp
 | cons i l ih=>
  have:(smB i).length<=10*4:=dD [i.asked,i.got,i.sent,i.came]
  grind
theorem Jo(l:cx Pv):(l.flatMap rwB).length<=1330*l.length:=by
 induction l with
 | nil=>simp
 | cons i l ih=>
  grind [dD,wC]
theorem RY{a:Int}{e:En}{st:Str}(ok:dh s)(ha:0<=a)(w:s.sts[a.toNat]?=some (some st)){p:SAd}{N R S T P:aD}(h:aA H (Q::cellsA sb (dI s p) 314::N::R::Ma.markC p.mb p.mm s.ms::Ma.mapF p.mm s.ms.m::S::T::strmA Q p.tm s.sts::P::F))
  (k:∀A B H',aA H' (slA 5 1 A (agB a e (bQ s.ms a) st).length B ((agB a e (bQ s.ms a) st).map U8)::Q::cellsA sb (dI s p) 314::N::R::Ma.markC p.mb p.mm s.ms::Ma.mapF p.mm s.ms.m::S::T::strmA Q p.tm s.sts::P::F)->K (.slice A (agB a e (bQ s.ms a) st).length B) H') :
  CF 296 #[PA sb 0,aB a,aggE e] H K:=by
 have M:((a.toNat:Nat):Int)=a:=by omega
 have d:=ok.sts st (VW w);have j1:=d.ck.len;have h8:=Af d;refine O8 ?_;refine h.al λb _ h=>?_
 have h:=h.o [9,2,3,4,5,6,7,8,10,0,1] 11;obtain⟨C,bl,v,h⟩:=qt h w;have h:=h.o [1,0,2,3,4,5,6,7,8,9,10,11,12] 13;obtain⟨cb,hb,h⟩:=gM.1 h;have u:=qu v h 3 rfl;rw[M]at u;refine⟨_,h.r 5,_,u,_,h.r 5,?_⟩;have h:=h.o [8,9,0,1,2,3,4,5,6,7,10,11,12,13,14] 15;refine Ma.Of_spec (a:=a) h λH1 h=>⟨_,_,_,_,_,rfl,?_⟩
 refine h.al λb1 _ h=>?_
 refine h.st 0 rfl rfl ?_;intro H2 h;refine⟨_,h.r 14,_,h.r 14,_,h.r 14,_,h.r 0,_,h.r 0,_,h.r 0,_,h.r 0,?_⟩;refine h.al λb2 _ h=>⟨h.r 1,h.r 15,h.r 15,h.r 15,_,Jj (bs:=[(bQ s.ms a).out,(bQ s.ms a).was,(bQ s.ms a).held]) (by simp) h 0 rfl,?_⟩
 refine h.al λb3 _ h=>?_
 refine oP (vs:=[a,e.epoch,e.boot,e.time,(bQ s.ms a).t,flN [(bQ s.ms a).out,(bQ s.ms a).was,(bQ s.ms a).held] 3]) h (λH h=>h.ce_rd 0 rfl) (by simp) λa1 c1 H3 h=>⟨_,_,_,rfl,dX ⟨_,h.r 6,?_⟩⟩
 have q1:=dD [a,e.epoch,e.boot,e.time,(bQ s.ms a).t,flN [(bQ s.ms a).out,(bQ s.ms a).was,(bQ s.ms a).held] 3];have q2:=lY [st.last];have q3:=dD [flN [st.ck.held] 1,st.ck.streak,(st.ck.smps.length:Int)];have q4:=dD [st.hs.next,(st.hs.rows.length:Int)];simp only[VA,VV]at q1 q2 q3 q4;unfold agB agB1 at k;generalize bC [a,e.epoch,e.boot,e.time,(bQ s.ms a).t,flN [(bQ s.ms a).out,(bQ s.ms a).was,(bQ s.ms a).held] 3]=X1 at *;refine h.al λb4 _ h=>?_
 refine qm h 0 rfl λa2 c2 H4 h=>⟨_,_,_,rfl,?_⟩
 generalize dG [st.last]=X2 at *;refine dd h (i:=2) rfl rfl rfl (h.sl_rd 0 rfl) (by omega) λa3 c3 H5 h=>⟨_,_,_,rfl,?_⟩
 have h:=h.o [9,2,6,7,8,10,11,12,13,14,15,16,17,18,20] 21;refine dX ⟨_,h.rd 4 rfl 0,?_⟩;refine zg h (by omega) λsa sc H6 h=>⟨_,_,_,rfl,dX ⟨_,h.rd 5 rfl 0,_,tI (h.o [1] 2),dX ⟨_,h.rd 5 rfl 0,?_⟩⟩⟩
 refine h.al λb5 _ h=>⟨h.rd 6 rfl 0,_,Jj (bs:=[st.ck.held]) (by simp) h 0 rfl,_,P7 (h.o [2] 3),?_⟩
 refine h.al λb6 _ h=>?_
 refine oP (vs:=[flN [st.ck.held] 1,st.ck.streak,(st.ck.smps.length:Int)]) h (λH h=>h.ce_rd 0 rfl) (by simp) λa4 c4 H7 h=>⟨_,_,_,rfl,?_⟩
 generalize bC [flN [st.ck.held] 1,st.ck.streak,(st.ck.smps.length:Int)]=X3 at *;refine dd h (i:=5) rfl rfl rfl (h.sl_rd 0 rfl) (by grind) λa5 c5 H8 h=>⟨_,_,_,rfl,?_⟩
 have hO:((X1++X2)++X3).length<=100:=by grind
 generalize (X1++X2)++X3=O at *;refine⟨λA Z B i H'=>∃j:Nat,i=j/\j<=st.ck.smps.length/\Z=(O++(st.ck.smps.take j).flatMap smB).length/\
  aA H' (slA 5 1 A (O++(st.ck.smps.take j).flatMap smB).length B ((O++(st.ck.smps.take j).flatMap smB).map U8)::slA 167 4 sa st.ck.smps.length sc (aF fP st.ck.smps)::ckA cb st.ck::Ma.markC p.mb p.mm s.ms::Ma.mapF p.mm s.ms.m::cellsA C [PA cb 0,PA hb 0,aB st.last] 421::hldA Q hb st.hs::mapA aB ptV p.tm (cQ 0 bl)::mg Q bl s.sts a.toNat::
   cellsA sb (dI s p) 314::N::R::S::T::P::Q::F),
  λ_ _ _ i _=>st.ck.smps.length-i.toNat,⟨0,rfl,by omega,by simp,?_⟩,?_⟩
 .rw [show O++(st.ck.smps.take 0).flatMap smB=O by simp];exact h.o [5,3,4,6,7,8,9,10,11,12,13,14,15,16,17,18] 19
 rintro a6 n6 c6 i H9 ⟨j,rfl,hj,rfl,h⟩;have L:=Jm (st.ck.smps.take j);have U:(st.ck.smps.take j).length<=st.ck.smps.length:=by grind
 refine⟨λc=>?_,λc=>?_⟩
 .have c:j<st.ck.smps.length:=by grind
  have hr:=h.sl_rd 1 rfl;refine⟨by omega,_,_,hr.some kX (by omega) c,_,_,_,_,hr.els kX c,?_⟩;refine h.al λb8 _ h=>?_
  refine h.st 0 rfl rfl ?_;intro V h;refine⟨_,h.r 0,_,h.r 0,_,h.r 0,_,h.r 0,?_⟩;refine h.al λb9 _ h=>?_
  refine oP (vs:=[st.ck.smps[j].asked,st.ck.smps[j].got,st.ck.smps[j].sent,st.ck.smps[j].came]) h (λH h=>h.ce_rd 0 rfl) (by simp) λa7 c7 Y h=>⟨_,_,_,rfl,?_⟩
  have q5:=dD [st.ck.smps[j].asked,st.ck.smps[j].got,st.ck.smps[j].sent,st.ck.smps[j].came];simp only[VA,VV]at q5;refine dd h (i:=3) rfl rfl rfl (h.sl_rd 0 rfl) (by grind) λa8 c8 W h=>⟨_,_,_,rfl,?_⟩
  rw[aJ (x:=(j:Int)+1)];have e5:O++(st.ck.smps.take (j+1)).flatMap smB=(O++(st.ck.smps.take j).flatMap smB)++bC [st.ck.smps[j].asked,st.ck.smps[j].got,st.ck.smps[j].sent,st.ck.smps[j].came]:=by
   rw[jr (f:=smB) c,VX]
  rw[<-e5]at h ⊢;exact⟨⟨j+1,by omega,c,rfl,h.o [3,4,5,6,7,8,9,10,11,12,13,14,15,16,17,18] 19⟩,by grind⟩
 have y:st.ck.smps.length<=j:=by grind
 rw[VM y]at h L ⊢;have h9:(O++st.ck.smps.flatMap smB).length<=500:=by grind
 generalize O++st.ck.smps.flatMap smB=O2 at *;refine dX ⟨_,h.r 5,dX ⟨_,h.r 5,?_⟩⟩;have h:=h.o [6,0,2,3,4,5,7,8,9,10,11,12,13,14,15] 16;refine zO h d.hs.rows.rising (Ae d) (by omega) λwa wc V h=>⟨_,_,_,rfl,h.r 6,?_⟩
 have h:=h.o [1,0,2,3,4,5,6,7,8,9,10,11,12,13,14,15] 16;refine Iw h λh6 Y h=>⟨_,rfl,?_⟩
 refine Rg h d.hs.rows.rising (Ae d) (by omega) λea ec evs W E D h=>⟨_,_,_,rfl,?_⟩
 have h2:evs.length=st.hs.rows.length:=by have:=congrArg List.length E;grind
 refine dX ⟨_,h.r 8,_,tT (h.o [2] 3),?_⟩;refine h.al λl2 _ h=>?_
 refine oP (vs:=[st.hs.next,(st.hs.rows.length:Int)]) h (λH h=>h.ce_rd 0 rfl) (by simp) λa7 c7 h7 h=>⟨_,_,_,rfl,?_⟩
 generalize bC [st.hs.next,(st.hs.rows.length:Int)]=X4 at *;refine dd h (i:=6) rfl rfl rfl (h.sl_rd 0 rfl) (by omega) λa8 c8 h0 h=>⟨_,_,_,rfl,?_⟩
 have h5:(O2++X4).length<=600:=by grind
 generalize O2++X4=O3 at *;have l4:(aL st.hs.rows).length=st.hs.rows.length:=by grind
 refine⟨λA Z B i H'=>∃j:Nat,i=j/\j<=st.hs.rows.length/\Z=(O3++(st.hs.rows.take j).flatMap rwB).length/\
  aA H' (slA 5 1 A (O3++(st.hs.rows.take j).flatMap rwB).length B ((O3++(st.hs.rows.take j).flatMap rwB).map U8)::slA 258 4 ea evs.length ec (aF bT evs)::slA 2 1 wa st.hs.rows.length wc ((aL st.hs.rows).map aB)::hldA Q hb st.hs::ckA cb st.ck::Ma.markC p.mb p.mm s.ms::Ma.mapF p.mm s.ms.m::cellsA C [PA cb 0,PA hb 0,aB st.last] 421::mapA aB ptV p.tm (cQ 0 bl)::mg Q bl s.sts a.toNat::
   cellsA sb (dI s p) 314::N::R::S::T::P::Q::F),
  λ_ _ _ i _=>st.hs.rows.length-i.toNat,⟨0,rfl,by omega,by simp,?_⟩,?_⟩
 .rw [show O3++(st.hs.rows.take 0).flatMap rwB=O3 by simp];exact h.o [6,2,5,4,7,8,9,10,11,12,13,14,15,16,17,18,19] 20
 rintro a9 n9 c9 i l0 ⟨j,rfl,hj,rfl,h⟩;have L:=Jo (st.hs.rows.take j);have U:(st.hs.rows.take j).length<=st.hs.rows.length:=by grind
 refine⟨λc=>?_,λc=>?_⟩
 .have c:j<st.hs.rows.length:=by grind
  have I:j<(aL st.hs.rows).length:=by omega
  have n:j<evs.length:=by omega
  have J:=(h.sl_rd 2 rfl).at I;refine⟨by omega,_,_,J.1,_,J.2,?_⟩;refine h.al λh3 _ h=>?_
  refine nq h 0 rfl λl1 j3 u8 h=>⟨_,_,_,rfl,?_⟩
  have q5:=dD [(aL st.hs.rows)[j]];simp only[VA,VV]at q5;refine dd h (i:=2) rfl rfl rfl (h.sl_rd 0 rfl) (by grind) λl3 l5 r0 h=>⟨_,_,_,rfl,?_⟩
  have G:=h.sl_rd 3 rfl;refine⟨by omega,_,_,G.some dF (by omega) n,_,_,_,_,_,_,G.els dF n,?_⟩;refine I1 (e:=evs[j]) h (λH h=>(D _ (V7 n)).at h 18 rfl) λr6 l6 j2 h=>⟨_,_,_,rfl,?_⟩
  have q6:=wC evs[j].p;refine dd h (i:=3) rfl rfl rfl (h.sl_rd 0 rfl) (by grind) λy3 y2 h4 h=>⟨_,_,_,rfl,?_⟩
  rw[aJ (x:=(j:Int)+1)];have ek:(aL st.hs.rows)[j]=st.hs.rows[j].1:=by grind
  have ep:evs[j].p=st.hs.rows[j].2:=by
   have h1:(evs.map Ev.p)[j]'(by grind)=(st.hs.rows.map (·.2))[j]'(by grind):=by grind
   grind
  have e5:O3++(st.hs.rows.take (j+1)).flatMap rwB=((O3++(st.hs.rows.take j).flatMap rwB)++bC [(aL st.hs.rows)[j]])++evB evs[j].p:=by
   rw[jr (f:=rwB) c,ek,ep,VX,VX]
  rw[<-e5]at h ⊢;exact⟨⟨j+1,by omega,c,rfl,h.o [3,4,5,6,7,8,9,10,11,12,13,14,15,16,17,18,19] 20⟩,by grind⟩
 .have y:st.hs.rows.length<=j:=by grind
  rw[VM y]at h ⊢;refine k _ _ _ ?_;have h:=h.o [7,4,3,8,9,10,11,12,5,6,13,14,15,0,16] 17;have h:=gM.2 ⟨cb,hb,h⟩;have h:=h.o [1,0,2,3,4,5,6,7,8,9,10,11,12] 13;have h:=rR v h;rw[Jh w]at h;exact h.o [9,10,1,2,3,4,5,6,7,0,8] 11
end
def gO(s:aV)(p:Int×En):List Int:=match io s p.1 with
 | some st=>agB p.1 p.2 (bQ s.ms p.1) st
 | none=>[]
def nStr(s:aV):Nat:=(s.sts.filter Option.isSome).length
abbrev ceB(o:Ot):List Int:=cbB o.1 o.2
def kw(s:aV):List Int:=(bC [s.now,s.boots,s.sunk,s.ms.now]++dG [s.ms.value])++bC [(nStr s:Int)]
def j4(s:aV):List Int:=(kw s++(bi 0 s.rows).flatMap (gO s))++bC [(s.cm.length:Int)]
def mi(s:aV):List Int:=(j4 s++(bP s.cm).flatMap ceB)++bC [(s.kept.length:Int)]
def stB(s:aV):List Int:=mi s++s.kept.flatMap ceB
structure SerOk(s:aV):Prop where
 cm:∀p∈s.cm,p.1.ser.size<=5000
 kept:∀o∈s.kept,o.1.ser.size<=5000
theorem Ah{α:Type}:∀{l:List (Option α)} {i:Nat},(cQ i l).length=(l.filter Option.isSome).length
 | [],i=>rfl
 | none::r,i=>Ah (l:=r) (i:=i+1)
 | some b::r,i=>by
  show (_::cQ (i+1) r).length=_;rw[VA,Ah (l:=r)];rfl
theorem Jp{α β:Type}:∀{l:List (Option α)} {m:List (Option β)},l.map Option.isSome=m.map Option.isSome->(l.filter Option.isSome).length=(m.filter Option.isSome).length
 | [],[],_=>rfl
 | x::r,y::m,h=>by
  simp only[VR,List.cons.injEq]at h;have a:=Jp h.2;rw[Wq,Wq,h.1]
  split
  .rw [VA,VA,a]
  .exact a
 | [],y::m,h=>by simp at h
 | x::r,[],h=>by simp at h
theorem Ai{m:CM}{o:Ot}(h:o∈bP m):∃p∈m,p.1=o.1:=by
 unfold bP at h;obtain⟨k,a,rfl⟩:=V8.1 h
 grind [qh]
section
variable {F L:List aD}{H:aC}{K KP:KQ}{Q Q':aD}{sb:Nat}{s:aV}
theorem agB_len{a:Int}{e:En}{fl:Fl}{st:Str}(b:qw s.cfg st):(agB a e fl st).length<=345000:=by
 have q1:=dD [a,e.epoch,e.boot,e.time,fl.t,flN [fl.out,fl.was,fl.held] 3];have q2:=lY [st.last];have q3:=dD [flN [st.ck.held] 1,st.ck.streak,(st.ck.smps.length:Int)];have q4:=dD [st.hs.next,(st.hs.rows.length:Int)];have q5:=Jm st.ck.smps;have q6:=Jo st.hs.rows;have c:=b.ck.len
 grind [Af,agB,agB1,List.length_cons]
theorem wU(ok:dh s)(p:Int×En):(gO s p).length<=345000:=by
 unfold gO
 cases h:io s p.1 with
 | none=>simp
 | some st=>exact agB_len (ok.sts st (VW (RV h).2))
theorem od{α:Type}{f:α->List Int}{B:Nat}:∀{l:List α},(∀x∈l,(f x).length<=B)->(l.flatMap f).length<=B*l.length
 | [],_=>by simp
 | x::r,h=>by
  have c:=h x (VI ..);have b:=od (l:=r) λy a=>h y (VF _ a)
  grind [Nat.mul_succ]
theorem wV{o:Ot}(wc:WC o.2)(hs:o.1.ser.size<=5000):(ceB o).length<=10100:=Jk wc hs
theorem Jq:(kw s).length<=60:=by
 grind [dD,lY,kw,List.length_cons]
theorem strm_len{tm:Nat}{sts:List (Option Str)}(h:aA H (strmA Q tm sts::F)):cZ Tryz.prog (Builtin.len_ #[312] 3 #[(.map (some tm))]) H (.int .i64 ((sts.filter Option.isSome).length:Nat)):=by
 obtain⟨bl,hm,h⟩:=lh.1 h;have:=h.mp_len (ty:=3) rQ 0 rfl;rw[Ah,Jp hm]at this;exact this
theorem RZ(ok:dh s)(ser:SerOk s)(hkl:s.kept.length<=900000)(h:aA H (Q::stA Q sb s::F))
  (k:∀a c H',aA H' (slA 5 1 a (stB s).length c ((stB s).map U8)::Q::stA Q sb s::F)->K (.slice a (stB s).length c) H') :
  CF 175 #[PA sb 0] H K:=by
 refine cL 175 (.r (.seq (.regJ [(3,sA)]) (.r (.r (.seq (.r (.blk (.rng [sI,.agg [.int .i64,.int .i64,.int .i64]] [none] (.r .reg) (.blk .reg)))) (.r (.seq (.r (.blk (.rng [.agg [.int .i64,.str],.agg [.int .i64,.int .i64,.int .u64,.int .i64,.int .i64,.int .i64,.int .i64,.vec .i64 65]] [none] (.r .reg) (.blk .reg)))) (.r (.seq (.r (.blk (.loop [(95,sI)] (.r (.seq (.cond .no .no) (.seq (.blk (.r .reg)) .reg)))))) (.r .no)))))))))) ?_;refine h.al λb _ h=>?_
 have h:=h.o [2,0,1] 3;obtain⟨p,h⟩:=dx.1 h;intro Jn hJ;have hle:=wH ok.rows;have hagl:((bi 0 s.rows).flatMap (gO s)).length<=345000*64:=by
  have:=od (f:=gO s) (l:=bi 0 s.rows) (B:=345000) λx _=>wU ok x
  grind
 have hol:=wg (m:=s.cm);have hcl:=ok.sh.len;have hcm:=ok.sh.m2;have hO:∀o∈bP s.cm,(ceB o).length<=10100:=λo L=>by
  obtain⟨q,hq,e⟩:=Ai L;exact wV (wS ok.sh o L) (by rw[<-e];exact ser.cm q hq)
 have D:∀o∈s.kept,(ceB o).length<=10100:=λo L=>wV (ok.kept o L) (ser.kept o L)
 have u:∀ob a c H',aA H' (cellsA ob [.slice a (bC [s.now,s.boots,s.sunk,s.ms.now]).length c] 38::slA 5 1 a (bC [s.now,s.boots,s.sunk,s.ms.now]).length c ((bC [s.now,s.boots,s.sunk,s.ms.now]).map U8)::
   cellsA sb (dI s p) 314::Ro.rollC p.rb p.rm s.cfg.agents::Ro.mapE p.rm s.rows::Ma.markC p.mb p.mm s.ms::Ma.mapF p.mm s.ms.m::shC p.hb p.hm s.cfg.cells::cB p.hm s.cm::strmA Q p.tm s.sts::slA 288 74 p.ka s.kept.length p.kc (aF cW s.kept)::cellsA b [PA sb 0] 208::Q::F)->Jn ob 0 H':=by
  intro ob a0 c0 H1 h;refine hJ _ _ _ ?_;have q1:=dD [s.now,s.boots,s.sunk,s.ms.now];have q2:=lY [s.ms.value];have q3:=dD [(nStr s:Int)];have q4:=dD [(s.cm.length:Int)];have q5:=dD [(s.kept.length:Int)];simp only[VA,VV]at q1 q2 q3 q4 q5;have hS1:=Jq (s:=s);have h7:kw s=(bC [s.now,s.boots,s.sunk,s.ms.now]++dG [s.ms.value])++bC [(nStr s:Int)]:=rfl;have y3:j4 s=(kw s++(bi 0 s.rows).flatMap (gO s))++bC [(s.cm.length:Int)]:=rfl;have u8:mi s=(j4 s++(bP s.cm).flatMap ceB)++bC [(s.kept.length:Int)]:=rfl;have hS2:(j4 s).length<=22100000:=by grind
  have hcl2:((bP s.cm).flatMap ceB).length<=10100*1024:=by
   have h1:=od (f:=ceB) (l:=bP s.cm) (B:=10100) hO
   grind
  have hS3:(mi s).length<=40000000:=by grind
  generalize bC [s.now,s.boots,s.sunk,s.ms.now]=X0 at *;refine⟨_,_,_,h.r 0,_,h.rd 11 rfl _,⟨_,h.r 2,_,Ma.Value_spec h 5 rfl,?_⟩⟩;refine h.al λb1 _ h=>⟨h.r 1,?_⟩
  refine qm h 0 rfl λa1 c1 H2 h=>⟨_,_,_,rfl,h.r 2,?_⟩
  refine dd h (i:=3) rfl rfl rfl (h.sl_rd 0 rfl) (by omega) λa2 c2 H3 h=>⟨_,_,_,rfl,?_⟩
  generalize dG [s.ms.value]=X1 at *;refine h.st 2 rfl rfl ?_;intro H4 h;have h:=h.o [2,3,4,5,6,7,8,9,10,11,12,13,14] 15;refine⟨_,_,_,h.r 0,_,h.rd 11 rfl _,⟨_,h.r 2,_,strm_len (h.o [9] 10),?_⟩⟩;refine h.al λb2 _ h=>⟨h.r 1,?_⟩
  refine nq h 0 rfl λa3 c3 H5 h=>⟨_,_,_,rfl,h.r 2,?_⟩
  refine dd h (i:=3) rfl rfl rfl (h.sl_rd 0 rfl) (by grind [nStr]) λa4 c4 H6 h=>⟨_,_,_,rfl,?_⟩
  rw[show (X0++X1)++bC [((s.sts.filter Option.isSome).length:Int)]=kw s from h7.symm]at h ⊢;refine h.st 2 rfl rfl ?_;intro H7 h;have h:=h.o [2,3,4,5,6,7,8,9,10,11,12,13,14] 15;refine⟨_,h.rd 11 rfl _,⟨_,h.r 2,?_⟩⟩;refine Ro.All_spec h λj1 P h=>⟨_,_,rfl,rfl,λR l2 S hy=>?_⟩
  have h:=h.rng R;refine Ro.All1_spec (rb:=p.rb) (mb:=p.rm) (most:=s.cfg.agents) (c0:=j1) ok.rows (λj=>exS λq:Xa×Nat=>star [cellsA ob [.slice q.1 (kw s++((bi 0 s.rows).take j).flatMap (gO s)).length q.2] 38,slA 5 1 q.1 (kw s++((bi 0 s.rows).take j).flatMap (gO s)).length q.2 ((kw s++((bi 0 s.rows).take j).flatMap (gO s)).map U8),
    cellsA sb (dI s p) 314,Ma.markC p.mb p.mm s.ms,Ma.mapF p.mm s.ms.m,strmA Q p.tm s.sts,cellsA b [PA sb 0] 208,Q,pt (P.size+1) (.loop R)]) (pur False)
   (F:=pt P.size (.deferred (some []))::shC p.hb p.hm s.cfg.cells::cB p.hm s.cm::slA 288 74 p.ka s.kept.length p.kc (aF cW s.kept)::F) ?_ ?_ ?_ ?_
  .refine cy.2 ⟨(a4,c4),aA.shut [_,_,_,_,_,_,_,_,_] ?_⟩;rw[show kw s++((bi 0 s.rows).take 0).flatMap (gO s)=kw s by simp];exact h.o [3,4,5,8,9,12,14,15,0,2,6,7,1,10,11,13] 16
  .intro j J G H9 K1 h Y _;obtain⟨⟨a5,c5⟩,h⟩:=cy.1 h;have h:=aA.open (A:=[_,_,_,_,_,_,_,_,_]) h;dsimp only at h;refine hy _ _ _ ?_;refine⟨_,_,_,_,rfl,h.getO 8 rfl,?_⟩;refine h.al λb3 _ h=>?_
   refine h.st 0 rfl rfl ?_;intro Z h;refine⟨h.getO 9 rfl,h.stl 9 rfl λj2 h=>⟨_,_,_,h.r 1,_,h.r 7,_,_,_,h.q 0,?_⟩⟩
   have d:=V7 J;have htk:=qn d;have M:0<(bE s.rows (bi 0 s.rows)[j].1).epoch:=by
    have h6:=zT (i:=0) (l:=s.rows) (k:=(bi 0 s.rows)[j].1.toNat);rw[VB,show (((bi 0 s.rows)[j].1.toNat:Nat):Int)=(bi 0 s.rows)[j].1 by omega]at h6;have h1:aK (bi 0 s.rows)[j].1 (bi 0 s.rows)=some (bi 0 s.rows)[j].2:=nN I6 d;have h2:=wG ok.rows (agent:=(bi 0 s.rows)[j].1)
    grind
   obtain⟨l3,st,h5⟩:=ok.str M;have j3:gO s (bi 0 s.rows)[j]=agB (bi 0 s.rows)[j].1 (bi 0 s.rows)[j].2 (bQ s.ms (bi 0 s.rows)[j].1) st:=by
    grind [gO,wR]
   have hagn:=wU ok (bi 0 s.rows)[j];have N:=od (f:=gO s) (l:=(bi 0 s.rows).take j) (B:=345000) λx _=>wU ok x
   have C:((bi 0 s.rows).take j).length<=(bi 0 s.rows).length:=by grind
   have E:345000*((bi 0 s.rows).take j).length<=345000*64:=Wy _ (by omega);have h:=jO (jO (jO (jO (jO h))));have h:=h.o [13,8,0,1,9,10,2,3,11,4,5,6,7,12,14] 15;refine RY (e:=(bi 0 s.rows)[j].2) ok l3 h5 h λa6 c6 h9 h=>⟨_,_,_,rfl,h.r 12,?_⟩
   rw[<-j3]at h ⊢;refine dd h (i:=13) rfl rfl rfl (h.sl_rd 0 rfl) (by grind) λa7 c7 W h=>⟨_,_,_,rfl,?_⟩
   refine h.st 12 rfl rfl ?_;intro t h;refine⟨h.getO 15 rfl,Y _ ?_⟩;have h:=h.setO 15 rfl (.loop R);have e5:kw s++((bi 0 s.rows).take (j+1)).flatMap (gO s)=(kw s++((bi 0 s.rows).take j).flatMap (gO s))++gO s (bi 0 s.rows)[j]:=by
    grind [jr]
   refine cy.2 ⟨(a7,c7),aA.shut [_,_,_,_,_,_,_,_,_] ?_⟩;dsimp only;rw[e5];exact h.o [12,13,2,5,6,9,14,1,15] 16
  .intro H9 h;obtain⟨⟨a5,c5⟩,h⟩:=cy.1 h;have h:=aA.open (A:=[_,_,_,_,_,_,_,_,_]) h;dsimp only at h;rw[VO]at h;refine⟨.ready,none,by decide,by rw[kT l2 S];exact h.getO 8 rfl,h.stl 8 rfl λZ h=>⟨rfl,?_⟩⟩
   refine⟨_,_,_,h.r 0,_,h.rd 6 rfl _,⟨_,h.r 2,_,PX h 13 14 rfl rfl,?_⟩⟩;refine h.al λb4 _ h=>⟨h.r 1,?_⟩
   refine nq h 0 rfl λa6 c6 j2 h=>⟨_,_,_,rfl,h.r 2,?_⟩
   refine dd h (i:=3) rfl rfl rfl (h.sl_rd 0 rfl) (by grind) λa7 c7 h9 h=>⟨_,_,_,rfl,?_⟩
   rw[<-y3]at h ⊢;refine h.st 2 rfl rfl ?_;intro W h;have h:=h.o [2,3,4,5,6,7,8,9,12,13,14,15,16,17] 18;refine⟨_,h.rd 6 rfl _,⟨_,h.r 2,?_⟩⟩;refine Gs h λh3 t h=>⟨_,_,rfl,rfl,λO h0 r0 T=>?_⟩
   have h:=h.rng O;refine Gt (sb:=p.hb) (mb:=p.hm) (most:=s.cfg.cells) (m:=s.cm) (c0:=h3) (by omega)
    (λj=>exS λq:Xa×Nat=>star [cellsA ob [.slice q.1 (j4 s++((bP s.cm).take j).flatMap ceB).length q.2] 38,slA 5 1 q.1 (j4 s++((bP s.cm).take j).flatMap ceB).length q.2 ((j4 s++((bP s.cm).take j).flatMap ceB).map U8),shC p.hb p.hm s.cfg.cells,cB p.hm s.cm,pt (t.size+1) (.loop O)])
    (λ_=>pur False) (star [cellsA ob [.slice a7 (j4 s).length c7] 38,slA 5 1 a7 (j4 s).length c7 ((j4 s).map U8),pt (t.size+1) (.loop O)])
    (F:=pt t.size (.deferred (some []))::cellsA sb (dI s p) 314::Ma.markC p.mb p.mm s.ms::Ma.mapF p.mm s.ms.m::strmA Q p.tm s.sts::cellsA b [PA sb 0] 208::Q::Ro.rollC p.rb p.rm s.cfg.agents::Ro.mapE p.rm s.rows::pt P.size (.deferred (some []))::slA 288 74 p.ka s.kept.length p.kc (aF cW s.kept)::F) ?_ ?_ ?_ ?_ ?_
   .have h:=h.o [3,4,0,2,14,15,1,5,6,7,8,9,10,11,12,13,16] 17;have h:=aA.shut [_,_,_] h;exact h.o [1,2,3,0] 4
   .intro G w h;have h:=h.o [2,0,1] 3;have h:=aA.open (A:=[_,_,_]) h;refine cy.2 ⟨(a7,c7),aA.shut [_,_,_,_,_] ?_⟩;rw[show j4 s++((bP s.cm).take 0).flatMap ceB=j4 s by simp];exact h.o [0,1,3,4,2] 5
   .intro j J G w K1 h Y _;obtain⟨⟨a8,c8⟩,h⟩:=cy.1 h;have h:=aA.open (A:=[_,_,_,_,_]) h;dsimp only at h;refine T _ _ _ ?_;have d:=V7 J;have l4:=wS ok.sh _ d;have I:(bP s.cm)[j].1.ser.size<=5000:=by
     obtain⟨q,hq,e⟩:=Ai d;rw[<-e];exact ser.cm q hq
    have y2:(cbB (bP s.cm)[j].1 (bP s.cm)[j].2).length<=10100:=hO _ d;have N:=od (f:=ceB) (l:=(bP s.cm).take j) (B:=10100) λx hx=>hO x (Ww hx)
    have C:((bP s.cm).take j).length<=(bP s.cm).length:=by grind
    have E:10100*((bP s.cm).take j).length<=10100*1024:=Wy _ (by omega);refine⟨_,_,_,_,_,_,_,_,_,_,rfl,h.getO 4 rfl,?_⟩;refine h.al λb5 _ h=>?_
    refine h.st 0 rfl rfl ?_;intro r6 h;refine h.al λb6 _ h=>?_
    refine h.sta 0 rfl rfl λl6 h=>?_
    refine⟨h.getO 6 rfl,h.stl 6 rfl λh4 h=>⟨_,_,_,h.r 2,_,_,h.q 1,_,_,_,_,_,_,_,_,h.rda 0 rfl,?_⟩⟩
    refine Jl (key:=(bP s.cm)[j].1) (c:=(bP s.cm)[j].2) l4 I h λa9 c9 U h=>⟨_,_,_,rfl,h.r 3,?_⟩
    refine dd h (i:=4) rfl rfl rfl (h.sl_rd 0 rfl) (by grind) λy v V h=>⟨_,_,_,rfl,?_⟩
    refine h.st 3 rfl rfl ?_;intro l0 h;refine⟨h.getO 7 rfl,Y _ ?_⟩;have h:=h.setO 7 rfl (.loop O);have e5:j4 s++((bP s.cm).take (j+1)).flatMap ceB=(j4 s++((bP s.cm).take j).flatMap ceB)++ceB (bP s.cm)[j]:=by
     rw[jr (f:=ceB) J,VX]
    refine cy.2 ⟨(y,v),aA.shut [_,_,_,_,_] ?_⟩;dsimp only;rw[e5];exact h.o [3,4,5,6,7] 8
   .intro w h;obtain⟨⟨a8,c8⟩,h⟩:=cy.1 h;have h:=aA.open (A:=[_,_,_,_,_]) h;dsimp only at h;rw[VO]at h;refine⟨.ready,none,by decide,by rw[kT h0 r0];exact h.getO 4 rfl,h.stl 4 rfl λr6 h=>⟨rfl,?_⟩⟩
    refine⟨_,_,_,h.r 0,_,h.rd 10 rfl _,⟨_,_,_,h.r 6,?_⟩⟩;refine h.al λb7 _ h=>⟨h.r 1,?_⟩
    refine nq h 0 rfl λa9 c9 l6 h=>⟨_,_,_,rfl,h.r 2,?_⟩
    refine dd h (i:=3) rfl rfl rfl (h.sl_rd 0 rfl) (by grind) λy v h4 h=>⟨_,_,_,rfl,?_⟩
    rw[<-u8]at h ⊢;refine h.st 2 rfl rfl ?_;intro U h;refine⟨_,h.rd 12 rfl _,⟨_,_,_,h.r 8,?_⟩⟩;refine⟨λi H'=>∃(j:Nat) (a:Xa) (c:Nat),i=j/\j<=s.kept.length/\
     aA H' (cellsA ob [.slice a (mi s++(s.kept.take j).flatMap ceB).length c] 38::slA 5 1 a (mi s++(s.kept.take j).flatMap ceB).length c ((mi s++(s.kept.take j).flatMap ceB).map U8)::pt t.size (.deferred (some []))::pt P.size (.deferred (some []))::
      Q::cellsA sb (dI s p) 314::Ro.rollC p.rb p.rm s.cfg.agents::Ro.mapE p.rm s.rows::Ma.markC p.mb p.mm s.ms::Ma.mapF p.mm s.ms.m::shC p.hb p.hm s.cfg.cells::cB p.hm s.cm::strmA Q p.tm s.sts::slA 288 74 p.ka s.kept.length p.kc (aF cW s.kept)::F),
     λi _=>s.kept.length-i.toNat,⟨0,y,v,rfl,by omega,?_⟩,?_⟩
    .rw [show mi s++(s.kept.take 0).flatMap ceB=mi s by simp];exact h.o [2,3,7,16,13,8,14,15,9,10,4,5,11,17] 18
    rintro i V ⟨j,a,c,rfl,J,h⟩;refine⟨λn=>?_,λn=>?_⟩
    .have n:j<s.kept.length:=by grind
     have d:=V7 n;have y2:(cbB s.kept[j].1 s.kept[j].2).length<=10100:=D _ d;have N:=od (f:=ceB) (l:=s.kept.take j) (B:=10100) λx hx=>D x (Ww hx)
     have C:(s.kept.take j).length<=s.kept.length:=by rw[W7];omega
     have E:10100*(s.kept.take j).length<=10100*900000:=Wy _ (by omega);have hr:=h.sl_rd 13 rfl;refine⟨by omega,_,_,hr.some iU (by omega) n,_,_,_,_,_,_,_,_,_,_,hr.els iU n,?_⟩;refine h.al λb9 _ h=>?_
     refine h.sta 0 rfl rfl λl0 h=>?_
     refine⟨_,_,_,h.r 1,_,_,h.q 0,_,_,_,_,_,_,_,_,h.rdt (l:=[_,_]) 0 rfl rfl,?_⟩;refine Jl (key:=s.kept[j].1) (c:=s.kept[j].2) (ok.kept _ d) (ser.kept _ d) h λa9 c9 H22 h=>⟨_,_,_,rfl,h.r 2,?_⟩
     refine dd h (i:=3) rfl rfl rfl (h.sl_rd 0 rfl) (by grind) λl1 l5 H23 h=>⟨_,_,_,rfl,?_⟩
     refine h.st 2 rfl rfl ?_;intro H24 h
     conv=>whnf
     rw[aJ (x:=(j:Int)+1)];have e5:mi s++(s.kept.take (j+1)).flatMap ceB=(mi s++(s.kept.take j).flatMap ceB)++ceB s.kept[j]:=by
      rw[jr (f:=ceB) n,VX]
     refine⟨⟨j+1,l1,l5,by omega,n,?_⟩,by grind⟩;rw[e5];exact h.o [2,3,4,5,6,7,8,9,10,11,12,13,14,15] 16
    .have h8:s.kept.length<=j:=by grind
     rw[VM h8]at h;refine⟨_,_,_,h.r 0,h.getO 2 rfl,?_⟩;have h:=h.setO 2 rfl (.deferred none);refine⟨h.getO 3 rfl,?_⟩;have h:=h.setO 3 rfl (.deferred none);refine k a c _ ?_;have h:=h.o [5,6,7,8,9,10,11,12,13,1,4] 14;have h:=dx.2 ⟨p,h⟩;exact h.o [1,2,0] 3
   .intro j w _ h;exact V0 (aA.consP h).1 id
  .intro H9 h;exact V0 (aA.consP h).1 id
 refine⟨_,h.rd 9 rfl _,⟨_,h.r 0,_,h.rd 9 rfl _,⟨_,h.r 0,_,h.rd 9 rfl _,⟨_,h.r 0,_,h.rd 9 rfl _,⟨_,h.r 0,_,Ma.Now_spec h 3 rfl,?_,?_⟩⟩⟩⟩⟩
 .refine h.al λb10 _ h=>⟨?_,?_⟩
  .refine oP (vs:=[s.now,s.boots,s.sunk,s.ms.now]) h (λH h=>h.ce_rd 0 rfl) (by simp) λa1 c1 H2 h=>⟨_,_,_,rfl,?_⟩
   refine h.al λb11 _ h=>?_
   refine h.st 0 rfl rfl ?_;intro H3 h;exact u _ _ _ _ (h.o [0,1,3,4,5,6,7,8,9,10,11,12,13] 14)
  .refine h.al λb12 _ h=>?_
   refine oP (vs:=[s.now,s.boots,s.sunk,s.ms.now]) h (λH h=>h.ce_rd 1 rfl) (by simp) λa1 c1 H2 h=>⟨_,_,_,rfl,?_⟩
   refine h.st 1 rfl rfl ?_;intro H3 h;exact u _ _ _ _ (h.o [1,0,3,4,5,6,7,8,9,10,11,12,13] 14)
 .refine h.al λb13 _ h=>⟨Ma.Now_spec h 4 rfl,h.r 1,h.r 10,h.r 1,h.r 10,h.r 1,h.r 10,h.r 1,h.r 10,?_⟩
  refine h.al λb14 _ h=>?_
  refine oP (vs:=[s.now,s.boots,s.sunk,s.ms.now]) h (λH h=>h.ce_rd 0 rfl) (by simp) λa1 c1 H2 h=>⟨_,_,_,rfl,?_⟩
  refine h.st 2 rfl rfl ?_;intro H3 h;exact u _ _ _ _ (h.o [2,0,3,4,5,6,7,8,9,10,11,12,13] 14)
end
section
variable {F L:List aD}{H:aC}{K KP:KQ}{Q Q':aD}{sb:Nat}{s:aV}
theorem Jr(k:Ky)(c:Cl):aP (cbB k c):=dY (wi _) (Qv _)
theorem Sa(a:Int)(e:En)(fl:Fl)(st:Str):aP (agB a e fl st):=
 dY (dY (dY (dY (dY (gK _) (wi _)) (gK _)) (kr λ_ _=>gK _)) (gK _)) (kr λ_ _=>dY (gK _) (wA _))
theorem Sb(s:aV)(p:Int×En):aP (gO s p):=by
 unfold gO
 split
 .exact Sa _ _ _ _
 .exact λx a=>by cases a
theorem Sc(s:aV):aP (stB s):=
 dY (dY (dY (dY (dY (dY (dY (gK _) (wi _)) (gK _)) (kr λ_ _=>Sb _ _)) (gK _)) (kr λ_ _=>Jr _ _)) (gK _)) (kr λ_ _=>Jr _ _)
end
structure Rx where
 kind:Int
 ag:Int
 ep:Int
 bt:Int
 nx:Int
 st:Int
 nw:Int
 sm:Smp
 ea:Xa
 ec:Nat
 evs:List Ev
abbrev encX(x:Rx):Xb:=[aB x.kind,aB x.ag,aB x.ep,aB x.bt,aB x.nx,aB x.st,aB x.nw,aB x.sm.asked,aB x.sm.got,aB x.sm.sent,aB x.sm.came,.slice x.ea x.evs.length x.ec]
theorem Js(x:Rx):(encX x).length=12:=rfl
structure RxK(Q:aD)(x:Rx):Prop where
 rd:bB Q x.ea (aF bT x.evs)
 labs:∀e∈x.evs,gJ Q e
 val:∀e∈x.evs,aG e.value
 ll:∀e∈x.evs,e.labs.length<=maxLen
structure XsK(Q:aD)(a:Xa)(xs:List Rx):Prop where
 rd:bB Q a (aF encX xs)
 rx:∀x∈xs,RxK Q x
 ll:xs.length<=maxLen
def grL(l:bg):Bool:=decide (300<(l.name.size:Int))||decide (300<(l.value.size:Int))
def grS(name:Eq)(labs:List bg):Bool:=decide (100<(labs.length:Int))||decide (300<(name.size:Int))||labs.any grL
def grE(evs:List Ev):Bool:=decide (100<(evs.length:Int))||evs.any λe=>grS e.name e.labs
def grC(c:Cfg)(n:Nat):Bool:=decide (80<(n:Int))||(decide (200<c.cells)&&decide (c.cells<=1024))
def grR(c:Cfg)(xs:List Rx):Bool:=grC c xs.length||xs.any λx=>grE x.evs
theorem Aj{α:Type}{p:α->Bool}{l:List α}(h:∀q (a:q<l.length),p l[q]=false):l.any p=false:=by
 rw[List.any_eq_false];intro x b;obtain⟨q,a,rfl⟩:=Wu b
 grind
theorem Ak{α:Type}{p:α->Bool}{l:List α}{q:Nat}(a:q<l.length)(h:p l[q]=true):l.any p=true:=List.any_eq_true.2 ⟨_,V7 a,h⟩
section
variable {F L:List aD}{H H0:aC}{K KP:KQ}{Q Q':aD}{sb:Nat}{s:aV}
theorem Am{name:Eq}{labs:List bg}{a:Xa}{c:Nat}(h:aA H F)(t:∀H,aA H F->aN H a (aF aZ labs))(A:labs.length<=maxLen)(k:∀H',aA H' F->K (.bool (grS name labs)) H') :
  CF 16 #[.agg #[.string name,.slice a labs.length c]] H K:=by
 refine cN 16 0x1d21562139925b4c [[(3,sI)]] ?_;unfold grS at k;refine h.al λb _ h=>⟨_,_,_,h.r 0,_,λ_=>h.r 0,λe=>?_,λe=>?_⟩
 .rw [e,Bool.true_or]at k;exact k _ h.tl
 rw[e,WE]at k;rw[VN,VG]at e;refine⟨λi H'=>∃j:Nat,i=j/\j<=labs.length/\(∀q (s:q<labs.length),q<j->grL labs[q]=false)/\aA H' (cellsA b [.string name,.slice a labs.length c] 37::F),λi _=>labs.length-i.toNat,⟨0,rfl,by omega,λq _ h=>by omega,h⟩,?_⟩
 rintro i H' ⟨j,rfl,y,s,h⟩;refine⟨_,_,_,h.r 0,λe=>?_,λe=>?_⟩
 .have d:j<labs.length:=by grind
  have m:=t H' h.tl;have e1:=m.el0 dB d (v:=.string labs[j].name) rfl;have e2:=m.el dB d 1 (v:=.string labs[j].value) rfl;refine⟨_,_,_,h.r 0,by omega,_,_,m.some dB (by omega) d,_,e1,_,_,_,λ_=>h.r 0,λ_=>by omega,_,_,λ_=>m.some dB (by omega) d,_,λ_=>e2,λn=>?_,λn=>?_⟩
  .rw [Ak d n]at k;exact k _ h.tl
  .conv=>whnf
   rw[aJ (by omega) (by grind)];refine⟨⟨j+1,by omega,d,λq f w=>?_,h⟩,by grind⟩
   rcases W0 q j with u|u
   .grind
   .obtain rfl:q=j:=by omega
    exact n
 .have x:labs.length<=j:=by grind
  rw[Aj λq f=>s q f (by omega)]at k
  exact k _ h.tl
theorem Sd{evs:List Ev}{a:Xa}{c:Nat}(h:aA H F)(y:∀H,aA H F->aN H a (aF bT evs))(hb:∀e∈evs,(∀H,aA H F->aN H e.la (aF aZ e.labs))/\e.labs.length<=maxLen)(k:∀H',aA H' F->K (.bool (grE evs)) H') :
  CF 65 #[.agg #[aB 0,aB 0,aB 0,aB 0,aB 0,aB 0,aB 0,aB 0,aB 0,aB 0,.slice a evs.length c,.string ⟨#[]⟩,.slice none 0 0,.slice none 0 0]] H K:=by
 refine cN 65 0x12283c921562139925b4c [[(3,sI)],[(18,sB)]] ?_;unfold grE at k;refine h.al λb _ h=>?_
 intro D w;refine⟨_,_,_,h.r 0,_,_,_,λ_=>h.r 0,_,_,_,_,λ_=>h.q 0,λn=>?_,λn=>?_⟩
 .have f:decide (100<(evs.length:Int))=false:=(VN.1 n).1;rw[f,WE]at k;refine Am (labs:=[]) h (λH _=>fK H _) (by simp) λH2 h=>⟨_,rfl,w _ _ ?_⟩
  refine⟨λs=>V0 s (by decide),λ_=>?_⟩
  rw[VG]at f;refine⟨λi H'=>∃j:Nat,i=j/\j<=evs.length/\(∀q (x:q<evs.length),q<j->grS evs[q].name evs[q].labs=false)/\aA H' (cellsA b [aB 0,aB 0,aB 0,aB 0,aB 0,aB 0,aB 0,aB 0,aB 0,aB 0,.slice a evs.length c,.string ⟨#[]⟩,.slice none 0 0,.slice none 0 0] 150::F),λi _=>evs.length-i.toNat,⟨0,rfl,by omega,λq _ h=>by omega,h⟩,?_⟩
  rintro i H' ⟨j,rfl,C,x,h⟩;refine⟨_,_,_,h.r 0,λn=>?_,λn=>?_⟩
  .have d:j<evs.length:=by grind
   have t:=y H' h.tl;have e1:=t.el dF d 2 (v:=.string evs[j].name) rfl;have e2:=t.el dF d 3 (v:=.slice evs[j].la evs[j].labs.length evs[j].lc) rfl;obtain⟨g1,g2⟩:=hb _ (V7 d);refine⟨_,_,_,h.r 0,by omega,_,_,t.some dF (by omega) d,_,_,_,_,⟨e1,e2⟩,?_⟩;refine Am (name:=evs[j].name) (labs:=evs[j].labs) h (λH h=>g1 H h.tl) g2 λH2 h=>⟨_,rfl,λu=>?_,λu=>?_⟩
   .rw [Ak (p:=λe=>grS e.name e.labs) d u]at k
    exact k _ h.tl
   .conv=>whnf
    rw[aJ];refine⟨⟨j+1,by omega,d,λq m A=>?_,h⟩,by grind⟩
    grind
  .have B:evs.length<=j:=by grind
   rw[Aj (p:=λe=>grS e.name e.labs) λq m=>x q m (by omega)]at k
   exact k _ h.tl
 .have f:decide (100<(evs.length:Int))=true:=by
   grind
  rw[f,Bool.true_or]at k;refine w _ _ ?_;exact⟨λ_=>k _ h.tl,λs=>V0 s (by decide)⟩
theorem Se{cf:Cfg}{a:Xa}{c:Nat}{xs:List Rx}(h:aA H (Q::F))(w:XsK Q a xs)(k:∀H',aA H' (Q::F)->K (.bool (grR cf xs)) H') :
  CF 29 #[.agg ⟨qq cf⟩,.slice a xs.length c] H K:=by
 refine cN 29 0x1d21562139925b4c [[(5,sI)]] ?_;unfold grR grC at k;refine h.al λb _ h=>⟨_,λ_=>h.r 0,_,λ_=>h.r 0,λm=>?_,λm=>?_⟩
 .rw [m,Bool.true_or]at k;exact k _ h.tl
 rw[m,WE]at k;refine⟨λi H'=>∃j:Nat,i=j/\j<=xs.length/\(∀q (t:q<xs.length),q<j->grE xs[q].evs=false)/\aA H' (cellsA b (qq cf) 26::Q::F),λi _=>xs.length-i.toNat,⟨0,rfl,by omega,λq _ h=>by omega,h⟩,?_⟩
 rintro i H' ⟨j,rfl,C,t,h⟩;refine⟨λm=>?_,λm=>?_⟩
 .have d:j<xs.length:=by grind
  have u:=w.rd.at h 1 rfl;have e1:=u.el Js d 11 (v:=.slice xs[j].ea xs[j].evs.length xs[j].ec) rfl;refine⟨by omega,_,_,u.some Js (by omega) d,_,_,_,e1,?_⟩;have f:=w.rx _ (V7 d);refine Sd (evs:=xs[j].evs) h (λH h=>f.rd.at h 1 rfl) (λe y=>⟨λH h=>(f.labs e y).at h 1 rfl,f.ll e y⟩) λH2 h=>⟨_,rfl,λs=>?_,λs=>?_⟩
  .rw [Ak (p:=λx=>grE x.evs) d s]at k
   exact k _ h.tl
  .conv=>whnf
   rw[aJ (by omega) (by grind)];refine⟨⟨j+1,by omega,d,λq n A=>?_,h⟩,by grind⟩
   grind
 .have B:xs.length<=j:=by grind
  rw[Aj (p:=λx=>grE x.evs) λq n=>t q n (by omega)]at k
  exact k _ h.tl
end
section
variable {H:Type}{enc:TypeId×Value->H}{W:World}
theorem reads_bs{cs:Xb}(h:jI enc Tryz.prog W 38 cs):∃a c bs,cs=[.slice a (List.length bs) c]/\bs.length<=maxLen/\aN W.heap a (bs.map U8)/\aP bs:=by
 obtain⟨a,c,xs,m,k,b,j⟩:=yE (ec:=λx:Int=>[U8 x]) (Q:=λx=>0<=x/\x<256) Tryz.underlying38 (by kernel_rfl) (by decide) h (λus i _=>by
  obtain⟨n,e,d,f⟩:=reads_int Tryz.underlying5 i;have d:0<=n:=d;have f:n<=255:=f
  grind) (λ_=>rfl)
 have e:∀l:List Int,aF (λx=>[U8 x]) l=l.map U8:=λl=>by
  induction l with
  | nil=>rfl
  | cons x r ih=>grind [kR]
 rw[e]at b;exact⟨a,c,xs,m,k,b,j⟩
theorem Sf{cs:Xb}(h:jI enc Tryz.prog W 35 cs):∃a c ls,cs=[.slice a (List.length ls) c]/\ls.length<=maxLen/\aN W.heap a (aF aZ ls):=by
 obtain⟨a,c,xs,j,i,f,_⟩:=yE (ec:=aZ) (Q:=λ_=>True) Tryz.underlying35 (sz:=2) (by kernel_rfl) (by decide) h (λvs e d=>by
  obtain⟨_,b⟩:=yD Tryz.underlying48 e;have c9:Tryz.prog.cellsOf 9=1:=by kernel_rfl
  simp only[V9,WB,or_false,forall_eq_or_imp,forall_eq,c9]at b;obtain⟨f1,f2⟩:=b
  match vs,d with
  | [x1,x2],_=>
   simp only[List.drop_zero,WS,W9,List.drop_succ_cons]at f1 f2;obtain⟨s1,e1,_⟩:=yC Tryz.underlying9 f1;obtain⟨s2,e2,_⟩:=yC Tryz.underlying9 f2;simp only[List.cons.injEq,and_true]at e1 e2;subst e1 e2;exact⟨⟨s1,s2⟩,rfl,trivial⟩) dB
 grind
end
structure Fq where
 kind:Int
 ag:Int:=0
 ep:Int:=0
 bt:Int:=0
 ct:Int:=0
 got:Int:=0
 sent:Int:=0
 next:Int:=0
 stamp:Int:=0
 win:Int:=0
 evs:List Pv:=[]
 sn:Eq:=⟨#[]⟩
 sl:List bg:=[]
 data:List Int:=[]
def aU(k:Int):List Nat:=if k=1 then [1,3] else if k=2 then [1,3,2] else if k=3 then [1,3,4] else if k=4 then [1,2,3,4,5,6] else
 if k=5\/k=6 then [1,2,7] else if k=7 then [1,2,7,8] else if k=8 then [9] else []
def Fq.nums(f:Fq)(i:Nat):Int:=match i with
 | 1=>f.ag|2=>f.ep|3=>f.bt|4=>f.ct|5=>f.got|6=>f.sent|7=>f.next|8=>f.stamp|9=>f.win|_=>0
structure QA where
 ea:Xa:=none
 ec:Nat:=0
 la:Xa:=none
 lc:Nat:=0
 da:Xa:=none
 dc:Nat:=0
abbrev cD(f:Fq)(x:QA):Xb:=
 [aB f.kind,aB f.ag,aB f.ep,aB f.bt,aB f.ct,aB f.got,aB f.sent,aB f.next,aB f.stamp,aB f.win,.slice x.ea f.evs.length x.ec,.string f.sn,.slice x.la f.sl.length x.lc,.slice x.da f.data.length x.dc]
structure Fq.Sh(f:Fq)(x:QA):Prop where
 ev:f.kind≠5->f.evs=[]/\x.ea=none/\x.ec=0
 em:f.kind≠8->f.sn=⟨#[]⟩/\f.sl=[]/\x.la=none/\x.lc=0/\f.data=[]/\x.da=none/\x.dc=0
 nm:∀i,1<=i->i<=9->i∉aU f.kind->f.nums i=0
structure ja(F:List aD)(f:Fq)(x:QA)(evs:List Ev):Prop where
 eq:f.evs=evs.map Ev.p
 ev:me F x.ea evs
 lab:∀H,aA H F->aN H x.la (aF aZ f.sl)
 dat:∀H,aA H F->aN H x.da (f.data.map U8)
 dA:x.da=none\/∃k o,x.da=some ⟨k,o,none⟩
 sh:f.Sh x
 el:evs.length<=1000000
 ll:∀e∈evs,e.labs.length<=1000000
 sl:f.sl.length<=1000000
 dl:f.data.length<=1000000000
theorem ja.cons{F:List aD}{f:Fq}{x:QA}{evs:List Ev}(h:ja F f x evs)(A:aD):ja (A::F) f x evs:=
 ⟨h.eq,h.ev.cons A,λH a=>h.lab H a.tl,λH a=>h.dat H a.tl,h.dA,h.sh,h.el,h.ll,h.sl,h.dl⟩
theorem ja.len{F:List aD}{f:Fq}{x:QA}{evs:List Ev}(h:ja F f x evs):f.evs.length=evs.length:=by rw[h.eq,VP]
def ip(f:Fq):Bool:=if f.kind=4 then decide (f.got<=f.sent) else if f.kind=5 then kv f.next f.evs else
 if f.kind=6\/f.kind=7 then decide (f.next<=1099511627776) else if f.kind=8 then df f.sn f.sl&&decide (f.data.length<=4096) else true
def iA(f:Fq):Bool:=inM f.kind 1 8&&(inM f.ag 0 63&&inM f.ep 0 1099511627776)&&(aU f.kind).all (λi=>inM (f.nums i) 0 4611686018427387903)&&ip f
theorem An{k:Int}:∀i∈aU k,1<=i/\i<=9:=by
 grind [aU]
theorem Ao(k:Int):(aU k).length<=6:=by
 unfold aU
 split
 .decide
 split
 .decide
 split
 .decide
 split
 .decide
 grind
theorem kinds8{k:Int}(b:1<=k)(a:k<=8):k=1\/k=2\/k=3\/k=4\/k=5\/k=6\/k=7\/k=8:=by omega
theorem Jt{k:Int}:aU k=[]↔¬(1<=k/\k<=8):=by
 constructor
 .intro h a
  rcases kinds8 a.1 a.2 with rfl|rfl|rfl|rfl|rfl|rfl|rfl|rfl <;> exact V0 h (by decide)
 .intro h;unfold aU
  grind
theorem Ju{f:Fq}{x:QA}{i:Nat}(b:1<=i)(a:i<=9):aI (cD f x) i=some (aB (f.nums i)):=by
 rcases (by omega:i=1\/i=2\/i=3\/i=4\/i=5\/i=6\/i=7\/i=8\/i=9) with rfl|rfl|rfl|rfl|rfl|rfl|rfl|rfl|rfl <;> rfl
def oV(f:Fq)(is:List Nat):Xb:=is.foldl (λcs i=>cq cs i [aB (f.nums i)]) (cD { kind:=f.kind } {})
theorem Sg(f:Fq):∀is,(oV f is).length=14:=by
 have:∀(is:List Nat) (cs:Xb),cs.length=14->(is.foldl (λcs i=>cq cs i [aB (f.nums i)]) cs).length=14:=by
  intro is
  induction is with
  | nil=>grind
  | cons i is ih=>grind [oH]
 exact λis=>this is _ rfl
theorem Si(f:Fq)(is:List Nat)(i:Nat):oV f (is++[i])=cq (oV f is) i [aB (f.nums i)]:=by
 grind [oV]
theorem Sj{f:Fq}(c:1<=f.kind)(b:f.kind<=8)(a:∀i,1<=i->i<=9->i∉aU f.kind->f.nums i=0) :
  oV f (aU f.kind)=[aB f.kind,aB f.ag,aB f.ep,aB f.bt,aB f.ct,aB f.got,aB f.sent,aB f.next,aB f.stamp,aB f.win,.slice none 0 0,.string ⟨#[]⟩,.slice none 0 0,.slice none 0 0]:=by
 obtain⟨kind,ag,ep,bt,ct,got,sent,next,stamp,win,evs,sn,sl,data⟩:=f;dsimp only at c b;have n1:1∉aU kind->ag=0:=a 1 (by decide) (by decide);have n2:2∉aU kind->ep=0:=a 2 (by decide) (by decide);have n3:3∉aU kind->bt=0:=a 3 (by decide) (by decide);have n4:4∉aU kind->ct=0:=a 4 (by decide) (by decide);have n5:5∉aU kind->got=0:=a 5 (by decide) (by decide);have n6:6∉aU kind->sent=0:=a 6 (by decide) (by decide);have n7:7∉aU kind->next=0:=a 7 (by decide) (by decide);have n8:8∉aU kind->stamp=0:=a 8 (by decide) (by decide);have n9:9∉aU kind->win=0:=a 9 (by decide) (by decide)
 clear a
 rcases kinds8 c b with rfl|rfl|rfl|rfl|rfl|rfl|rfl|rfl
 .rw [n2 (by decide),n4 (by decide),n5 (by decide),n6 (by decide),n7 (by decide),n8 (by decide),n9 (by decide)];rfl
 .rw [n4 (by decide),n5 (by decide),n6 (by decide),n7 (by decide),n8 (by decide),n9 (by decide)];rfl
 .rw [n2 (by decide),n5 (by decide),n6 (by decide),n7 (by decide),n8 (by decide),n9 (by decide)];rfl
 .rw [n7 (by decide),n8 (by decide),n9 (by decide)];rfl
 .rw [n3 (by decide),n4 (by decide),n5 (by decide),n6 (by decide),n8 (by decide),n9 (by decide)];rfl
 .rw [n3 (by decide),n4 (by decide),n5 (by decide),n6 (by decide),n8 (by decide),n9 (by decide)];rfl
 .rw [n3 (by decide),n4 (by decide),n5 (by decide),n6 (by decide),n9 (by decide)];rfl
 .rw [n1 (by decide),n2 (by decide),n3 (by decide),n4 (by decide),n5 (by decide),n6 (by decide),n7 (by decide),n8 (by decide)];rfl
section
variable {F L:List aD}{H:aC}{K:KQ}
theorem wW{b e:Nat}{k0:Int}{cs:Xb}(h:aA H F)(i:Nat)(B:aS i F=cellsA b cs e)(w:aI cs 0=some (aB k0))
  (k:∀a c H',(a.isNone=true↔aU k0=[])->aA H' (slA 90 1 a (aU k0).length c ((aU k0).map λi=>PA b i)::F)->K (.slice a (aU k0).length c) H'):CF 185 #[PA b 0] H K:=by
 refine cN 185 0x121513c13c13c13c217943c13cbc [[(68,sB)]] ?_;have fin:∀(l:List Nat) p H',aU k0=l->l≠[]->aA H' (cellsA p (l.map λi=>PA b i) 90::F)->K (.slice (some ⟨p,0,none⟩) l.length l.length) H':=by
  intro l p H' e y h;subst e;refine k _ _ _ ⟨λv=>(by cases v),λv=>V0 v y⟩ ?_
  exact aA.sl_pt h 1 _ (by simp)
 refine⟨k0,(h.rd i B 0).trans w,λd=>?_,λd=>⟨λd=>?_,λd=>⟨λd=>?_,λd=>⟨λd=>?_,λd=>?_⟩⟩⟩⟩
 .obtain rfl:=V3 d;exact h.al λp _ h=>fin [1,3] p _ rfl (by decide) h
 .obtain rfl:=V3 d;exact h.al λp _ h=>fin [1,3,2] p _ rfl (by decide) h
 .obtain rfl:=V3 d;exact h.al λp _ h=>fin [1,3,4] p _ rfl (by decide) h
 .obtain rfl:=V3 d;exact h.al λp _ h=>fin [1,2,3,4,5,6] p _ rfl (by decide) h
 simp only[VG]at *;intro C A;have j:∀t:Bool,t=decide (k0=5\/k0=6)->C t H:=by
  intro t u;refine A _ _ ⟨λf=>?_,λf=>⟨λs=>?_,λs=>⟨λm=>?_,λm=>?_⟩⟩⟩
  .rw [f]at u;have n:=V3 u.symm;refine h.al λp _ h=>fin [1,2,7] p _ ?_ (by decide) h
   rcases n with rfl|rfl <;> rfl
  .obtain rfl:=V3 s;exact h.al λp _ h=>fin [1,2,7,8] p _ rfl (by decide) h
  .obtain rfl:=V3 m;exact h.al λp _ h=>fin [9] p _ rfl (by decide) h
  .rw [f]at u;have n:=V2 u.symm;simp only[VG]at *;have e:aU k0=[]:=by
    unfold aU
    grind
   have:=k none 0 H ⟨λ_=>e,λ_=>rfl⟩ (by rw[e];exact h.sl_nil 90 1)
   rw[e]at this;exact this
 refine⟨λx=>j _ ?_,λx=>j _ ?_⟩
 .grind
 grind
end
theorem batchP_B{next:Int}{evs:List Ev}(h:0<=next/\next<=4611686018427387903):kv next (evs.map Ev.p)=gI next evs:=by
 rw[<-zP,QU,WI h.1,Bool.true_and]
section
variable {F L:List aD}{H:aC}{K:KQ}{f:Fq}{x:QA}{evs:List Ev}
theorem Sk(h:aA H F)(r:ja F f x evs)(k:∀H',aA H' F->K (.bool true) H') :
  CF 311 #[.agg ⟨cD f x⟩,.agg ⟨cD f x⟩] H K:=by
 refine cN 311 4745 [[(4,sB)]] ?_;refine h.al λb _ h=>?_
 refine h.al λb1 _ h=>?_
 intro m d;have r2:=(r.cons (cellsA b (cD f x) 150)).cons (cellsA b1 (cD f x) 150);have c:=r.len;refine⟨_,_,_,h.q 1,_,_,_,h.q 0,true,eq102,_,_,_,_,_,_,_,_,_,_,_,_,_,_,_,_,_,_,_,_,λ_=>h.q 1,_,_,_,_,_,_,_,_,_,_,_,_,_,_,_,_,_,_,_,_,λ_=>h.q 0,λ_=>?_,λa=>V0 rfl a⟩
 refine ww h λH2 h=>⟨_,_,_,_,_,_,_,rfl,λ_=>h.q 0,?_⟩
 refine ww h λi h=>⟨_,_,_,_,_,_,_,rfl,true,eq314,_,_,_,λ_=>h.r 1,_,_,_,λ_=>h.r 0,λ_=>?_,λa=>V0 rfl a⟩
 rw[c]at *;refine If h r2.ev r.el r.ll λj h=>⟨_,rfl,_,_,_,_,λ_=>h.q 1,_,_,_,_,λ_=>h.q 0,λ_=>?_,λa=>V0 rfl a⟩
 refine zK h r2.lab r.sl λn h=>⟨_,rfl,_,_,_,λ_=>h.r 1,_,_,_,λ_=>h.r 0,λ_=>?_,λa=>V0 (by simp) a⟩
 refine Ih r.dA r.dA (r2.dat _ h) (r2.dat _ h) ⟨_,rfl,d _ _ ?_⟩;have:=k _ h.tl.tl;have e:((cw f.data).toList == (cw f.data).toList)=true:=by simp
 rw[e];exact this
theorem Jv(h:aA H F)(r:ja F f x evs)(k:∀H',aA H' F->K (.bool (iA f)) H'):CF 190 #[.agg ⟨cD f x⟩] H K:=by
 refine cN 190 0x11d11215612399251d4421517b171b217947b171b9c [[],[],[(88,sB)],[],[],[(43,sI)]] ?_;have L:=r.len;refine h.al λb _ h=>?_
 refine wW h 0 rfl rfl λp pc H1 hp h=>⟨_,_,_,rfl,_,λ_=>h.r 1,_,λ_=>h.r 1,_,λ_=>h.r 1,_,λ_=>h.r 1,λd=>?_,λd=>?_⟩
 .have:iA f=false:=by
   unfold iA;simp only[VY,V5]at d
   rcases d with (((d|d)|d)|d)|d
   .have h0:=Jt.1 (hp.1 d)
    grind
   .grind
   .grind
   .grind
   grind
  rw[this]at k;exact k _ h.tl.tl
 simp only[VN,VG]at d;obtain⟨⟨⟨⟨h7,h3⟩,j1⟩,j3⟩,l0⟩:=d;have v:1<=f.kind/\f.kind<=8:=by
  apply Classical.byContradiction
  grind [Jt]
 have Q:(inM f.kind 1 8&&(inM f.ag 0 63&&inM f.ep 0 1099511627776))=true:=by
  grind
 refine⟨_,h.r 1,?_⟩;refine h.al λb1 _ h=>?_
 refine h.st 0 rfl rfl ?_;intro H2 h;have h:aA H2 (cellsA b1 (oV f []) 150::slA 90 1 p (aU f.kind).length pc ((aU f.kind).map λi=>PA b i)::cellsA b (cD f x) 150::F):=h
 refine wW (k0:=f.kind) h 0 rfl rfl λp1 w H3 l1 h=>⟨_,_,_,rfl,?_⟩
 have lo:=Ao f.kind;refine⟨λi H'=>∃j:Nat,i=j/\j<=(aU f.kind).length/\(∀q,q<j->∀J:q<(aU f.kind).length,inM (f.nums (aU f.kind)[q]) 0 4611686018427387903=true)/\
  aA H' (slA 90 1 p1 (aU f.kind).length w ((aU f.kind).map λi=>PA b1 i)::cellsA b1 (oV f ((aU f.kind).take j)) 150::slA 90 1 p (aU f.kind).length pc ((aU f.kind).map λi=>PA b i)::cellsA b (cD f x) 150::F),
  λi _=>(aU f.kind).length-i.toNat,⟨0,rfl,by omega,λq J=>V0 J (by omega),h⟩,?_⟩
 rintro i H4 ⟨j,rfl,hj,V,h⟩;refine⟨λc=>?_,λc=>?_⟩
 .have c:j<(aU f.kind).length:=by grind
  have W:=(h.sl_rd 2 rfl).at c;have C:=(h.sl_rd 0 rfl).at c;have hi:=An _ (V7 c);have N:∀{H'},aA H' (slA 90 1 p1 (aU f.kind).length w ((aU f.kind).map λi=>PA b1 i)::cellsA b1 (oV f ((aU f.kind).take j)) 150::slA 90 1 p (aU f.kind).length pc ((aU f.kind).map λi=>PA b i)::cellsA b (cD f x) 150::F)->
   aM H' b (aU f.kind)[j]=some (aB (f.nums (aU f.kind)[j])):=λh=>(h.r 3).trans (Ju hi.1 hi.2)
  refine⟨by omega,_,_,W.1,_,W.2,⟨_,N h,λ_=>trivial,_,λ_=>N h,λd=>?_,λd=>?_⟩⟩
  .have:iA f=false:=by
    unfold iA
    grind
   rw[this]at k;exact k _ h.tl.tl.tl.tl
  .simp only[VN,VG]at d;refine⟨by omega,_,_,C.1,_,C.2,⟨_,N h,?_⟩⟩;refine h.st 1 rfl (by rw[Sg];exact Nat.ble_eq_true_of_le (by show (aU f.kind)[j]+1<=14;omega)) ?_;intro Z h;have hw:i64.wrap ((j:Int)+1)=((j+1:Nat):Int):=by grind [aJ]
   refine⟨⟨j+1,hw,c,λq J h9=>?_,?_⟩,by grind⟩
   .grind
   .rw [VU c,Si];exact h
 have P:j=(aU f.kind).length:=by grind
 subst P;have Y:(aU f.kind).all (λi=>inM (f.nums i) 0 4611686018427387903)=true:=by
  rw[VK];intro i hi;obtain⟨q,J,rfl⟩:=Wu hi
  grind
 have hR:iA f=ip f:=by grind [iA]
 rw[hR]at k;rw[VO,Sj v.1 v.2 r.sh.nm]at h;have E:∀i∈aU f.kind,0<=f.nums i/\f.nums i<=4611686018427387903:=by
  grind
 refine⟨_,h.r 3,?_⟩;intro Jn hJ;have fin:ip f=true->∀H',aA H' (slA 90 1 p1 (aU f.kind).length w ((aU f.kind).map λi=>PA b1 i)::cellsA b1 (cD f x) 150::slA 90 1 p (aU f.kind).length pc ((aU f.kind).map λi=>PA b i)::cellsA b (cD f x) 150::F)->Jn H':=by
  intro R H' h;refine hJ _ ?_;refine⟨_,_,_,_,_,_,_,_,_,_,_,_,_,_,_,_,_,_,_,_,h.q 3,_,_,_,_,_,_,_,_,_,_,_,_,_,_,_,_,_,_,_,_,h.q 1,?_⟩;rw[R]at k;refine Sk h ((((r.cons _).cons _).cons _).cons _) λH7 h=>⟨_,rfl,?_⟩
  exact k _ h.tl.tl.tl.tl
 have a:f.kind≠5->f.kind≠8->[aB f.kind,aB f.ag,aB f.ep,aB f.bt,aB f.ct,aB f.got,aB f.sent,aB f.next,aB f.stamp,aB f.win,.slice none 0 0,.string ⟨#[]⟩,.slice none 0 0,.slice none 0 0]=cD f x:=by
  intro m s;obtain⟨e1,e2,e3⟩:=r.sh.ev m;obtain⟨d1,d2,d3,d4,d5,d6,d7⟩:=r.sh.em s
  grind
 refine⟨λB=>?_,λB=>?_⟩
 .have B:=V3 B;refine⟨_,h.r 3,_,h.r 3,λO=>?_,λO=>?_⟩
  .have e:ip f=false:=by unfold ip;grind
   rw[e]at k;exact k _ h.tl.tl.tl.tl
  .rw [a (by omega) (by omega)]at h;refine fin ?_ _ h;unfold ip;grind
 have B:=V2 B;intro h2 n;refine⟨λm=>?_,λm=>?_⟩
 .have m:=V3 m;have S:0<=f.next/\f.next<=4611686018427387903:=E 7 (by rw[m];decide);have G:ip f=gI f.next evs:=by unfold ip;rw[Vz B,V1 m,r.eq,batchP_B S]
  refine⟨_,_,_,h.r 3,?_⟩;refine h.st 1 rfl rfl ?_;intro Z h;refine⟨_,h.r 3,_,_,_,h.r 3,?_⟩;rw[L];refine Ig h ((((r.ev.cons _).cons _).cons _).cons _) (by have:=r.el;omega) λH6 h=>⟨_,rfl,λhb=>?_,λhb=>n _ ?_⟩
  .rw [G,show gI f.next evs=false by grind]at k;exact k _ h.tl.tl.tl.tl
  .refine fin (by grind) _ ?_;obtain⟨d1,d2,d3,d4,d5,d6,d7⟩:=r.sh.em (by omega);have e:cD f x=[aB f.kind,aB f.ag,aB f.ep,aB f.bt,aB f.ct,aB f.got,aB f.sent,aB f.next,aB f.stamp,aB f.win,.slice x.ea f.evs.length x.ec,.string ⟨#[]⟩,.slice none 0 0,.slice none 0 0]:=by
    grind
   rw[e]at h ⊢;exact h
 have m:=V2 m;intro U T;have u:∀t:Bool,t=decide (f.kind=6\/f.kind=7)->U t H4:=by
  intro t I;refine T _ _ ?_;intro h1 A;refine⟨λy=>?_,λy=>?_⟩
  .rw [y]at I;have M:=V3 I.symm;refine⟨_,h.r 3,λO=>?_,λO=>A _ (n _ ?_)⟩
   .have e:ip f=false:=by unfold ip;grind
    rw[e]at k;exact k _ h.tl.tl.tl.tl
   .rw [a (by omega) (by omega)]at h;refine fin ?_ _ h;unfold ip;grind
  rw[y]at I;have M:=V2 I.symm;intro j2 D;refine⟨λs=>?_,λs=>D _ (A _ (n _ ?_))⟩
  .have s:=V3 s;have G:ip f=(df f.sn f.sl&&decide (f.data.length<=4096)):=by unfold ip;grind
   refine⟨_,_,_,_,h.q 3,_,_,_,h.r 3,?_⟩;refine h.st 1 rfl rfl ?_;intro Z h;refine h.st 1 rfl rfl ?_;intro H6 h;refine⟨_,_,_,_,h.q 3,?_⟩;refine oO h (λH h=>r.lab H h.tl.tl.tl.tl) λH7 h=>⟨_,rfl,_,_,_,λ_=>h.r 3,λhb=>?_,λhb=>D _ (A _ (n _ ?_))⟩
   .have e:ip f=false:=by
     grind
    rw[e]at k;exact k _ h.tl.tl.tl.tl
   .simp only[VN,W8,VG]at hb;refine fin (by grind) _ ?_;obtain⟨e1,e2,e3⟩:=r.sh.ev (by omega);have e:cD f x=[aB f.kind,aB f.ag,aB f.ep,aB f.bt,aB f.ct,aB f.got,aB f.sent,aB f.next,aB f.stamp,aB f.win,.slice none 0 0,.string f.sn,.slice x.la f.sl.length x.lc,.slice x.da f.data.length x.dc]:=by
     grind
    rw[e]at h ⊢;exact h
  .have s:=V2 s;rw[a m s]at h;refine fin ?_ _ h;unfold ip;grind
 refine⟨λh6=>u _ ?_,λh6=>u _ ?_⟩
 .grind
 grind
end
theorem Sm{l a:List aD}(h:l.Perm a):star l=star a:=by
 induction h with
 | nil=>rfl
 | cons x _ ih=>grind [star]
 | swap x y l=>grind [star]
 | trans _ _ ih1 ih2=>grind
section
variable {κ α:Type}[DecidableEq κ]
theorem So{x:κ}{v:α}{m:List (κ×α)}(c:(aL m).Nodup)(h:aK x m=some v):m.Perm ((x,v)::bD x m):=by
 obtain⟨i,d,_⟩:=getElem?_of_mlook h;have a:=D2 (u:=v) c d;have b:m.set i (x,v)=m:=by
  apply Wp
  grind
 rw[b]at a;exact a
end
structure Fy where
 a:Xa
 c:Nat
 bs:List Int
def Fy.z:Fy:=⟨none,0,[]⟩
abbrev cF(y:Fy):Value:=.slice y.a y.bs.length y.c
abbrev YM:=List (Int×Fy)
def rowY(y:Fy):aD:=slA 5 1 y.a y.bs.length y.c (y.bs.map U8)
def rowsY(m:YM):aD:=star (m.map λp=>rowY p.2)
theorem Sp{m m':YM}(h:m.Perm m'):rowsY m=rowsY m':=Sm (h.map _)
theorem Jw(k:Int)(y:Fy)(m:YM):rowsY ((k,y)::m)=rowY y*rowsY m:=rfl
theorem Ap{H:aC}{L:List aD}:aA H (emp::L)↔aA H L:=by grind [aA,star,nL]
theorem aA.rowsY_out{H:aC}{L:List aD}{m:YM}{k:Int}{y:Fy}(a:(aL m).Nodup)(b:aK k m=some y):aA H (rowsY m::L)↔aA H (rowY y::rowsY (bD k m)::L):=by
 rw[Sp (So a b),Jw];exact eX
theorem aA.rowsY_in{H:aC}{L:List aD}{m:YM}{k:Int}{y:Fy}:aA H (rowsY (mset k y m)::L)↔aA H (rowY y::rowsY (bD k m)::L):=by
 grind [mset,Jw,eX]
abbrev DR:=List (Int×Int)
def bytesOf(f:Int)(rows:DR):List Int:=(rows.filter λr=>decide (r.1=f)).map Prod.snd
theorem Sq(f:Int)(a b:DR):bytesOf f (a++b)=bytesOf f a++bytesOf f b:=by simp[bytesOf]
theorem Sr(f:Int)(bs:List Int):bytesOf f (bs.map λb=>(f,b))=bs:=by
 induction bs with
 | nil=>rfl
 | cons b r ih=>simp only[bytesOf,VR,Wq,decide_true,if_true]at ih ⊢;rw[ih]
theorem Ss{f g:Int}(h:f≠g)(bs:List Int):bytesOf f (bs.map λb=>(g,b))=[]:=by
 induction bs with
 | nil=>rfl
 | cons b r ih=>
  grind [bytesOf]
theorem St(f g:Int)(rows:DR):bytesOf g (rows.filter λr=>decide (r.1≠f))=if g=f then [] else bytesOf g rows:=by
 unfold bytesOf;rw[List.filter_filter]
 grind [List.filter_eq_nil_iff]
theorem wX(f:Int)(rows:DR):(bytesOf f rows).length<=rows.length:=by
 grind [bytesOf]
theorem Jx{f:Int}{rows:DR}:bytesOf f rows≠[]↔f∈rows.map Prod.fst:=by
 unfold bytesOf
 simp_all
structure FOk(m:YM)(rows:DR):Prop where
 nd:(aL m).Nodup
 is:∀f,(aK f m).map Fy.bs=if bytesOf f rows=[] then none else some (bytesOf f rows)
theorem FOk.new:FOk [] []:=⟨by simp,λf=>by simp[bytesOf,aK]⟩
theorem FOk.get{m:YM}{rows:DR}(h:FOk m rows)(f:Int):((aK f m).getD Fy.z).bs=bytesOf f rows:=by
 have:=h.is f
 cases hm:aK f m with
 | none=>
  rw[hm]at this
  split at this
  .rename_i e;rw[e];rfl
  grind
 | some y=>
  grind
theorem FOk.some{m:YM}{rows:DR}(h:FOk m rows){f:Int}{y:Fy}(hm:aK f m=some y):y.bs=bytesOf f rows/\y.bs≠[]:=by
 have:=h.is f
 grind
theorem FOk.none{m:YM}{rows:DR}(h:FOk m rows){f:Int}:aK f m=none↔bytesOf f rows=[]:=by
 have:=h.is f
 constructor
 .grind
 .intro hb
  simp_all
theorem FOk.keys{m:YM}{rows:DR}(h:FOk m rows){f:Int}:f∈aL m↔f∈rows.map Prod.fst:=by
 rw[<-Jx,Ne,<-h.none,eB,Classical.not_not]
theorem FOk.append{m:YM}{rows:DR}(h:FOk m rows){f:Int}{bs:List Int}{y:Fy}(hb:bs≠[])(a:y.bs=bytesOf f rows++bs):FOk (mset f y m) (rows++bs.map λb=>(f,b)):=by
 refine⟨rk h.nd,λg=>?_⟩
 rw[oI,Sq]
 by_cases e:g=f
 .subst e;rw[V1 rfl,Sr,Vz (by simp[hb])];simp[a]
 .rw [Vz e,Ss e,VQ];exact h.is g
theorem FOk.delete{m:YM}{rows:DR}(h:FOk m rows)(f:Int):FOk (bD f m) (rows.filter λr=>decide (r.1≠f)):=by
 refine⟨tg h.nd,λg=>?_⟩
 rw[yv,St]
 by_cases e:g=f
 .grind
 .rw [Vz e,Vz e];exact h.is g
theorem Aq:∀(rows:DR) (a:List Int),a.Nodup->(∀r∈rows,r.1∈a)->(a.map λk=>(bytesOf k rows).length).sum=rows.length
 | [],a,_,_=>by
  have:∀l:List Int,(l.map λk=>(bytesOf k []).length).sum=0:=by
   intro l
   induction l with
   | nil=>rfl
   | cons k r d=>rw[VR,List.sum_cons,d];rfl
  grind
 | x::rows,a,hn,h=>by
  have d:=Aq rows a hn (λr f=>h r (VF _ f))
  have i:=h x VI;have key:∀l:List Int,l.Nodup->(l.map λk=>(bytesOf k (x::rows)).length).sum=(l.map λk=>(bytesOf k rows).length).sum+(if x.1∈l then 1 else 0):=by
   intro l
   induction l with
   | nil=>grind
   | cons k r ih2=>
    intro c;rw[W1]at c;have i2:=ih2 c.2;simp only[VR,List.sum_cons]
    by_cases e:x.1=k
    .have b:¬x.1∈r:=by grind
     rw[Vz b]at i2;have:(bytesOf k (x::rows)).length=(bytesOf k rows).length+1:=by grind [bytesOf]
     grind
    .have:(bytesOf k (x::rows)).length=(bytesOf k rows).length:=by grind [bytesOf]
     grind
  grind
theorem FOk.size{m:YM}{rows:DR}(h:FOk m rows):(m.map λp=>p.2.bs.length).sum=rows.length:=by
 have c:=Aq rows (aL m) h.nd (λr a=>h.keys.2 (V8.2 ⟨r,a,rfl⟩))
 rw[<-c];unfold aL;rw[Wg];congr 1;apply WN;intro p b;have:=h.some (nN h.nd (show (p.1,p.2)∈m from b))
 grind
theorem FOk.le{m:YM}{rows:DR}(h:FOk m rows):m.length<=rows.length:=by
 rw[<-h.size];have:∀l:YM,(∀p∈l,p.2.bs≠[])->l.length<=(l.map λp=>p.2.bs.length).sum:=by
  intro l
  induction l with
  | nil=>grind
  | cons p r ih=>
   grind [List.length_pos_iff]
 exact this m λp a=>(h.some (nN h.nd (show (p.1,p.2)∈m from a))).2
def oe:List Int->List Int
 | []=>[]
 | a::r=>if a∈r then oe r else a::oe r
theorem Ar{x:Int}:∀{l:List Int},x∈oe l↔x∈l
 | []=>Iff.rfl
 | a::r=>by
  have b:=Ar (x:=x) (l:=r);unfold oe
  split
  .rename_i h;rw[b,V9];exact⟨Or.inr,λc=>c.elim (λe=>by rw[e];exact h) id⟩
  .rw [V9,V9,b]
theorem At:∀{l:List Int},(oe l).Nodup
 | []=>List.nodup_nil
 | a::r=>by
  unfold oe
  split
  .exact At
  .rename_i h;rw[W1];exact⟨λhm=>h (Ar.1 hm),At⟩
def bI(rows:DR):List Int:=sortI (oe (rows.map Prod.fst))
theorem Jy:∀{l r:List Int},l.Pairwise (·< ·)->r.Pairwise (·< ·)->(∀x,x∈l↔x∈r)->l=r
 | [],[],_,_,_=>rfl
 | [],b::r,_,_,h=>V0 ((h b).2 VI) (by simp)
 | a::l,[],_,_,h=>V0 ((h a).1 VI) (by simp)
 | a::l,b::r,hl,hr,h=>by
  rw[Wl]at hl hr;have e:a=b:=by
   rcases V9.1 ((h a).1 VI) with e|f
   .exact e
   .rcases V9.1 ((h b).2 VI) with e|d
    .exact e.symm
    .have:=hl.1 _ d;have:=hr.1 _ f;omega
  subst e;rw[Jy hl.2 hr.2 λx=>?_]
  constructor
  .intro c
   rcases V9.1 ((h x).1 (VF _ c)) with e|d
   .have:=hl.1 _ c;omega
   .exact d
  .intro c
   rcases V9.1 ((h x).2 (VF _ c)) with e|d
   .have:=hr.1 _ c;omega
   .exact d
theorem Jz{l:List Int}(h:l.Nodup):(sortI l).Pairwise (·< ·):=by
 have b:=D7 l;have a:(sortI l).Nodup:=(pM l).nodup_iff.2 h;exact (b.and a).imp λc=>by grind
theorem J0(rows:DR):(bI rows).Pairwise (·< ·):=Jz At
theorem ue{rows:DR}{f:Int}:f∈bI rows↔f∈rows.map Prod.fst:=by
 grind [bI,pM,Ar]
theorem FOk.files{m:YM}{rows:DR}(h:FOk m rows):sortI (aL m)=bI rows:=
 Jy (Jz h.nd) (J0 rows) λx=>by rw[(pM _).mem_iff,ue];exact h.keys
structure Pc where
 file:Int
 size:Int
abbrev oW(p:Pc):Xb:=[.int .i64 p.file,.int .i64 p.size]
theorem qy(p:Pc):(oW p).length=2:=rfl
def jP(pend:List Pc):List Int:=pend.flatMap λp=>List.replicate p.size.toNat p.file
theorem J1(a b:List Pc):jP (a++b)=jP a++jP b:=by simp[jP]
theorem J2(p:Pc):jP [p]=List.replicate p.size.toNat p.file:=by simp[jP]
def fC(pend:List Pc):Int:=(pend.map Pc.size).sum
theorem uf:∀{pend:List Pc},(∀p∈pend,1<=p.size)->((jP pend).length:Int)=fC pend
 | [],_=>rfl
 | p::r,h=>by
  have b:=uf (pend:=r) λq a=>h q (VF _ a)
  have c:=h p VI;simp only[jP,fC,Wo,V6,List.length_replicate,VR,List.sum_cons]at b ⊢;omega
theorem Au:∀{pend:List Pc},(∀p∈pend,1<=p.size)->pend.length<=(jP pend).length
 | [],_=>VD _
 | p::r,h=>by
  have b:=Au (pend:=r) λq a=>h q (VF _ a)
  have c:=h p VI;simp only[jP,Wo,V6,List.length_replicate,VA]at b ⊢;omega
structure DOk(m:YM)(pend:List Pc)(rows:DR)(syn:Nat):Prop where
 f:FOk m rows
 sle:syn<=rows.length
 p:jP pend=(rows.drop syn).map Prod.fst
 pos:∀q∈pend,1<=q.size
 keys:∀r∈rows,0<=r.1/\r.1<=2147483647
theorem DOk.new:DOk [] [] [] 0:=⟨FOk.new,VD _,rfl,λ_ h=>(by cases h),λ_ h=>(by cases h)⟩
theorem DOk.len{m:YM}{pend:List Pc}{rows:DR}{syn:Nat}(h:DOk m pend rows syn):fC pend=(rows.length:Int)-syn:=by
 have a:=uf h.pos;rw[h.p,VP,Wb]at a;have:=h.sle;omega
theorem DOk.ple{m:YM}{pend:List Pc}{rows:DR}{syn:Nat}(h:DOk m pend rows syn):pend.length<=rows.length:=by
 have a:=Au h.pos;rw[h.p,VP,Wb]at a;omega
structure Sn where
 bt:Int
 ct:Int
 ag:Int
 ep:Int
 at_:Int
abbrev fW(s:Sn):Xb:=[aB s.bt,aB s.ct,aB s.ag,aB s.ep,aB s.at_]
theorem og(s:Sn):(fW s).length=5:=rfl
theorem J3(s:Sn):cK (fW s)=true:=rfl
structure Pb where
 boot:Int
 most:Int
 count:Int
 out:List Sn
 last:List (Int×Int)
def tmB(t:Int):Bool:=decide (0<=t)&&decide (t<=4611686018427387903)
structure mj(p:Pb):Prop where
 count:0<=p.count/\p.count<=1000000000000
 most:1<=p.most/\p.most<=1024
 out:p.out.length<=1024
 last:∀x∈p.last,0<=x.2/\x.2<=4611686018427387903
 boot:aG p.boot
def dueP(p:Pb)(ag now period:Int):Bool:=tmB now&&tmB period&&(match aK ag p.last with|none=>true|some t=>decide (period<=now-t))
def sndOk(ag ep now:Int):Bool:=decide (0<=ag)&&decide (ag<64)&&decide (1<=ep)&&decide (ep<=1099511627776)&&tmB now
def sndP(p:Pb)(ag ep now:Int):Pb:=
 { p with count:=p.count+1,last:=mset ag now p.last,out:=if p.most<((p.out++[(⟨p.boot,p.count,ag,ep,now⟩:Sn)]).length:Int) then (p.out++[(⟨p.boot,p.count,ag,ep,now⟩:Sn)]).drop 1 else p.out++[(⟨p.boot,p.count,ag,ep,now⟩:Sn)] }
def isN(bt ct:Int)(s:Sn):Bool:=s.bt == bt&&(s.ct == ct&&true)
def ff(p:Pb)(ag ep bt ct:Int):Int×Int×Pb:=
 if bt≠p.boot then (-1,22,p) else match p.out.findIdx? (isN bt ct) with
 | none=>(-1,19,p)
 | some i=>match p.out[i]? with
  | none=>(-1,19,p)
  | some s=>if s.ag≠ag\/s.ep≠ep then (-1,10,p) else (s.at_,0,{ p with out:=p.out.take i++p.out.drop (i+1) })
theorem mtP:hD Tryz.prog 303 2 2 aB 0:=lP Tryz.underlying303 (by kernel_rfl)
theorem slSn:SlT Tryz.prog 304 568 5 40:=eG (by kernel_rfl)
def prbA(pb:Nat)(p:Pb):aD:=exS λx:Xa×Nat×Nat=>star [cellsA pb [aB p.boot,aB p.most,aB p.count,.slice x.1 p.out.length x.2.1,.map (some x.2.2)] 306,slA 568 5 x.1 p.out.length x.2.1 (aF fW p.out),mapA aB aB x.2.2 p.last]
section
variable {F L:List aD}{H:aC}{K:KQ}{pb:Nat}{p:Pb}
theorem oh:aA H (prbA pb p::F)↔∃a c m,aA H (cellsA pb [aB p.boot,aB p.most,aB p.count,.slice a p.out.length c,.map (some m)] 306::slA 568 5 a p.out.length c (aF fW p.out)::mapA aB aB m p.last::F):=by
 unfold prbA;rw[cy]
 constructor
 .rintro⟨x,h⟩;exact⟨x.1,x.2.1,x.2.2,aA.open h⟩
 .rintro⟨a,c,m,h⟩;exact⟨(a,c,m),aA.shut [_,_,_] h⟩
theorem Av{t:Int}:bO Tryz.prog 380 #[aB t] H (.bool (tmB t)):=by
 unfold bO;exact cM 380 28 ⟨rfl,rfl⟩
theorem J4{boot most:Int}(h:aA H F)
  (k1:¬(1<=boot/\boot<=1099511627776/\1<=most/\most<=1024)->K (.tuple #[.pointer none,aB 11]) H)
  (k2:1<=boot/\boot<=1099511627776/\1<=most/\most<=1024->∀b H',aA H' (prbA b ⟨boot,most,0,[],[]⟩::F)->K (.tuple #[PA b 0,aB 0]) H') :
  CF 92 #[aB boot,aB most] H K:=by
 refine cM 92 476 ⟨λa=>k1 ?_,λa=>?_⟩
 .grind
 .simp only[VN,VG]at a;refine h.alm aB aB λmb _ h=>?_
  refine h.al λb c h=>?_
  refine k2 (by omega) b _ (oh.2 ⟨none,0,mb,?_⟩);exact (h.sl_nil 568 5).o [1,0,2] 3
theorem Su{ag now period:Int}(ok:mj p)(h:aA H (prbA pb p::F)):bO Tryz.prog 282 #[PA pb 0,aB ag,aB now,aB period] H (.bool (dueP p ag now period)):=by
 unfold bO;obtain⟨a,c,m,h⟩:=oh.1 h;refine cM 282 7452 ⟨_,Av,_,λ_=>Av,λb=>?_,λb=>?_⟩
 .have e:dueP p ag now period=false:=by
   unfold dueP
   grind
  rw[e];exact⟨rfl,rfl⟩
 .simp only[VN,W8]at b;have e:dueP p ag now period=(match aK ag p.last with|none=>true|some t=>decide (period<=now-t)):=by
   grind [dueP]
  rw[e];have f:=h.mp_look mtP Ro.ko2 (x:=ag) 2 rfl;refine⟨_,h.r 0,?_⟩
  cases hm:aK ag p.last with
  | none=>
   refine⟨0,false,(f.2 hm).1,rfl,rfl⟩
  | some t=>
   refine⟨t,true,(f.1 t hm).1,?_,rfl⟩;have i:=ok.last (ag,t) (fL hm);have d:=b.1;unfold tmB at d;simp only[V4,V5]at d;dsimp only at i;show Value.bool (!true||decide (period<=i64.wrap (now-t)))=_;rw[aJ];rfl
theorem J5{a:Xa}{c:Nat}{l:List Sn}{i j:Nat}{n:Int}(f:n=j)(A:i<j)(B:j<=l.length)(h:aA H (slA 568 5 a l.length c (aF fW l)::F))
  (k:∀H',aA H' (slA 568 5 a (l.take i++l.drop j).length c (aF fW (l.take i++l.drop j))::F)->K (.slice a (l.take i++l.drop j).length c) H'):CF 378 #[.slice a l.length c,aB i,aB n] H K:=by
 subst f;have y:=h.sl_nc 0 rfl;have b:(l.take i++l.drop j).length=i+(l.length-j):=by grind
 refine cM 378 18682140 ?_;refine⟨⟨by omega,by omega,by omega,by omega⟩,λm=>V0 (V3 m) (by omega),λm=>?_⟩
 refine⟨⟨by omega,by omega,by omega⟩,⟨by omega,by omega,by omega⟩,?_⟩;have u:=h.sl_rd 0 rfl;have hs:=u.some og (by omega) (k:=0) (by omega);have e0:bM a 0 c 5=a:=by
  unfold bM;rw[nO,hs,VT,fu];simp
 have t:=u.subK (k:=j) (c:=c) (sz:=5) (by rw[dT og];omega);rw[ry og]at t;have v:=h.sl_take 0 rfl i (by omega);show bS Tryz.prog (Builtin.append_ #[304,304] 304 #[.slice (bM a 0 c 5) i c,.slice (bM a j c 5) (l.length-j) (c-j)]) H _;rw[e0];refine aA.appendIn slSn v 0 rfl t (by rw[dT og,Wb]) (kS J3 _) (by omega) λH' x=>⟨_,_,_,rfl,⟨by omega,by omega,by omega⟩,?_⟩
 have e:(aF fW l).take (i*5)++aF fW (l.drop j)=aF fW (l.take i++l.drop j):=by rw[gx,<-y4 og]
 have d:aA H' (slA 568 5 a (i+(l.length-j)) c ((aF fW l).take (i*5)++aF fW (l.drop j))::F):=x;rw[e,<-b]at d;have s:=k;rw[b]at s;rw[b]at d;exact aA.clearS slSn (by kernel_rfl) d 0 rfl (by omega) λ_ C w=>s _ w
theorem Sv{s:Sn}{b:Nat}{n0 n1:Int}(h:aA H F)(i:Nat)(a:aS i F=cellsA b [aB n0,aB n1] 452)(k:∀H',aA H' F->K (.bool (isN n0 n1 s)) H') :
  CF 377 #[.agg ⟨fW s⟩,PA b 0] H K:=by
 refine cM 377 28 ?_;refine h.al λb1 _ h=>?_
 have e:=(rz (P:=Tryz.prog) (t:=452) (xs:=[aB s.bt,aB s.ct]) (ys:=[aB n0,aB n1]) (r:=(s.bt == n0&&(s.ct == n1&&true))) (by kernel_rfl)).1;exact⟨_,_,h.q 0,_,_,h.rds (i+1) a rfl,_,e,k _ h.tl⟩
theorem Sw{a:Xa}{c b:Nat}{l:List Sn}{n0 n1:Int}(C:l.length<=1000000)(h:aA H F)(i:Nat)(w:aS i F=cellsA b [aB n0,aB n1] 452)(k:∀H,aA H F->aN H a (aF fW l))
  (k1:l.findIdx? (isN n0 n1)=none->∀H',aA H' F->K (aB (-1)) H') (k2:∀j,l.findIdx? (isN n0 n1)=some j->∀H',aA H' F->K (aB (j:Nat)) H') :
  CF 376 #[.slice a l.length c,.func (.func 377) #[] #[PA b 0]] H K:=by
 refine cN 376 0x1215612399251b4c [[(8,sI)]] ?_;refine⟨λi H'=>∃j:Nat,i=j/\j<=l.length/\(∀q (e:q<l.length),q<j->isN n0 n1 l[q]=false)/\aA H' F,λi _=>l.length-i.toNat,⟨0,rfl,by omega,λq _ e=>V0 e (by omega),h⟩,?_⟩
 rintro i B ⟨j,rfl,A,u,h⟩;refine⟨λm=>?_,λm=>?_⟩
 .have d:j<l.length:=by grind
  have f:=k _ h;refine⟨by omega,_,_,f.some og (by omega) d,_,_,_,_,_,f.els og d,rfl,?_⟩;refine Sv (s:=l[j]) h _ w λH2 h=>⟨_,rfl,λhm=>?_,λhm=>?_⟩
  .refine k2 j ?_ _ h
   grind [List.findIdx?_eq_some_iff_getElem]
  .have v:i64.wrap ((j:Int)+1)=((j+1:Nat):Int):=by grind [aJ]
   refine⟨⟨j+1,v,d,λq e n=>?_,h⟩,by grind⟩
   grind
 .have t:j=l.length:=by grind
  refine k1 ?_ _ h;rw[List.findIdx?_eq_none_iff];intro x y;obtain⟨q,e,rfl⟩:=Wu y
  grind
theorem Sx{ag ep n0 n1:Int}(ok:mj p)(h:aA H (prbA pb p::F))
  (k:∀H',aA H' (prbA pb (ff p ag ep n0 n1).2.2::F)->K (.tuple #[aB (ff p ag ep n0 n1).1,aB (ff p ag ep n0 n1).2.1]) H') :
  CF 278 #[PA pb 0,aB ag,aB ep,.agg #[aB n0,aB n1]] H K:=by
 obtain⟨a,c,m,h⟩:=oh.1 h;refine cM 278 488447260 ?_;unfold ff at k;refine h.al λb _ h=>⟨_,h.r 0,_,h.r 1,λd=>?_,λd=>?_⟩
 .rw [V1 (by grind)]at k;exact k _ (oh.2 ⟨a,c,m,h.tl⟩)
 rw[Vz (by grind)]at k;have t:=ok.out;refine⟨_,_,_,h.r 1,?_⟩;refine Sw (by omega) h 0 rfl (λH h=>h.sl_rd 2 rfl) (λs u h=>⟨_,rfl,λ_=>?_,λd=>V0 d (by simp)⟩) λj f u h=>⟨_,rfl,λd=>V0 (V3 d) (by omega),λ_=>?_⟩
 .rw [s]at k;exact k _ (oh.2 ⟨a,c,m,h.tl⟩)
 obtain⟨e,-,-⟩:=List.findIdx?_eq_some_iff_getElem.1 f;rw[f]at k;dsimp only at k;rw[List.getElem?_eq_getElem e]at k;dsimp only at k;have n:=h.sl_rd 2 rfl;refine⟨_,_,_,h.rd 1 rfl _,⟨by omega,by omega⟩,_,_,n.some og (by omega) e,_,_,_,_,_,n.els og e,?_⟩;refine h.al λb2 _ h=>?_
 refine h.st 0 rfl rfl ?_;intro H2 h;refine⟨_,h.r 0,_,λ_=>h.r 0,λd=>?_,λd=>?_⟩
 .rw [V1 (by grind)]at k;exact k _ (oh.2 ⟨a,c,m,h.o [2,3,4] 5⟩)
 rw[Vz (by grind)]at k;refine⟨_,_,_,h.r 2,?_⟩;have v:i64.wrap ((j:Int)+1)=((j+1:Nat):Int):=by grind [aJ]
 have h:=h.o [3,0,2,4] 5;refine J5 (i:=j) (j:=j+1) v (by omega) (by omega) h λx h=>⟨_,_,_,rfl,?_⟩
 refine h.st 2 rfl rfl ?_;intro w h;exact⟨_,h.r 1,k _ (oh.2 ⟨a,c,m,h.o [2,0,3] 4⟩)⟩
theorem J6{ag ep now:Int}(ok:mj p)(hs:sndOk ag ep now=true)(h:aA H (prbA pb p::F))
  (k:∀H',aA H' (prbA pb (sndP p ag ep now)::F)->K (.tuple #[.agg #[aB p.boot,aB p.count],aB 0]) H') :
  CF 283 #[PA pb 0,aB ag,aB ep,aB now] H K:=by
 obtain⟨a,c,m,h⟩:=oh.1 h;have u:=ok.out;have C:=ok.count;unfold sndOk at hs;simp only[V4,V5]at hs;refine cN 283 31959155165468 [[]] ?_;refine h.al λb _ h=>⟨_,λ_=>Av,λd=>?_,λd=>?_⟩
 .exfalso
  grind
 refine⟨_,h.r 1,_,h.r 1,?_⟩;refine h.al λb1 _ h=>⟨h.r 2,h.r 2,?_⟩
 refine h.st 0 rfl rfl ?_;intro I h;refine⟨_,h.r 2,?_⟩;refine h.st 2 rfl rfl ?_;intro G h;refine⟨_,_,_,h.r 2,_,_,h.q 0,?_⟩;refine h.al λb2 _ h=>⟨h.r 3,?_⟩
 refine h.append (m:=1) (ws:=fW ⟨p.boot,p.count,ag,ep,now⟩) slSn 4 rfl (h.ce_rd 0 rfl) rfl (J3 _) (by omega) (by omega) λa5 c5 E h=>⟨_,_,_,rfl,?_⟩
 refine h.st 3 rfl rfl ?_;intro w h;have A:i64.wrap (p.count+1)=p.count+1:=aJ;have t:aF fW p.out++fW ⟨p.boot,p.count,ag,ep,now⟩=aF fW (p.out++[(⟨p.boot,p.count,ag,ep,now⟩:Sn)]):=by grind [aF]
 obtain⟨o1,n⟩:∃o1,p.out++[(⟨p.boot,p.count,ag,ep,now⟩:Sn)]=o1:=⟨_,rfl⟩;have f:p.out.length+1=o1.length:=by grind
 have h:aA w (cellsA b2 (fW ⟨p.boot,p.count,ag,ep,now⟩) 568::cellsA b1 [aB p.boot,aB p.count] 452::cellsA b [aB 0,aB 0] 452::cellsA pb [aB p.boot,aB p.most,aB (i64.wrap (p.count+1)),.slice a5 (p.out.length+1) c5,.map (some m)] 306::slA 568 5 a5 (p.out.length+1) c5 (aF fW p.out++fW ⟨p.boot,p.count,ag,ep,now⟩)::mapA aB aB m p.last::F):=h;rw[A,t,n,f]at h;refine⟨_,_,_,h.r 3,_,h.r 3,?_⟩;intro B y;have fin:∀(o2:List Sn) H',o2=(if p.most<(o1.length:Int) then o1.drop 1 else o1)->aA H' (cellsA b1 [aB p.boot,aB p.count] 452::cellsA b [aB 0,aB 0] 452::cellsA pb [aB p.boot,aB p.most,aB (p.count+1),.slice a5 o2.length c5,.map (some m)] 306::slA 568 5 a5 o2.length c5 (aF fW o2)::mapA aB aB m p.last::F)->B H':=by
  intro o2 H' e h;refine y _ ?_;refine⟨_,h.r 2,?_⟩;refine h.mp_update (α:=Int) (v:=now) mtP Ro.ko2 4 rfl λs h=>?_
  refine⟨_,_,h.q 0,?_⟩;refine h.st 1 rfl rfl ?_;intro x h;refine⟨_,_,h.q 1,?_⟩;have e2:sndP p ag ep now=⟨p.boot,p.most,p.count+1,o2,mset ag now p.last⟩:=by grind [sndP]
  rw[e2]at k;exact k _ (oh.2 ⟨a5,c5,m,h.o [2,3,4] 5⟩)
 refine⟨λd=>?_,λd=>?_⟩
 .have d:=V3 d;refine⟨_,_,_,h.r 3,?_⟩;have h:=h.o [4,1,2,3,5] 6;refine J5 (i:=0) (j:=1) rfl (by omega) (by omega) h λD h=>⟨_,_,_,rfl,?_⟩
  rw[W9,VZ]at h ⊢;refine h.st 3 rfl rfl ?_;intro s h;exact fin (o1.drop 1) _ (by grind) (h.o [1,2,3,0,4] 5)
 .have d:=V2 d;exact fin o1 _ (by grind) (h.o [1,2,3,4,5] 6)
end
abbrev I64ZZ:=Value.int .i64
theorem mt98:hD Tryz.prog 187 3 38 cF Fy.z:=lP Tryz.underlying187 (by kernel_rfl)
theorem ko3:jG Tryz.prog 3 I64ZZ:=ti Tryz.underlying3
theorem rV:SlT Tryz.prog 38 5 1 1:=eG (by kernel_rfl)
theorem slb99:SlT Tryz.prog 188 475 2 16:=eG (by kernel_rfl)
theorem slb44:SlT Tryz.prog 399 3 1 8:=eG (by kernel_rfl)
structure DS where
 fb:Nat
 pa:Xa
 pc:Nat
 pend:List Pc
 m:YM
abbrev diskC(db:Nat)(s:DS):aD:=cellsA db [.map (some s.fb),.slice s.pa s.pend.length s.pc] 190
abbrev mapY(s:DS):aD:=mapA I64ZZ cF s.fb s.m
abbrev jQ(s:DS):aD:=slA 475 2 s.pa s.pend.length s.pc (aF oW s.pend)
def diskX(db:Nat)(rows:DR)(syn:Nat):aD:=exS λs:DS=>star [pur (DOk s.m s.pend rows syn),diskC db s,mapY s,rowsY s.m,jQ s]
section
variable {db:Nat}{rows:DR}{syn:Nat}{F L:List aD}{H:aC}{K:KQ}
theorem rW(h:aA H (diskX db rows syn::F)):∃s:DS,DOk s.m s.pend rows syn/\aA H (diskC db s::mapY s::rowsY s.m::jQ s::F):=by
 obtain⟨s,h⟩:=cy.1 h;obtain⟨ok,h⟩:=aA.consP h.open;exact⟨s,ok,h⟩
theorem ny(s:DS)(ok:DOk s.m s.pend rows syn)(h:aA H (diskC db s::mapY s::rowsY s.m::jQ s::F)):aA H (diskX db rows syn::F):=
 cy.2 ⟨s,aA.shut [_,_,_,_,_] (aA.pur h ok)⟩
theorem New_spec(h:aA H F)(k:∀db H',aA H' (diskX db [] 0::F)->K (.pointer (some ⟨db,0,none⟩)) H'):CF 49 #[] H K:=by
 refine cM 49 28 ?_;refine h.alm I64ZZ cF λfb _ h=>h.al λdb _ h=>k db _ ?_
 have h:=(h.sl_nil 475 2).o [1,2,0] 3;refine ny ⟨fb,none,0,[],[]⟩ DOk.new ?_;have a:aA _ (emp::diskC db ⟨fb,none,0,[],[]⟩::mapY ⟨fb,none,0,[],[]⟩::jQ ⟨fb,none,0,[],[]⟩::F):=Ap.2 h;exact a.o [1,2,0,3] 4
theorem Sy(h:aA H (diskX db rows syn::F))(k:∀H',aA H' (diskX db rows rows.length::F)->K (.tuple #[]) H'):CF 155 #[.pointer (some ⟨db,0,none⟩)] H K:=by
 obtain⟨s,ok,h⟩:=rW h;refine cM 155 4 ?_;refine h.st 0 rfl rfl λ_ h=>k _ ?_
 have h:=(h.sl_nil 475 2).o [1,2,3,0] 5;exact ny ⟨s.fb,none,0,[],s.m⟩ ⟨ok.f,VD _,by simp[jP],λ_ a=>(by cases a),ok.keys⟩ h
theorem Sz{f:Int}(v:rows.length<=1099511627776)(h:aA H (diskX db rows syn::F))
  (k1:bytesOf f rows=[]->∀H',aA H' (diskX db rows syn::F)->K (.tuple #[.slice none 0 0,I64ZZ 23]) H')
  (k2:bytesOf f rows≠[]->∀a c H',aA H' (slA 5 1 a (bytesOf f rows).length c ((bytesOf f rows).map U8)::diskX db rows syn::F)->K (.tuple #[.slice a (bytesOf f rows).length c,I64ZZ 0]) H') :
  CF 229 #[.pointer (some ⟨db,0,none⟩),I64ZZ f] H K:=by
 obtain⟨s,ok,h⟩:=rW h;refine cM 229 4572 ?_;have b:=h.mp_get mt98 ko3 1 rfl (x:=f);refine⟨_,h.r 0,?_⟩
 cases hm:aK f s.m with
 | none=>
  rw[hm]at b;refine⟨_,_,_,_,b,λ_=>?_,λi=>(by cases i)⟩
  exact k1 (ok.f.none.1 hm) _ (ny s ok h)
 | some y=>
  rw[hm]at b;obtain⟨e,k⟩:=ok.f.some hm;refine⟨_,_,_,_,b,λi=>(by cases i),λ_=>?_⟩
  have n:=(aA.rowsY_out ok.f.nd hm).1 (h.o [2,0,1,3] 4);refine rE n (λH h=>h.sl_rd 0 rfl) (by grind [wX]) λt u H' j=>⟨_,_,_,rfl,?_⟩
  have d:=(aA.rowsY_out ok.f.nd hm).2 (j.o [1,2,3,4,5,0] 6);simp only[Option.getD_some]at d ⊢;rw[e]at d ⊢;exact k2 (by grind) _ _ _ ((ny (F:=_::F) s ok (d.o [1,2,0,3,4] 5)).o [1,0] 2)
theorem S0{f:Int}(h:aA H (diskX db rows syn::F))
  (k1:bytesOf f rows=[]->∀H',aA H' (diskX db rows syn::F)->K (I64ZZ 23) H')
  (k2:bytesOf f rows≠[]->syn<rows.length->∀H',aA H' (diskX db rows syn::F)->K (I64ZZ 21) H')
  (k3:bytesOf f rows≠[]->¬syn<rows.length->∀H',aA H' (diskX db (rows.filter λr=>decide (r.1≠f)) (rows.filter λr=>decide (r.1≠f)).length::F)->K (I64ZZ 0) H') :
  CF 383 #[.pointer (some ⟨db,0,none⟩),I64ZZ f] H K:=by
 obtain⟨s,ok,h⟩:=rW h;refine cM 383 18988316 ?_;have b:=h.mp_get mt98 ko3 1 rfl (x:=f);refine⟨_,h.r 0,?_⟩;have i:=ok.len
 cases hm:aK f s.m with
 | none=>
  rw[hm]at b;refine⟨_,_,_,_,b,λ_=>?_,λc=>(by cases c)⟩
  exact k1 (ok.f.none.1 hm) _ (ny s ok h)
 | some y=>
  rw[hm]at b;have a:bytesOf f rows≠[]:=λe=>by rw[ok.f.none.2 e]at hm;cases hm
  refine⟨_,_,_,_,b,λc=>(by cases c),λ_=>⟨_,_,_,h.r 0,λj=>?_,λj=>?_⟩⟩
  .refine k2 a ?_ _ (ny s ok h);have d:0<s.pend.length:=by grind
   have n:=Au ok.pos;rw[ok.p,VP,Wb]at n;omega
  .have d:s.pend=[]:=by
    simp_all
   have hs:¬syn<rows.length:=by
    grind [fC]
   refine⟨_,h.r 0,h.mp_delete mt98 ko3 1 rfl λH' h=>k3 a hs _ ?_⟩
   have k:=((aA.rowsY_out ok.f.nd hm).1 (h.o [2,0,1,3] 4)).o [2,3,1,4] 5;refine ny ⟨s.fb,s.pa,s.pc,s.pend,bD f s.m⟩ ⟨ok.f.delete f,VD _,?_,ok.pos,λr t=>ok.keys r (Ws.1 t).1⟩ k
   rw[d,List.drop_length];rfl
theorem S1(w:rows.length<=1099511627776)(h:aA H (diskX db rows syn::F))(k:∀H',aA H' (diskX db rows syn::F)->K (I64ZZ ((rows.length:Int)-syn)) H'):CF 300 #[.pointer (some ⟨db,0,none⟩)] H K:=by
 obtain⟨s,ok,h⟩:=rW h;refine cN 300 0x1121561239925144c [[(3,sI),(11,sI)]] ?_;have c:=ok.len;have f:=ok.ple;have b:∀j,0<=fC (s.pend.take j)/\fC (s.pend.take j)<=fC s.pend:=by
  intro j;have e:fC s.pend=fC (s.pend.take j)+fC (s.pend.drop j):=by
   grind [fC,List.take_append_drop]
  have p1:=uf (pend:=s.pend.take j) λq d=>ok.pos q (Ww d)
  have p2:=uf (pend:=s.pend.drop j) λq d=>ok.pos q (W3 d)
  omega
 refine⟨_,_,_,h.r 0,λsum t H'=>∃j:Nat,t=j/\j<=s.pend.length/\sum=fC (s.pend.take j)/\aA H' (diskC db s::mapY s::rowsY s.m::jQ s::F),λ_ t _=>s.pend.length-t.toNat,
  ⟨0,rfl,VE _,rfl,h⟩,?_⟩
 rintro sum t v ⟨j,rfl,u,rfl,h⟩;refine⟨λn=>?_,λn=>?_⟩
 .have a:j<s.pend.length:=by grind
  have i:=h.sl_rd 3 rfl;refine⟨⟨by omega,by omega⟩,_,_,i.some qy (by omega) a,_,_,i.els qy a,h.al λb1 _ h=>h.st 0 rfl rfl λ_ h=>⟨_,h.r 0,?_⟩⟩
  have e1:fC (s.pend.take (j+1))=fC (s.pend.take j)+s.pend[j].size:=by
   grind [fC,List.take_succ_eq_append_getElem]
  have:=b (j+1);have:=b j;have y:=ok.pos _ (V7 a)
  conv=>whnf
  rw[aJ (x:=(j:Int)+1),aJ (x:=fC (s.pend.take j)+s.pend[j].size),<-e1];exact⟨⟨j+1,rfl,a,rfl,h.tl⟩,by grind⟩
 .obtain rfl:j=s.pend.length:=by grind
  rw[VO,c];exact k _ (ny s ok h)
end
def iB(f:Int)(parts:List Fy):DR:=(parts.flatMap Fy.bs).map λb=>(f,b)
theorem J7(f:Int)(a b:List Fy):iB f (a++b)=iB f a++iB f b:=by simp[iB]
theorem J8(f:Int)(p:Fy):iB f [p]=p.bs.map λb=>(f,b):=by simp[iB]
theorem S2(f:Int)(bs:List Int):(bs.map λb=>(f,b)).map Prod.fst=List.replicate bs.length f:=by
 induction bs with
 | nil=>rfl
 | cons b r ih=>grind
section
variable {db:Nat}{rows:DR}{syn:Nat}{F L:List aD}{H:aC}{K:KQ}
theorem S3{s:DS}{f n:Int}(T:1<=n)(O:n<=1099511627776)(e:∀q∈s.pend,1<=q.size)(N:fC s.pend<=1099511627776)(Q:s.pend.length<=1099511627776)(h:aA H (diskC db s::jQ s::F))
  (k:∀(pa:Xa) (pc:Nat) (pend:List Pc) H',jP pend=jP s.pend++List.replicate n.toNat f->(∀q∈pend,1<=q.size)->
   aA H' (diskC db ⟨s.fb,pa,pc,pend,s.m⟩::jQ ⟨s.fb,pa,pc,pend,s.m⟩::F)->K (.tuple #[]) H') :
  CF 429 #[.pointer (some ⟨db,0,none⟩),I64ZZ f,I64ZZ n] H K:=by
 refine Ol ?_;have push:∀H,aA H (diskC db s::jQ s::F)->∀(b3:Nat) (H_1:aC),b3=H.size->H_1=H.push (.cells #[I64ZZ f,I64ZZ n] 475)->
   bS Tryz.prog (Builtin.append_ #[188,188] 188 #[.slice s.pa s.pend.length s.pc,.slice (some ⟨b3,0,none⟩) 1 1]) H_1 λu A=>
    ∃(sa:Xa) (sn sc:Nat),u=.slice sa sn sc/\dJ A db (0+1) [.slice sa sn sc]/\∀B:aC,B=ee A db (0+1) [.slice sa sn sc]->K (.tuple #[]) B:=by
  intro H h;refine h.al λb3 _ h=>?_
  refine aA.append (m:=1) (ws:=oW ⟨f,n⟩) slb99 h 2 rfl (h.ce_rd 0 rfl) rfl rfl (by omega) (by omega) λa2 c2 U h=>⟨_,_,_,rfl,?_⟩
  refine h.st 1 rfl rfl λP h=>k a2 c2 (s.pend++[⟨f,n⟩]) _ (by rw[J1,J2]) (λq L=>?_) ?_
  .grind
  .have w:aA P (cellsA db [.map (some s.fb),.slice a2 (s.pend.length+1) c2] 190::slA 475 2 a2 (s.pend.length+1) c2 (aF oW s.pend++oW ⟨f,n⟩)::F):=h.o [1,2] 3;rw[show aF oW s.pend++oW ⟨f,n⟩=aF oW (s.pend++[⟨f,n⟩]) by rw[gx,lL]]at w;simp only[diskC,jQ,V6,WO];exact w
 refine⟨_,_,_,h.r 0,λ_=>trivial,?_⟩
 rcases List.eq_nil_or_concat s.pend with G|⟨a,last,G⟩
 .have C:¬((0:Int)<(s.pend.length:Int)):=by grind
  rw[decide_eq_false C];exact⟨none,0,0,λb=>(by cases b),λb=>(by cases b),0,0,λb=>(by cases b),0,λb=>(by cases b),λb=>(by simp at b),λ_=>⟨_,_,_,h.r 0,push H h⟩⟩
 .rw [List.concat_eq_append]at G;have J:s.pend.length=a.length+1:=by grind
  have e1:i64.wrap ((s.pend.length:Int)-1)=(a.length:Int):=by grind [aJ]
  rw[e1,WI (show (0:Int)<(s.pend.length:Int) by omega)];have D:=h.sl_rd 1 rfl;have d:a.length<s.pend.length:=by omega
  have E:s.pend[a.length]=last:=by simp[G]
  have i:=D.some qy (by omega) d;have t:=D.el0 qy d (v:=I64ZZ last.file) (by rw[E];rfl);have j:=D.el qy d 1 (v:=I64ZZ last.size) (by rw[E];rfl);have I:=e last (by grind);have R:fC s.pend=fC a+last.size:=by grind [fC]
  have S:0<=fC a:=by rw[<-uf λq L=>e q (by grind)];omega
  refine⟨_,_,_,λ_=>h.r 0,λ_=>⟨by omega,by omega⟩,_,_,λ_=>i,_,λ_=>t,λM=>?_,λM=>⟨_,_,_,h.r 0,push H h⟩⟩
  have b:last.file=f:=by grind
  refine⟨_,_,_,h.rd 0 rfl _,⟨by omega,by omega⟩,_,_,i,_,j,⟨by omega,by omega⟩,_,_,i,?_⟩;rw[aJ (x:=last.size+n)];have c:=h.sl_set 1 rfl (a.length*2+1) [I64ZZ (last.size+n)] (by rw[dT qy];grind) (by simp);rw[<-Nat.add_assoc]at c;refine⟨c.2.1,?_⟩;rintro H' rfl;have w:=c.2.2;rw[y7 qy (y:=⟨f,last.size+n⟩) (vs:=[I64ZZ (last.size+n)]) (f:=1) d (by simp) (by rw[E,<-b];rfl)]at w;have e2:s.pend.set a.length ⟨f,last.size+n⟩=a++[⟨f,last.size+n⟩]:=by grind
  rw[e2]at w;have e3:s.pend.length=(a++[(⟨f,last.size+n⟩:Pc)]).length:=by grind
  refine k s.pa s.pc (a++[⟨f,last.size+n⟩]) _ ?_ (λq L=>?_) ?_
  .grind [J1,J2,List.replicate_append_replicate]
  .grind
  .simp only[diskC,jQ];rw[<-e3];exact w
theorem DOk.sizes_le{m:YM}{pend:List Pc}(ok:DOk m pend rows syn):fC pend<=rows.length:=by have:=ok.len;omega
theorem S4{f:Int}{pa:Xa}{pc:Nat}{parts:List Fy}(hB:rows.length+(parts.flatMap Fy.bs).length<=1099511627776)(hP:parts.length<=1099511627776)
  (P:∀H',aA H' F->aN H' pa (parts.map cF)/\∀p∈parts,aN H' p.a (p.bs.map U8)) (h:aA H (diskX db rows syn::F))
  (k1:f<0\/2147483647<f->∀H',aA H' (diskX db rows syn::F)->K (I64ZZ 11) H')
  (k2:¬(f<0\/2147483647<f)->∀H',aA H' (diskX db (rows++iB f parts) syn::F)->K (I64ZZ 0) H') :
  CF 375 #[.pointer (some ⟨db,0,none⟩),I64ZZ f,.slice pa parts.length pc] H K:=by
 refine cN 375 0x1d215612399251171494c [[],[(17,sI)]] ?_;refine⟨λV=>k1 (by grind) _ h,λV=>?_⟩
 have hf:¬(f<0\/2147483647<f):=by grind
 refine⟨λt H'=>∃j:Nat,t=j/\j<=parts.length/\aA H' (diskX db (rows++iB f (parts.take j)) syn::F),λt _=>parts.length-t.toNat,⟨0,rfl,VE _,by simpa[iB] using h⟩,?_⟩
 rintro t Z ⟨j,rfl,hj,h⟩;refine⟨λO=>?_,λO=>?_⟩
 .have A:j<parts.length:=by grind
  have w:=(P _ h.tl).1.at (j:=j) A;refine⟨⟨by omega,by omega⟩,_,_,w.1,_,_,_,w.2,?_⟩;intro Jn hJ;have et:parts.take (j+1)=parts.take j++[parts[j]]:=VU A;have fin:∀H',aA H' (diskX db (rows++iB f (parts.take (j+1))) syn::F)->Jn H':=by
   intro H' Q;refine hJ _ ?_
   conv=>whnf
   rw[aJ (x:=(j:Int)+1)]
   grind
  have E:=V7 A;have G:=λH' (Q:aA H' F)=>(P H' Q).2 _ E
  have B:(parts.take (j+1)).flatMap Fy.bs=(parts.take j).flatMap Fy.bs++parts[j].bs:=by grind
  have D:((parts.take (j+1)).flatMap Fy.bs).length<=(parts.flatMap Fy.bs).length:=by
   have:parts.flatMap Fy.bs=(parts.take (j+1)).flatMap Fy.bs++(parts.drop (j+1)).flatMap Fy.bs:=by grind [List.take_append_drop]
   grind
  rw[B,V6]at D;have Y:(rows++iB f (parts.take j)).length=rows.length+((parts.take j).flatMap Fy.bs).length:=by simp[iB]
  generalize hrows:rows++iB f (parts.take j)=rows' at *;generalize parts[j]=p at *;refine⟨λJ=>?_,λJ=>?_⟩
  .have hb:p.bs≠[]:=λe=>by grind
   have U:1<=p.bs.length:=WT.2 hb;obtain⟨s,ok,h⟩:=rW h;have N:=h.mp_get1 mt98 ko3 1 rfl (x:=f);have R:=ok.f.get f;have T:=wX f rows';refine⟨_,h.r 0,_,h.r 0,_,_,_,N,?_⟩;have S:aA Z (rowY ((aK f s.m).getD Fy.z)::rowsY (bD f s.m)::diskC db s::mapY s::jQ s::F):=by
    cases hm:aK f s.m with
    | none=>
     rw[lJ hm];exact (h.sl_nil 5 1).o [0,3,1,2,4] 5
    | some y=>exact (aA.rowsY_out ok.f.nd hm).1 (h.o [2,0,1,3] 4)
   generalize hy:(aK f s.m).getD Fy.z=y at *;refine aA.append (m:=p.bs.length) (ws:=p.bs.map U8) rV S 0 rfl (G _ S.tl.tl.tl.tl.tl) (by simp) (mW (λ_=>rfl) _) (by grind) (by grind) λd i H3 h=>⟨_,_,_,rfl,h.r 2,?_⟩
   have ey:slA 5 1 d (y.bs.length+p.bs.length) i (y.bs.map U8++p.bs.map U8)=rowY ⟨d,i,y.bs++p.bs⟩:=by
    grind [rowY]
   have h:aA H3 (rowY ⟨d,i,y.bs++p.bs⟩::rowsY (bD f s.m)::diskC db s::mapY s::jQ s::F):=by rw[<-ey];exact h
   have ev:(Value.slice d (y.bs.length+p.bs.length) i)=cF ⟨d,i,y.bs++p.bs⟩:=by simp
   rw[ev];refine h.mp_update (α:=Fy) (v:=⟨d,i,y.bs++p.bs⟩) mt98 ko3 3 rfl λH4 h=>?_
   have h:=(aA.rowsY_in (m:=s.m) (k:=f)).2 (h.o [0,1,2,3,4] 5);have W:=DOk.sizes_le ok;have h0:=ok.ple;refine S3 (s:=s) (f:=f) (n:=p.bs.length) (F:=rowsY (mset f ⟨d,i,y.bs++p.bs⟩ s.m)::mapA I64ZZ cF s.fb (mset f ⟨d,i,y.bs++p.bs⟩ s.m)::F) (by omega) (by omega) ok.pos (by omega) (by omega) (h.o [1,3,0,2] 4)
    λL M u H5 I C h=>⟨rfl,fin _ ?_⟩
   have c:rows++iB f (parts.take (j+1))=rows'++p.bs.map λb=>(f,b):=by grind [J7,J8]
   rw[c];refine ny ⟨s.fb,L,M,u,mset f ⟨d,i,y.bs++p.bs⟩ s.m⟩ ⟨ok.f.append hb (by grind),by rw[V6];have:=ok.sle;omega,?_,C,λr w=>?_⟩ (h.o [0,3,2,1] 4)
   .rw [I,ok.p,List.drop_append_of_le_length ok.sle,VS,S2];simp
   .rcases VJ.1 w with w|w
    .exact ok.keys r w
    grind
  .have hb:p.bs=[]:=by
    grind [List.length_eq_zero_iff]
   refine fin _ ?_;have c:rows++iB f (parts.take (j+1))=rows':=by grind [J7,J8]
   rw[c];exact h
 .obtain rfl:j=parts.length:=by grind
  rw[VO]at h;exact k2 hf _ h
theorem J9(G:rows.length<=1099511627776)(h:aA H (diskX db rows syn::F))
  (k:∀a c H',aA H' (slA 3 1 a (bI rows).length c ((bI rows).map I64ZZ)::diskX db rows syn::F)->K (.slice a (bI rows).length c) H') :
  CF 228 #[.pointer (some ⟨db,0,none⟩)] H K:=by
 obtain⟨s,ok,h⟩:=rW h;refine cN 228 0x112156123995141c [[(3,sS)]] ?_;have B:=ok.f.le;refine⟨_,h.r 0,h.rg_new mt98 1 rfl λi E h=>⟨_,rfl,?_⟩⟩
 have h:=h.sl_nil 3 1;refine⟨λla v lc H'=>∃dn:YM,v=dn.length/\aA H' (slA 3 1 la dn.length lc ((aL dn).map I64ZZ)::diskC db s::gy I64ZZ cF i s.fb s.m dn::rowsY s.m::jQ s::F),
  λ_ _ _ H'=>s.m.length-pN H' i,⟨[],rfl,h⟩,?_⟩
 rintro la v lc H2 ⟨dn,rfl,h⟩;obtain⟨w,y⟩:=h.rg_count 2 rfl;refine h.rg_next 2 rfl (λJ=>Or.inl ⟨rfl,λj=>(by cases j),λ_=>?_⟩) λp A C I h=>Or.inr ⟨_,_,rfl,λ_=>?_,λj=>(by cases j)⟩
 .have h:=h.rg_map 2 rfl;have x:(aL dn).length=dn.length:=by grind
  rw[<-x]at h ⊢;refine Pu h 0 rfl (by omega) λt h=>⟨rfl,?_⟩
  have e1:sortI (aL dn)=bI rows:=by rw[<-ok.f.files];grind [D6]
  have e2:(aL dn).length=(bI rows).length:=by grind [vl]
  rw[e1]at h;rw[e2]at h ⊢;exact k la lc _ ((ny (F:=_::F) s ok (h.o [1,2,3,4,0] 5)).o [1,0] 2)
 .have d:=aA.rg_entry (P:=Tryz.prog) h 2 rfl;obtain⟨n,e⟩:=h.rg_count 2 rfl;rw[V6,WO]at n e;refine⟨_,_,d,?_⟩;refine h.al λb _ h=>?_
  refine aA.append (m:=1) (ws:=[I64ZZ p.1]) slb44 h 1 rfl (h.ce_rd 0 rfl) rfl rfl (by omega) (by omega) λa2 c2 t h=>⟨_,_,_,rfl,?_⟩
  refine⟨⟨dn++[p],by simp,?_⟩,?_⟩
  .have u:aA t (slA 3 1 a2 (dn.length+1) c2 ((aL dn).map I64ZZ++[I64ZZ p.1])::diskC db s::gy I64ZZ cF i s.fb s.m (dn++[p])::rowsY s.m::jQ s::F):=h.o [1,2,3,4,5] 6;rw[show (aL dn).map I64ZZ++[I64ZZ p.1]=(aL (dn++[p])).map I64ZZ by grind]at u;simpa only[V6,WO] using u
  .obtain⟨D,_⟩:=h.rg_count 3 rfl
   grind
end
theorem JJ(rows:DR):(bI rows).length<=rows.length:=by
 unfold bI;rw[vl];have:∀l:List Int,(oe l).length<=l.length:=by
  intro l
  induction l with
  | nil=>exact VD _
  | cons a r ih=>
   unfold oe
   split
   .simp only[VA];omega
   .simp only[VA];omega
 have:=this (rows.map Prod.fst);simpa using this
structure CD where
 what:Int
 file:Int
 keep:Int
 a:Xa
 c:Nat
 bs:List Int
theorem ug{n:Nat}(h:n<4294967296):(BitVec.ofInt u32.bits (n:Int)).toNat=n:=by
 rw[BitVec.ofInt_natCast,BitVec.toNat_ofNat];exact WR h
theorem xor32{n m:Nat}(a:n<4294967296)(hm:m<4294967296):aX .xor .u32 (n:Int) (m:Int)=((n^^^m:Nat):Int):=by
 unfold aX;rw[BitVec.toNat_xor,ug a,ug hm];have:n^^^m<2^32:=Nat.xor_lt_two_pow a hm
 grind [u32w]
theorem and32{n m:Nat}(a:n<4294967296)(hm:m<4294967296):aX .and .u32 (n:Int) (m:Int)=((n &&& m:Nat):Int):=by
 unfold aX;rw[BitVec.toNat_and,ug a,ug hm];have:n &&& m<2^32:=Nat.and_lt_two_pow n hm
 grind [u32w]
def stepC(n:Nat):Nat:=if n%2=1 then (n/2)^^^3988292384 else n/2
theorem stepC_lt{n:Nat}(h:n<4294967296):stepC n<4294967296:=by
 unfold stepC
 split
 .have:(n/2)^^^3988292384<2^32:=Nat.xor_lt_two_pow (by omega) (by decide);omega
 .omega
def wY:Nat->Nat->Nat
 | 0,n=>n
 | k+1,n=>stepC (wY k n)
theorem Aw{n:Nat}(h:n<4294967296):∀k,wY k n<4294967296
 | 0=>h
 | k+1=>stepC_lt (Aw h k)
def u32n(v:Int):Nat:=(u32.wrap v).toNat
theorem Ay(v:Int):(u32n v:Int)=u32.wrap v/\u32n v<4294967296:=by
 grind [u32n,IntKind.wrap,IntKind.bits,IntKind.signed]
def byteC(n:Nat)(v:Int):Nat:=wY 8 (n^^^u32n v)
theorem Az{n m:Nat}(a:n<4294967296)(hm:m<4294967296):n^^^m<4294967296:=by
 have:n^^^m<2^32:=Nat.xor_lt_two_pow a hm;omega
theorem byteC_lt{n:Nat}{v:Int}(h:n<4294967296):byteC n v<4294967296:=Aw (Az h (Ay v).2) 8
def j5(n:Nat)(l:List Int):Nat:=l.foldl byteC n
theorem uh:∀{l:List Int} {n:Nat},n<4294967296->j5 n l<4294967296
 | [],n,h=>h
 | v::r,n,h=>uh (l:=r) (byteC_lt h)
def ky(l:List Int):Int:=((4294967295^^^j5 4294967295 l:Nat):Int)
theorem A0(l:List Int):0<=ky l/\ky l<4294967296:=by
 grind [Az,uh,ky]
theorem crc_end(l:List Int):aX .xor .u32 u32.max (j5 4294967295 l:Int)=ky l:=by
 rw[show u32.max=((4294967295:Nat):Int) from rfl,xor32 (by decide) (uh (by decide))];rfl
theorem crc_byte{n:Nat}(h:n<4294967296)(v:Int):aX .xor .u32 (n:Int) (u32.wrap v)=((n^^^u32n v:Nat):Int):=by
 grind [Ay,xor32]
theorem JZ(n:Nat)(l r:List Int):j5 n (l++r)=j5 (j5 n l) r:=List.foldl_append ..
theorem S5{l:List Int}{n i:Nat}(h:i<l.length):j5 n (l.take (i+1))=byteC (j5 n (l.take i)) l[i]:=by
 rw[<-List.take_append_getElem h,JZ];rfl
theorem S6{n:Nat}(h:n<4294967296) :
  aX .xor .u32 (Int.fdiv (n:Int) (2^(min (Int.toNat 1) (u32.bits)))) (aX .and .u32 (u32.wrap (0-(aX .and .u32 (n:Int) 1))) 3988292384)=(stepC n:Int):=by
 have e1:Int.fdiv (n:Int) (2^(min (Int.toNat 1) (u32.bits)))=((n/2:Nat):Int):=by
  show Int.fdiv (n:Int) 2=_
  grind
 have e2:aX .and .u32 (n:Int) 1=((n%2:Nat):Int):=by
  rw[show (1:Int)=((1:Nat):Int) from rfl,and32 h (by decide),Nat.and_one_is_mod]
 rw[e1,e2];unfold stepC
 rcases Nat.mod_two_eq_zero_or_one n with a|a
 .rw [a,Vz (by decide)];have:aX .and .u32 (u32.wrap (0-((0:Nat):Int))) 3988292384=((0:Nat):Int):=by decide
  rw[this,xor32 (by omega) (by decide),Nat.xor_zero]
 .rw [a,V1 rfl];have:aX .and .u32 (u32.wrap (0-((1:Nat):Int))) 3988292384=((3988292384:Nat):Int):=by decide
  rw[this,xor32 (by omega) (by decide)]
theorem A6{parts:List Fy}{j:Nat}(h:j<parts.length):(parts.take (j+1)).flatMap Fy.bs=(parts.take j).flatMap Fy.bs++parts[j].bs:=by
 grind [List.take_succ_eq_append_getElem]
theorem A7{H:aC}{a:Xa}{c:Nat}{parts:List Fy}(D:aN H a (parts.map cF))(F:∀y∈parts,aN H y.a (y.bs.map U8))(I:parts.length<=1099511627776)
  (B:∀y∈parts,y.bs.length<=1099511627776):bO Tryz.prog 182 #[.slice a parts.length c] H (.int .u32 (ky (parts.flatMap Fy.bs))):=by
 unfold bO;refine cN 182 0x11215612399251156123992511156123992514444c [[(3,.one (.int .u32)),(25,sI)],[(3,.one (.int .u32)),(17,sI)],[(3,.one (.int .u32)),(11,sI)]] ?_;refine⟨λs i H'=>H'=H/\∃j:Nat,i=j/\j<=parts.length/\s=(j5 4294967295 ((parts.take j).flatMap Fy.bs):Nat),λ_ i _=>parts.length-i.toNat,⟨rfl,0,rfl,VE _,rfl⟩,?_⟩
 rintro s i H' ⟨rfl,j,rfl,K,rfl⟩;refine⟨λh=>?_,λh=>?_⟩
 .have b:j<parts.length:=by grind
  have n:=D.at b;have x:=F _ (V7 b);have t:=B _ (V7 b);have C:i64.wrap ((j:Int)+1)=((j+1:Nat):Int):=aJ;have A:=A6 b;obtain⟨y,ey⟩:∃y,parts[j]=y:=⟨_,rfl⟩;rw[ey]at n x t A;refine⟨⟨by omega,by omega⟩,_,_,n.1,_,_,_,n.2,?_⟩;refine⟨λs i H2=>H2=H'/\∃k:Nat,i=k/\k<=y.bs.length/\s=(j5 (j5 4294967295 ((parts.take j).flatMap Fy.bs)) (y.bs.take k):Nat),λ_ i _=>y.bs.length-i.toNat,⟨rfl,0,rfl,VE _,rfl⟩,?_⟩
  rintro s1 i1 E ⟨rfl,k,rfl,J,rfl⟩;have v:j5 (j5 4294967295 ((parts.take j).flatMap Fy.bs)) (y.bs.take k)<4294967296:=uh (uh (by decide));refine⟨λh=>?_,λh=>?_⟩
  .have f:k<y.bs.length:=by grind
   have w:=x.at f;have G:=Az v (Ay y.bs[k]).2;refine⟨⟨by omega,by omega⟩,_,_,w.1,_,w.2,?_⟩
   conv=>whnf
   rw[crc_byte v];refine⟨λs i H2=>H2=E/\∃m:Nat,i=m/\m<=8/\s=(wY m (j5 (j5 4294967295 ((parts.take j).flatMap Fy.bs)) (y.bs.take k)^^^u32n y.bs[k]):Nat),λ_ i _=>8-i.toNat,⟨rfl,0,rfl,VE _,rfl⟩,?_⟩
   rintro s1 i1 H2 ⟨rfl,m,rfl,hm,rfl⟩;have hs:=Aw G m;refine⟨λu=>?_,λu=>?_⟩
   .have e:m<8:=by grind
    have e1:i64.wrap ((m:Int)+1)=((m+1:Nat):Int):=aJ;refine⟨by decide,?_⟩
    conv=>whnf
    rw[S6 hs,e1];exact⟨⟨rfl,m+1,rfl,by omega,rfl⟩,by grind⟩
   .have e:m=8:=by grind
    subst e;have e1:i64.wrap ((k:Int)+1)=((k+1:Nat):Int):=aJ
    conv=>whnf
    rw[e1];refine⟨⟨rfl,k+1,rfl,by omega,?_⟩,by grind⟩;rw[S5 f];rfl
  .have d:k=y.bs.length:=by grind
   subst d
   conv=>whnf
   rw[C];refine⟨⟨rfl,j+1,rfl,by omega,?_⟩,by grind⟩
   grind [JZ]
 .have d:j=parts.length:=by grind
  subst d;rw[VO];exact⟨congrArg (Value.int .u32) (crc_end _),rfl⟩
def le4(s:Int):List Int:=[s%256,s/256%256,s/65536%256,s/16777216%256]
def eU(bs:List Int):List Int:=bs++le4 (ky bs)
def dR(bs:List Int):Int×List Int:=
 if bs.length<4 then (15,[]) else if eU (bs.take (bs.length-4))=bs then (0,bs.take (bs.length-4)) else (14,[])
theorem S7(s:Int):aP (le4 s):=by
 intro x a;simp only[le4,V9,WB,or_false]at a
 grind
theorem Ka{bs:List Int}(h:aP bs):aP (eU bs):=pZ h (S7 _)
theorem wZ(bs:List Int):(eU bs).length=bs.length+4:=by simp[eU,le4]
theorem A8{bs p:List Int}(h:dR bs=(0,p)):bs=eU p:=by
 grind [dR]
theorem le4_val{s:Int}(h:0<=s)(i:s<4294967296){a b c d:Int}(e:0<=a/\a<256)(hb:0<=b/\b<256)(f:0<=c/\c<256)(hd:0<=d/\d<256) :
  le4 s=[a,b,c,d]↔a+256*b+65536*c+16777216*d=s:=by
 unfold le4
 grind
theorem A9{a m p:Nat}(b:a<2^p)(h:a+m*2^p<4294967296):aX .or .u32 (a:Int) ((m*2^p:Nat):Int)=((a+m*2^p:Nat):Int):=by
 have d:a<4294967296:=by omega
 have c:m*2^p<4294967296:=by omega
 have e3:a ||| m*2^p=a+m*2^p:=by
  grind [Nat.mul_comm,Nat.two_pow_add_eq_or_of_lt]
 show u32.wrap ((BitVec.ofInt u32.bits (a:Int) ||| BitVec.ofInt u32.bits ((m*2^p:Nat):Int)).toNat:Int)=_
 grind [ug,u32w]
theorem sum_code{a b c d:Int}(i:0<=a/\a<256)(hb:0<=b/\b<256)(k:0<=c/\c<256)(hd:0<=d/\d<256) :
  aX .or .u32 (aX .or .u32 (aX .or .u32 (u32.wrap a) (u32.wrap ((u32.wrap b)*2^(min (Int.toNat 8) (u32.bits))))) (u32.wrap ((u32.wrap c)*2^(min (Int.toNat 16) (u32.bits))))) (u32.wrap ((u32.wrap d)*2^(min (Int.toNat 24) (u32.bits))))
   = a+256*b+65536*c+16777216*d:=by
 rw[u32w (x:=a) (by omega) (by omega),u32w (x:=b) (by omega) (by omega),u32w (x:=c) (by omega) (by omega),u32w (x:=d) (by omega) (by omega)];show aX .or .u32 (aX .or .u32 (aX .or .u32 a (u32.wrap (b*256))) (u32.wrap (c*65536))) (u32.wrap (d*16777216))=_;rw[u32w (x:=b*256) (by omega) (by omega),u32w (x:=c*65536) (by omega) (by omega),u32w (x:=d*16777216) (by omega) (by omega)];obtain⟨e,rfl⟩:=WX i.1;obtain⟨f,rfl⟩:=WX hb.1;obtain⟨h,rfl⟩:=WX k.1;obtain⟨j,rfl⟩:=WX hd.1;have e1:=A9 (a:=e) (m:=f) (p:=8) (by omega) (by omega);have e2:=A9 (a:=e+f*2^8) (m:=h) (p:=16) (by omega) (by omega);have e3:=A9 (a:=e+f*2^8+h*2^16) (m:=j) (p:=24) (by omega) (by omega)
 grind
theorem last4{bs:List Int}(h:¬bs.length<4):∃a b c d,bs=bs.take (bs.length-4)++[a,b,c,d]/\bs.drop (bs.length-4)=[a,b,c,d]:=by
 have f:(bs.drop (bs.length-4)).length=4:=by grind
 obtain⟨a,b,c,d,e⟩:∃a b c d,bs.drop (bs.length-4)=[a,b,c,d]:=by
  match hx:bs.drop (bs.length-4),f with
  | [a,b,c,d],_=>grind
 grind [List.take_append_drop]
section
variable {F L:List aD}{H:aC}{K:KQ}
theorem Kb{s:Int}(a:0<=s)(b:s<4294967296) :
  [U8 (u8.wrap s),U8 (u8.wrap (Int.fdiv s (2^(min (Int.toNat 8) (u32.bits))))),U8 (u8.wrap (Int.fdiv s (2^(min (Int.toNat 16) (u32.bits))))),U8 (u8.wrap (Int.fdiv s (2^(min (Int.toNat 24) (u32.bits)))))]=(le4 s).map U8:=by
 obtain⟨n,rfl⟩:=WX a;show [U8 (u8.wrap (n:Int)),U8 (u8.wrap (Int.fdiv (n:Int) 256)),U8 (u8.wrap (Int.fdiv (n:Int) 65536)),U8 (u8.wrap (Int.fdiv (n:Int) 16777216))]=_;rw[Ya _ (by decide),Ya _ (by decide),Ya _ (by decide)];rw[show (n:Int)/256=((n/256:Nat):Int) by omega,show (n:Int)/65536=((n/65536:Nat):Int) by omega,show (n:Int)/16777216=((n/16777216:Nat):Int) by omega];rw[pW,pW,pW,pW];unfold le4
 grind
theorem Kc{a:Xa}{c:Nat}{bs:List Int}(h:aA H F)(v:∀H,aA H F->aN H a (bs.map U8))(hb:aP bs)(N:bs.length<=1099511627776)(M:bs.length<=c)
  (k1:∀t w p H',dR bs=(0,p)->aA H' (slA 5 1 t p.length w (p.map U8)::F)->K (.tuple #[.slice t p.length w,.int .i64 0]) H')
  (k2:∀e H',e≠0->dR bs=(e,[])->aA H' F->K (.tuple #[.slice none 0 0,.int .i64 e]) H') :
  CF 111 #[.slice a bs.length c] H K:=by
 refine OV ?_;refine⟨λs=>?_,λs=>?_⟩
 .have J:bs.length<4:=by grind
  exact k2 15 _ (by decide) (by unfold dR;grind) h
 .have B:¬bs.length<4:=by grind
  have en:i64.wrap ((bs.length:Int)-4)=((bs.length-4:Nat):Int):=by grind [aJ]
  rw[en,VL];have d:bM a 0 c 1=a:=sl_same (v _ h) (by intro s;simp_all);rw[d];obtain⟨m,n,i,vd,e1,e2⟩:=last4 B;obtain⟨p,E⟩:∃p,bs.take (bs.length-4)=p:=⟨_,rfl⟩;have A:p.length=bs.length-4:=by grind
  rw[E]at e1;have j:=(v _ h).subB (k:=bs.length-4) (c:=c) (by grind);rw[<-List.map_drop,e2]at j;have q0:=j 0 _ rfl;have q1:=j 1 _ rfl;have q2:=j 2 _ rfl;have q3:=j 3 _ rfl;refine⟨⟨by omega,by omega,by omega⟩,⟨by omega,by omega,by omega⟩,⟨by omega,by omega⟩,_,_,q0.1,_,q0.2,⟨by omega,by omega⟩,_,_,q0.1,_,q1.2,by decide,⟨by omega,by omega⟩,_,_,q0.1,_,q2.2,by decide,⟨by omega,by omega⟩,_,_,q0.1,_,q3.2,by decide,?_⟩;rw[<-A];have f:∀H,aA H F->aN H a (p.map U8):=λH h=>by
   have:=(v H h).take (bs.length-4)
   rwa[<-List.map_take,E]at this
  refine h.al λb4 P h=>?_
  have D:=A7 (c:=1) (parts:=[⟨a,c,p⟩]) (h.ce_rd 0 rfl) (λy u=>by
   rw[VH]at u;subst u;exact f _ h.tl) (by simp) (λy u=>by grind)
  simp only[Wo,List.flatMap_nil,VQ]at D;refine⟨_,D,?_⟩;have b:∀x∈[m,n,i,vd],0<=x/\x<256:=λx s=>hb x (by grind)
  have ba:=b m (by simp);have bb:=b n (by simp);have bc:=b i (by simp);have bd:=b vd (by simp);rw[sum_code ba bb bc bd];obtain⟨s0,s1⟩:=A0 p;have O:=le4_val s0 s1 ba bb bc bd;have I:dR bs=if eU p=bs then (0,p) else (14,[]):=by unfold dR;grind
  have C:eU p=bs↔le4 (ky p)=[m,n,i,vd]:=by
   grind [eU]
  refine⟨λs=>?_,λs=>?_⟩
  .have G:¬m+256*n+65536*i+16777216*vd=ky p:=by grind
   exact k2 14 _ (by decide) (by grind) h.tl
  .have L:m+256*n+65536*i+16777216*vd=ky p:=by grind
   refine rE h.tl f (by omega) λt w H2 h=>⟨_,_,_,rfl,k1 _ _ _ _ ?_ h⟩
   grind
theorem S8{b o c:Nat}{parts:List Fy}(h:aA H F)(P:∀H,aA H F->aN H (some ⟨b,o,none⟩) (parts.map cF))(Q:∀H,aA H F->∀y∈parts,aN H y.a (y.bs.map U8))(hA:∀y∈parts,y.a=none\/∃b o,y.a=some ⟨b,o,none⟩)
  (hb:∀y∈parts,aP y.bs) (S:2<=parts.length) (hc:parts.length<=c) (hn:parts.length<=1000) (hl:(parts.flatMap Fy.bs).length<=1099511627776) (h0:0<(parts.flatMap Fy.bs).length)
  (k:∀T c' H',aA H' (slA 5 1 T (eU (parts.flatMap Fy.bs)).length c' ((eU (parts.flatMap Fy.bs)).map U8)::F)->K (.slice T (eU (parts.flatMap Fy.bs)).length c') H') :
  CF 346 #[.slice (some ⟨b,o,none⟩) parts.length c] H K:=by
 refine cM 346 4380 ?_;have W:∀y∈parts,y.bs.length<=1099511627776:=λy u=>by
  refine W2 ?_ hl;obtain⟨s,t,rfl⟩:=List.append_of_mem u
  grind
 have hq:=A7 (c:=c) (P _ h) (Q _ h) (by omega) W;refine⟨_,hq,?_⟩;obtain⟨bs,f⟩:∃bs,parts.flatMap Fy.bs=bs:=⟨_,rfl⟩;rw[f]at hl h0 k hq ⊢;obtain⟨s0,s1⟩:=A0 bs;have l2:aP bs:=by
  rw[<-f];intro x A;obtain⟨y,u,A⟩:=WK.1 A;exact hb y u x A
 refine .mk λw hw=>?_
 subst hw;have j1:∀l:List Fy,Lib.lens (l.map λy=>Lib.bytesOf y.bs)=(l.flatMap Fy.bs).length:=by
  intro l
  induction l with
  | nil=>rfl
  | cons y r ih=>
   grind [Lib.lens,Lib.bytesOf]
 have n:∀l:List Fy,Lib.join (l.map λy=>Lib.bytesOf y.bs) []=Lib.bytesOf (l.flatMap Fy.bs):=by
  intro l;have:∀l:List Fy,(l.map λy=>Lib.bytesOf y.bs).flatten=Lib.bytesOf (l.flatMap Fy.bs):=by
   intro l
   induction l with
   | nil=>rfl
   | cons y r ih=>grind [Lib.bytesOf]
  cases l with
  | nil=>rfl
  | cons y r=>
   grind [Lib.join_cons,Lib.joinTail,List.map_id']
 have V:Lib.PartsAt w ⟨b,o,none⟩ (parts.map cF) (parts.map λy=>Lib.bytesOf y.bs):=by
  refine⟨by simp,λi v Y=>?_,λi v l Y E=>?_⟩
  .rw [fu,cell?_cellAt];exact (P _ h i v (by grind [fJ])).2
  .rw [List.getElem?_map,Option.map_eq_some_iff]at Y E;obtain⟨y,u,rfl⟩:=Y;obtain⟨y',G,rfl⟩:=E;rw[u]at G
   cases G
   have hm:y∈parts:=VW u;have d:=Q _ h y hm;refine⟨y.a,y.c,by simp[Lib.bytesOf],λh6=>?_,λT L i x A=>?_⟩
   .rw [h6]at d;have:=nR d;simp at this
    grind [Lib.bytesOf]
   .have U:i<y.bs.length:=by
     grind [Lib.bytesOf]
    have B:=d.at U;rw[L]at B
    rcases hA y hm with e|⟨b',o',e⟩
    .grind
    .rw [L]at e
     cases e
     rw[fu,cell?_cellAt]
     grind [Lib.bytesOf,vQ]
 have hs:Lib.HoldsBytes w (.slice none 0 0) []:=⟨none,0,rfl,λ_=>rfl,λa P=>by cases P⟩
 have j:=Any.bytes_Join_many Tryz.joinB b o parts.length c (parts.map cF) (parts.map λy=>Lib.bytesOf y.bs) (.slice none 0 0) [] w (by simp) S V hc hs (by omega) (by grind)
 refine ib j ?_;rintro e w' ⟨v',rfl,I,J⟩;refine⟨_,rfl,ru J,?_⟩;rw[n,f]at I;obtain⟨g,cap,R,rfl,h9,N,l1,l3,h5,O,j2,l0⟩:=I;have D:(Lib.bytesOf bs).length=bs.length:=by simp[Lib.bytesOf]
 rw[D]at N O ⊢;have hz:R.take bs.length=bs:=by
  have Z:(R.take bs.length).length=bs.length:=by grind
  refine WJ Z λi B S=>?_
  have e1:=congrArg (λl:List UInt8=>l[i]?) O
  simp only[Lib.bytesOf,List.getElem?_map,List.getElem?_eq_getElem B,List.getElem?_eq_getElem S,VT,Option.some.injEq]at e1;have b1:=vQ (xs:=R.take bs.length) (λx A=>h5 x (Ww A)) i B
  grind [vQ]
 have hC:∃(C:Array Value) (e':TypeId) (fr:Nat×Nat),w'.heap[g]?=some (.cells C e' fr):=by
  grind [World.cell?]
 obtain⟨C,e',fr,hC⟩:=hC;have h3:∀i,i<cap->C.toList[i]?=some (U8 (R.getD i 0)):=λi hi=>by
  grind [cell?_cellAt,aM]
 have j3:cap<=C.toList.length:=by
  grind
 have h8:C.toList=bs.map U8++C.toList.drop bs.length:=by
  rw[<-Wm bs.length C.toList];congr 1
  .refine Wp λi=>?_
   grind
  grind
 have M:aA w'.heap (slA 5 1 (some ⟨g,0,none⟩) bs.length cap (bs.map U8)::F):=by
  refine (h.new (rq J) h9 hC).mono λp Q=>⟨by simp,.inr ⟨g,[],C.toList.drop bs.length,e',fr,rfl,N,by grind,λ_ i B S hh=>?_,?_⟩⟩
  .grind [World.frozen?]
  .rw [VZ,<-h8];exact Q
 refine⟨_,_,_,rfl,by decide,by decide,by decide,?_⟩;have h7:=Kb s0 s1;refine M.al λb1 H3 h=>?_
 refine aA.append (m:=4) (ws:=(le4 (ky bs)).map U8) rV h 1 rfl (h.ce_rd 0 (by rw[<-h7];rfl)) (by simp[le4]) (mW (λ_=>rfl) _) (by omega) (by omega) λa3 c3 H4 h4=>⟨_,_,_,rfl,?_⟩
 have:=k a3 c3 H4;unfold eU at this;rw[V6,show (le4 (ky bs)).length=4 from rfl]at this;refine this ?_;rw[VS];exact h4.tl
end
structure Rc where
 kind:Int
 data:List Int
 deriving DecidableEq
def iC(r:Rc):List Int:=eU (cA r.kind.toNat++r.data)
def cU(r:Rc):List Int:=cA (iC r).length++iC r
structure Rc.ok(r:Rc):Prop where
 k0:0<=r.kind
 k1:r.kind<=255
 len:r.data.length<=262144
 by':aP r.data
def lp(b:List Int):Option Rc:=if (dR b).1≠0 then none else match rdU 0 0 (dR b).2 with
 | .ok kind j=>if 255<kind\/262144<(dR b).2.length-j then none else some ⟨kind,(dR b).2.drop j⟩
 | _=>none
def mo(b:List Int):Option (Rc×Nat):=match rdU 0 0 b with
 | .ok n k=>if b.length<k+n then none else (lp ((b.drop k).take n)).map λr=>(r,k+n)
 | _=>none
def nA:Nat->List Int->List Rc×Nat
 | 0,_=>([],0)
 | f+1,b=>match mo b with
  | none=>([],0)
  | some (r,n)=>(r::(nA f (b.drop n)).1,n+(nA f (b.drop n)).2)
def fg(b:List Int):List Rc×Nat:=nA b.length b
theorem xa{b:List Int}(hb:aP b):aP (dR b).2:=by
 unfold dR
 split
 .intro x a;cases a
 .split
  .exact vO _ hb
  .intro x a;cases a
theorem Kd{u:Nat}(h:u<=255):(cA u).length<=2:=by
 grind [pT,pU]
theorem Ke{b:List Int}{r:Rc}(hb:aP b)(h:lp b=some r):b=iC r/\r.ok:=by
 unfold lp at h
 split at h
 .cases h
 .rename_i c;have a:=xa hb;have c:(dR b).1=0:=Classical.not_not.1 c;obtain⟨p,e⟩:∃p,dR b=(0,p):=⟨(dR b).2,by rw[<-c]⟩;rw[e]at a h;dsimp only at a h;have f:=A8 e
  split at h
  .rename_i kind j k
   split at h
   .cases h
   .rename_i n
    cases h
    obtain⟨w,d,s,m,i,_,_,_⟩:=vG a k (by omega);simp only[Nat.mul_zero,Nat.pow_zero,Wn,VB]at d;subst d;rw[Nat.sub_zero]at i;refine⟨?_,⟨by grind,by grind,by grind,oK _ a⟩⟩
    grind [iC,List.take_append_drop]
  .cases h
theorem AA{r:Rc}(h:r.ok):(iC r).length<=262150/\5<=(iC r).length:=by
 have c:=h.k0;have b:=h.k1;have a:=h.len
 grind [iC,wZ,Kd,yY]
theorem S9{r:Rc}(h:r.ok):aP (iC r):=Ka (pZ (pV _) h.by')
theorem SB{r:Rc}(h:r.ok):aP (cU r):=pZ (pV _) (S9 h)
theorem Kf{u:Nat}(h:u<=262150):(cA u).length<=3:=by
 grind [pT,pU]
theorem Kg{r:Rc}(h:r.ok):(cU r).length<=262153/\6<=(cU r).length/\(cU r).length<=r.data.length+9:=by
 have a:=AA h;have c:=Kf a.1;have b:=yY (iC r).length;have d:=h.k1
 grind [iC,cA,wZ,cU]
theorem SE{b:List Int}(hb:aP b)(h:262150<b.length):lp b=none:=by
 cases hr:lp b with
 | none=>rfl
 | some r=>
  obtain⟨c,a⟩:=Ke hb hr
  grind [AA]
theorem AB{b:List Int}{r:Rc}{n:Nat}(hb:aP b)(h:mo b=some (r,n)):r.ok/\n<=b.length/\b.take n=cU r/\0<n:=by
 unfold mo at h
 split at h
 .rename_i m k j;obtain⟨w,d,v,t,c,_,_,_⟩:=vG hb j (by omega);simp only[Nat.mul_zero,Nat.pow_zero,Wn,VB]at d;subst d;rw[Nat.sub_zero]at c
  split at h
  .cases h
  .rename_i u;rw[Option.map_eq_some_iff]at h;obtain⟨x,e,s⟩:=h
   cases s
   obtain⟨f,i⟩:=Ke (vO _ (oK _ hb)) e;refine⟨i,by omega,?_,by omega⟩;have a:(iC r).length=m:=by grind
   unfold cU;rw[a,c,<-f,<-List.take_add]
 .cases h
theorem Kh:∀{f:Nat} {b:List Int},aP b->b.length<=f->nA f b=fg b:=by
 have:∀{n f g:Nat} {b:List Int},aP b->b.length<=n->b.length<=f->b.length<=g->nA f b=nA g b:=by
  intro n
  induction n with
  | zero=>
   intro f g b hb a _ _;have:b=[]:=W5.1 (by omega);subst this
   cases f <;> cases g <;> rfl
  | succ n ih=>
   intro f g b hb a d c
   cases b with
   | nil=>grind
   | cons x b=>
    cases f with
    | zero=>simp at d
    | succ f=>
     cases g with
     | zero=>simp at c
     | succ g=>
      simp only[nA]
      cases h:mo (x::b) with
      | none=>rfl
      | some p=>
       obtain⟨r,m⟩:=p;have e:=(AB hb h).2.2.2
       grind [oK]
 intro f b hb h;exact this (n:=b.length) hb (VD _) h (VD _)
theorem Ki{b:List Int}(h:mo b=none):fg b=([],0):=by
 unfold fg
 cases b with
 | nil=>rfl
 | cons x b=>grind [nA]
theorem Kj{b:List Int}{r:Rc}{n:Nat}(hb:aP b)(h:mo b=some (r,n)):fg b=(r::(fg (b.drop n)).1,n+(fg (b.drop n)).2):=by
 have a:=(AB hb h).2.2.2;have e:fg b=nA (b.length+1) b:=(Kh hb (by omega)).symm
 grind [nA,Kh,oK]
theorem AC:∀{n:Nat} {b:List Int},b.length<=n->aP b->(∀r∈(fg b).1,r.ok)/\(fg b).2<=b.length/\(fg b).1.flatMap cU=b.take (fg b).2
 | n,b,hn,hb=>by
  cases h:mo b with
  | none=>rw[Ki h];grind
  | some p=>
   obtain⟨r,m⟩:=p;obtain⟨e,d,a,c⟩:=AB hb h;rw[Kj hb h]
   cases n with
   | zero=>omega
   | succ n=>
    obtain⟨i1,i2,i3⟩:=AC (n:=n) (b:=b.drop m) (by grind) (oK _ hb)
    grind
theorem Kk{b:List Int}(hb:aP b) :
  ((∃e,e≠0/\bH 262150 ⟨0,b⟩=([],⟨e,b⟩))/\mo b=none)\/
  ∃k n,(bH 262150 ⟨0,b⟩)=((b.drop k).take n,⟨0,b.drop (k+n)⟩)/\k+n<=b.length/\0<k/\mo b=(lp ((b.drop k).take n)).map λr=>(r,k+n):=by
 unfold bH mo;simp only[ne_eq,not_true_eq_false,if_false]
 cases hr:rdU 0 0 b with
 | form=>grind
 | ended=>grind
 | ok n k=>
  have a:=rF hb hr;dsimp only
  by_cases h1:(max 262150 0:Int)<n
  .rw [V1 h1];refine .inl ⟨⟨17,by decide,rfl⟩,?_⟩
   grind [SE,vO,oK]
  grind
theorem SG{b:List Int}(hb:aP b)(c:(dR b).1=0) :
  ((∃e,e≠0/\bY 255 ⟨0,(dR b).2⟩=(0,⟨e,(dR b).2⟩))/\lp b=none)\/
  (∃kind j:Nat,bY 255 ⟨0,(dR b).2⟩=((kind:Int),⟨0,(dR b).2.drop j⟩)/\j<=(dR b).2.length/\lp b=if 262144<(dR b).2.length-j then none else some ⟨kind,(dR b).2.drop j⟩):=by
 have a:=xa hb;unfold lp bY;obtain⟨p,d⟩:∃p,dR b=(0,p):=⟨(dR b).2,by rw[<-c]⟩;rw[d]at a ⊢;dsimp only at a ⊢;simp only[ne_eq,not_true_eq_false,if_false]
 cases hr:rdU 0 0 p with
 | form=>grind
 | ended=>grind
 | ok n k=>
  have f:=rF a hr;dsimp only
  by_cases h1:(max 255 0:Int)<n
  .rw [V1 h1,V1 (Or.inl (by omega))]
   grind
  .rw [Vz h1]
   grind
structure Ry where
 kind:Int
 y:Fy
def Ry.rc(r:Ry):Rc:=⟨r.kind,r.y.bs⟩
abbrev fD(r:Ry):Xb:=[.int .i64 r.kind,cF r.y]
theorem rX(r:Ry):(fD r).length=2:=rfl
def rowsR(rs:List Ry):aD:=star (rs.map λr=>rowY r.y)
theorem Kl(a b:List Ry):rowsR (a++b)=rowsR a*rowsR b:=by grind [rowsR,sZ]
theorem SN(r:Ry):rowsR [r]=rowY r.y:=by grind [rowsR,star,vh]
theorem slb54:SlT Tryz.prog 203 278 2 32:=eG (by kernel_rfl)
section
variable {F L:List aD}{H:aC}{K:KQ}
theorem SP{a:Xa}{c:Nat}{bs:List Int}(h:aA H L)(i:∀H,aA H L->aN H a (bs.map U8))(v:bs.length<=1099511627776)
  (k:∀d e H',aA H' (slA 5 1 d bs.length e (bs.map U8)::L)->K (.slice d bs.length e) H'):CF 412 #[.slice a bs.length c] H K:=by
 refine cM 412 476 ⟨λj=>?_,λj=>?_⟩
 .have:a=none:=by simp_all
  subst this;have w:=nR (i H h);have:bs=[]:=by simp_all
  subst this;exact k none 0 H (h.sl_nil 5 1)
 .refine h.al λb u h=>?_
  have t:=i _ h.tl;have s:=aA.sl_pt (cs:=[]) h 1 0 rfl;refine aA.append (m:=bs.length) rV s 0 rfl t (by simp) (mW (λ_=>rfl) _) (by omega) (by omega) λd e H' n=>⟨_,_,_,rfl,?_⟩
  have f:aA H' (slA 5 1 d (0+bs.length) e ([]++bs.map U8)::L):=n;rw[VB,VZ]at f;have:=k d e H' f;rw[<-VB bs.length]at this;exact this
theorem SQ{a:Xa}{c:Nat}{bs:List Int}(h:aA H F)(A:∀H,aA H F->aN H a (bs.map U8))(hb:aP bs)(w:bs.length<=1099511627776)(v:bs.length<=c)
  (k1:∀(r:Ry) H',lp bs=some r.rc->aA H' (rowY r.y::F)->K (.tuple #[.agg #[.int .i64 r.kind,cF r.y],.bool true]) H')
  (k2:∀H',lp bs=none->aA H' F->K (.tuple #[.agg #[.int .i64 0,.slice none 0 0],.bool false]) H') :
  CF 335 #[.slice a bs.length c] H K:=by
 refine O1 ?_;refine h.al λb I h=>?_
 refine Kc h (λH h=>A H h.tl) hb w v (λa1 c1 p H2 f h=>?_) λe H2 t f h=>?_
 .refine⟨_,_,_,_,rfl,(λs=>by cases s),λ_=>?_⟩
  have D:p.length<=bs.length:=by
   have:=congrArg List.length (A8 f)
   grind [wZ]
  have m:aP p:=by have:=xa hb;rwa[f]at this
  have d:=SG hb (by rw[f]);rw[f]at d;dsimp only at d;refine vK h (λH h=>h.sl_rd 0 rfl) (by omega) λrb E h=>⟨_,rfl,?_⟩
  refine vL h m (by grind) (by unfold aG;omega) λJ h=>⟨_,rfl,_,pX h,_,λ_=>vJ h,λi=>?_,λi=>?_⟩
  .refine h.st 2 rfl rfl λC h=>⟨_,_,_,_,h.q 2,k2 _ ?_ h.tl.tl.tl⟩
   grind
  .rcases d with ⟨⟨e,t,n⟩,_⟩|⟨kind,j,n,L,u⟩
   .rw [n]at i;simp[t]at i
   .rw [n]at i h ⊢;dsimp only at h ⊢;simp only[Wb,decide_true,Bool.not_true,WE,VG]at i;rw[nO]at u;refine⟨_,vJ h,?_⟩;dsimp only;have B:i64.wrap ((p.length:Int)-((p.drop j).length:Int))=(j:Nat):=by
     grind [aJ]
    have x:=h.sl_nc 1 rfl;rw[B,VL];refine⟨⟨by omega,by omega,by omega⟩,?_⟩;rw[show p.length-j=(p.drop j).length by grind];refine SP h (λH h=>by
     have:=(h.sl_rd 1 rfl).subB (k:=j) (c:=c1) (by grind)
     rwa[<-List.map_drop]at this) (by grind) λa5 c5 C h=>⟨_,_,_,rfl,?_⟩
    refine h.st 3 rfl rfl λG h=>⟨_,_,_,_,h.q 3,?_⟩
    refine k1 ⟨kind,⟨a5,c5,p.drop j⟩⟩ _ u ?_;exact h.o [0] 4
 .refine⟨_,_,_,_,rfl,λ_=>?_,λs=>by simp[t]at s⟩
  refine h.st 0 rfl rfl λE h=>⟨_,_,_,_,h.q 0,k2 _ ?_ h.tl⟩
  unfold lp
  grind
end
section
variable {F L:List aD}{H:aC}{K:KQ}
theorem SR{a:Xa}{c:Nat}{bs:List Int}(h:aA H F)(T:∀H,aA H F->aN H a (bs.map U8))(hb:aP bs)(P:bs.length<=1099511627776)
  (k:∀(rs:List Ry) a' c' H',rs.map Ry.rc=(fg bs).1->aA H' (slA 278 2 a' rs.length c' (aF fD rs)::rowsR rs::F)->K (.tuple #[.slice a' rs.length c',.int .i64 (fg bs).2]) H') :
  CF 230 #[.slice a bs.length c] H K:=by
 refine cN 230 0x11112a621399512139912139914c [[(4,sS),(5,sI)],[(4,sS),(5,sI)]] ?_;refine vK h T P λrb V h=>⟨_,rfl,λJn hJ=>?_⟩
 have fin:∀la lc (rs:List Ry) (w:Nat) s t H',mo t=none->fg bs=(rs.map Ry.rc++(fg t).1,w+(fg t).2)->aA H' (crdA rb s::slA 278 2 la rs.length lc (aF fD rs)::rowsR rs::F)->Jn la rs.length lc w H':=by
  intro la lc rs w s t H' B j S;refine hJ _ _ _ _ _ ?_;rw[Ki B,VQ,Wk]at j;have:=k rs la lc H' (by rw[j]) S.tl
  rwa[j]at this
 refine⟨λla M lc b H'=>∃(rs:List Ry) (w:Nat),M=rs.length/\b=w/\w<=bs.length/\rs.length<=w/\fg bs=(rs.map Ry.rc++(fg (bs.drop w)).1,w+(fg (bs.drop w)).2)/\
   aA H' (crdA rb ⟨0,bs.drop w⟩::slA 278 2 la rs.length lc (aF fD rs)::rowsR rs::F),λ_ _ _ b _=>bs.length-b.toNat,⟨[],0,rfl,rfl,VE _,VE _,by simp,?_⟩,?_⟩
 .have L:aA V (rowsR []::crdA rb ⟨0,bs⟩::F):=Ap.2 h;have C:=(L.sl_nil 278 2).o [2,0,1] 3;exact C
 rintro la M lc b H2 ⟨rs,w,rfl,rfl,hw,U,j,h⟩;have d:aP (bs.drop w):=oK _ hb;refine⟨_,vJ h,λi=>?_,λi=>?_⟩
 .refine rG h d (by grind) (by unfold aG;omega) λH3 h=>⟨_,rfl,_,pX h,λi=>?_,λi=>?_⟩
  .rcases Kk d with ⟨⟨e,m,f⟩,B⟩|⟨kk,n,D,u,J,x⟩
   .rw [f]at h;exact fin _ _ _ _ _ _ _ B j h
   .rw [D]at i;simp at i
  .rcases Kk d with ⟨⟨e,m,f⟩,B⟩|⟨kk,n,D,u,J,x⟩
   .rw [f]at i;simp[m]at i
   .rw [D]at h ⊢;dsimp only at h ⊢;obtain⟨t,A⟩:∃t,((bs.drop w).drop kk).take n=t:=⟨_,rfl⟩;rw[A]at x ⊢;have v:aP t:=by rw[<-A];exact vO _ (oK _ d)
    have Z:t.length<=bs.length:=by grind
    rw[Wb]at u;refine zd v h λa4 c4 H4 h=>⟨_,_,_,rfl,?_⟩
    have G:=h.sl_nc 0 rfl;refine SQ h (λH h=>h.sl_rd 0 rfl) v (by omega) G (λr Y E h=>⟨_,_,_,_,_,rfl,?_⟩) λY E h=>⟨_,_,_,_,_,rfl,?_⟩
    .refine h.al λb6 Q h=>?_
     refine h.st 0 rfl rfl λR h=>⟨(λI=>by cases I),λ_=>⟨_,_,_,_,h.q 0,?_⟩⟩
     rw[E,VT]at x;rw[List.drop_drop]at h;rintro _ _ rfl rfl;refine h.append1 slb54 4 rfl (by rfl) (by rfl) (by omega) (by omega) λa8 c8 N h=>⟨_,_,_,rfl,?_⟩
     have h:=h.o [3,4,5,1] 6;refine⟨_,vJ h,?_⟩;have e1:i64.wrap ((bs.length:Int)-((bs.drop (w+(kk+n))).length:Int))=((w+(kk+n):Nat):Int):=by
      grind [aJ]
     dsimp only
     conv=>whnf
     rw[e1];refine⟨⟨rs++[r],w+(kk+n),by simp,rfl,by omega,by grind,?_,?_⟩,by grind⟩
     .grind [Kj,List.drop_drop]
     .rw [Kl,SN,gx,lL,V6,WO];have L:=h.o [0,1,2,3] 4;have C:aA N (slA 278 2 a8 (rs.length+1) c8 (aF fD rs++fD r)::crdA rb ⟨0,bs.drop (w+(kk+n))⟩::rowsR rs::rowY r.y::F):=h.o [1,0,2,3] 4;have W:=C.o [2,3,1,0] 4;have O:=eX.2 W;exact O.o [1,2,0] 3
    .refine h.al λb6 Q h=>?_
     refine h.st 0 rfl rfl λR h=>⟨λ_=>?_,(λI=>by cases I)⟩
     rw[E,Option.map_none]at x;exact fin _ _ _ _ _ _ _ x j (h.o [2,3,4] 5)
 .have hd:bs.drop w=[]:=by
   grind [List.drop_eq_nil_of_le]
  exact fin _ _ _ _ _ _ _ (by rw[hd];rfl) j h
end
def gP(kind:Int)(n:Nat):Int:=if kind<0\/255<kind then 11 else if 262144<n then 17 else 0
theorem AD{kind:Int}{bs:List Int}(hb:aP bs)(h:gP kind bs.length=0):(⟨kind,bs⟩:Rc).ok:=by
 unfold gP at h
 split at h
 .cases h
 .split at h
  .cases h
  .exact⟨by grind,by grind,by grind,hb⟩
theorem SU{r:Rc}(h:r.ok):gP r.kind r.data.length=0:=by
 have:=h.k0;have:=h.k1;have:=h.len;unfold gP
 grind
section
variable {F L:List aD}{H:aC}{K:KQ}
theorem xb{e sz n c:Nat}{a:Xa}{cs:Xb}(h:aA H (slA e sz a n c cs::F)):a=none\/∃b o,a=some ⟨b,o,none⟩:=by
 rcases (jF (F:=star F) h).2 with ⟨d,_⟩|⟨b,f,post,i,fr,d,_⟩
 .grind
 grind
theorem SW{kind:Int}{a:Xa}{c:Nat}{bs:List Int}(h:aA H F)(A:∀H,aA H F->aN H a (bs.map U8))(S:a=none\/∃b o,a=some ⟨b,o,none⟩)(hb:aP bs)(L:bs.length<=1099511627776)
  (k1:∀s t H',gP kind bs.length=0->aA H' (slA 5 1 s (cU ⟨kind,bs⟩).length t ((cU ⟨kind,bs⟩).map U8)::F)->K (.tuple #[.slice s (cU ⟨kind,bs⟩).length t,.int .i64 0]) H')
  (k2:∀H',gP kind bs.length≠0->aA H' F->K (.tuple #[.slice none 0 0,.int .i64 (gP kind bs.length)]) H') :
  CF 373 #[.agg #[.int .i64 kind,.slice a bs.length c]] H K:=by
 refine cM 373 122140 ?_;refine h.al λb O h=>⟨_,h.r 0,_,λ_=>h.r 0,λJ=>?_,λJ=>?_⟩
 .have w:kind<0\/255<kind:=by grind
  have e:gP kind bs.length=11:=by unfold gP;grind
  have:=k2 _ (by grind) h.tl
  rwa[e]at this
 .have w:¬(kind<0\/255<kind):=by grind
  refine⟨_,_,_,h.r 0,λi=>?_,λi=>?_⟩
  .have C:262144<bs.length:=by grind
   have e:gP kind bs.length=17:=by unfold gP;grind
   have:=k2 _ (by grind) h.tl
   rwa[e]at this
  .have I:¬262144<bs.length:=by grind
   have e:gP kind bs.length=0:=by unfold gP;grind
   have k:=AD hb e;have n:=AA k;obtain⟨u,D⟩:∃u:Nat,kind=u:=⟨kind.toNat,by omega⟩;refine⟨_,h.r 0,_,_,_,h.r 0,?_⟩;rw[u64w (x:=kind) (by omega) (by omega)];refine h.al λb1 H2 h=>⟨h.r 1,?_⟩
   refine yZ (u:=u) h (λH h=>by rw[<-D];exact h.ce_rd 0 rfl) (by omega) λa3 c3 R h=>⟨_,_,_,rfl,h.r 2,?_⟩
   refine h.al λb2 P h=>?_
   have G:=xb h.tl;have j:([⟨a3,c3,cA u⟩,⟨a,c,bs⟩]:List Fy).flatMap Fy.bs=cA u++bs:=by simp
   have T:=Kd (u:=u) (by omega);have up:=yY u;refine S8 (parts:=[⟨a3,c3,cA u⟩,⟨a,c,bs⟩]) h (λH h=>h.ce_rd 0 rfl) (λH h y f=>?_) (λy f=>?_) (λy f=>?_) (VD _) (VD _) (Nat.le_of_ble_eq_true rfl) (by grind) (by grind) λa5 c5 Q h=>⟨_,_,_,rfl,?_⟩
   .simp only[V9,WB,or_false]at f
    rcases f with rfl|rfl
    .exact h.sl_rd 1 rfl
    .exact A _ h.tl.tl.tl.tl
   .grind
   .simp only[V9,WB,or_false]at f
    rcases f with rfl|rfl
    .exact pV _
    .exact hb
   .rw [j]at h ⊢;have B:eU (cA u++bs)=iC ⟨kind,bs⟩:=by grind [iC]
    rw[B]at h ⊢
    conv=>whnf
    rw[u64w (x:=(((iC ⟨kind,bs⟩).length:Nat):Int)) (by omega) (by omega)];refine h.al λb3 M h=>?_
    refine yZ (u:=(iC ⟨kind,bs⟩).length) h (λH h=>h.ce_rd 0 rfl) (by omega) λa7 c7 N h=>⟨_,_,_,rfl,?_⟩
    have E:=Kf n.1;refine aA.append (m:=(iC ⟨kind,bs⟩).length) (ws:=(iC ⟨kind,bs⟩).map U8) rV h 0 rfl (h.sl_rd 2 rfl) (by simp) (mW (λ_=>rfl) _) (by omega) (by omega) λa8 c8 v h=>⟨_,_,_,rfl,?_⟩
    have d:=k1 a8 c8 v e;unfold cU at d;rw[V6,VS]at d;exact d (h.o [0] 7)
end
def DRok(rows:DR):Prop:=∀r∈rows,(0<=r.1/\r.1<=2147483647)/\0<=r.2/\r.2<256
theorem DRok.bytes{rows:DR}(h:DRok rows)(f:Int):aP (bytesOf f rows):=by
 intro x a;unfold bytesOf at a;obtain⟨r,b,rfl⟩:=V8.1 a;exact (h r (Ws.1 b).1).2
structure RL where
 most:Int
 seg:Int
 next:Nat
 syn:Nat
structure RL.ok(s:RL):Prop where
 seg:0<=s.seg/\s.seg<=2147483647
 most:64<=s.most/\s.most<=1048576
 next:s.next<=1099511627776
 syn:s.syn<=1099511627776
def reelA(rb db:Nat)(s:RL):aD:=cellsA rb [.pointer (some ⟨db,0,none⟩),.int .i64 s.most,.int .i64 s.seg,.int .i64 s.next,.int .i64 s.syn] 302
def oX(rows:DR)(s:RL)(n:Nat):Bool:=decide (0<(bytesOf s.seg rows).length)&&decide (s.most<(((bytesOf s.seg rows).length+n:Nat):Int))
def jR(rows:DR)(s:RL)(r:Rc):Int:=
 if gP r.kind r.data.length≠0 then gP r.kind r.data.length else if oX rows s (cU r).length=true/\s.seg=2147483647 then 20 else 0
def jS(rows:DR)(s:RL)(r:Rc):RL:=if jR rows s r≠0 then s else { s with seg:=if oX rows s (cU r).length then s.seg+1 else s.seg,next:=s.next+1 }
def mq(rows:DR)(s:RL)(r:Rc):DR:=if jR rows s r≠0 then rows else rows++(cU r).map λb=>((jS rows s r).seg,b)
def appN(rows:DR)(s:RL)(r:Rc):Int:=if jR rows s r≠0 then -1 else s.next
section
variable {F L:List aD}{H:aC}{K:KQ}{rb db pb:Nat}{rows:DR}{syn:Nat}{s:RL}
theorem Km{f:Int}(d:rows.length<=1099511627776)(h:aA H (diskX db rows syn::F))
  (k:∀a c e H',aA H' (slA 5 1 a (bytesOf f rows).length c ((bytesOf f rows).map U8)::diskX db rows syn::F)->K (.tuple #[.slice a (bytesOf f rows).length c,.int .i64 e]) H') :
  CF 229 #[.pointer (some ⟨db,0,none⟩),.int .i64 f] H K:=by
 refine Sz d h (λb H' h=>?_) λb a c H' h=>?_
 .have:=k none 0 23 H';rw[b]at this;exact this (h.sl_nil 5 1)
 .exact k a c 0 H' h
theorem SX{a:Xa}{c:Nat}{parts:List Fy}(h:aA H F)(B:∀H,aA H F->aN H a (parts.map cF))(I:∀H,aA H F->∀y∈parts,aN H y.a (y.bs.map U8))(M:parts.length<=1099511627776)(L:(parts.flatMap Fy.bs).length<=262144)
  (k:∀s v H',aA H' (slA 5 1 s (parts.flatMap Fy.bs).length v ((parts.flatMap Fy.bs).map U8)::F)->K (.slice s (parts.flatMap Fy.bs).length v) H') :
  CF 374 #[.slice a parts.length c] H K:=by
 refine cN 374 0x1121a6123992512139944c [[(3,sS),(8,sI)],[(3,sS)]] ?_;intro O E;have d:∀j,((parts.take j).flatMap Fy.bs).length<=(parts.flatMap Fy.bs).length:=by
  grind [List.take_append_drop]
 refine⟨λu on w i H'=>∃j:Nat,i=j/\j<=parts.length/\on=((parts.take j).flatMap Fy.bs).length/\aA H' (slA 5 1 u ((parts.take j).flatMap Fy.bs).length w (((parts.take j).flatMap Fy.bs).map U8)::F),λ_ _ _ i _=>parts.length-i.toNat,⟨0,rfl,VE _,rfl,h.sl_nil 5 1⟩,?_⟩
 rintro u on w i H2 ⟨j,rfl,N,rfl,h⟩;have C:=d j;refine⟨λG=>?_,λG=>?_⟩
 .have b:j<parts.length:=by grind
  have t:=(B _ h.tl).at b;have D:=I _ h.tl _ (V7 b);have f:=A6 b;have e:=d (j+1);rw[f,V6]at e;refine⟨⟨by omega,by omega⟩,_,_,t.1,_,_,_,t.2,λA=>?_,λ_=>?_⟩
  .have:=V3 A;omega
  .refine aA.append (m:=parts[j].bs.length) (ws:=parts[j].bs.map U8) rV h 0 rfl D (by simp) (mW (λ_=>rfl) _) (by omega) (by omega) λa8 c8 J h=>⟨_,_,_,rfl,?_⟩
   conv=>whnf
   rw[aJ (x:=(j:Int)+1)];refine⟨⟨j+1,rfl,b,by grind,?_⟩,by grind⟩;rw[f,V6,VS];exact h
 .have n:j=parts.length:=by grind
  subst n;rw[VO]at h ⊢;refine E _ _ _ _ ?_;exact k _ _ _ h
theorem SY(h:aA H (reelA rb db s::F)):bO Tryz.prog 289 #[.pointer (some ⟨rb,0,none⟩)] H (.int .i64 s.syn):=by
 unfold bO;refine cM 289 28 ?_;exact⟨_,h.r 0,rfl,rfl⟩
theorem Ko(h:aA H (reelA rb db s::F)):bO Tryz.prog 151 #[.pointer (some ⟨rb,0,none⟩)] H (.int .i64 s.seg):=by
 unfold bO;refine cM 151 28 ?_;exact⟨_,h.r 0,rfl,rfl⟩
theorem Kp(hs:0<=s.seg/\s.seg<=2147483647)(h:aA H (reelA rb db s::F))
  (k1:s.seg=2147483647->∀H',aA H' (reelA rb db s::F)->K (.tuple #[.int .i64 (-1),.int .i64 20]) H')
  (k2:s.seg≠2147483647->∀H',aA H' (reelA rb db { s with seg:=s.seg+1 }::F)->K (.tuple #[.int .i64 (s.seg+1),.int .i64 0]) H') :
  CF 291 #[.pointer (some ⟨rb,0,none⟩)] H K:=by
 refine cM 291 7452 ?_;refine⟨_,h.r 0,λa=>k1 (by grind) _ h,λa=>⟨_,h.r 0,?_⟩⟩
 conv=>whnf
 rw[aJ (x:=s.seg+1)];exact h.st 0 rfl rfl λH' h=>⟨_,h.r 0,k2 (by grind) _ h⟩
theorem Kq(h:aA H (reelA rb db s::diskX db rows syn::F))(k:∀H',aA H' (reelA rb db { s with syn:=s.next }::diskX db rows rows.length::F)->K (.tuple #[]) H') :
  CF 91 #[.pointer (some ⟨rb,0,none⟩)] H K:=by
 refine cM 91 20 ?_;refine⟨_,h.r 0,?_⟩;refine Sy (F:=reelA rb db s::F) (h.o [1,0] 2) λa h=>⟨rfl,_,h.r 1,?_⟩
 exact h.st 1 rfl rfl λH' h=>k _ (h.o [1,0] 2)
theorem Kr{a:Xa}{c:Nat}{parts:List Fy}{kind:Int}(hs:s.ok)(W:rows.length<=549755813888)(h:aA H (reelA rb db s::diskX db rows syn::F))
  (w:∀H,aA H F->aN H a (parts.map cF)) (t:∀H,aA H F->∀y∈parts,aN H y.a (y.bs.map U8)) (hb:aP (parts.flatMap Fy.bs)) (O:parts.length<=1099511627776) (B:(parts.flatMap Fy.bs).length<=262144)
  (k:∀H',aA H' (reelA rb db (jS rows s ⟨kind,parts.flatMap Fy.bs⟩)::diskX db (mq rows s ⟨kind,parts.flatMap Fy.bs⟩) syn::F)->
   K (.tuple #[.int .i64 (appN rows s ⟨kind,parts.flatMap Fy.bs⟩),.int .i64 (jR rows s ⟨kind,parts.flatMap Fy.bs⟩)]) H') :
  CF 267 #[.pointer (some ⟨rb,0,none⟩),.int .i64 kind,.slice a parts.length c] H K:=by
 refine cN 267 80240258818644764 [[]] ?_;have n:=hs.seg;have E:=hs.most;have R:=hs.next;refine SX h (λH h=>w H h.tl.tl) (λH h=>t H h.tl.tl) O B λa1 c1 T h=>⟨_,_,_,rfl,?_⟩
 obtain⟨d,hd⟩:∃d,parts.flatMap Fy.bs=d:=⟨_,rfl⟩;rw[hd]at hb B h k ⊢;refine SW h (λH h=>h.sl_rd 0 rfl) (xb h) hb (by omega) (λa2 c2 H2 j h=>⟨_,_,_,_,rfl,(λe=>by cases e),λ_=>?_⟩) λH2 j h=>⟨_,_,_,_,rfl,λ_=>?_,λe=>by simp[j]at e⟩
 .have m:=Kg (AD hb j);have v:=SB (AD hb j);dsimp only at m;obtain⟨r,L⟩:∃r:Rc,(⟨kind,d⟩:Rc)=r:=⟨_,rfl⟩;have S:gP r.kind r.data.length=0:=by grind
  rw[L]at h m v k ⊢;have G:=wX s.seg rows;refine⟨_,h.r 2,_,h.r 2,?_⟩;refine Km (F:=slA 5 1 a2 (cU r).length c2 ((cU r).map U8)::slA 5 1 a1 d.length c1 (d.map U8)::reelA rb db s::F) (by omega) (h.o [3,0,1,2] 4) λa3 c3 e3 Y h=>⟨_,_,_,_,rfl,λ_=>trivial,_,λ_=>h.r 4,λZ D=>?_⟩
  have N:i64.wrap (((bytesOf s.seg rows).length:Int)+((cU r).length:Int))=(((bytesOf s.seg rows).length+(cU r).length:Nat):Int):=by grind [aJ]
  have P:(decide ((0:Int)<((bytesOf s.seg rows).length:Int))&&decide (s.most<(((bytesOf s.seg rows).length+(cU r).length:Nat):Int)))=oX rows s (cU r).length:=by
   unfold oX
   grind
  rw[N,P];have f:∀g H',0<=g/\g<=2147483647->jR rows s r=0->jS rows s r={ s with seg:=g,next:=s.next+1 }->aA H' (reelA rb db { s with seg:=g }::diskX db rows syn::slA 5 1 a2 (cU r).length c2 ((cU r).map U8)::F)->Es.r1 rb 0 K a2 (cU r).length c2 H':=by
   intro g H' U e0 Q h;unfold Es.r1;refine⟨_,h.r 0,_,h.r 0,?_⟩;refine h.al λb A h=>⟨h.r 1,h.r 1,?_⟩
   have M:([⟨a2,c2,cU r⟩]:List Fy).flatMap Fy.bs=cU r:=by simp
   refine S4 (F:=cellsA b [.slice a2 (cU r).length c2] 38::reelA rb db { s with seg:=g }::slA 5 1 a2 (cU r).length c2 ((cU r).map U8)::F) (pc:=1) (parts:=[⟨a2,c2,cU r⟩]) (by grind) (by simp) (λH h=>⟨h.ce_rd 0 rfl,λp t=>by
    rw[VH]at t;subst t;exact h.sl_rd 2 rfl⟩) (h.o [2,0,1,3] 4) (λe=>V0 e (by grind)) λ_ V h=>⟨_,rfl,(λe=>by cases e),λ_=>⟨_,h.r 2,?_⟩⟩
   conv=>whnf
   rw[aJ (x:=(s.next:Int)+1)];refine h.st 2 rfl rfl λJ h=>⟨_,h.r 2,?_⟩
   have i:=k J;rw[show appN rows s r=s.next by unfold appN;grind,e0,show mq rows s r=rows++(cU r).map (λb=>(g,b)) by unfold mq;grind,Q]at i
   have en:i64.wrap (((s.next:Int)+1)-1)=s.next:=by grind [aJ]
   conv=>whnf
   rw[en];refine i ?_;have w:iB g [(⟨a2,c2,cU r⟩:Fy)]=(cU r).map (λb=>(g,b)):=by simp[iB]
   have h:=h.o [2,0] 4;rw[<-w];exact h
  have e0:jR rows s r=if oX rows s (cU r).length=true/\s.seg=2147483647 then 20 else 0:=by unfold jR;grind
  refine⟨λu=>?_,λu=>?_⟩
  .refine Kp (F:=slA 5 1 a3 (bytesOf s.seg rows).length c3 ((bytesOf s.seg rows).map U8)::diskX db rows syn::slA 5 1 a2 (cU r).length c2 ((cU r).map U8)::slA 5 1 a1 d.length c1 (d.map U8)::F) n (h.o [4,0,1,2,3] 5) (λhm A h=>⟨_,_,rfl,λ_=>?_,(λe=>by cases e)⟩) λhm A h=>⟨_,_,rfl,(λe=>by cases e),λ_=>D _ ?_⟩
   .rw [V1 ⟨u,hm⟩]at e0;have i:=k A;unfold appN jS mq at i;rw[e0,V1 (by decide),V1 (by decide),V1 (by decide)]at i;exact i (h.o [0,2] 5)
   .rw [Vz (λC=>hm C.2)]at e0
    exact f (s.seg+1) _ (by omega) e0 (by unfold jS;grind) (h.o [0,2,3] 5)
  .have I:oX rows s (cU r).length=false:=u;rw[Vz (λC=>by grind)]at e0
   exact D _ (f s.seg _ n e0 (by unfold jS;grind) (h.o [4,1,2] 5))
 .have e0:jR rows s ⟨kind,d⟩=gP kind d.length:=by unfold jR;grind
  have i:=k H2;unfold appN jS mq at i;rw[e0,V1 j,V1 j,V1 j]at i;exact i (h.o [1,2] 3)
end
def jT(rows:DR):List Rc:=(bI rows).flatMap λf=>(fg (bytesOf f rows)).1
def lq(rows:DR):Int:=match (bI rows)[(bI rows).length-1]? with
 | none=>0
 | some f=>f+1
def iD(most:Int)(rows:DR):Int:=if most<64\/1048576<most then 11 else if 2147483647<lq rows then 20 else 0
def ol(below:Int)(rows:DR):DR:=rows.filter λr=>decide (below<=r.1)
theorem Ks{b:List Int}(hb:aP b):(fg b).1.length<=b.length:=by
 obtain⟨e,d,a⟩:=AC (VD _) hb;have c:=congrArg List.length a;rw[W7]at c;have:∀rs:List Rc,(∀r∈rs,r.ok)->rs.length<=(rs.flatMap cU).length:=by
  intro rs
  induction rs with
  | nil=>grind
  | cons r rs ih=>
   grind [Kg]
 grind
theorem SZ(rows:DR):(bI rows).Nodup:=(J0 rows).imp λh=>by omega
theorem Kt{rows:DR}(h:DRok rows):(jT rows).length<=rows.length:=by
 have b:=Aq rows (bI rows) (SZ rows) λr a=>ue.2 (V8.2 ⟨r,a,rfl⟩)
 rw[<-b];unfold jT;generalize bI rows=l
 induction l with
 | nil=>simp
 | cons f l ih=>
  rw[Wo,V6,VR,List.sum_cons];have:=Ks (h.bytes f);omega
theorem Ku{α β:Type}(f:α->List β)(l:List α)(j:Nat):((l.take j).flatMap f).length<=(l.flatMap f).length:=by
 grind [List.take_append_drop]
theorem Tb{α β:Type}(f:α->List β){l:List α}{j:Nat}(h:j<l.length):(l.take (j+1)).flatMap f=(l.take j).flatMap f++f l[j]:=by
 grind [List.take_succ_eq_append_getElem]
theorem Kv{rows:DR}{n:Nat}(h:n+1=(bI rows).length):∃f,(bI rows)[n]?=some f/\lq rows=f+1/\f∈bI rows:=by
 have a:n<(bI rows).length:=by omega
 refine⟨_,List.getElem?_eq_getElem a,?_,V7 a⟩
 grind [lq]
theorem AE{rows:DR}(h:(bI rows).length=0):lq rows=0:=by
 grind [lq]
theorem DRok.file{rows:DR}(h:DRok rows){f:Int}(b:f∈bI rows):0<=f/\f<=2147483647:=by
 obtain⟨r,a,rfl⟩:=V8.1 (ue.1 b);exact (h r a).1
theorem segOf_in{rows:DR}(h:DRok rows):0<=lq rows/\lq rows<=2147483648:=by
 cases hn:(bI rows).length with
 | zero=>grind [AE]
 | succ n=>
  obtain⟨f,c,b,a⟩:=Kv hn.symm;have:=h.file a;omega
def j6(below:Int)(rows:DR)(j:Nat):DR:=rows.filter λr=>!(decide (r.1∈(bI rows).take j)&&decide (r.1<below))
theorem Tc(below:Int)(rows:DR):j6 below rows 0=rows:=by
 unfold j6;simp
theorem Td(below:Int)(rows:DR):j6 below rows (bI rows).length=ol below rows:=by
 unfold j6 ol;refine List.filter_congr λr a=>?_
 rw[VO,WI (ue.2 (V8.2 ⟨r,a,rfl⟩)),Bool.true_and,<-decide_not]
 grind
theorem Te{below:Int}{rows:DR}{j:Nat}(h:j<(bI rows).length) :
  j6 below rows (j+1)=if (bI rows)[j]<below then (j6 below rows j).filter (λr=>decide (r.1≠(bI rows)[j])) else j6 below rows j:=by
 have hm:∀x,decide (x∈(bI rows).take (j+1))=(decide (x∈(bI rows).take j)||decide (x=(bI rows)[j])):=by
  intro x;rw[<-Bool.decide_or];refine decide_eq_decide.2 ?_
  grind [List.take_succ_eq_append_getElem]
 split
 .rename_i b;unfold j6;rw[List.filter_filter]
  grind
 .rename_i a;unfold j6
  grind
section
variable {F L:List aD}{H:aC}{K:KQ}{rb db pb:Nat}{rows:DR}{syn:Nat}{s:RL}
theorem Tf{below:Int}(n:rows.length<=1099511627776)(hs:syn<=rows.length)(h:aA H (reelA rb db s::diskX db rows syn::F))
  (k1:syn<rows.length->∀H',aA H' (reelA rb db s::diskX db rows syn::F)->K (.int .i64 21) H')
  (k2:¬syn<rows.length->∀H',aA H' (reelA rb db s::diskX db (ol below rows) (ol below rows).length::F)->K (.int .i64 0) H') :
  CF 290 #[.pointer (some ⟨rb,0,none⟩),.int .i64 below] H K:=by
 refine cN 290 0x1d21561239925117494c [[],[(19,sI)]] ?_;refine⟨_,h.r 0,?_⟩;refine S1 (F:=reelA rb db s::F) n (h.o [1,0] 2) λC h=>⟨_,rfl,λc=>?_,λc=>?_⟩
 .have:=V3 c;exact k1 (by omega) _ (h.o [1,0] 2)
 .have c:=V2 c;have f:syn=rows.length:=by omega
  refine⟨_,h.r 1,?_⟩;refine J9 n h λfa fc H2 h=>⟨_,_,_,rfl,?_⟩
  have t:=JJ rows;refine⟨λi H'=>∃j:Nat,i=j/\j<=(bI rows).length/\aA H' (slA 3 1 fa (bI rows).length fc ((bI rows).map I64ZZ)::diskX db (j6 below rows j) (j6 below rows j).length::reelA rb db s::F),λi _=>(bI rows).length-i.toNat,⟨0,rfl,VE _,?_⟩,?_⟩
  .rw [Tc,<-f];exact h
  rintro i D ⟨j,rfl,B,h⟩;refine⟨λc=>?_,λc=>?_⟩
  .have d:j<(bI rows).length:=by grind
   have m:=(h.sl_rd 0 rfl).at d;refine⟨⟨by omega,by omega⟩,_,_,m.1,_,m.2,λA y=>?_⟩
   have a:=Te (below:=below) d;have next:∀H',aA H' (slA 3 1 fa (bI rows).length fc ((bI rows).map I64ZZ)::diskX db (j6 below rows (j+1)) (j6 below rows (j+1)).length::reelA rb db s::F)->A H':=by
    intro H' h;refine y _ ?_
    conv=>whnf
    rw[aJ (x:=(j:Int)+1)]
    grind
   refine⟨λb=>⟨_,h.r 2,?_⟩,λb=>?_⟩
   .have b:(bI rows)[j]<below:=V3 b;rw[V1 b]at a;refine S0 (F:=slA 3 1 fa (bI rows).length fc ((bI rows).map I64ZZ)::reelA rb db s::F) (h.o [1,0,2] 3) (λu v h=>⟨_,rfl,next _ ?_⟩) (λ_ w=>V0 w (Nat.lt_irrefl _)) λu _ v h=>⟨_,rfl,next _ ?_⟩
    .have e:(j6 below rows j).filter (λr=>decide (r.1≠(bI rows)[j]))=j6 below rows j:=by
      grind [List.filter_eq_self,Jx]
     rw[a,e];exact h.o [1,0,2] 3
    .rw [a];exact h.o [1,0,2] 3
   .have b:¬(bI rows)[j]<below:=V2 b;rw[Vz b]at a;refine next _ ?_;rw[a];exact h
  .have k:j=(bI rows).length:=by grind
   subst k;rw[Td]at h;exact k2 (by omega) _ (h.o [2,1] 3)
end
section
variable {F L:List aD}{H:aC}{K:KQ}{rb db pb:Nat}{rows:DR}{syn:Nat}{s:RL}{most:Int}
abbrev opS(most:Int)(rows:DR):RL:=⟨most,lq rows,(jT rows).length,(jT rows).length⟩
def qz(rows:DR)(j:Nat):List Rc:=((bI rows).take j).flatMap λf=>(fg (bytesOf f rows)).1
theorem Kw(h:DRok rows)(j:Nat):(qz rows j).length<=rows.length:=W2 (Ku _ _ _) (Kt h)
theorem Tg{j:Nat}(h:j<(bI rows).length):qz rows (j+1)=qz rows j++(fg (bytesOf (bI rows)[j] rows)).1:=Tb _ h
theorem allJ_all:qz rows (bI rows).length=jT rows:=by grind [qz,jT]
theorem Th{a b:List Ry}(h:aA H (rowsR a::rowsR b::F)):aA H (rowsR (a++b)::F):=by rw[Kl];exact eX.2 h
theorem Kx(r:Ry):cK (fD r)=true:=rfl
theorem Ti(ok:DRok rows)(D:rows.length<=1099511627776)(h:aA H (diskX db rows syn::F))
  (k1:iD most rows=0->∀(rs:List Ry) a c rb H',rs.map Ry.rc=jT rows->aA H' (reelA rb db (opS most rows)::slA 278 2 a rs.length c (aF fD rs)::rowsR rs::diskX db rows syn::F)->
   K (.tuple #[.pointer (some ⟨rb,0,none⟩),.slice a rs.length c,.int .i64 0]) H')
  (k2:iD most rows≠0->∀H',aA H' (diskX db rows syn::F)->K (.tuple #[.pointer none,.slice none 0 0,.int .i64 (iD most rows)]) H') :
  CF 140 #[.pointer (some ⟨db,0,none⟩),.int .i64 most] H K:=by
 refine cN 140 0x1d1121749d12156123992511144c [[(9,sS),(38,sI)],[(8,sI)]] ?_;refine⟨λd=>?_,λd=>?_⟩
 .have hm:most<64\/1048576<most:=by grind
  have e:iD most rows=11:=by unfold iD;grind
  have:=k2 (by grind) _ h
  rwa[e]at this
 have hm:¬(most<64\/1048576<most):=by grind
 have M:=segOf_in ok;refine J9 D h λfa fc H1 h=>⟨_,_,_,rfl,λU S=>?_⟩
 have I:=JJ rows;have rest:∀H',aA H' (slA 3 1 fa (bI rows).length fc ((bI rows).map I64ZZ)::diskX db rows syn::F)->U (lq rows) H':=by
  intro H' h;refine S _ _ ?_;refine⟨λd=>?_,λd=>?_⟩
  .have b:2147483647<lq rows:=V3 d;have e:iD most rows=20:=by unfold iD;grind
   have:=k2 (by grind) _ h.tl
   rwa[e]at this
  .have T:¬2147483647<lq rows:=V2 d;have e:iD most rows=0:=by unfold iD;grind
   refine⟨λla E lc i H'=>∃(j:Nat) (rs:List Ry),i=j/\j<=(bI rows).length/\E=rs.length/\rs.map Ry.rc=qz rows j/\
    aA H' (slA 278 2 la rs.length lc (aF fD rs)::rowsR rs::slA 3 1 fa (bI rows).length fc ((bI rows).map I64ZZ)::diskX db rows syn::F),λ_ _ _ i _=>(bI rows).length-i.toNat,⟨0,[],rfl,VE _,rfl,rfl,?_⟩,?_⟩
   .have w:aA H' (rowsR []::slA 3 1 fa (bI rows).length fc ((bI rows).map I64ZZ)::diskX db rows syn::F):=Ap.2 h;exact w.sl_nil 278 2
   rintro la E lc i H2 ⟨j,rs,rfl,Z,rfl,s,h⟩;have O:rs.length<=rows.length:=by
    have:=congrArg List.length s
    grind [Kw]
   refine⟨λd=>?_,λd=>?_⟩
   .have b:j<(bI rows).length:=by grind
    have t:=(h.sl_rd 2 rfl).at b;refine⟨⟨by omega,by omega⟩,_,_,t.1,_,t.2,?_⟩;have V:=wX (bI rows)[j] rows;refine Km (F:=slA 278 2 la rs.length lc (aF fD rs)::rowsR rs::slA 3 1 fa (bI rows).length fc ((bI rows).map I64ZZ)::F) D (h.o [3,0,1,2] 4) λa3 c3 e3 H3 h=>⟨_,_,_,_,rfl,?_⟩
    refine SR h (λH h=>h.sl_rd 0 rfl) (ok.bytes _) (by omega) λu a4 c4 H4 N h=>⟨_,_,_,_,rfl,?_⟩
    have J:=Ks (ok.bytes (bI rows)[j]);have k:(rs++u).map Ry.rc=qz rows (j+1):=by grind [Tg]
    have C:rs.length+u.length<=rows.length:=by
     have:=congrArg List.length k
     grind [Kw]
    refine aA.append (m:=u.length) (ws:=aF fD u) slb54 h 4 rfl (h.sl_rd 0 rfl) (dT rX _) (kS Kx _) (by omega) (by omega) λa8 c8 W h=>⟨_,_,_,rfl,?_⟩
    conv=>whnf
    rw[aJ (x:=(j:Int)+1)];refine⟨⟨j+1,rs++u,rfl,b,by grind,k,?_⟩,by grind⟩;have w:=Th (h.o [5,1,4,6,3] 7);rw[gx,V6];exact w.o [1,0,2,3] 4
   .have A:j=(bI rows).length:=by grind
    subst A;rw[allJ_all]at s;refine h.al λb1 L h=>?_
    have y:=k1 e rs la lc b1 L s;have v:rs.length=(jT rows).length:=by grind
    unfold reelA at y;dsimp only at y;rw[<-v]at y;exact y (h.o [0,1,2,4] 5)
 refine⟨λd=>?_,λd=>?_⟩
 .have B:0<(bI rows).length:=by grind
  obtain⟨n,Q⟩:∃n,n+1=(bI rows).length:=⟨(bI rows).length-1,by omega⟩;obtain⟨f,Y,w,G⟩:=Kv Q;have hf:=ok.file G;have en:i64.wrap (((bI rows).length:Int)-1)=(n:Nat):=by grind [aJ]
  have b:n<(bI rows).length:=by omega
  have t:=(h.sl_rd 0 rfl).at b
  conv=>whnf
  rw[en];have R:(bI rows)[n]=f:=by grind
  rw[R]at t;refine⟨⟨by omega,by omega⟩,_,_,t.1,_,t.2,?_⟩
  conv=>whnf
  rw[aJ (x:=f+1),<-w];exact rest _ h
 .have P:(bI rows).length=0:=by grind
  have:=rest _ h
  rwa[AE P]at this
end
end Go.Proofs.YtnjaappmhadfdaaGreatDoor
