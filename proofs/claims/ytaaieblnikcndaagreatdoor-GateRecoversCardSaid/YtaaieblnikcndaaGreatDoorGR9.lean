/-
  Lemmas for GateRecovers: part 9 of what it rests on. Conditions: none.
-/
import Derived.Test.YtaaieblnikcndaaGreatDoorGR8
set_option linter.unusedVariables false
set_option linter.unusedSimpArgs false
set_option maxRecDepth 100000
set_option maxHeartbeats 16000000
open Go.IntKind (i64 u64 i8 u8 i32 u32 i16 u16)
namespace Go.Proofs.YtaaieblnikcndaaGreatDoor
open Go
theorem uRes_lt2{s:RS}(hb:aI s.bs)(h:(bM s).2.e=0):(bM s).2.bs.length+1<=s.bs.length:=by
 unfold bM at h ⊢
 split at h
 .rename_i h0;exact V6 h h0
 .rename_i h0;rw[V4 h0]
  split at h
  .rename_i u n e;have:=qq hb e;simp only[e];rw[VU];omega
  .simp at h
  .simp at h
theorem Ll{s a:RS}{o:Ot}(hb:aI s.bs)(h:jd s=.ok (o,a)):a.bs.length+1<=s.bs.length:=by
 unfold jd at h
 cases e:gj s with
 | error e'=>rw[e]at h;cases h
 | ok q=>
  obtain⟨v,s1⟩:=q;rw[e]at h;dsimp only at h;have h0:=ip e;have d:s1.bs.length+1<=s.bs.length:=by
   rw[h0.1];exact uRes_lt2 hb h0.2.2
  have b:=(mD s1 s1.bs.length).1;have c:=(mD (aZ s1.bs.length s1).2 (aZ s1.bs.length s1).2.bs.length).1
  split at h
  .cases h
  split at h
  .cases h
  split at h
  .cases h
  .cases h;omega
theorem Lm:∀{n:Nat} {r a:RS} {l:List Ot},aI r.bs->eE n r=.ok (l,a)->l.length=n/\n+a.bs.length<=r.bs.length
 | 0,r,a,l,hb,h=>by
  cases h
  exact⟨rfl,by omega⟩
 | n+1,r,a,l,hb,h=>by
  unfold eE at h
  cases h1:eE n r with
  | error e=>rw[h1]at h;cases h
  | ok q=>
  obtain⟨l1,r1⟩:=q;rw[h1]at h;dsimp only at h;have c:=Lm hb h1;have b:=(xF hb h1).2
  cases h2:jd r1 with
  | error e=>rw[h2]at h;cases h
  | ok q=>
  obtain⟨o,r2⟩:=q;rw[h2]at h
  cases h
  have:=Ll b h2;rw[V7];simp only[VE,VZ];omega
theorem Ln{s:RS}{e:Int}:∀{n j:Nat},eE j s=.error e->j<=n->eE n s=.error e
 | 0,j,h,hj=>by
  obtain rfl:j=0:=by omega
  exact h
 | n+1,j,h,hj=>by
  rcases Wa n j with a|a
  .obtain rfl:j=n+1:=by omega
   exact h
  .unfold eE;rw[Ln h a]
section
variable {F L:List aE}{H:aC}{K KP:KE}{Q Q':aE}{sb:Nat}{s:aH}
def nf(Q:aE)(F:List aE)(K:KE):Except Int aH->Prop
 | .ok s=>∀Q' sb H',aM Q Q'->aA H' (Q'::stA Q' sb s::F)->K (.tuple #[PA sb 0,aD 0]) H'
 | .error e=>∀Q' H',aM Q Q'->aA H' (Q'::F)->K (.tuple #[.pointer none,aD e]) H'
theorem nh{b1 b2:Nat}{e v1:Int}{v:KQ}(f:nf Q F K (.error 10))(i:e≠0)(hs:aM Q Q')(h:aA H (cellsA b1 [.pointer v] 40::cellsA b2 [aD v1] 50::Q'::F)) :
  bI 196 X.calls=true/\cC Tryz.prog 196 [(PA b1 0),(PA b2 0)] (bi (pnV e) false) H λd c=>d=bi (pnV e) true/\
   ∃b,aL c b1 0=some (.pointer b)/\∃a,aL c b2 0=some (aD a)/\K (.tuple #[(.pointer b),(aD a)]) c:=
 ⟨rfl,U0 i h λj h=>⟨rfl,_,h.r 0,_,h.r 1,f Q' _ hs h.tl.tl⟩⟩
theorem Lo(k:Ky)(c:Cl):aI (cbB k c):=dD (tV _) (P3 _)
theorem U2(a:Int)(e:En)(fl:Fl)(st:br):aI (agB a e fl st):=
 dD (dD (dD (dD (dD (iE _) (tV _)) (iE _)) (jz λ_ _=>iE _)) (iE _)) (jz λ_ _=>dD (iE _) (wY _))
theorem U3(s:aH)(p:Int×En):aI (dR s p):=by
 unfold dR
 split
 .exact U2 _ _ _ _
 .exact λx a=>by cases a
theorem xG(s:aH):aI (stB s):=
 dD (dD (dD (dD (dD (dD (dD (iE _) (tV _)) (iE _)) (jz λ_ _=>U3 _ _)) (iE _)) (jz λ_ _=>Lo _ _)) (iE _)) (jz λ_ _=>Lo _ _)
theorem strB_inj{xs ys:List Int}(j:aI xs)(d:aI ys)(h:(bG xs).toList=(bG ys).toList):xs=ys:=by
 have a:xs.map (λn=>UInt8.ofNat n.toNat)=ys.map (λn=>UInt8.ofNat n.toNat):=by
  rw[<-strOfNums_data xs,<-strOfNums_data ys];have e:∀b:Fa,b.data.toList=b.toList:=λb=>Eq.symm (ByteArray.toList_eq b)
  rw[e,e];exact h
 have c:=congrArg (List.map λb:UInt8=>(b.toNat:Int)) a
 have e:∀l:List Int,aI l->(l.map λn=>UInt8.ofNat n.toNat).map (λb:UInt8=>(b.toNat:Int))=l:=by
  intro l f;apply W9 (by simp);intro i k a;simp only[W3];exact qr f i a
 rwa[e _ j,e _ d]at c
theorem U4{rb b1 b2 b3:Nat}{s1:aH}{bs:List Int}{ba:KQ}{bc:Nat}{kn:Int}{r:RS}{y:aE}(f:aM Q y)
  (hA:∀H,aA H F->aP H ba (bs.map U8)) (I:ba=none\/∃k o,ba=some ⟨k,o,none⟩) (R:0<=kn/\kn<18446744073709551616) (hb:aI r.bs) (hl:r.bs.length<=1000000000) (P:aI bs)
  (x:∀l d,eE kn.toNat r=.ok (l,d)->(dF d).e=0->cR { s1 with kept:=l }/\qP { s1 with kept:=l }/\l.length<=50000)
  (J:(∀l d,eE kn.toNat r=.ok (l,d)->(dF d).e=0->stB { s1 with kept:=l }=bs->False)->nf Q F K (.error 10))
  (M:∀l d,eE kn.toNat r=.ok (l,d)->(dF d).e=0->stB { s1 with kept:=l }=bs->nf Q F K (.ok { s1 with kept:=l }))
  (h:aA H (crdA rb r::y::stA y sb { s1 with kept:=[] }::cellsA b1 [PA sb 0] 40::cellsA b2 [aD 0] 50::cellsA b3 [PA rb 0] 388::F)) :
  ∃(i:Int->aC->Prop) (O:Int->aC->Nat),i kn H/\
   ∀(n:Int),∀u:aC,i n u->mA.l2 ba bs.length bc K b1 b2 b3 i O n u:=by
 refine⟨λn T=>∃(j:Nat) (l:List Ot) (d:RS),n=kn-j/\(j:Int)<=kn/\eE j r=.ok (l,d)/\
  aA T (crdA rb d::y::stA y sb { s1 with kept:=l }::cellsA b1 [PA sb 0] 40::cellsA b2 [aD 0] 50::cellsA b3 [PA rb 0] 388::F),
  λn _=>n.toNat,⟨0,[],r,by omega,R.1,rfl,h⟩,?_⟩
 rintro n H1 ⟨j,l,d,rfl,hj,A,h⟩;have h5:=Lm hb A;have E:=xF hb A;unfold mA.l2;refine⟨λt=>?_,λt=>?_⟩
 .have t:=V8 t;refine⟨_,h.q 5,?_⟩;refine Lg h E.2 (by omega) ?_;have s:eE (j+1) r=match jd d with|.error e=>.error e|.ok (o,r2)=>.ok (l++[o],r2):=by
   rw[eE,A] <;> rfl
  cases hr:jd d with
  | error e=>
   rw[hr]at s;exact λT w h=>nh (J λl r1 v _ _=>by rw[Ln s (by omega)]at v;cases v) w f (h.o [2,3,0] 5)
  | ok q=>
  obtain⟨o,r2⟩:=q;rw[hr]at s;intro Y h0 h4 Z h;refine⟨_,_,_,_,_,_,_,_,_,_,rfl,?_⟩;refine h.al λb7 _ h=>?_
  refine h.al λb8 _ h=>?_
  refine h.st 1 rfl rfl ?_;intro H3 h;refine h.sta 0 rfl rfl λH4 h=>?_
  have h:=h.o [4,0,1,2,3,5,6,7] 8;obtain⟨p,h⟩:=cX.1 h;refine⟨_,h.r 13,_,h.r 13,cZ ⟨_,_,_,h.r 0,_,_,h.q 10,_,_,_,_,_,_,_,_,h.rda 9 rfl,?_⟩⟩;refine h.al λb9 _ h=>⟨h.r 1,h.r 14,h.r 14,?_⟩
  refine h.append (m:=1) (ws:=cJ o) sl86 9 rfl (h.ce_rd 0 rfl) rfl (sf _) (by show (l.length+1)*600<=_;omega) (by show l.length+1<=_;omega) λa6 c6 W h=>⟨_,_,_,rfl,h.r 14,cZ ?_⟩
  refine h.st 1 rfl rfl ?_;intro S h;have hw:u64.wrap (kn-(j:Int)-1)=kn-((j+1:Nat):Int):=by rw[df];omega
  rw[hw];refine⟨⟨j+1,l++[o],r2,rfl,by omega,s,?_⟩,by dsimp only;omega⟩;have e4:flat cJ (l++[o])=flat cJ l++cJ o:=by rw[dS];simp[flat]
  have h:=h.o [1,2,3,4,5,6,7,8,9,12,13,14,15,16] 17;have h:aA S (stA y sb { s1 with kept:=l++[o] }::_):=cX.2 ⟨{ p with ka:=a6,kc:=c6 },by
   simp only[dr,V7,Wv,e4];exact h⟩
  exact h.o [1,2,0,3,4,5] 6
 .have V:=V9 t;have G:j=kn.toNat:=by omega
  subst G;refine⟨_,h.r 5,?_⟩;refine wv h λY h=>⟨_,rfl,?_⟩
  refine j7 (λw=>⟨rfl,_,h.r 3,?_⟩) λw=>nh (J λl2 r2 v B _=>by rw[A]at v;cases v;exact w B) w f (h.o [3,4,1] 6)
  obtain⟨N,C,U⟩:=x l d A w;have h:=h.o [1,2,3,4,5] 6;refine Br N C U h λa c H3 h=>⟨_,_,_,rfl,?_⟩
  have D:a=none\/∃k o,a=some ⟨k,o,none⟩:=by
   rcases (ky (F:=star _) h).2 with ⟨B,_⟩|⟨b,pre,post,e',fr,B,_⟩
   .exact .inl B
   .exact .inr ⟨_,_,B⟩
  refine Az D I (h.sl_rd 0 rfl) (hA _ (h.o [] 6)) ⟨_,rfl,?_⟩;intro Jn hJ;refine⟨λt=>?_,λt=>?_⟩
  .refine nh (e:=10) (J λl2 r2 v B h3=>?_) (by decide) f (h.o [3,4,1] 6)
   rw[A]at v;cases v;rw[h3]at t;simp at t
  .refine hJ _ ?_;have L:stB { s1 with kept:=l }=bs:=strB_inj (xG _) P (by simpa using t);refine⟨_,h.r 3,?_⟩;refine h.st 3 rfl rfl ?_;intro H4 h;refine h.st 4 rfl rfl ?_;intro W h;refine⟨rfl,U1 (h.o [3,4,1,2] 6) λS h=>⟨rfl,_,h.r 0,_,h.r 1,M l d A w L y sb _ f h.tl.tl⟩⟩
end
theorem dig(x m:Nat)(hm:0<m):x/(m*256)*256+x/m%256=x/m:=by
 rw[<-Nat.div_div_eq_div_mul];have:=Nat.div_add_mod (x/m) 256;omega
theorem acc_dig{l:List Int}{x m:Nat}(hm:0<m)(a:x<18446744073709551616)(h:kh l=x/(m*256)):kh (l++[((x/m%256:Nat):Int)])=x/m:=by
 rw[wO,h,VJ];have e:=dig x m hm;have:x/m<=x:=Nat.div_le_self _ _;rw[WJ (by omega),e]
theorem Lp{x:Nat}(b:x<18446744073709551616):kh ((List.range 8).map λp=>((x/2^(8*(7-p))%256:Nat):Int))=x:=by
 have key:∀k,k<=8->kh ((List.range k).map λp=>((x/2^(8*(7-p))%256:Nat):Int))=x/2^(8*(8-k)):=by
  intro k
  induction k with
  | zero=>
   intro _;show 0=_;rw[Nat.div_eq_of_lt (by simpa using b)]
  | succ k a=>
   intro c;have a:=a (by omega);rw[List.range_succ,VW];have e:2^(8*(8-k))=2^(8*(7-k))*256:=by
    have:8*(8-k)=8*(7-k)+8:=by omega
    rw[this,W8]
   rw[e]at a;have:=acc_dig (Ya _) b a;have e2:8-(k+1)=7-k:=by omega
   rw[e2];exact this
 have:=key 8 (VF _);simpa using this
theorem U5{z:Int}(h:fZ z):jp (dN z)=z:=by
 have e1:(dN z).take 8=(List.range 8).map λp=>(((cw z%B64).toNat/2^(8*(7-p))%256:Nat):Int):=by
  apply W9
  .simp [dN]
  .intro i d a;have hi:i<8:=by simpa using a
   simp only[dN,List.getElem_take,W3,YJ];unfold wNat
   rw[V5 hi]
 have e2:(dN z).drop 8=(List.range 8).map λp=>(((wlo z).toNat/2^(8*(7-p))%256:Nat):Int):=by
  apply W9
  .simp [dN]
  .intro i d a;have hi:i<8:=by simpa using a
   simp only[dN,List.getElem_drop,W3,YJ];unfold wNat
   rw[nO];have:15-(8+i)=7-i:=by omega
   rw[this]
 have b:=pm z;have c:0<=cw z%B64/\cw z%B64<B64:=⟨Int.emod_nonneg _ (by decide),Int.emod_lt_of_pos _ (by decide)⟩;unfold jp;simp only[cw,wlo,B64]at b c e1 e2 ⊢;rw[e1,e2,Lp (by omega),Lp (by omega)];unfold fZ at h;rw[jM];omega
def jE(h:Nat->Int):Nat->Nat->List (Nat×Nat)
 | _,0=>[]
 | a,n+1=>(if h a=0 then [] else [(a,(h a).toNat)])++jE h (a+1) n
def flP(l:List (Nat×Nat)):List Nat:=l.flatMap λp=>[p.1,p.2]
theorem U6(a b:List (Nat×Nat)):flP (a++b)=flP a++flP b:=by simp[flP]
theorem flP_len(l:List (Nat×Nat)):(flP l).length=2*l.length:=by
 induction l with
 | nil=>rfl
 | cons p r ih=>
  show (p.1::p.2::flP r).length=_;simp only[VE,ih];omega
theorem Lq(h:Nat->Int):∀n a,flP (jE h a n)=(List.range' a n).flatMap λi=>if h i=0 then [] else [i,(h i).toNat]
 | 0,a=>rfl
 | n+1,a=>by
  rw[List.range'_succ,Wg,<-Lq h n (a+1)];show flP ((if h a=0 then [] else [(a,(h a).toNat)])++jE h (a+1) n)=_
  rw[U6];congr 1
  split <;> rfl
theorem fullP_eq(h:Nat->Int)(n:Nat):gQ h n=flP (jE h 0 n):=by
 rw[Lq,<-List.range_eq_range'];rfl
theorem Lr(h:Nat->Int):∀n a,(jE h a n).length<=n
 | 0,a=>VF _
 | n+1,a=>by
  have:=Lr h n (a+1);unfold jE;rw[V7]
  split <;> simp <;> omega
theorem Ls{h:Nat->Int}:∀{n a:Nat} {p:Nat×Nat},p∈jE h a n->a<=p.1/\p.1<a+n/\h p.1≠0/\p.2=(h p.1).toNat
 | 0,a,p,b=>by cases b
 | n+1,a,p,b=>by
  unfold jE at b
  rcases VV.1 b with b|b
  .split at b
   .cases b
   .rename_i h0;rw[VI]at b;subst b;exact⟨VF _,by omega,h0,rfl⟩
  .have:=Ls b;exact⟨by omega,by omega,this.2.2.1,this.2.2.2⟩
theorem Bw{h:Nat->Int}(d:∀i,i<65->0<=h i/\h i<=9223372036854775807):∀{n a:Nat} {c:Option Nat} {g:Nat->Int},a+n<=65->(∀x,c=some x->x<a)->
  mR (jE h a n) c g=some λi=>if a<=i/\i<a+n/\h i≠0 then h i else g i
 | 0,a,c,g,hn,hp=>by
  show some g=_;congr 1;funext i;rw[nO]
 | n+1,a,c,g,hn,hp=>by
  unfold jE
  split
  .rename_i h0;rw[Wl,Bw d (by omega) λx f=>by have:=hp x f;omega]
   congr 1;funext i
   by_cases hi:i=a
   .subst hi;rw[nO,V4 (by simp[h0])]
   .by_cases b:a<=i/\i<a+(n+1)/\h i≠0
    .rw [V5 ⟨by omega,by omega,b.2.2⟩,V5 b]
    .rw [V4 (λe=>b ⟨by omega,by omega,e.2.2⟩),V4 b]
  .rename_i h0;have hb:=d a (by omega);show mR ((a,(h a).toNat)::jE h (a+1) n) c g=_;unfold mR;rw[V4 (by
    intro b
    rcases b with b|b
    .unfold pA at b
     split at b
     .rename_i x;have:=hp x rfl;have:=V8 b;omega
     .cases b
    .omega),nO,Bw d (by omega) λx f=>by cases f;omega]
   congr 1;funext i
   by_cases hi:i=a
   .subst hi;rw[nO,V5 ⟨by omega,by omega,h0⟩];unfold eX;rw[V5 rfl];omega
   .by_cases b:a<=i/\i<a+(n+1)/\h i≠0
    .rw [V5 ⟨by omega,by omega,b.2.2⟩,V5 b]
    .rw [V4 (λe=>b ⟨by omega,by omega,e.2.2⟩),V4 b]
     unfold eX;rw[V4 hi]
theorem Lt(r:List Int):∀{l:List (Nat×Nat)},(∀p∈l,p.1<18446744073709551616/\p.2<18446744073709551616)->mQ l.length ⟨0,eJ (flP l)++r⟩=(l,⟨0,r⟩)
 | [],_=>rfl
 | p::l,h=>by
  have a:=h p (VO ..);have c:=Lt r (l:=l) λq b=>h q (VQ _ b)
  have e:eJ (flP (p::l))++r=bR p.1++(bR p.2++(eJ (flP l)++r)):=by
   show eJ (p.1::p.2::flP l)++r=_;simp[eJ]
  show mQ (l.length+1) _=_;unfold mQ;rw[e,oD a.1];dsimp only;rw[oD a.2];dsimp only;rw[c]
def CH(c:Cl):Prop:=∀i,65<=i->c.h i=0
theorem U7{c:Cl}(wc:WC c)(d:ge c=true)(w:CH c):kr (dj c)=(c,0):=by
 obtain⟨p1,p2,p3,p4⟩:=An d;have C:=wc.n;have b:=wc.cer;have k:=wc.pos;unfold aF at C b k;have s:∀i,i<65->0<=c.h i/\c.h i<=9223372036854775807:=λi hi=>⟨p4 i hi,(wc.h i hi).2⟩
 have t:=Lr c.h 65 0;have f:∀p∈jE c.h 0 65,p.1<18446744073709551616/\p.2<18446744073709551616:=by
  intro p A;obtain⟨a1,a2,a3,a4⟩:=Ls A;have:=s p.1 (by omega);exact⟨by omega,by omega⟩
 have e:dj c=bR c.n.toNat++(bR c.cer.toNat++(bR c.pos.toNat++(cY [c.mn]++(cY [c.mx]++(dd (bG (dN c.sum))++(bR (jE c.h 0 65).length++(eJ (flP (jE c.h 0 65))++[]))))))):=by
  unfold dj;rw[V5 d,fullP_eq,flP_len];have:2*(jE c.h 0 65).length/2=(jE c.h 0 65).length:=by omega
  rw[this];simp[eJ,cY]
 have D:(bG (dN c.sum)).size=16:=by rw[nQ,sq]
 have j:fh (bG (dN c.sum))=dN c.sum:=by
  unfold fh;rw[show (bG (dN c.sum)).data.toList=(dN c.sum).map λn=>UInt8.ofNat n.toNat from strOfNums_data _,Wu]
  apply W9 (by simp);intro i E u;simp only[W3,Function.comp];exact qr (Sr c.sum) i u
 have s1:=λr=>uG wc.mn r
 have a:∀{v:Int} (h:aF v) (r:List Int),dE ⟨0,cY [v]++r⟩=(v,⟨0,r⟩):=by
  intro v h r;unfold dE;rw[intsB1,oD (tU v),KK h]
 rw[e];unfold kr;dsimp only;rw[oD (by omega)];dsimp only;rw[oD (by omega)];dsimp only;rw[oD (by omega)];dsimp only;rw[a wc.mn];dsimp only;rw[a wc.mx];dsimp only;rw[uJ (m:=16) (by omega) (by omega)];dsimp only;rw[Bm (m:=65) (by omega) (by omega)];dsimp only;rw[VJ,Lt [] f];dsimp only;rw[show (dF ⟨0,[]⟩).e=0 from rfl,V4 (by simp)];unfold sE;rw[nO,j,V4 (by rw[sq];simp),Bw s (by omega) (λx y=>by cases y)]
 dsimp only;have B:(λi=>if 0<=i/\i<0+65/\c.h i≠0 then c.h i else Z0 i)=c.h:=by
  funext i
  by_cases h65:i<65
  .by_cases h0:c.h i=0
   .rw [V4 (by simp[h0]),h0]
   .rw [V5 ⟨by omega,by omega,h0⟩]
  .rw [nO,w i (by omega)]
 rw[B,U5 wc.sum,Y2 p1,Y2 p2,Y2 p3];rw[V5 d]
theorem Lu{most:Int}(h0:dX most []):∀{n:Nat} {r a:RS} {m:CM},aI r.bs->fo most n r=.ok (m,a)->n+a.bs.length<=r.bs.length
 | 0,r,a,m,hb,h=>by
  cases h
  omega
 | n+1,r,a,m,hb,h=>by
  unfold fo at h
  cases h1:fo most n r with
  | error e=>rw[h1]at h;cases h
  | ok q=>
  obtain⟨m1,r1⟩:=q;rw[h1]at h;dsimp only at h;have c:=Lu h0 hb h1;have b:=(xE h0 hb h1).2
  cases h2:jd r1 with
  | error e=>rw[h2]at h;cases h
  | ok q=>
  obtain⟨o,r2⟩:=q;rw[h2]at h;dsimp only at h;have:=Ll b h2
  split at h
  .cases h
  .cases h
   omega
theorem Bx{most:Int}{s:RS}{e:Int}:∀{n j:Nat},fo most j s=.error e->j<=n->fo most n s=.error e
 | 0,j,h,hj=>by
  obtain rfl:j=0:=by omega
  exact h
 | n+1,j,h,hj=>by
  rcases Wa n j with a|a
  .obtain rfl:j=n+1:=by omega
   exact h
  .unfold fo;rw[Bx h a]
section
variable {F L:List aE}{H:aC}{K KP:KE}{Q Q':aE}{sb:Nat}{s:aH}
theorem U9{rb b1 b2 b3:Nat}{s1:aH}{bs:List Int}{ba:KQ}{bc:Nat}{n:Int}{r:RS}{B:aE}(i:aM Q B)
  (hA:∀H,aA H F->aP H ba (bs.map U8)) (J:ba=none\/∃k o,ba=some ⟨k,o,none⟩) (N:0<=n/\n<=1024) (h0:dX s1.cfg.cells []) (hb:aI r.bs) (hl:r.bs.length<=1000000000) (S:aI bs)
  (x:∀m f k a l c,fo s1.cfg.cells n.toNat r=.ok (m,f)->dZ f=.ok (k,a)->eE k.toNat a=.ok (l,c)->(dF c).e=0->
   cR { s1 with cm:=m,kept:=l }/\qP { s1 with cm:=m,kept:=l }/\l.length<=50000)
  (D:(∀m f k a l c,fo s1.cfg.cells n.toNat r=.ok (m,f)->dZ f=.ok (k,a)->eE k.toNat a=.ok (l,c)->(dF c).e=0->stB { s1 with cm:=m,kept:=l }=bs->False)->nf Q F K (.error 10))
  (L:∀m f k a l c,fo s1.cfg.cells n.toNat r=.ok (m,f)->dZ f=.ok (k,a)->eE k.toNat a=.ok (l,c)->(dF c).e=0->stB { s1 with cm:=m,kept:=l }=bs->
   nf Q F K (.ok { s1 with cm:=m,kept:=l }))
  (h:aA H (crdA rb r::B::stA B sb { s1 with cm:=[],kept:=[] }::cellsA b1 [PA sb 0] 40::cellsA b2 [aD 0] 50::cellsA b3 [PA rb 0] 388::F)) :
  ∃(u:Int->aC->Prop) (P:Int->aC->Nat),u 0 H/\
   ∀(t:Int),∀A:aC,u t A->mA.l3 ba bs.length bc K b1 b2 b3 n u P t A:=by
 refine⟨λt A=>∃(j:Nat) (m:CM) (c:RS),t=j/\(j:Int)<=n/\fo s1.cfg.cells j r=.ok (m,c)/\
  aA A (crdA rb c::B::stA B sb { s1 with cm:=m,kept:=[] }::cellsA b1 [PA sb 0] 40::cellsA b2 [aD 0] 50::cellsA b3 [PA rb 0] 388::F),
  λt _=>(n-t).toNat,⟨0,[],r,rfl,N.1,rfl,h⟩,?_⟩
 rintro t H1 ⟨j,m,c,rfl,hj,y,h⟩;have h7:=Lu h0 hb y;have s:=xE h0 hb y;unfold mA.l3;refine⟨λE=>?_,λE=>?_⟩
 .have E:=V8 E;refine⟨_,h.q 5,?_⟩;refine Lg h s.2 (by omega) ?_;have b:fo s1.cfg.cells (j+1) r=match jd c with
    | .error e=>.error e
    | .ok (o,r2)=>if (jY s1.cfg.cells m o.1 o.2).2≠0 then .error (jY s1.cfg.cells m o.1 o.2).2 else .ok ((jY s1.cfg.cells m o.1 o.2).1,r2):=by
   rw[fo,y] <;> rfl
  cases hr:jd c with
  | error e=>
   rw[hr]at b;exact λA w h=>nh (D λm f k a l r1 d _ _ _ _=>by rw[Bx b (by omega)]at d;cases d) w i (h.o [2,3,0] 5)
  | ok q=>
  obtain⟨o,r2⟩:=q;rw[hr]at b;dsimp only at b;have G:=Bv s.2 hr;intro Z R C M h;refine⟨_,_,_,_,_,_,_,_,_,_,rfl,?_⟩;refine h.al λb7 _ h=>?_
  refine h.al λb8 _ h=>?_
  refine h.st 1 rfl rfl ?_;intro H3 h;refine h.sta 0 rfl rfl λH4 h=>?_
  have h:=h.o [4,0,1,2,3,5,6,7] 8;obtain⟨p,h⟩:=cX.1 h;refine⟨_,h.r 13,cZ ⟨_,h.r 0,_,_,h.q 10,_,_,_,_,_,_,_,_,h.rda 9 rfl,?_⟩⟩;refine RM s.1.1 G.1 (h.o [5,6,0,1,2,3,4,7,8,11,12,13,14,15] 16) λY h=>⟨_,rfl,?_⟩
  refine j7 (λw=>⟨rfl,?_⟩) λw=>nh (D λm2 f k a l r1 d _ _ _ _=>by
   rw[V5 w]at b;rw[Bx b (by omega)]at d;cases d) w i (h.o [11,12,10] 14)
  rw[V4 (by simpa using w)]at b;have hw:i64.wrap ((j:Int)+1)=((j+1:Nat):Int):=by rw[aJ];omega
  rw[hw];refine⟨⟨j+1,_,r2,rfl,by omega,b,?_⟩,by dsimp only;omega⟩;have h:=h.o [2,3,4,5,6,0,1,7,8,9,10,11,12,13] 14;have h:aA Y (stA B sb { s1 with cm:=(jY s1.cfg.cells m o.1 o.2).1,kept:=[] }::_):=cX.2 ⟨p,h⟩;exact h.o [1,2,0,3,4,5] 6
 .have V:=V9 E;have I:j=n.toNat:=by omega
  subst I;refine⟨_,h.q 5,?_⟩;refine ut h s.2 (by omega) ?_
  cases hr:dZ c with
  | error e=>
   exact λA w h=>nh (D λm2 f k a l r1 d v _ _ _=>by rw[y]at d;cases d;rw[hr]at v;cases v) w i (h.o [2,3,0] 5)
  | ok q=>
  obtain⟨k,a⟩:=q;intro Z R C M h;have h6:a.bs.length<=c.bs.length:=uL hr;have O:0<=k/\k<18446744073709551616:=by
   rw[(ip hr).2.1];have:=wr s.2;omega
  refine⟨_,rfl,?_⟩;exact U4 (s1:={ s1 with cm:=m }) i hA J O C (by omega) S (λl f d v=>x _ _ _ _ _ _ y hr d v) (λN=>D λm2 f k2 U l r1 d v T W h5=>by
   rw[y]at d;cases d;rw[hr]at v;cases v;exact N _ _ T W h5) (λl f d v T=>L _ _ _ _ _ _ y hr d v T) h
end
theorem okR_len{α:Type}{s a:RS}{x y:α}(h:okR s x=.ok (y,a)):a.bs.length=s.bs.length:=by rw[(ip h).1]
theorem UA{s c:RS}{x:Pv}(h:ja s=.ok (x,c)):c.bs.length<=s.bs.length:=by
 unfold ja at h
 cases h1:cG s with
 | error e'=>rw[h1]at h;cases h
 | ok q=>
  obtain⟨a,s1⟩:=q;rw[h1]at h;dsimp only at h
  cases h2:gj s1 with
  | error e'=>rw[h2]at h;cases h
  | ok q=>
   obtain⟨b,s2⟩:=q;rw[h2]at h;dsimp only at h;have d:=okR_len h;have f:=gl h1;have e:=uK h2;have i:=At s2;dsimp only at d;omega
theorem Lv{hs:HS Pv}{s c:RS}{x:HS Pv}(h:lj hs s=.ok (x,c)):c.bs.length<=s.bs.length:=by
 unfold lj at h
 (repeat' split at h) <;> first|(cases h;done)|(cases h;rename_i a b;exact VT (UA ‹_›) (gl ‹_›))
theorem Lw{s a:RS}{x:bQ}(h:smpR s=.ok (x,a)):a.bs.length<=s.bs.length:=by
 unfold smpR at h
 (repeat' split at h) <;> first|(cases h;done)|(cases h;exact VT (gl ‹_›) (VT (gl ‹_›) (VT (gl ‹_›) (gl ‹_›))))|exact VT (gl ‹_›) (VT (gl ‹_›) (VT (gl ‹_›) (gl ‹_›)))
theorem xH:∀{n:Nat} {s a:RS} {x:List bQ},jt n s=.ok (x,a)->a.bs.length<=s.bs.length
 | 0,s,a,x,h=>by cases h;exact VF _
 | n+1,s,a,x,h=>by
  unfold jt at h
  (repeat' split at h) <;> first|(cases h;done)|(cases h;exact VT (Lw ‹_›) (xH ‹_›))|exact VT (Lw ‹_›) (xH ‹_›)
theorem xI{hs:HS Pv}:∀{n:Nat} {s a:RS} {x:HS Pv},iG hs n s=.ok (x,a)->a.bs.length<=s.bs.length
 | 0,s,a,x,h=>by cases h;exact VF _
 | n+1,s,a,x,h=>by
  unfold iG at h
  (repeat' split at h) <;> first|(cases h;done)|(cases h;exact VT (Lv ‹_›) (xI ‹_›))|exact VT (Lv ‹_›) (xI ‹_›)
theorem Lx{c:bD}{a b:Int}{d:Bool}{l:List bQ}{s e:RS}{x:br}(h:oF c a d b l s=.ok (x,e)):e.bs.length<=s.bs.length:=by
 unfold oF at h
 (repeat' split at h) <;> first|(cases h;done)|(cases h;exact VT (xI ‹_›) (VT (sM ‹_›) (gl ‹_›)))|exact VT (xI ‹_›) (VT (sM ‹_›) (gl ‹_›))
theorem Ly{c:bD}{a:Int}{s b:RS}{x:br}(h:nW c a s=.ok (x,b)):b.bs.length<=s.bs.length:=by
 unfold nW at h
 (repeat' split at h) <;> first|(cases h;done)|(cases h;exact VT (Lx ‹_›) (VT (xH ‹_›) (VT (sM ‹_›) (VT (gl ‹_›) (uL ‹_›)))))|exact VT (Lx ‹_›) (VT (xH ‹_›) (VT (sM ‹_›) (VT (gl ‹_›) (uL ‹_›))))
theorem Lz{c:bD}{s a:RS}{x:br}(h:ne c s=.ok (x,a)):a.bs.length<=s.bs.length:=by
 unfold ne at h
 (repeat' split at h) <;> first|(cases h;done)|(cases h;exact VT (Ly ‹_›) (uK ‹_›))|exact VT (Ly ‹_›) (uK ‹_›)
theorem L3{c:bD}{t:Int}{s a:RS}{x:Fl×br}(h:flR c t s=.ok (x,a)):a.bs.length<=s.bs.length:=by
 unfold flR at h
 (repeat' split at h) <;> first|(cases h;done)|(cases h;exact VT (Lz ‹_›) (uL ‹_›))|exact VT (Lz ‹_›) (uL ‹_›)
theorem L4{s0:aH}{a:Int}{s b:RS}{x:List En×Fl×br}(h:kJ s0 a s=.ok (x,b)):b.bs.length<=s.bs.length:=by
 unfold kJ at h
 (repeat' split at h) <;> first|(cases h;done)|(cases h;exact VT (L3 ‹_›) (VT (sO ‹_›) (VT (gl ‹_›) (VT (gl ‹_›) (gl ‹_›)))))|exact VT (L3 ‹_›) (VT (sO ‹_›) (VT (gl ‹_›) (VT (gl ‹_›) (gl ‹_›))))
theorem By{s0:aH}:∀{n:Nat} {r a:RS} {x:PAg},fm s0 n r=.ok (x,a)->a.bs.length<=r.bs.length
 | 0,s,s',x,h=>by cases h;exact VF _
 | n+1,s,s',x,h=>by
  unfold fm at h
  (repeat' split at h) <;> first|(cases h;done)|(cases h;exact VT (L4 ‹_›) (VT (gl ‹_›) (By ‹_›)))|exact VT (L4 ‹_›) (VT (gl ‹_›) (By ‹_›))
theorem Bz{s0:aH}{s:RS}{e:Int}:∀{n j:Nat},fm s0 j s=.error e->j<=n->fm s0 n s=.error e
 | 0,j,h,hj=>by
  obtain rfl:j=0:=by omega
  exact h
 | n+1,j,h,hj=>by
  rcases Wa n j with a|a
  .obtain rfl:j=n+1:=by omega
   exact h
  .unfold fm;rw[Bz h a]
section
variable {F L:List aE}{H:aC}{K KP:KE}{Q Q':aE}{sb:Nat}{s:aH}
theorem UB{rb b1 b2 b3 b4:Nat}{s0:aH}{bs:List Int}{ba:KQ}{bc:Nat}{n b value:Int}{r:RS}{B:aE}(d:aM Q B)
  (hA:∀H,aA H F->aP H ba (bs.map U8)) (U:ba=none\/∃k o,ba=some ⟨k,o,none⟩) (ok:cR s0) (N:s0.cm=[]) (l0:s0.kept=[]) (Y:0<=n/\n<=64) (D:1<=s0.ms.lag/\s0.ms.lag<=1099511627776) (hm:isT b) (hb:aI r.bs) (hl:r.bs.length<=1000000000) (h0:aI bs)
  (J:∀x r7 m u cm f k c l i,fm s0 n.toNat r=.ok (x,r7)->(b-s0.ms.lag<=value/\value<=b)->dO 1024 r7=.ok (m,u)->fo s0.cfg.cells m.toNat u=.ok (cm,f)->dZ f=.ok (k,c)->eE k.toNat c=.ok (l,i)->(dF i).e=0->
   cR { s0 with rows:=x.rows,sts:=x.sts,ms:=⟨s0.ms.lag,b,value,x.fls⟩,cm:=cm,kept:=l }/\qP { s0 with rows:=x.rows,sts:=x.sts,ms:=⟨s0.ms.lag,b,value,x.fls⟩,cm:=cm,kept:=l }/\l.length<=50000)
  (O:(∀x r7 m u cm f k c l i,fm s0 n.toNat r=.ok (x,r7)->(b-s0.ms.lag<=value/\value<=b)->dO 1024 r7=.ok (m,u)->fo s0.cfg.cells m.toNat u=.ok (cm,f)->dZ f=.ok (k,c)->eE k.toNat c=.ok (l,i)->(dF i).e=0->
   stB { s0 with rows:=x.rows,sts:=x.sts,ms:=⟨s0.ms.lag,b,value,x.fls⟩,cm:=cm,kept:=l }=bs->False)->nf Q F K (.error 10))
  (V:∀x r7 m u cm f k c l i,fm s0 n.toNat r=.ok (x,r7)->(b-s0.ms.lag<=value/\value<=b)->dO 1024 r7=.ok (m,u)->fo s0.cfg.cells m.toNat u=.ok (cm,f)->dZ f=.ok (k,c)->eE k.toNat c=.ok (l,i)->(dF i).e=0->
   stB { s0 with rows:=x.rows,sts:=x.sts,ms:=⟨s0.ms.lag,b,value,x.fls⟩,cm:=cm,kept:=l }=bs->
   nf Q F K (.ok { s0 with rows:=x.rows,sts:=x.sts,ms:=⟨s0.ms.lag,b,value,x.fls⟩,cm:=cm,kept:=l }))
  (h:aA H (crdA rb r::B::stA B sb s0::Ma.mapF b4 []::cellsA b1 [PA sb 0] 40::cellsA b2 [aD 0] 50::cellsA b3 [PA rb 0] 388::F)) :
  ∃(Inv:Int->aC->Prop) (mu:Int->aC->Nat),Inv 0 H/\
   ∀(t:Int),∀L:aC,Inv t L->mA.l4 ba bs.length bc K b1 b2 b3 b value b4 n Inv mu t L:=by
 refine⟨λt L=>∃(j:Nat) (x:PAg) (i:RS) (B:aE) (p:SAd),t=j/\(j:Int)<=n/\fm s0 j r=.ok (x,i)/\aI i.bs/\aM Q B/\
  aA L (crdA rb i::B::cellsA sb (dr s0 p) 145::Ro.rollC p.rb p.rm s0.cfg.agents::Ro.mapE p.rm x.rows::strmA B p.tm x.sts::Ma.markC p.mb p.mm s0.ms::Ma.mapF p.mm s0.ms.m::shC p.hb p.hm s0.cfg.cells::cz p.hm s0.cm::slA 164 74 p.ka s0.kept.length p.kc (flat cJ s0.kept)::
   Ma.mapF b4 x.fls::cellsA b1 [PA sb 0] 40::cellsA b2 [aD 0] 50::cellsA b3 [PA rb 0] 388::F),
  λt _=>(n-t).toNat,?_,?_⟩
 .have h:=h.o [2,0,1,3,4,5,6] 7;obtain⟨p,h⟩:=cX.1 h;exact⟨0,⟨s0.rows,s0.sts,[]⟩,r,B,p,rfl,Y.1,rfl,hb,d,h.o [9,10,0,1,2,7,3,4,5,6,8,11,12,13,14] 15⟩
 rintro t H1 ⟨j,x,i,B,p,rfl,hj,E,I,d,h⟩;have y2:=By E;have S:=Bu ok E;unfold mA.l4;refine⟨λR=>?_,λR=>?_⟩
 .have R:=V8 R;refine⟨_,h.q 14,?_⟩;refine kj h I (by omega) ?_
  cases hr:cG i with
  | error e=>
   have j3:fm s0 (j+1) r=.error e:=by
    rw[fm,E];dsimp only;rw[hr]
   exact λL w h=>nh (O λx2 r7 m u cm f k c l r1 A _ _ _ _ _ _ _=>by rw[Bz j3 (by omega)]at A;cases A) w d (h.o [11,12,0] 14)
  | ok q=>
  obtain⟨a,r2⟩:=q;intro H2 u8 j2 W h;refine⟨_,rfl,_,h.q 14,_,h.r 12,?_⟩;refine Uz (s:={ s0 with rows:=x.rows,sts:=x.sts }) (a:=a) ok.cfg S.rows S.len j2 W ?_ h;have C:fm s0 (j+1) r=match kJ { s0 with rows:=x.rows,sts:=x.sts } a r2 with
    | .error e=>.error e
    | .ok (y,r3)=>.ok (⟨y.1,x.sts.set a.toNat (some y.2.2),mset a y.2.1 x.fls⟩,r3):=by
   rw[fm,E];dsimp only;rw[hr] <;> rfl
  cases hq:kJ { s0 with rows:=x.rows,sts:=x.sts } a r2 with
  | error e=>
   rw[hq]at C;exact λQ2 L w hs h=>nh (O λx2 r7 m u cm f k c l r1 A _ _ _ _ _ _ _=>by rw[Bz C (by omega)]at A;cases A) w (d.trans hs) (h.o [7,8,0] 10)
  | ok q=>
  obtain⟨y,r3⟩:=q;rw[hq]at C;intro Q2 H3 hs Z M l5 h;refine⟨_,_,_,_,rfl,?_⟩;refine h.mp_update (α:=Fl) (v:=y.2.1) Ma.mt45 Ma.ko2 11 rfl λH4 h=>?_
  have hw:i64.wrap ((j:Int)+1)=((j+1:Nat):Int):=by rw[aJ];omega
  rw[hw];refine⟨⟨j+1,_,r3,Q2,p,rfl,by omega,C,M,d.trans hs,?_⟩,by dsimp only;omega⟩;exact h.o [1,0,2,4,5,3,6,7,8,9,10,11,12,13,14] 15
 .have l6:=V9 R;have T:j=n.toNat:=by omega
  subst T;refine⟨_,h.r 12,cZ ⟨_,h.r 2,?_⟩⟩
  by_cases hv:b-s0.ms.lag<=value/\value<=b
  .refine Ma.Set_spec hm D hv (λp hp=>⟨(S.fls p hp).1,(S.fls p hp).2.1⟩) (h.o [6,7,11,0,1,2,3,4,5,8,9,10,12,13,14] 15) λh9 H2 h=>⟨_,rfl,?_⟩
   refine j7 (λw=>⟨rfl,_,h.q 14,?_⟩) λw=>V6 rfl w
   refine uv (by decide) (h.o [3,4,5,6,7,8,0,1,9,10,11,12,13,14] 15) I (by omega) ?_
   cases hr:dO 1024 i with
   | error e=>
    exact λL w h=>nh (O λx2 r7 m u cm f k c l r1 A _ P _ _ _ _ _=>by rw[E]at A;cases A;rw[hr]at P;cases P) w d (h.o [10,11,0] 13)
   | ok q=>
   obtain⟨m,u⟩:=q;intro H3 Z M l5 h;have r0:=sM hr;have j1:0<=m/\m<=1024:=by rw[(ip hr).2.1];exact AU I (by decide)
   refine⟨_,rfl,?_⟩;have h:=h.o [2,3,4,6,7,8,9,5,10,0,1,11,12,13] 14;have h:aA H3 (stA B sb { s0 with rows:=x.rows,sts:=x.sts,ms:=⟨s0.ms.lag,b,value,x.fls⟩,cm:=s0.cm,kept:=s0.kept }::_):=cX.2 ⟨{ p with mm:=h9 },h⟩;rw[N,l0]at h;exact U9 (s1:={ s0 with rows:=x.rows,sts:=x.sts,ms:=⟨s0.ms.lag,b,value,x.fls⟩ }) d hA U j1 (by have:=ok.sh;rwa[N]at this) M (by omega) h0
    (λcm f k c l G=>J x i m u cm f k c l G E hv hr) (λY=>O λx2 r7 m u cm f k c l r1 A _ P h4 h5 h6 h7 h8=>by
     rw[E]at A;cases A;rw[hr]at P;cases P;exact Y _ _ _ _ _ _ h4 h5 h6 h7 h8) (λcm f k c l G=>V x i m u cm f k c l G E hv hr) (h.o [1,2,0,3,4,5] 6)
  .refine MSet_err hm D hv (h.o [6,0,1,2,3,4,5,7,8,9,10,11,12,13,14] 15) ⟨_,rfl,?_⟩;refine j7 (λw=>V6 w (by decide)) λw=>nh (O λx2 r7 m u cm f k c l r1 A h2 _ _ _ _ _ _=>hv h2) w d (h.o [12,13,1] 15)
end
theorem B0{s a:RS}{x:Int}(hb:aI s.bs)(h:dZ s=.ok (x,a)):aI a.bs:=by rw[(ip h).1];exact gK hb
theorem lk{s a:RS}{x:Int}(hb:aI s.bs)(h:cG s=.ok (x,a)):aI a.bs:=by rw[(ip h).1];exact gK hb
theorem B1{s a:RS}{x:Int}(hb:aI s.bs)(h:gj s=.ok (x,a)):aI a.bs:=by rw[(ip h).1];exact gK hb
theorem xJ{s a:RS}{m x:Int}(hb:aI s.bs)(h:dO m s=.ok (x,a)):aI a.bs:=by rw[(ip h).1];exact rU hb
theorem uM{s b:RS}{m x:Int}(hb:aI s.bs)(h:upR m s=.ok (x,b)):aI b.bs:=by
 unfold upR at h
 cases h1:cG s with
 | error e=>rw[h1]at h;cases h
 | ok q=>
  obtain⟨a,s1⟩:=q;rw[h1]at h;dsimp only at h
  split at h
  .cases h;exact lk hb h1
  .cases h
theorem UC{s c:RS}{x:Pv}(hb:aI s.bs)(h:ja s=.ok (x,c)):aI c.bs:=by
 unfold ja at h
 cases h1:cG s with
 | error e'=>rw[h1]at h;cases h
 | ok q=>
  obtain⟨a,s1⟩:=q;rw[h1]at h;dsimp only at h
  cases h2:gj s1 with
  | error e'=>rw[h2]at h;cases h
  | ok q=>
   obtain⟨b,s2⟩:=q;rw[h2]at h;dsimp only at h;rw[(ip h).1];exact As (B1 (lk hb h1) h2)
theorem waitR_by{hs:HS Pv}{s a:RS}{x:HS Pv}(hb:aI s.bs)(h:lj hs s=.ok (x,a)):aI a.bs:=by
 unfold lj at h
 (repeat' split at h) <;> first|(cases h;done)|(cases h;exact UC (lk hb ‹_›) ‹_›)
theorem smpR_by{s a:RS}{x:bQ}(hb:aI s.bs)(h:smpR s=.ok (x,a)):aI a.bs:=by
 unfold smpR at h
 (repeat' split at h) <;> first|(cases h;done)|(cases h;exact lk (lk (lk (lk hb ‹_›) ‹_›) ‹_›) ‹_›)
theorem L5:∀{n:Nat} {s a:RS} {x:List bQ},aI s.bs->jt n s=.ok (x,a)->aI a.bs
 | 0,s,a,x,hb,h=>by cases h;exact hb
 | n+1,s,a,x,hb,h=>by
  unfold jt at h
  (repeat' split at h) <;> first|(cases h;done)|(cases h;exact smpR_by (L5 hb ‹_›) ‹_›)
theorem L6{hs:HS Pv}:∀{n:Nat} {s a:RS} {x:HS Pv},aI s.bs->iG hs n s=.ok (x,a)->aI a.bs
 | 0,s,a,x,hb,h=>by cases h;exact hb
 | n+1,s,a,x,hb,h=>by
  unfold iG at h
  (repeat' split at h) <;> first|(cases h;done)|exact waitR_by (L6 hb ‹_›) h
theorem strR3_by{c:bD}{a b:Int}{d:Bool}{l:List bQ}{s e:RS}{x:br}(hb:aI s.bs)(h:oF c a d b l s=.ok (x,e)):aI e.bs:=by
 unfold oF at h
 (repeat' split at h) <;> first|(cases h;done)|(cases h;exact L6 (xJ (lk hb ‹_›) ‹_›) ‹_›)
theorem strR2_by{c:bD}{a:Int}{s b:RS}{x:br}(hb:aI s.bs)(h:nW c a s=.ok (x,b)):aI b.bs:=by
 unfold nW at h
 (repeat' split at h) <;> first|(cases h;done)|exact strR3_by (L5 (xJ (lk (B0 hb ‹_›) ‹_›) ‹_›) ‹_›) h
theorem strR_by{c:bD}{s a:RS}{x:br}(hb:aI s.bs)(h:ne c s=.ok (x,a)):aI a.bs:=by
 unfold ne at h
 (repeat' split at h) <;> first|(cases h;done)|exact strR2_by (B1 hb ‹_›) h
theorem flR_by{c:bD}{t:Int}{s a:RS}{x:Fl×br}(hb:aI s.bs)(h:flR c t s=.ok (x,a)):aI a.bs:=by
 unfold flR at h
 (repeat' split at h) <;> first|(cases h;done)|(cases h;exact strR_by (B0 hb ‹_›) ‹_›)
theorem agtR_by{s0:aH}{a:Int}{s b:RS}{x:List En×Fl×br}(hb:aI s.bs)(h:kJ s0 a s=.ok (x,b)):aI b.bs:=by
 unfold kJ at h
 (repeat' split at h) <;> first|(cases h;done)|(cases h;exact flR_by (uM (lk (lk (lk hb ‹_›) ‹_›) ‹_›) ‹_›) ‹_›)
theorem L7{s0:aH}:∀{n:Nat} {r a:RS} {x:PAg},aI r.bs->fm s0 n r=.ok (x,a)->aI a.bs
 | 0,s,s',x,hb,h=>by cases h;exact hb
 | n+1,s,s',x,hb,h=>by
  unfold fm at h
  (repeat' split at h) <;> first|(cases h;done)|(cases h;exact agtR_by (lk (L7 hb ‹_›) ‹_›) ‹_›)
theorem UD{c:bD}{bs:List Int}{s:aH}(hb:aI bs)(a:jB c)(h:kK c bs=.ok s):cR s:=by
 unfold kK at h
 cases h1:upR 4611686018427387903 ⟨0,bs⟩ with
 | error e=>rw[h1]at h;cases h
 | ok q=>
 obtain⟨now,r1⟩:=q;have b1:=uM hb h1;rw[h1]at h;dsimp only at h
 cases h2:upR 1099511627776 r1 with
 | error e=>rw[h2]at h;cases h
 | ok q=>
 obtain⟨boots,r2⟩:=q;have b2:=uM b1 h2;rw[h2]at h;dsimp only at h
 cases h3:upR 1099511627776 r2 with
 | error e=>rw[h3]at h;cases h
 | ok q=>
 obtain⟨sunk,r3⟩:=q;have b3:=uM b2 h3;rw[h3]at h;dsimp only at h
 cases h4:upR now r3 with
 | error e=>rw[h4]at h;cases h
 | ok q=>
 obtain⟨b,r4⟩:=q;have b4:=uM b3 h4;rw[h4]at h;dsimp only at h
 cases h5:gj r4 with
 | error e=>rw[h5]at h;cases h
 | ok q=>
 obtain⟨value,r5⟩:=q;have b5:=B1 b4 h5;rw[h5]at h;dsimp only at h
 cases h6:dO 64 r5 with
 | error e=>rw[h6]at h;cases h
 | ok q=>
 obtain⟨n,r6⟩:=q;have b6:=xJ b5 h6;rw[h6]at h;dsimp only at h;have i1:=oG h1;have i2:=oG h2;have i3:=oG h3;have i4:=oG h4;have ok0:cR { bT c with now:=now,boots:=boots,sunk:=sunk }:=(qN a).upd (now:=now) (ms:=(bT c).ms) (cm:=(bT c).cm) (kept:=(bT c).kept) (sunk:=sunk) (boots:=boots) i1 (qN a).ms rfl (qN a).sh (qN a).kept i3.1 i2
 cases h7:fm { bT c with now:=now,boots:=boots,sunk:=sunk } n.toNat r6 with
 | error e=>rw[h7]at h;cases h
 | ok q=>
 obtain⟨x,r7⟩:=q;have b7:=L7 b6 h7;have d:=Bu ok0 h7;rw[h7]at h;dsimp only at h
 split at h
 .cases h
 rename_i t;have t:=Decidable.not_not.1 t
 cases h8:dO 1024 r7 with
 | error e=>rw[h8]at h;cases h
 | ok q=>
 obtain⟨m,A⟩:=q;have b8:=xJ b7 h8;rw[h8]at h;dsimp only at h
 cases h9:fo c.cells m.toNat A with
 | error e=>rw[h9]at h;cases h
 | ok q=>
 obtain⟨cm,y⟩:=q;have g9:=xE (qN a).sh b8 h9;rw[h9]at h;dsimp only at h
 cases h10:dZ y with
 | error e=>rw[h10]at h;cases h
 | ok q=>
 obtain⟨k,f⟩:=q;have j:=B0 g9.2 h10;rw[h10]at h;dsimp only at h
 cases h11:eE k.toNat f with
 | error e=>rw[h11]at h;cases h
 | ok q=>
 obtain⟨kept,w⟩:=q;have i:=xF j h11;rw[h11]at h;dsimp only at h
 split at h
 .cases h
 cases h
 have u:=a.lag;have hm:isT b:=⟨i4.1,by show b<=_;omega⟩;exact⟨a,i1,i2,i3.1,d.rows,⟨u.1,u.2,hm,by show -c.lag<=value;omega,by show value<=_;omega,d.nd,λp v=>⟨(d.fls p v).1,(d.fls p v).2.1⟩⟩,rfl,g9.1.sh,d.len,d.sts,d.reg,i.1⟩
section
variable {F L:List aE}{H:aC}{K KP:KE}{Q Q':aE}{sb:Nat}{s:aH}
theorem UE{c:bD}{bs:List Int}{ba:KQ}{bc:Nat}(h:aA H (Q::F))
  (W:∀H,aA H F->aP H ba (bs.map U8)) (L:ba=none\/∃k o,ba=some ⟨k,o,none⟩) (G:aI bs) (hl:bs.length<=1000000000)
  (D:fC c=true->∀s,kK c bs=.ok s->qP s/\s.kept.length<=50000)
  (k1:fC c=false->∀C,aA C (Q::F)->K (.tuple #[.pointer none,aD 11]) C)
  (k2:fC c=true->∀e,pH c bs=.error e->nf Q F K (.error 10))
  (k3:fC c=true->∀s,pH c bs=.ok s->nf Q F K (.ok s)) :
  CF 103 #[.agg ⟨oA c⟩,.slice ba bs.length bc] H K:=by
 refine OT ?_;refine h.al λb0 _ h=>?_
 refine h.al λb1 _ h=>?_
 refine h.al λb2 _ h=>?_
 refine⟨_,_,_,_,_,_,_,_,_,h.q 2,?_⟩;refine K0 (Q:=Q) (c:=c) h (λB H1 h=>?_) λB sb H1 h=>?_
 .refine⟨_,_,rfl,?_⟩;refine h.st 1 rfl rfl ?_;intro H2 h;refine h.st 0 rfl rfl ?_;intro H3 h;refine⟨_,h.r 0,λ_=>?_,λM=>V6 M (by simp)⟩
  refine⟨_,h.r 0,?_⟩;refine h.st 1 rfl rfl ?_;intro H4 h;refine⟨h.r 0,?_⟩;refine h.st 0 rfl rfl ?_;intro H5 h;exact⟨_,h.r 1,_,h.r 0,k1 B _ (h.o [3] 4)⟩
 have I:=uC B;have ok0:=qN I;refine⟨_,_,rfl,?_⟩;refine h.st 2 rfl rfl ?_;intro H2 h;refine h.st 1 rfl rfl ?_;intro H3 h;refine⟨_,h.r 1,λM=>V6 M (by simp),λ_=>?_⟩
 refine rQ h (λH h=>W H (h.o [] 5)) (by omega) λrb H4 h=>⟨_,rfl,?_⟩
 refine h.al λb3 _ h=>?_
 refine h.st 0 rfl rfl ?_;intro H5 h;refine⟨_,h.r 4,_,h.r 4,_,h.r 4,_,h.q 0,_,h.q 0,_,h.q 0,?_⟩;have h:=h.o [1,0,2,3,4,6] 7;have f:=λe (t:kK c bs=.error e)=>k2 B 10 (by unfold pH;rw[V4 (by simp[B]),t])
 have pan:∀{e:Int} {H:aC} {sv:aH} {b1 b2 b3 rb:Nat} {v1:Int} {v:KQ},nf Q F K (.error 10)->e≠0->aA H (cellsA b3 [PA rb 0] 388::stA Q sb sv::cellsA b2 [aD v1] 50::cellsA b1 [.pointer v] 40::Q::F)->
   bI 196 X.calls=true/\cC Tryz.prog 196 [(PA b1 0),(PA b2 0)] (bi (pnV e) false) H λN w=>N=bi (pnV e) true/\
   ∃y,aL w b1 0=some (.pointer y)/\∃A,aL w b2 0=some (aD A)/\K (.tuple #[(.pointer y),(aD A)]) w:=
  λP t h=>nh P t (aM.refl Q) (h.o [3,2,4] 5)
 unfold kK at f;refine sx h G (by show bs.length<=_;omega) ?_
 cases h1:upR 4611686018427387903 ⟨0,bs⟩ with
 | error e=>rw[h1]at f;exact λC t h=>pan (f _ rfl) t h
 | ok q=>
 obtain⟨now,r1⟩:=q;rw[h1]at f;dsimp only at f;intro H6 e1 V l1 h;refine⟨_,rfl,h.q 1,h.q 1,h.r 4,h.r 4,h.r 4,?_⟩;refine sx h V l1 ?_
 cases h2:upR 1099511627776 r1 with
 | error e=>rw[h2]at f;exact λC t h=>pan (f _ rfl) t h
 | ok q=>
 obtain⟨boots,r2⟩:=q;rw[h2]at f;dsimp only at f;intro H7 e2 R l2 h;refine⟨_,rfl,h.q 1,h.r 4,h.r 4,h.r 4,?_⟩;refine sx h R l2 ?_
 cases h3:upR 1099511627776 r2 with
 | error e=>rw[h3]at f;exact λC t h=>pan (f _ rfl) t h
 | ok q=>
 obtain⟨sunk,r3⟩:=q;rw[h3]at f;dsimp only at f;intro H8 e3 S l3 h;have i1:=oG h1;have i2:=oG h2;have i3:=oG h3;have okN:cR { bT c with now:=now,boots:=boots,sunk:=sunk }:=ok0.upd (now:=now) (ms:=(bT c).ms) (cm:=(bT c).cm) (kept:=(bT c).kept) (sunk:=sunk) (boots:=boots) i1 ok0.ms rfl ok0.sh ok0.kept i3.1 i2;refine⟨_,rfl,h.r 4,h.r 4,h.r 4,cZ ?_⟩;have h:=h.o [2,0,1,3,4,5] 6;obtain⟨p,h⟩:=cX.1 h;refine h.st 0 rfl rfl ?_;intro H9 h;refine⟨h.r 12,h.r 12,cZ ?_⟩;refine h.st 0 rfl rfl ?_;intro Z h;refine⟨h.r 12,cZ ?_⟩;refine h.st 0 rfl rfl ?_;intro O h;refine⟨_,h.q 10,_,h.r 12,cZ ⟨_,h.r 0,_,h.q 10,?_⟩⟩;have h:aA O (stA Q sb { bT c with now:=now,boots:=boots,sunk:=sunk }::_):=cX.2 ⟨p,h⟩;have h:=h.o [1,2,0,3,4,5] 6;refine sx h S l3 ?_
 cases h4:upR now r3 with
 | error e=>rw[h4]at f;exact λC t h=>pan (f _ rfl) t h
 | ok q=>
 obtain⟨b,r4⟩:=q;rw[h4]at f;dsimp only at f;intro h7 e4 T l4 h;refine⟨_,rfl,h.q 1,?_⟩;refine uu h T l4 ?_
 cases h5:gj r4 with
 | error e=>rw[h5]at f;exact λC t h=>pan (f _ rfl) t h
 | ok q=>
 obtain⟨value,r5⟩:=q;rw[h5]at f;dsimp only at f;intro h8 e5 J l5 h;refine⟨_,rfl,?_⟩;refine h.alm aD mP λb4 _ h=>?_
 refine⟨_,h.q 2,?_⟩;have h:=h.o [1,2,3,4,5,6,0] 7;refine uv (by decide) h J l5 ?_
 cases h6:dO 64 r5 with
 | error e=>rw[h6]at f;exact λC t h=>pan (f _ rfl) t (h.o [0,1,2,3,4] 6)
 | ok q=>
 obtain⟨n,r6⟩:=q;rw[h6]at f;dsimp only at f;intro h0 e6 U l6 h;have i4:=oG h4;have E:0<=n/\n<=64:=by rw[(ip h6).2.1];exact AU J (by decide)
 have t1:=sO h1;have t2:=sO h2;have t3:=sO h3;have t4:=sO h4;have t5:=uK h5;have t6:=sM h6;dsimp only at t1;refine⟨_,rfl,?_⟩;have Y:∀x r7 m j cm i k d l u,fm { bT c with now:=now,boots:=boots,sunk:=sunk } n.toNat r6=.ok (x,r7)->(b-c.lag<=value/\value<=b)->dO 1024 r7=.ok (m,j)->fo c.cells m.toNat j=.ok (cm,i)->dZ i=.ok (k,d)->eE k.toNat d=.ok (l,u)->(dF u).e=0->
   kK c bs=.ok ⟨c,now,boots,sunk,x.rows,⟨c.lag,b,value,x.fls⟩,cm,x.sts,l⟩:=by
  intro x r7 m j cm i k d l u a1 a2 a3 a4 a5 a6 a7;unfold kK;rw[h1];dsimp only;rw[h2];dsimp only;rw[h3];dsimp only;rw[h4];dsimp only;rw[h5];dsimp only;rw[h6];dsimp only;rw[a1];dsimp only;rw[V4 (λE=>E a2),a3];dsimp only
  rw[a4];dsimp only;rw[a5];dsimp only;rw[a6];dsimp only;rw[V4 (λE=>E a7)]
 have P2:∀s,kK c bs=.ok s->∃x r7 m j cm i k d l u,fm { bT c with now:=now,boots:=boots,sunk:=sunk } n.toNat r6=.ok (x,r7)/\(b-c.lag<=value/\value<=b)/\dO 1024 r7=.ok (m,j)/\fo c.cells m.toNat j=.ok (cm,i)/\dZ i=.ok (k,d)/\eE k.toNat d=.ok (l,u)/\(dF u).e=0/\
   s=⟨c,now,boots,sunk,x.rows,⟨c.lag,b,value,x.fls⟩,cm,x.sts,l⟩:=by
  intro s a;unfold kK at a;rw[h1]at a;dsimp only at a;rw[h2]at a;dsimp only at a;rw[h3]at a;dsimp only at a;rw[h4]at a;dsimp only at a;rw[h5]at a;dsimp only at a;rw[h6]at a;dsimp only at a
  cases a1:fm { bT c with now:=now,boots:=boots,sunk:=sunk } n.toNat r6 with
  | error e=>rw[a1]at a;cases a
  | ok q=>
  obtain⟨x,r7⟩:=q;rw[a1]at a;dsimp only at a
  split at a
  .cases a
  rename_i a2;have a2:=Decidable.not_not.1 a2
  cases a3:dO 1024 r7 with
  | error e=>rw[a3]at a;cases a
  | ok q=>
  obtain⟨m,j⟩:=q;rw[a3]at a;dsimp only at a
  cases a4:fo c.cells m.toNat j with
  | error e=>rw[a4]at a;cases a
  | ok q=>
  obtain⟨cm,i⟩:=q;rw[a4]at a;dsimp only at a
  cases a5:dZ i with
  | error e=>rw[a5]at a;cases a
  | ok q=>
  obtain⟨k,d⟩:=q;rw[a5]at a;dsimp only at a
  cases a6:eE k.toNat d with
  | error e=>rw[a6]at a;cases a
  | ok q=>
  obtain⟨l,u⟩:=q;rw[a6]at a;dsimp only at a
  split at a
  .cases a
  rename_i a7
  cases a
  exact⟨x,r7,m,j,cm,i,k,d,l,u,rfl,a2,a3,a4,a5,a6,Decidable.not_not.1 a7,rfl⟩
 have P:(∀x r7 m j cm i k d l u,fm { bT c with now:=now,boots:=boots,sunk:=sunk } n.toNat r6=.ok (x,r7)->(b-c.lag<=value/\value<=b)->dO 1024 r7=.ok (m,j)->fo c.cells m.toNat j=.ok (cm,i)->dZ i=.ok (k,d)->eE k.toNat d=.ok (l,u)->(dF u).e=0->
   stB ⟨c,now,boots,sunk,x.rows,⟨c.lag,b,value,x.fls⟩,cm,x.sts,l⟩=bs->False)->nf Q F K (.error 10):=by
  intro E
  cases a:pH c bs with
  | error e=>exact k2 B e a
  | ok s=>
   exfalso;unfold pH at a;rw[V4 (by simp[B])]at a
   cases hq:kK c bs with
   | error e=>rw[hq]at a;cases a
   | ok s1=>
   rw[hq]at a;dsimp only at a
   split at a
   .rename_i t
    cases a
    obtain⟨x,r7,m,j,cm,i,k,d,l,u,a1,a2,a3,a4,a5,a6,a7,rfl⟩:=P2 _ hq;exact E x r7 m j cm i k d l u a1 a2 a3 a4 a5 a6 a7 t
   .cases a
 refine UB (s0:={ bT c with now:=now,boots:=boots,sunk:=sunk }) (aM.refl Q) W L okN rfl rfl E I.lag ⟨i4.1,by omega⟩ U (by omega) G ?_ P ?_ (h.o [0,5,2,6,4,3,1] 7)
 .intro x r7 m j cm i k d l u a1 a2 a3 a4 a5 a6 a7;have:=Y x r7 m j cm i k d l u a1 a2 a3 a4 a5 a6 a7;exact⟨UD G I this,D B _ this⟩
 .intro x r7 m j cm i k d l u a1 a2 a3 a4 a5 a6 a7 a8;have:=Y x r7 m j cm i k d l u a1 a2 a3 a4 a5 a6 a7;refine k3 B _ ?_;unfold pH;rw[V4 (by simp[B]),this];dsimp only;exact V5 a8
end
theorem L8{e:Pv}(h:gS e=true):(0<=e.stamp/\e.stamp<=4611686018427387903)/\fw e.name e.labs=true:=by
 unfold gS at h;simp only[VB,VA]at h;exact h
theorem L9{e:Pv}(h:gS e=true)(a:aF e.value)(r:List Int):ja ⟨0,evB e++r⟩=.ok (e,⟨0,r⟩):=by
 obtain⟨c,b⟩:=L8 h;have e1:evB e++r=aN [e.stamp]++(cY [e.value]++(iY e.name e.labs++r)):=by unfold evB;simp
 unfold ja;rw[e1,kI (by unfold aF;omega)];dsimp only;rw[uG a];dsimp only;rw[Uq b];rfl
theorem smpR_enc{x:bQ}(h:x.ok)(r:List Int):smpR ⟨0,smB x++r⟩=.ok (x,⟨0,r⟩):=by
 have a:=h.wf;unfold bQ.wf at a;have e1:smB x++r=aN [x.asked]++(aN [x.got]++(aN [x.sent]++(aN [x.came]++r))):=by simp[smB,aN]
 unfold smpR;rw[e1,kI a.1];dsimp only;rw[kI a.2.1];dsimp only;rw[kI a.2.2.1];dsimp only;rw[kI a.2.2.2]
theorem LE{l:List bQ}(h:∀x∈l,x.ok)(r:List Int):∀j,j<=l.length->jt j ⟨0,l.flatMap smB++r⟩=.ok (l.take j,⟨0,(l.drop j).flatMap smB++r⟩)
 | 0,_=>rfl
 | j+1,hj=>by
  have a:j<l.length:=by omega
  unfold jt;rw[LE h r j (by omega)];dsimp only;rw[Wx a,Wg,VK,smpR_enc (h _ (VL a))];dsimp only;rw[WI,List.getElem?_eq_getElem a];rfl
theorem LF{α:Type}{n:Int}{v:α}:∀{l:cy α},(∀p∈l,p.1<n)->ins n v l=l++[(n,v)]
 | [],_=>rfl
 | (a,b)::r,h=>by
  have d:=h _ (VO ..);dsimp only at d;unfold ins;rw[nO,LF λp c=>h p (VQ _ c)];rfl
theorem pop_none{α:Type}{next:Int}:∀{l:cy α},(∀p∈l,next+1<=p.1)->pop next l=([],next,l)
 | [],_=>rfl
 | (n,v)::r,h=>by
  have a:=h _ (VO ..);dsimp only at a;unfold pop;rw[nO]
theorem UF{next most n:Int}{l:cy Pv}{e:Pv}(h0:0<=next)(hb:∀p∈l,next+1<=p.1/\p.1<n)(j:next+1<=n)(hm:n<next+most)(i:n<1099511627776)(c:gS e=true)(k:aF e.value)(r:List Int) :
  lj ⟨next,most,l⟩ ⟨0,rwB (n,e)++r⟩=.ok (⟨next,most,l++[(n,e)]⟩,⟨0,r⟩):=by
 have e1:rwB (n,e)++r=aN [n]++(evB e++r):=by simp[rwB]
 have b:aK n l=none:=fu.2 λf=>by
  obtain⟨p,a,c⟩:=VH.1 f;have:=hb p a;omega
 have h:(⟨next,most,l⟩:HS Pv).offer n [e]=(⟨next,most,l++[(n,e)]⟩,[],0):=by
  unfold HS.offer;rw[nO];have e2:fi next most n [e] (l,0)=(l++[(n,e)],0):=by
   show ee next most n e (l,0)=_;unfold ee;dsimp only;rw[b,V4 (by simp;omega),nO,LF λp a=>(hb p a).2]
  have e3:pop next (l++[(n,e)])=([],next,l++[(n,e)]):=pop_none λp a=>by
   rcases VV.1 a with a|a
   .exact (hb p a).1
   .rw [VI]at a;subst a;exact j
  dsimp only;rw[e2];dsimp only;rw[e3]
 unfold lj;rw[e1,kI (by unfold aF;omega)];dsimp only;rw[L9 c k];dsimp only;have d:gT n [e]=true:=by
  unfold gT;simp[c];omega
 rw[d,V4 (by simp),h,V4 (by simp)]
theorem LH{next most:Int}{l:cy Pv}(h0:0<=next)(f:jL (next+1) next most l)(h:∀p∈l,p.1<1099511627776/\gS p.2=true/\aF p.2.value)(r:List Int):∀j,j<=l.length->
  iG ⟨next,most,[]⟩ j ⟨0,l.flatMap rwB++r⟩=.ok (⟨next,most,l.take j⟩,⟨0,(l.drop j).flatMap rwB++r⟩)
 | 0,_=>rfl
 | j+1,hj=>by
  have c:j<l.length:=by omega
  unfold iG;rw[LH h0 f h r j (by omega)];dsimp only;have hm:=VL c;have hi:=f.inb _ hm;have d:=h _ hm;rw[Wx c,Wg,VK];have a:∀p∈l.take j,p.1<l[j].1:=by
   intro p b;obtain⟨q,i,rfl⟩:=Wz b;rw[VY]at i;rw[List.getElem_take];exact Yx.1 f.rising q j (by omega) c (by omega)
  have:=UF (next:=next) (most:=most) (n:=l[j].1) (l:=l.take j) (e:=l[j].2) h0 (λp b=>⟨(f.inb p (W0 b)).1,a p b⟩) hi.1 hi.2 d.1 d.2.1 d.2.2 ((l.drop (j+1)).flatMap rwB++r)
  rw[WI,List.getElem?_eq_getElem c];exact this
theorem flN1(b:Bool):flN [b] 1=if b then 1 else 0:=by cases b <;> rfl
def sQ(st:br):List Int:=((aN [flN [st.ck.held] 1,st.ck.streak,(st.ck.smps.length:Int)]++st.ck.smps.flatMap smB)++aN [st.hs.next,(st.hs.rows.length:Int)])++st.hs.rows.flatMap rwB
theorem strR_enc{c:bD}{st:br}(ok:lS c st)(r:List Int):ne c ⟨0,cY [st.last]++(sQ st++r)⟩=.ok (st,⟨0,r⟩):=by
 have n:=ok.last;have b:=ok.ck;have f:st.ck.smps.length<=8:=b.len;have e:=b.st;have d:=ok.hs.next0;have i:=ok.next;have j:=ok.hs.most2;have m:=ok.hs.rows.length;have e1:sQ st++r=aN [flN [st.ck.held] 1]++(aN [st.ck.streak]++(aN [((st.ck.smps.length:Nat):Int)]++(st.ck.smps.flatMap smB++(aN [st.hs.next]++(aN [((st.hs.rows.length:Nat):Int)]++(st.hs.rows.flatMap rwB++r)))))):=by
  unfold sQ;rw[mZ (flN [st.ck.held] 1),mZ st.ck.streak,mZ st.hs.next];simp only[VK]
 unfold ne;rw[uG (by unfold aF;omega)];dsimp only;rw[V4 (by simp[inM];omega),e1];unfold nW;have h:=xA [st.ck.held] 1 (by decide);rw[uF h.1 (by have:=h.2;omega)];dsimp only;rw[kI (by unfold aF;omega)];dsimp only;rw[uH (by omega) (by omega)];dsimp only;rw[VJ,LE b.ok _ _ (VF _),Wi,W6];dsimp only;unfold oF;rw[V4 (λk=>k ⟨f,e.1,b.ok⟩)]
 have e2:([]:List bQ).flatMap smB++(aN [st.hs.next]++(aN [((st.hs.rows.length:Nat):Int)]++(st.hs.rows.flatMap rwB++r)))=aN [st.hs.next]++(aN [((st.hs.rows.length:Nat):Int)]++(st.hs.rows.flatMap rwB++r)):=rfl;rw[e2,kI (by unfold aF;omega)];dsimp only;rw[nO,uH (by omega) (by omega)];dsimp only;have a:=ok.hs.rows;rw[ok.most]at a;rw[VJ,LH d a ok.rows _ _ (VF _),Wi,W6];dsimp only;have e3:decide (flN [st.ck.held] 1=1)=st.ck.held:=by rw[flN1];cases st.ck.held <;> rfl
 rw[e3,<-ok.rho,<-ok.least,<-ok.most];rfl
theorem bits3(a b c:Bool):bitF (flN [a,b,c] 3) 1=a/\bitF (flN [a,b,c] 3) 2=b/\bitF (flN [a,b,c] 3) 4=c:=by
 cases a <;> cases b <;> cases c <;> decide
theorem flR_enc{c:bD}{fl:Fl}{st:br}(ok:lS c st)(r:List Int):flR c fl.t ⟨0,aN [flN [fl.out,fl.was,fl.held] 3]++(cY [st.last]++(sQ st++r))⟩=.ok ((fl,st),⟨0,r⟩):=by
 have a:=xA [fl.out,fl.was,fl.held] 3 (by decide);unfold flR;rw[uF a.1 (by have:=a.2;omega)];dsimp only;rw[strR_enc ok];dsimp only;obtain⟨b1,b2,b3⟩:=bits3 fl.out fl.was fl.held;rw[b1,b2,b3]
theorem agtR_enc{s0:aH}{a:Int}{e:En}{fl:Fl}{st:br}(ok:lS s0.cfg st)(b:aF e.epoch/\aF e.boot/\aF e.time)(hs:gC s0.cfg.agents s0.rows a e=(s0.rows.set a.toNat e,0))(d:0<=fl.t/\fl.t<=s0.now)(c:aF fl.t)(r:List Int) :
  ∃rest,agB a e fl st++r=aN [a]++rest/\kJ s0 a ⟨0,rest⟩=.ok ((s0.rows.set a.toNat e,fl,st),⟨0,r⟩):=by
 refine⟨aN [e.epoch]++(aN [e.boot]++(aN [e.time]++(aN [fl.t]++(aN [flN [fl.out,fl.was,fl.held] 3]++(cY [st.last]++(sQ st++r)))))),?_,?_⟩
 .unfold agB agB1 sQ;rw[mZ a,mZ e.epoch,mZ e.boot,mZ e.time,mZ fl.t];simp only[VK]
 .unfold kJ;rw[kI b.1];dsimp only;rw[kI b.2.1];dsimp only;rw[kI b.2.2];dsimp only;have e1:(⟨e.epoch,e.boot,e.time⟩:En)=e:=rfl;rw[e1,hs,V4 (by simp),uI d c];dsimp only;rw[flR_enc ok]
structure ni(o:Ot):Prop where
 wc:WC o.2
 rt:ge o.2=true
 ch:CH o.2
 win:0<=o.1.win/\o.1.win<=4611686018427387903
 ser:(il o.1.ser).2.2=true
 size:o.1.ser.size<=5000
theorem LI{o:Ot}(h:ni o)(r:List Int):jd ⟨0,ceB o++r⟩=.ok (o,⟨0,r⟩):=by
 have j:=uo h.wc;have d:(bG (dj o.2)).size=(dj o.2).length:=nQ _;have hs:=h.size;have e1:ceB o++r=cY [o.1.win]++(dd o.1.ser++(dd (bG (dj o.2))++r)):=by
  show cbB o.1 o.2++r=_;unfold cbB;simp[dC]
 have a:fh (bG (dj o.2))=dj o.2:=by
  unfold fh;rw[show (bG (dj o.2)).data.toList=(dj o.2).map λn=>UInt8.ofNat n.toNat from strOfNums_data _,Wu]
  apply W9 (by simp);intro i f b;simp only[W3,Function.comp];exact qr (Sy o.2) i b
 have t1:∀x:Fa,∀r:List Int,x.size<18446744073709551616->aZ (dd x++r).length ⟨0,dd x++r⟩=(fh x,⟨0,r⟩):=λx r c=>by
  refine uJ ?_ c r;unfold dd;simp only[V7];have:=tF x;omega
 unfold jd;have e:=h.win;rw[e1,uG (by unfold aF;omega)];dsimp only;rw[t1 _ _ (by omega)];dsimp only;rw[t1 _ _ (by omega)];dsimp only;rw[V4 (by simp),xy,h.ser,V4 (by simp[inM];omega),a,U7 h.wc h.rt h.ch];dsimp only;rw[V4 (by simp)]
theorem LJ{l:List Ot}(h:∀o∈l,ni o)(r:List Int):∀j,j<=l.length->eE j ⟨0,l.flatMap ceB++r⟩=.ok (l.take j,⟨0,(l.drop j).flatMap ceB++r⟩)
 | 0,_=>rfl
 | j+1,hj=>by
  have a:j<l.length:=by omega
  unfold eE;rw[LJ h r j (by omega)];dsimp only;rw[Wx a,Wg,VK,LI (h _ (VL a))];dsimp only;rw[WI,List.getElem?_eq_getElem a];rfl
theorem LK{κ α:Type}[DecidableEq κ]{k:κ}{v:α}{m:List (κ×α)}(h:aK k m=none):mset k v m=(k,v)::m:=by
 unfold mset;rw[kN h]
theorem LM{most:Int}{l:List Ot}(i:(aG l).Nodup)(h:∀o∈l,ni o)(hm:(l.length:Int)<=most)(r:List Int):∀j,j<=l.length->fo most j ⟨0,l.flatMap ceB++r⟩=.ok ((l.take j).reverse,⟨0,(l.drop j).flatMap ceB++r⟩)
 | 0,_=>rfl
 | j+1,hj=>by
  have c:j<l.length:=by omega
  have b:=VL c;have a:aK l[j].1 (l.take j).reverse=none:=fu.2 λm=>by
   obtain⟨p,f,d⟩:=VH.1 m;rw[List.mem_reverse]at f;obtain⟨q,k,rfl⟩:=Wz f;rw[VY]at k;rw[List.getElem_take]at d;have e:=Yx.1 i q j (by simp[aG];omega) (by simp[aG];omega) (by omega);simp only[aG,W3]at e;exact e d
  unfold fo;rw[LM i h hm r j (by omega)];dsimp only;rw[Wx c,Wg,VK,LI (h _ b)];dsimp only;have hs:jY most (l.take j).reverse l[j].1 l[j].2=((l.take (j+1)).reverse,0):=by
   unfold jY;rw[a,V4 (by simp),(h _ b).rt,V4 (by simp),V4 (by rw[List.length_reverse,VY];omega),LK a,WI,List.getElem?_eq_getElem c,List.reverse_append];rfl
  rw[hs,V4 (by simp)]
abbrev fR(s:aH)(r:Rp):aH:=(bO s r).1
abbrev dG(s:aH)(r:Rp):List bH:=(bO s r).2.1
def emO(l:List bH):List Ot:=(l.filter λe=>decide (e.kind=4)).map bH.out
theorem uN(a b:List bH):emO (a++b)=emO a++emO b:=by simp[emO]
theorem emO_none{l:List bH}(h:∀e∈l,e.kind≠4):emO l=[]:=by
 unfold emO;rw[WQ.2 λe a=>by simp[h e a]]
 rfl
structure NumI(s:aH)(all:List Ot):Prop where
 len:s.sunk+(s.kept.length:Int)=all.length
 kept:s.kept=all.drop s.sunk.toNat
theorem B2{c:bD}{now a ep first:Int}{evs:List Pv}{x:JS}:∀n,∀e∈(dh c now a ep first evs x n).2,e.kind=3
 | 0,e,h=>by cases h
 | n+1,e,h=>by
  rcases VV.1 h with h|h
  .exact B2 n e h
  .rw [VI]at h;rw[h];rfl
theorem LN{s:aH}{r:Rp}:∀e∈(gD s r).2,e.kind=3\/e.kind=2:=by
 unfold gD
 split
 .intro e a
  rcases VV.1 a with h|h
  .exact .inl (B2 _ e h)
  .rw [VI]at h;rw[h];exact .inr rfl
 .intro e a;cases a
theorem LO{s:aH}{a:Int}:∀e∈jq s a,e.kind=3:=by
 unfold jq
 split
 .intro e b;obtain⟨n,_,rfl⟩:=VH.1 b;rfl
 .intro e b;cases b
theorem LP{s:aH}{r:Rp}:∀e∈(fB s r).2.1,e.kind=3\/e.kind=1:=by
 unfold fB
 split
 .intro e a;cases a
 split
 .intro e a
  rcases VV.1 a with h|h
  .exact .inl (LO e h)
  .rw [VI]at h;rw[h];exact .inr rfl
 .intro e a;rw[VI]at a;rw[a];exact .inr rfl
theorem oH{s:aH}{r:Rp}{P:aH×List bH×Int->Prop}(h0:r.right=false->P (s,[],10))(c:r.right=true->fA s r≠0->P (s,[],fA s r))
  (k1:r.right=true->fA s r=0->r.kind=1->P ({ s with boots:=s.boots+1 },[],0))
  (k2:r.right=true->fA s r=0->r.kind=2->P (fB s r))
  (k3:r.right=true->fA s r=0->r.kind=3->P (mT s r,[],0))
  (k4:r.right=true->fA s r=0->r.kind=4->P ((gD s r).1,(gD s r).2,0))
  (k5:r.right=true->fA s r=0->r.kind=5->P (lT s r,[],0))
  (k6:r.right=true->fA s r=0->r.kind=6->P ((kG s r.nw).1,(kG s r.nw).2,0))
  (k7:r.right=true->fA s r=0->r.kind=7->P (mU s r,[],0)):P (bO s r):=by
 unfold bO
 split
 .rename_i h;exact h0 h
 rename_i a;have a:r.right=true:=by simpa using a
 have d:=iF a
 split
 .rename_i h;exact c a h
 rename_i b;have b:fA s r=0:=by simpa using b
 split
 .rename_i h;exact k1 a b h
 split
 .rename_i h;exact k2 a b h
 split
 .rename_i h;exact k3 a b h
 split
 .rename_i h;exact k4 a b h
 split
 .rename_i h;exact k5 a b h
 split
 .rename_i h;exact k6 a b h
 .rename_i q1 q2 q3 q4 q5 q6;exact k7 a b (by have:=d.kind;omega)
theorem UG{s:aH}{r:Rp}(a:r.kind=7)(h:fA s r=0):r.nx<=s.next:=by
 unfold fA at h;rw[nO,V5 a]at h
 split at h
 .simp at h
 .omega
theorem uO{s:aH}{r:Rp}(b:r.kind≠1)(a:r.kind≠7)(h:fA s r=0):s.now<=(if r.kind=3 then r.sm.came else r.nw):=by
 unfold fA at h;rw[V4 b,V4 a]at h;generalize (if r.kind=3 then r.sm.came else r.nw)=n at *
 unfold sH at h
 split at h
 .simp at h
 split at h
 .simp at h
 .omega
theorem xK{first:Int}{a:List Ot}:∀{n k:Nat} (b:k<(dQ first a n).length),(dQ first a n)[k]={ kind:=4,number:=first+k,out:=a.getD k Ot.z }
 | 0,k,b=>by simp[dQ]at b
 | n+1,k,b=>by
  simp only[dQ];rw[List.getElem_append]
  split
  .rename_i h;exact xK h
  .rename_i h;rw[nV]at h;have c:k<n+1:=by simpa[dQ,nV] using b
   have:k=n:=by omega
   subst this;simp[nV]
theorem xL{first:Int}{a:List Ot}:∀n,n<=a.length->emO (dQ first a n)=a.take n
 | 0,_=>rfl
 | n+1,h=>by
  simp only[dQ];rw[uN,xL n (by omega),WI,List.getElem?_eq_getElem (by omega)];congr 1;show [a.getD n Ot.z]=_;rw[Yp,List.getElem?_eq_getElem (by omega)];rfl
theorem LQ{first:Int}{a:List Ot}:∀{n k:Nat},k<=n->(dQ first a n).take k=dQ first a k
 | 0,k,h=>by
  obtain rfl:k=0:=by omega
  rfl
 | n+1,k,h=>by
  rcases Wa n k with b|b
  .obtain rfl:k=n+1:=by omega
   exact Wc (by rw[nV];omega)
  .simp only[dQ];rw[Yv (by rw[nV];omega),LQ b]
theorem num_step{s:aH}{r:Rp}{all:List Ot}(h0:0<=s.sunk)(I:NumI s all) :
  (∀k (a:k<(dG s r).length),(dG s r)[k].kind=4->(dG s r)[k].number=all.length+((emO ((dG s r).take k)).length:Nat))/\NumI (fR s r) (all++emO (dG s r))/\0<=(fR s r).sunk:=by
 unfold dG fR;have quiet:∀l:List bH,(∀e∈l,e.kind≠4)->∀b:aH,NumI b all->0<=b.sunk->∀e:Int,
   (∀k (a:k<(b,l,e).2.1.length),(b,l,e).2.1[k].kind=4->(b,l,e).2.1[k].number=all.length+((emO ((b,l,e).2.1.take k)).length:Nat))/\NumI (b,l,e).1 (all++emO (b,l,e).2.1)/\0<=(b,l,e).1.sunk:=by
  intro l d b n h e;refine⟨λk a i=>V6 i (d _ (VL a)),?_,h⟩
  show NumI b (all++emO l);rw[emO_none d,We];exact n
 have nil:∀e∈([]:List bH),e.kind≠4:=λe m=>by cases m
 refine oH (P:=λq=>(∀k (a:k<q.2.1.length),q.2.1[k].kind=4->q.2.1[k].number=all.length+((emO (q.2.1.take k)).length:Nat))/\NumI q.1 (all++emO q.2.1)/\0<=q.1.sunk) (λ_=>quiet [] nil s I h0 _) (λ_ _=>quiet [] nil s I h0 _) (λ_ _ _=>quiet [] nil { s with boots:=s.boots+1 } ⟨I.len,I.kept⟩ h0 0) (λ_ _ _=>?_) (λ_ _ _=>?_) (λ_ _ _=>?_) (λ_ _ _=>?_) (λ_ _ _=>?_) λw t a=>?_
 .have a:=LP (s:=s) (r:=r);have e:fB s r=((fB s r).1,(fB s r).2.1,(fB s r).2.2):=rfl;rw[e];refine quiet _ (λx f=>by have:=a x f;omega) _ ?_ ?_ _
  .unfold fB;split
   .exact I
   .split <;> exact⟨I.len,I.kept⟩
  .unfold fB;split
   .exact h0
   .split <;> exact h0
 .refine quiet [] nil _ ?_ ?_ _
  .unfold mT;split <;> exact⟨I.len,I.kept⟩
  .unfold mT;split <;> exact h0
 .have a:=LN (s:=s) (r:=r);refine quiet _ (λx f=>by have:=a x f;omega) _ ?_ ?_ _
  .unfold gD;split <;> exact⟨I.len,I.kept⟩
  .unfold gD;split <;> exact h0
 .refine quiet [] nil _ ?_ ?_ _
  .unfold lT;split
   .split
    .exact⟨I.len,I.kept⟩
    .split <;> exact⟨I.len,I.kept⟩
   .exact I
  .unfold lT;split
   .split
    .exact h0
    .split <;> exact h0
   .exact h0
 .have v:s.next=all.length:=I.len;refine⟨λk a i=>?_,⟨?_,?_⟩,h0⟩
  .have a:k<(dQ s.next (dt s r.nw) (dt s r.nw).length).length:=a;show (dQ s.next (dt s r.nw) (dt s r.nw).length)[k].number=all.length+((emO ((dQ s.next (dt s r.nw) (dt s r.nw).length).take k)).length:Nat);have j:k<(dt s r.nw).length:=by simpa[nV] using a
   rw[xK,LQ (by omega),xL _ (by omega),VY,v];dsimp only;omega
  .show s.sunk+((s.kept++dt s r.nw).length:Int)=((all++emO (dQ s.next (dt s r.nw) (dt s r.nw).length)).length:Nat);rw[xL _ (VF _),Wi,V7,V7];have:=I.len;omega
  .show s.kept++dt s r.nw=(all++emO (dQ s.next (dt s r.nw) (dt s r.nw).length)).drop s.sunk.toNat
   have:=I.len;rw[xL _ (VF _),Wi,List.drop_append_of_le_length (by omega),<-I.kept]
 .have c:=UG a t;have d:=I.len;refine quiet [] nil _ ?_ ?_ _
  .unfold mU
   split
   .rename_i u;refine⟨?_,?_⟩
    .dsimp only;rw[VU];unfold aH.next at c;omega
    .dsimp only;rw[I.kept,Yw];congr 1;omega
   .exact I
  .unfold mU;split
   .dsimp only;omega
   .exact h0
theorem LR{α:Type}{p:α->Bool}:∀{l:List α},l.Pairwise (λx y=>p y=true->p x=true)->l.takeWhile p=l.filter p
 | [],_=>rfl
 | a::r,h=>by
  rw[W5]at h;rw[List.takeWhile_cons,Wm]
  split
  .rw [LR h.2]
  .rename_i d;exact (WQ.2 λx c b=>d (h.1 x c b)).symm
theorem LS{p:Ky×Cl}:∀{l:List Ot} {m:CM},p∈lN m l↔p∈m/\∀o∈l,o.1≠p.1
 | [],m=>by simp[lN]
 | o::r,m=>by
  have a:=LS (p:=p) (l:=r) (m:=bU o.1 m);show p∈lN (bU o.1 m) r↔_;rw[a,rC];simp only[VN,forall_eq_or_imp]
  constructor
  .rintro⟨⟨h1,h2⟩,h3⟩;exact⟨h1,λe=>h2 e.symm,h3⟩
  .rintro⟨h1,h2,h3⟩;exact⟨⟨h1,λe=>h2 e.symm⟩,h3⟩
open  Go.Sort
theorem B3(x y:Ky):ii x y=!(ltOf j6) y x:=by rw[ltKy];rfl
theorem UH(ks:List Ky):(dY ks).Pairwise λx y=>ii x y=true:=by
 unfold dY;refine List.pairwise_mergeSort (le:=ii) (λx y z b a=>?_) (λx y=>?_) ks
 .rw [B3]at *;simp only[Wb]at *;exact swoKy.ntrans z y x a b
 .rw [B3,B3]
  cases b:ltOf j6 y x with
  | false=>rfl
  | true=>
   cases a:ltOf j6 x y with
   | false=>rfl
   | true=>have:=swoKy.trans _ _ _ b a;rw[swoKy.irrefl]at this;cases this
theorem B4{x y:Ky}(h:ii x y=true):x.win<=y.win:=by
 unfold ii at h;simp only[Wb,VP,VD]at h;omega
theorem LT(m:CM)(b:Int):iC m b=(bA m).filter λo=>decide (o.1.win<b):=by
 unfold iC;refine LR ?_;unfold bA;rw[Y0];refine (UH _).imp λh a=>?_
 have:=B4 h;simp only[VA]at *;omega
theorem UI{m:CM}{k:Ky}:(∃o∈bA m,o.1=k)↔k∈aG m:=by
 unfold bA
 constructor
 .rintro⟨o,ho,rfl⟩;obtain⟨b,a,rfl⟩:=VH.1 ho;exact (kV _).mem_iff.1 a
 .intro h;exact⟨_,VH.2 ⟨k,(kV _).mem_iff.2 h,rfl⟩,rfl⟩
theorem UJ{m:CM}{b:Int}{p:Ky×Cl}:p∈nP m b↔p∈m/\b<=p.1.win:=by
 unfold nP;rw[LS]
 constructor
 .rintro⟨h1,h2⟩;refine⟨h1,?_⟩;obtain⟨o,c,a⟩:=(UI (m:=m) (k:=p.1)).2 (VH.2 ⟨p,h1,rfl⟩)
  rcases Int.lt_or_le p.1.win b with e|d
  .exact V6 a (h2 o (by rw[LT];exact W7.2 ⟨c,by rw[a];exact VS e⟩))
  .exact d
 .rintro⟨h1,h2⟩;refine⟨h1,λo c a=>?_⟩
  rw[LT]at c;have:=V8 (W7.1 c).2;rw[a]at this;omega
theorem UK{r:Rp}(h:r.right=true):r.zeros=true:=by
 unfold Rp.right at h;simp only[VB]at h;exact h.1.1.2
theorem B5{rows:List En}{a:Int}{e:En}(h0:0<=a)(b:a.toNat<rows.length):bg (rows.set a.toNat e) a=e:=by
 unfold bg;rw[nO,List.getElem?_set_self b];rfl
abbrev isV(t:Int):Prop:=-4611686018427387904<=t/\t<=4611686018427387903
theorem LU{g:Gd}(a:g.ok){t:Int}(b:isV t):fN g t=t/g.width:=by
 have c:1<=g.width:=a.1;have hb:isV (t/g.width):=by
  constructor
  .rw [Int.le_ediv_iff_mul_le (by omega)];omega
  .rcases Int.lt_or_le t 0 with h|h
   .have:t/g.width<0:=Int.ediv_neg_of_neg_of_pos h (by omega);omega
   .have:=Int.ediv_le_self g.width h;omega
 unfold fN;rw[V5 a,Int.tdiv_eq_ediv,Int.tmod_eq_emod];have h0:=Int.emod_nonneg t (show g.width≠0 by omega);have d:=Int.emod_lt_of_pos t (show 0<g.width by omega)
 by_cases hc:0<=t\/g.width ∣ t
 .rw [V5 hc,V5 hc,nO,aJ];omega
 .rw [V4 hc,V4 hc,pO,Int.sign_eq_one_of_pos (by omega),aJ (x:=t/g.width+1),aJ];omega
theorem meet2_of{x:Gp}{f n:Int}(h:(kQ [x,⟨f,n⟩]).2=0):(kQ [x,⟨f,n⟩]).1.lo<=(kQ [x,⟨f,n⟩]).1.hi/\(kQ [x,⟨f,n⟩]).1.hi<=n/\f<=(kQ [x,⟨f,n⟩]).1.lo:=by
 unfold kQ mE at h ⊢
 split at h
 .rename_i c;rw[V5 c];unfold mE at h ⊢
  split at h
  .rename_i b;rw[V5 b];unfold mE at h ⊢
   split at h
   .rename_i a;rw[V5 a];refine⟨a,?_,?_⟩
    .unfold meet2;dsimp only;split <;> omega
    .unfold meet2;dsimp only;split <;> omega
   .simp at h
  .simp at h
 .simp at h
theorem LV{ck:Ck}{fl:Fl}{now stamp:Int}(h:(cQ ck fl now stamp).2=0):(cQ ck fl now stamp).1.lo<=(cQ ck fl now stamp).1.hi/\(cQ ck fl now stamp).1.hi<=now/\fl.t<=(cQ ck fl now stamp).1.lo:=by
 unfold cQ at h ⊢
 split at h
 .rename_i a;exact V6 h a
 rename_i a;rw[V4 a]
 split at h
 .simp at h
 rename_i b;rw[V4 b];exact meet2_of (Decidable.not_not.1 b)
theorem LW{p:Ky×Cl}:∀{l m:CM},p∈lM l m->p∈l\/p∈m
 | [],m,h=>.inr h
 | q::r,m,h=>by
  rcases LW (l:=r) (m:=mset q.1 q.2 m) h with h|h
  .exact .inl (VQ _ h)
  .rcases nU h with rfl|h
   .exact .inl (VO ..)
   .exact .inr h
structure CelI(lo hi B:Int)(m:CM):Prop where
 win:∀p∈m,lo<=p.1.win/\p.1.win<=hi
 cnt:∀p∈m,1<=p.2.cer+p.2.pos/\p.2.cer+p.2.pos<=B
theorem UL(ms:MS)(a t:Int):(ms.raise a t).1.value=ms.value/\(ms.raise a t).1.now=ms.now:=by
 unfold MS.raise
 split
 .exact⟨rfl,rfl⟩
 .split <;> exact⟨rfl,rfl⟩
theorem raise_fl{ms:MS}{a t n:Int}(h:∀p∈ms.m,p.2.t<=n)(d:t<=n):∀p∈(ms.raise a t).1.m,p.2.t<=n:=by
 unfold MS.raise
 split
 .exact h
 rename_i x c
 split
 .exact h
 intro p b
 rcases nU b with rfl|b
 .have:=h _ (hI c);dsimp only at this ⊢
  split <;> omega
 .exact h p b
theorem UM{g:Gd}{x:Gp}(h:(dM g x).1≠0\/True)(a:g.ok)(b:x.ok):dM g x=(fN g x.lo,fN g x.hi,0):=by
 unfold dM;rw[V5 a,V5 b]
structure OpenI(s:aH)(B:Int):Prop where
 b0:0<=B
 val:s.ms.value<=s.now
 cel:CelI (fN s.cfg.gd s.ms.value) (fN s.cfg.gd s.now) B s.cm
 fl:∀p∈s.ms.m,p.2.t<=s.now
 en:∀a,(bg s.rows a).time<=s.now
 ag:s.rows.countP (λe=>decide (0<e.epoch))<=s.cfg.agents
theorem uP:∀{l:List En} {i:Nat},(aR i l).length=l.countP λe=>decide (0<e.epoch)
 | [],i=>rfl
 | e::r,i=>by
  unfold aR;rw[List.countP_cons]
  split
  .rename_i h;rw[VE,uP (l:=r),V5 (by simpa using h)]
  .rename_i h;rw[uP (l:=r),V4 (by simpa using h)];rfl
theorem LX{p:En->Bool}{x:En}:∀{l:List En} {k:Nat} (c:k<l.length),(l.set k x).countP p<=l.countP p+(if p l[k] then 0 else 1)
 | a::r,0,_=>by
  simp only[Yt,List.getElem_cons_zero];rw[List.countP_cons,List.countP_cons]
  by_cases h1:p x=true <;> by_cases h2:p a=true <;> simp[h1,h2]
 | a::r,k+1,h=>by
  have b:=LX (p:=p) (x:=x) (l:=r) (k:=k) (by simpa using h);simp only[YB,List.getElem_cons_succ];rw[List.countP_cons,List.countP_cons];omega
theorem open_ag{s:aH}{a:Int}{x:En}{rows':List En}(ok:cR s)(k:s.rows.countP (λe=>decide (0<e.epoch))<=s.cfg.agents)(m:0<=a/\a<=63)(i:¬((bg s.rows a).epoch=0/\full s.cfg.agents s.rows))(g2:rows'=s.rows.set a.toNat x) :
  rows'.countP (λe=>decide (0<e.epoch))<=s.cfg.agents:=by
 have b:a.toNat<s.rows.length:=by rw[ok.rows.len];omega
 rw[g2];have f:=LX (p:=λe=>decide (0<e.epoch)) (x:=x) b
 have c:bg s.rows a=s.rows[a.toNat]:=by
  unfold bg;rw[nO,List.getElem?_eq_getElem b];rfl
 by_cases h4:0<s.rows[a.toNat].epoch
 .rw [V5 (by simpa using h4)]at f;omega
 .rw [V4 (by simpa using h4)]at f;have h:=(ok.rows.at a).1;rw[c]at h;have d:¬full s.cfg.agents s.rows:=λj=>i ⟨by rw[c];omega,j⟩
  unfold full at d;rw[uP]at d;omega
theorem LY{lim n:Int}{m:FM}(hm:∀p∈m,p.2.t<=n)(a:0<=n):∀(ks:List Int) (s:Int×Bool),s.1<=n->(jA lim m ks s).1<=n
 | [],s,h=>h
 | k::r,s,h=>by
  refine LY hm a r _ ?_;unfold nT
  split
  .cases hk:aK k m with
   | none=>simp only[Option.getD_none,Fl.z];exact a
   | some x=>simp only[Option.getD_some];exact hm _ (hI hk)
  .exact h
theorem open_new{c:bD}(ok:jB c):OpenI (bT c) 0 where
 b0:=Wh _
 val:=by have:=ok.lag;show -c.lag<=0;omega
 cel:=⟨λp b=>V6 b (by simp[bT]),λp b=>V6 b (by simp[bT])⟩
 fl:=λp b=>V6 b (by simp[bT,MS.new])
 en:=λa=>by
  unfold bg bT;dsimp only
  split
  .exact Wh _
  .rw [List.getElem?_replicate]
   split <;> exact Wh _
 ag:=by
  have:=ok.ag;unfold bT;dsimp only;rw[List.countP_replicate];simp[En.z];omega
structure Rch(s:aH):Prop where
 ok:cR s
 sunk:s.sunk<=1099511627776
 mnow:0<=s.ms.now/\s.ms.now<=s.now
 val:s.ms.now-s.cfg.lag<=s.ms.value/\s.ms.value<=s.ms.now
 keys:∀a,(aK a s.ms.m).isSome=decide (0<(bg s.rows a).epoch)
 fl:∀p∈s.ms.m,p.2.t<=s.now
 rows:∀a,0<(bg s.rows a).epoch->(1<=(bg s.rows a).boot/\(bg s.rows a).boot<=1099511627776)/\0<=(bg s.rows a).time/\(bg s.rows a).time<=4611686018427387903
 ag:s.rows.countP (λe=>decide (0<e.epoch))<=s.cfg.agents
 cm:∀p∈s.cm,ni p
 kept:∀o∈s.kept,ni o
theorem xM(e:En)(r:List En)(i:Nat):aR i (e::r)=(if 0<e.epoch then [((i:Int),e)] else [])++aR (i+1) r:=by
 conv=>lhs;unfold aR
 split <;> rfl
theorem xN:∀(a b:List En) (i:Nat),aR i (a++b)=aR i a++aR (i+a.length) b
 | [],b,i=>rfl
 | e::r,b,i=>by
  have c:=xN r b (i+1);have e1:i+1+r.length=i+(e::r).length:=by simp only[VE];omega
  rw[e1]at c;rw[WE,xM,xM,c,VK]
theorem LZ:∀(n i:Nat),aR i (List.replicate n En.z)=[]
 | 0,i=>rfl
 | n+1,i=>by
  rw[YG];unfold aR;rw[V4 (by simp[En.z]),LZ n (i+1)]
theorem Mb{rows:List En}{k:Nat}(a:k<rows.length):aR k (rows.drop k)=(if 0<rows[k].epoch then [((k:Int),rows[k])] else [])++aR (k+1) (rows.drop (k+1)):=by
 rw[Wx a,xM]
theorem B6{rows:List En}{k:Nat}(a:k<rows.length):aR 0 (rows.take (k+1))=aR 0 (rows.take k)++(if 0<rows[k].epoch then [((k:Int),rows[k])] else []):=by
 rw[WI,List.getElem?_eq_getElem a,xN];congr 1;rw[VY,WX (by omega),VX];show aR k [rows[k]]=_;rw[xM];exact We _
def lm(rows:List En)(k:Nat):List En:=rows.take k++List.replicate (64-k) En.z
def cutT(sts:List (Option br))(k:Nat):List (Option br):=sts.take k++List.replicate (64-k) none
def jF(s:aH)(k:Nat):FM:=((aR 0 (s.rows.take k)).map λp=>(p.1,bF s.ms p.1)).reverse
theorem Mc{α:Type}{l:List α}{z:α}{k:Nat}(b:l.length=64)(a:k<64):(l.take k++List.replicate (64-k) z).set k (l[k]'(by omega))=l.take (k+1)++List.replicate (64-(k+1)) z:=by
 have e:List.replicate (64-k) z=z::List.replicate (64-(k+1)) z:=by
  rw[<-YG];congr 1;omega
 rw[e,List.set_append_right _ _ (by rw[VY];omega),VY,WX (by omega),Nat.sub_self,Yt,WI,List.getElem?_eq_getElem (by omega),VK];rfl
theorem Md{α:Type}{l:List α}{z:α}{k:Nat}(b:l.length=64)(a:k<64)(h:l[k]'(by omega)=z):l.take (k+1)++List.replicate (64-(k+1)) z=l.take k++List.replicate (64-k) z:=by
 have e:List.replicate (64-k) z=z::List.replicate (64-(k+1)) z:=by
  rw[<-YG];congr 1;omega
 rw[e,WI,List.getElem?_eq_getElem (by omega)];simp[h]
theorem xO{rows:List En}{k:Nat}(a:k<rows.length):bg rows (k:Int)=rows[k]:=by
 unfold bg;rw[nO,VJ,List.getElem?_eq_getElem a];rfl
theorem rowE_cut{rows:List En}{k:Nat}(b:rows.length=64)(a:k<64):bg (lm rows k) (k:Int)=En.z:=by
 unfold bg lm;rw[nO,VJ,List.getElem?_append_right (by rw[VY];omega),List.getElem?_replicate]
 split <;> rfl
theorem Rch.count{s:aH}(R:Rch s):((aR 0 s.rows).length:Int)<=s.cfg.agents:=by rw[uP];exact R.ag
theorem UN{s:aH}(k:Nat):(aR 0 (s.rows.take k)).length+(aR k (s.rows.drop k)).length=(aR 0 s.rows).length:=by
 rcases Wa k s.rows.length with h|h
 .have:=xN (s.rows.take k) (s.rows.drop k) 0;rw[Ww,VY,WX (by omega),VX]at this;rw[this,V7]
 .rw [Wc h,YA h];rfl
theorem flsK_new{s:aH}(k:Nat):aK (k:Int) (jF s k)=none:=fu.2 λhm=>by
 obtain⟨p,a,b⟩:=VH.1 hm;unfold jF at a;rw[List.mem_reverse]at a;obtain⟨q,c,rfl⟩:=VH.1 a;have:=(pz c).2.1;rw[VY]at this;dsimp only at b;omega
theorem Rch.str{s:aH}(R:Rch s){k:Nat}(b:k<64)(h:0<(s.rows[k]'(by rw[R.ok.rows.len];exact b)).epoch):∃st,s.sts[k]?=some (some st)/\dL s (k:Int)=some st:=by
 obtain⟨st,a⟩:=(R.ok.reg k).2 ⟨_,List.getElem?_eq_getElem (by rw[R.ok.rows.len];exact b),h⟩;refine⟨st,a,?_⟩;unfold dL;rw[nO,VJ,a];rfl
theorem Rch.nostr{s:aH}(R:Rch s){k:Nat}(a:k<64)(h:¬0<(s.rows[k]'(by rw[R.ok.rows.len];exact a)).epoch):s.sts[k]'(by rw[R.ok.len];exact a)=none:=by
 have b:k<s.sts.length:=by rw[R.ok.len];exact a
 cases e:s.sts[k] with
 | none=>rfl
 | some st=>
  obtain⟨f,c,d⟩:=(R.ok.reg k).1 ⟨st,by rw[List.getElem?_eq_getElem b,e]⟩;rw[List.getElem?_eq_getElem (by rw[R.ok.rows.len];exact a)]at c
  cases c
  exact V6 d h
theorem Rch.flat{s:aH}(R:Rch s)(a:Int):isT (bF s.ms a).t/\(bF s.ms a).t<=s.now:=by
 have h0:=R.ok.now;unfold bF
 cases h:aK a s.ms.m with
 | none=>exact⟨by show isT 0;decide,by show (0:Int)<=_;exact h0.1⟩
 | some x=>
  have:=hI h;exact⟨(R.ok.ms.rows _ this).2,R.fl _ this⟩
theorem Me{s s0:aH}(R:Rch s)(h0:s0.cfg=s.cfg)(x:s0.now=s.now)(v:s0.rows=List.replicate 64 En.z)(w:s0.sts=List.replicate 64 none)(r:List Int):∀k,k<=64->
  fm s0 (aR 0 (s.rows.take k)).length ⟨0,(aR 0 s.rows).flatMap (dR s)++r⟩=.ok (⟨lm s.rows k,cutT s.sts k,jF s k⟩,⟨0,(aR k (s.rows.drop k)).flatMap (dR s)++r⟩)
 | 0,_=>by
  show Except.ok _=_;rw[v,w];rfl
 | k+1,hk=>by
  have t:=R.ok.rows.len;have m:=R.ok.len;have b:k<s.rows.length:=by omega
  have d:=Me R h0 x v w r k (by omega);rw[B6 b];rw[Mb b]at d
  by_cases he:0<s.rows[k].epoch
  .rw [V5 he]at d ⊢;rw[V7,Wv];obtain⟨st,c,u⟩:=R.str (by omega) he;have h:=R.ok.sts st (Wk c);have i:=R.rows (k:Int) (by rw[xO b];exact he);rw[xO b]at i;have n:=R.ok.rows.at (k:Int);rw[xO b]at n;have f:=R.flat (k:Int);have y:(aR 0 (s.rows.take k)).length<(aR 0 s.rows).length:=by
    have:=UN (s:=s) k;rw[Mb b,V5 he,V7,Wv]at this;omega
   have A:=R.count;have j:gC s.cfg.agents (lm s.rows k) (k:Int) s.rows[k]=((lm s.rows k).set ((k:Int)).toNat s.rows[k],0):=by
    unfold gC;rw[V4 (by unfold bad;omega),rowE_cut t (by omega),V4 (by simp[En.z]),V4];unfold full lm;rw[xN,LZ,We];omega
   obtain⟨rest,e1,e2⟩:=agtR_enc (s0:={ s0 with rows:=lm s.rows k,sts:=cutT s.sts k }) (a:=(k:Int)) (e:=s.rows[k]) (fl:=bF s.ms (k:Int)) (st:=st) (by rw[h0];exact h) ⟨by unfold aF;omega,by unfold aF;omega,by unfold aF;omega⟩ (by rw[h0];exact j) (by rw[x];exact⟨f.1.1,f.2⟩) (by have:=f.1;unfold aF;omega) ((aR (k+1) (s.rows.drop (k+1))).flatMap (dR s)++r);have e3:([((k:Int),s.rows[k])]++aR (k+1) (s.rows.drop (k+1))).flatMap (dR s)++r=aN [(k:Int)]++rest:=by
    rw[W4,<-e1,VK];congr 1;show dR s ((k:Int),s.rows[k])++[]=_;unfold dR;dsimp only;rw[u,We]
   rw[e3]at d;unfold fm;rw[d];dsimp only;rw[kI (by unfold aF;omega)];dsimp only;rw[e2];dsimp only;rw[VJ,LK (flsK_new k)];have c1:(lm s.rows k).set k s.rows[k]=lm s.rows (k+1):=Mc t (by omega);have c2:(cutT s.sts k).set k (some st)=cutT s.sts (k+1):=by
    have:=Mc (z:=none) m (show k<64 by omega);have e4:s.sts[k]'(by omega)=some st:=by
     rw[List.getElem?_eq_getElem (by omega)]at c;exact Option.some.inj c
    rw[e4]at this;exact this
   have c3:((k:Int),bF s.ms (k:Int))::jF s k=jF s (k+1):=by
    unfold jF;rw[B6 b,V5 he,VW,List.reverse_append];rfl
   rw[c1,c2,c3]
  .rw [V4 he]at d ⊢;rw[We];rw[Wl]at d;rw[d];have c1:lm s.rows (k+1)=lm s.rows k:=Md t (by omega) (R.ok.rows.zero _ (VL b) he);have c2:cutT s.sts (k+1)=cutT s.sts k:=Md m (by omega) (R.nostr (by omega) he);have c3:jF s (k+1)=jF s k:=by
    unfold jF;rw[B6 b,V4 he,We]
   rw[c1,c2,c3]
theorem Rch.nStE{s:aH}(R:Rch s):nStr s=(aR 0 s.rows).length:=by
 have hm:s.sts.map Option.isSome=s.rows.map λe=>decide (0<e.epoch):=by
  apply W9
  .simp [R.ok.len,R.ok.rows.len]
  .intro k c d;have b:k<64:=by rw[VM,R.ok.len]at c;exact c
   simp only[W3]
   by_cases he:0<(s.rows[k]'(by rw[R.ok.rows.len];exact b)).epoch
   .obtain⟨st,a,_⟩:=R.str b he;rw[List.getElem?_eq_getElem (by rw[R.ok.len];exact b)]at a;rw[Option.some.inj a];simp[he]
   .rw [R.nostr b he];simp[he]
 unfold nStr;rw[uP,<-List.countP_eq_length_filter];have c:s.sts.countP Option.isSome=(s.sts.map Option.isSome).countP id:=by rw[List.countP_map];rfl
 have d:s.rows.countP (λe=>decide (0<e.epoch))=(s.rows.map λe=>decide (0<e.epoch)).countP id:=by rw[List.countP_map];rfl
 rw[c,d,hm]
def jG(s:aH):aH:={ s with ms:={ s.ms with m:=jF s 64 },cm:=(bA s.cm).reverse }
theorem Mf(m:CM):aG (bA m)=dY (aG m):=by
 unfold bA aG;rw[Wu];have:((λx:Ky×Cl=>x.1)∘λk=>(k,fO m k))=id:=rfl
 rw[this,List.map_id]
theorem B7{m:CM}{o:Ot}(h:o∈bA m):o∈m:=by
 unfold bA at h;obtain⟨k,a,rfl⟩:=VH.1 h;have a:=(kV _).mem_iff.1 a;unfold fO
 cases e:aK k m with
 | none=>exact V6 a (fu.1 e)
 | some c=>exact hI e
theorem outsL_nd{m:CM}(h:(aG m).Nodup):(aG (bA m)).Nodup:=by
 rw[Mf];exact (kV _).nodup_iff.2 h
theorem UO{s:aH}(R:Rch s)(j:s.kept.length<=1000000000):kK s.cfg (stB s)=.ok (jG s):=by
 have d:=R.ok.now;have b:=R.ok.boots;have c:=R.sunk;have a:=R.ok.sunk;have i:=R.mnow;have D:=R.val;have w:=R.ok.cfg.lag;have h:=R.ok.sh.len;have n:=R.ok.sh.m2;have x:=R.count;have u:=R.ok.cfg.ag;have f:(bA s.cm).length=s.cm.length:=um s.cm;have k:∀o∈bA s.cm,ni o:=λo B=>R.cm o (B7 B)
 have e:stB s=aN [s.now]++(aN [s.boots]++(aN [s.sunk]++(aN [s.ms.now]++(cY [s.ms.value]++(aN [(((aR 0 s.rows).length:Nat):Int)]++((aR 0 s.rows).flatMap (dR s)++(aN [((s.cm.length:Nat):Int)]++((bA s.cm).flatMap ceB++(aN [((s.kept.length:Nat):Int)]++(s.kept.flatMap ceB++[])))))))))):=by
  unfold stB li jr ku;rw[R.nStE,mZ s.now,mZ s.boots,mZ s.sunk];simp only[VK,We]
 unfold kK;rw[e,uI d (by unfold aF;omega)];dsimp only;rw[uI b (by unfold aF;omega)];dsimp only;rw[uI ⟨a,c⟩ (by unfold aF;omega)];dsimp only;rw[uI i (by unfold aF;omega)];dsimp only;rw[uG (by unfold aF;omega)];dsimp only;rw[uH (by omega) (by omega)];dsimp only;have v:=Me (s0:={ bT s.cfg with now:=s.now,boots:=s.boots,sunk:=s.sunk }) R rfl rfl rfl rfl (aN [((s.cm.length:Nat):Int)]++((bA s.cm).flatMap ceB++(aN [((s.kept.length:Nat):Int)]++(s.kept.flatMap ceB++[])))) 64 (VF _);rw[Wc (by rw[R.ok.rows.len];omega),YA (by rw[R.ok.rows.len];omega)]at v;rw[VJ,v];dsimp only;rw[V4 (λC=>C D)]
 have e2:(aR 64 ([]:List En)).flatMap (dR s)++(aN [((s.cm.length:Nat):Int)]++((bA s.cm).flatMap ceB++(aN [((s.kept.length:Nat):Int)]++(s.kept.flatMap ceB++[]))))=aN [((s.cm.length:Nat):Int)]++((bA s.cm).flatMap ceB++(aN [((s.kept.length:Nat):Int)]++(s.kept.flatMap ceB++[]))):=rfl;rw[e2,uH (by omega) (by omega)];dsimp only;have m:=LM (most:=s.cfg.cells) (outsL_nd R.ok.sh.nd) k (by rw[f];exact h) (aN [((s.kept.length:Nat):Int)]++(s.kept.flatMap ceB++[])) (bA s.cm).length (VF _);rw[Wi,W6]at m;rw[VJ,<-f,m];dsimp only;have e3:([]:List Ot).flatMap ceB++(aN [((s.kept.length:Nat):Int)]++(s.kept.flatMap ceB++[]))=aN [((s.kept.length:Nat):Int)]++(s.kept.flatMap ceB++[]):=rfl;rw[e3,uF (by omega) (by omega)];dsimp only;have t:=LJ R.kept [] s.kept.length (VF _);rw[Wi,W6]at t;rw[VJ,t];dsimp only;rw[show (dF ⟨0,([]:List Ot).flatMap ceB++[]⟩).e=0 from rfl,V4 (by simp)];have A:lm s.rows 64=s.rows:=by
  unfold lm;rw[Wc (by rw[R.ok.rows.len];omega)];simp
 have y:cutT s.sts 64=s.sts:=by
  unfold cutT;rw[Wc (by rw[R.ok.len];omega)];simp
 rw[A,y,<-R.ok.lag];rfl
theorem UP{ks ls:List Ky}(h:ks.Perm ls):dY ks=dY ls:=by
 refine List.Perm.eq_of_pairwise (le:=λx y=>ii x y=true) (λa b _ _ e c=>?_) (wL ks) (wL ls) ((kV ks).trans (h.trans (kV ls).symm))
 have w1:=B4 e;have w2:=B4 c;have d:a.win=b.win:=by omega
 unfold ii at e c;simp only[Wb,VP,Wo,VD]at e c;have s1:=e.2.resolve_left (λf=>f d.symm)
 have s2:=c.2.resolve_left (λf=>f d)
 rw[Go.Proofs.bytesLess_eq,VD]at s1 s2;have:a.ser.toList=b.ser.toList:=List.le_antisymm s1 s2;obtain⟨aw,i⟩:=a;obtain⟨bw,sb⟩:=b;dsimp only at d this;rw[ByteArray.toList_eq,ByteArray.toList_eq]at this;have hs:i=sb:=sK this;rw[d,hs]
theorem UQ{m m':CM}(a:(aG m).Nodup)(h:m.Perm m'):bA m=bA m':=by
 unfold bA;rw[UP (h.map Prod.fst:(aG m).Perm (aG m'))];apply WP;intro k _;unfold fO;rw[qk a h]
theorem US{m:CM}(c:(aG m).Nodup):(bA m).Perm m:=by
 have d:(aG (bA m)).Perm (aG m):=by rw[Mf];exact kV _
 have b:bA m=(dY (aG m)).map λk=>(k,fO m k):=rfl
 rw[b];refine ((kV (aG m)).map _).trans ?_;have:(aG m).map (λk=>(k,fO m k))=m:=by
  unfold aG;rw[Wu]
  conv=>rhs;rw[<-List.map_id m]
  apply WP;intro p a;show (p.1,fO m p.1)=p;unfold fO;rw[mo c a];rfl
 rw[this]
theorem UT{s:aH}(R:Rch s)(a:Int):aK a (jF s 64)=if 0<(bg s.rows a).epoch then some (bF s.ms a) else none:=by
 have c:=R.ok.rows.len;have b:((aR 0 s.rows).map λp=>(p.1,bF s.ms p.1)).Perm (jF s 64):=by
  unfold jF;rw[Wc (by omega)];exact (List.reverse_perm _).symm
 have d:aG ((aR 0 s.rows).map λp=>(p.1,bF s.ms p.1))=aG (aR 0 s.rows):=by simp[aG,Function.comp_def]
 rw[<-qk (by rw[d];exact xh) b];have:=xk (f:=λ(k:Int) (_:En)=>bF s.ms k) (k:=a) (m:=aR 0 s.rows)
 rw[this,AS]
 split <;> rfl
theorem flsK_nd(s:aH)(k:Nat):(aG (jF s k)).Nodup:=by
 unfold jF;have:aG (((aR 0 (s.rows.take k)).map λp=>(p.1,bF s.ms p.1)).reverse)=(aG (aR 0 (s.rows.take k))).reverse:=by simp[aG,Function.comp_def]
 rw[this];exact List.pairwise_reverse.2 (xh.imp λh=>h.symm)
theorem Mg{κ α:Type}{m:List (κ×α)}(h:(aG m).Nodup):m.Nodup:=List.Pairwise.of_map Prod.fst (λa b c e=>c (by rw[e])) h
theorem UU{κ α:Type}[DecidableEq κ][DecidableEq α]{m m':List (κ×α)}(h:(aG m).Nodup)(b:(aG m').Nodup)(c:∀k,aK k m=aK k m'):m.Perm m':=by
 refine (List.perm_ext_iff_of_nodup (Mg h) (Mg b)).2 λp=>⟨λa=>?_,λa=>?_⟩
 .have:=mo h a;rw[c]at this;exact hI this
 .have:=mo b a;rw[<-c]at this;exact hI this
theorem uQ{s:aH}(R:Rch s):s.ms.m.Perm (jG s).ms.m/\s.cm.Perm (jG s).cm:=by
 refine⟨UU R.ok.ms.nd (flsK_nd s 64) λa=>?_,?_⟩
 .show aK a s.ms.m=aK a (jF s 64);rw[UT R];have b:=R.keys a;unfold bF
  cases h:aK a s.ms.m with
  | none=>
   rw[h]at b;rw[V4 (by intro c;rw[VS c]at b;simp at b)]
  | some x=>
   rw[h]at b;rw[V5 (by
    by_cases c:0<(bg s.rows a).epoch
    .exact c
    .rw [Ws c]at b;simp at b)]
   rfl
 .exact ((US R.ok.sh.nd).symm.trans (List.reverse_perm _).symm)
theorem UV{s:aH}(R:Rch s)(a:Int):bF (jG s).ms a=bF s.ms a:=by
 have:=qk (x:=a) R.ok.ms.nd (uQ R).1;unfold bF;rw[<-this]
theorem norm_cm{s:aH}(R:Rch s):bA (jG s).cm=bA s.cm:=(UQ R.ok.sh.nd (uQ R).2).symm
theorem UW{s:aH}(R:Rch s):stB (jG s)=stB s:=by
 have c:∀p,dR (jG s) p=dR s p:=by
  intro p;unfold dR;have:dL (jG s) p.1=dL s p.1:=rfl;rw[this]
  cases dL s p.1 with
  | none=>rfl
  | some st=>dsimp only;rw[UV R]
 have a:(jG s).cm.length=s.cm.length:=(uQ R).2.length_eq.symm;unfold stB li jr ku;rw[norm_cm R,a];have b:(aR 0 (jG s).rows).flatMap (dR (jG s))=(aR 0 s.rows).flatMap (dR s):=by
  show (aR 0 s.rows).flatMap _=_;congr 1;funext p;exact c p
 rw[b];rfl
structure lp(o:Ot):Prop where
 ch:CH o.2
 win:0<=o.1.win/\o.1.win<=4611686018427387903
 ser:(il o.1.ser).2.2=true
 size:o.1.ser.size<=5000
theorem ni.l{o:Ot}(h:ni o):lp o:=⟨h.ch,h.win,h.ser,h.size⟩
theorem lp.g{o:Ot}(h:lp o)(wc:WC o.2)(rt:ge o.2=true):ni o:=⟨wc,rt,h.ch,h.win,h.ser,h.size⟩
theorem CH.z:CH Cl.z:=λi _=>rfl
theorem CH.note{c:Cl}(h:CH c)(b:Bool):CH (gP c b).1:=by
 unfold gP
 split
 .exact CH.z
 split
 .split
  .exact CH.z
  .exact h
 .split
  .exact CH.z
  .exact h
theorem CH.add{c:Cl}(h:CH c){v:Int}(b:aF v):CH (jV c v).1:=by
 unfold jV
 split
 .exact CH.z
 split
 .exact CH.z
 split
 .exact CH.z
 split
 .exact CH.z
 rename_i h0;intro i hi;dsimp only;have h0:(jo c.h v).2=0:=Decidable.not_not.1 h0;unfold jo at h0 ⊢
 split at h0
 .simp at h0
 rename_i d;rw[V4 d]
 split at h0
 .simp at h0
 rename_i a;rw[V4 a];have:=pp b;dsimp only;unfold eX;rw[nO];exact h i hi
theorem Mh{B:Nat}:∀{ps:List (List UInt8)},(∀p∈ps,p.length<=B)->(Go.Lib.join ps [44]).length<=(B+1)*ps.length
 | [],_=>by simp[Go.Lib.join_nil]
 | [p],h=>by rw[Go.Lib.join_one];have:=h p (VO ..);simp;omega
 | p::q::r,h=>by
  have b:=Mh (ps:=q::r) λx a=>h x (VQ _ a)
  have:=h p (VO ..);rw[join2,V7,VE];simp only[VE,Nat.mul_succ]at *;omega
theorem UX{name:Fa}{labs:List bS}(h:fw name labs=true):(gh name labs).size<=5000:=by
 have a:=mJ h;have j:=sj a.named;unfold gh;rw[V5 h]
 split
 .omega
 .have e:=Mh (ps:=(labs.map fx).map aX) (B:=129) (by
   intro p c;obtain⟨b,hb,rfl⟩:=VH.1 c;obtain⟨l,d,rfl⟩:=VH.1 hb;have:=sk (a.val l d);rw[xz,V7,VE,kW,kW];omega)
  rw[VM,VM]at e;have i:=a.len;rw[<-kW,pG,pG,pG];have f:aX (kg labs)=Go.Lib.join ((labs.map fx).map aX) [44]:=qO _;simp only[V7,f];rw[kW];have e1:(aX (⟨#[123]⟩:Fa)).length=1:=rfl;have e2:(aX (⟨#[125]⟩:Fa)).length=1:=rfl;rw[e1,e2];omega
structure SerG(ser:Fa):Prop where
 ok:(il ser).2.2=true
 size:ser.size<=5000
theorem serG_of{e:Pv}(h:gS e=true):SerG (gh e.name e.labs):=by
 obtain⟨_,a⟩:=L8 h;exact⟨by rw[Up a],UX a⟩
theorem note_L{most first last:Int}{m:CM}{ser:Fa}(h:∀p∈m,lp p)(hs:SerG ser)(j:0<=first)(f:last<=4611686018427387903):∀p∈(jX most m first last ser).1,lp p:=by
 unfold jX
 split
 .exact h
 split
 .exact h
 split
 .exact h
 intro p b
 rcases LW b with b|b
 .obtain⟨w,d,e1,e2,e3⟩:=AX b;unfold cr at d;obtain⟨i,a,rfl⟩:=VH.1 d;have a:=WG.1 a;have e:CH (fO m ⟨first+(i:Int),ser⟩):=by
   unfold fO
   cases hm:aK (⟨first+(i:Int),ser⟩:Ky) m with
   | none=>exact CH.z
   | some c=>exact (h _ (hI hm)).ch
  exact⟨by rw[e2];exact e.note _,by rw[e1];dsimp only;omega,by rw[e1];exact hs.ok,by rw[e1];exact hs.size⟩
 .exact h p b
theorem count_L{m:CM}{k:Ky}{v:Int}(h:∀p∈m,lp p)(d:aF v):∀p∈(mI m k v).1,lp p:=by
 unfold mI
 split
 .exact h
 rename_i c b
 split
 .exact h
 intro p a
 rcases nU a with rfl|a
 .have:=h (k,c) (hI b);exact⟨this.ch.add d,this.win,this.ser,this.size⟩
 .exact h p a
structure MsJ(lim:Int)(ms ms':MS):Prop where
 now:ms'.now=ms.now
 value:ms'.value=ms.value
 keys:∀a,(aK a ms'.m).isSome=(aK a ms.m).isSome
 fl:∀p∈ms'.m,p.2.t<=lim
theorem Mi{now:Int}{ms:MS}{a t:Int}(h:∀p∈ms.m,p.2.t<=now)(c:t<=now):MsJ now ms (ms.raise a t).1:=by
 have r1:=UL ms a t;refine⟨r1.2,r1.1,λb=>?_,raise_fl h c⟩
 unfold MS.raise
 split
 .rfl
 rename_i x d
 split
 .rfl
 dsimp only;rw[lD]
 split
 .rename_i e;rw[e,d];rfl
 .rfl
theorem MsJ.trans{now:Int}{a b c:MS}(h:MsJ now a b)(d:MsJ now b c):MsJ now a c:=⟨d.now.trans h.now,d.value.trans h.value,λk=>(d.keys k).trans (h.keys k),d.fl⟩
theorem flOf_lo{ms:MS}(h:MOk ms)(a:Int):0<=(bF ms a).t:=by
 unfold bF
 cases e:aK a ms.m with
 | none=>exact Wh _
 | some x=>exact (h.rows _ (hI e)).2.1
theorem judgeS_J{c:bD}{now a:Int}{st:br}{ms:MS}{cm:CM}{e:Pv}(d:c.gd.ok)(k:isT now)(hm:MOk ms)(i:gS e=true)(n:aF e.value)(h:∀p∈ms.m,p.2.t<=now)(b:∀p∈cm,lp p) :
  MsJ now ms (eD c now a st ms cm e).ms/\∀p∈(eD c now a st ms cm e).cm,lp p:=by
 have same:MsJ now ms ms:=⟨rfl,rfl,λ_=>rfl,h⟩
 unfold eD
 split
 .exact⟨same,b⟩
 split
 .exact⟨same,b⟩
 rename_i s f;have f:(cQ st.ck (bF ms a) now e.stamp).2=0:=Decidable.not_not.1 (not_or.1 f).1;obtain⟨t1,t2,t3⟩:=LV f;have j:=flOf_lo hm a;generalize cQ st.ck (bF ms a) now e.stamp=T at *;have r:=Mi (a:=a) (t:=T.1.lo) h (by omega)
 split
 .exact⟨r,b⟩
 have w:=UM (g:=c.gd) (x:=T.1) (.inr trivial) d t1;rw[w];dsimp only;have w0:0<=fN c.gd T.1.lo:=by
  rw[LU d (by unfold isV isT at *;omega)];exact Int.ediv_nonneg (by omega) (by have:=d.1;omega)
 have w1:fN c.gd T.1.hi<=4611686018427387903:=by
  rw[LU d (by unfold isV isT at *;omega)];have:=Int.ediv_le_self (a:=T.1.hi) c.gd.width (by omega);unfold isT at k;omega
 have N:=note_L (most:=c.cells) (ser:=gh e.name e.labs) b (serG_of i) w0 w1
 split
 .exact⟨r,N⟩
 split
 .exact⟨r,N⟩
 .exact⟨r,count_L N n⟩
theorem Mj{c:bD}{now a ep first:Int}{evs:List Pv}{x:JS}(i:c.gd.ok)(k:isT now)(hm:MOk x.ms)(d:∀e∈evs,gS e=true/\aF e.value)(j:∀p∈x.ms.m,p.2.t<=now)(f:∀p∈x.cm,lp p):∀n,n<=evs.length->
  MOk (dh c now a ep first evs x n).1.ms/\MsJ now x.ms (dh c now a ep first evs x n).1.ms/\∀p∈(dh c now a ep first evs x n).1.cm,lp p
 | 0,_=>⟨hm,⟨rfl,rfl,λ_=>rfl,j⟩,f⟩
 | n+1,hl=>by
  obtain⟨i1,i2,i3⟩:=Mj (ep:=ep) (first:=first) (a:=a) i k hm d j f n (by omega);have b:=d (evs.getD n Pv.z) (by rw[ow _ (by omega)];exact VL _);have h:=judgeS_J (a:=a) (st:=(dh c now a ep first evs x n).1.st) (e:=evs.getD n Pv.z) i k i1 b.1 b.2 i2.fl i3;have hm:=Kx (c:=c) (now:=now) (a:=a) (st:=(dh c now a ep first evs x n).1.st) (cm:=(dh c now a ep first evs x n).1.cm) (e:=evs.getD n Pv.z) i1;exact⟨hm.1,i2.trans h.1,h.2⟩
theorem Mk{lim:Int}{m:FM}:∀(ks:List Int) (s:Int×Bool),lim<=s.1->lim<=(jA lim m ks s).1
 | [],s,h=>h
 | k::r,s,h=>by
  refine Mk r _ ?_;unfold nT
  split
  .rename_i a;dsimp only;omega
  .exact h
theorem cmG{s:aH}(ok:cR s)(h:∀p∈s.cm,lp p):∀p∈s.cm,ni p:=λp a=>(h p a).g (ok.sh.wc p a) (ok.sh.rt p a)
theorem Rch.cl{s:aH}(R:Rch s):∀p∈s.cm,lp p:=λp a=>(R.cm p a).l
theorem Ml{c:bD}(ok:jB c):Rch (bT c) where
 ok:=qN ok
 sunk:=by show (0:Int)<=_;decide
 mnow:=⟨Wh _,Wh _⟩
 val:=by have:=ok.lag;show (0:Int)-c.lag<=-c.lag/\-c.lag<=0;omega
 keys:=λa=>by
  have:bg (bT c).rows a=En.z:=by
   unfold bg bT;dsimp only
   split
   .rfl
   .rw [List.getElem?_replicate];split <;> rfl
  rw[this];rfl
 fl:=λp b=>V6 b (by simp[bT,MS.new])
 rows:=λa h=>by
  exfalso;have:bg (bT c).rows a=En.z:=by
   unfold bg bT;dsimp only
   split
   .rfl
   .rw [List.getElem?_replicate];split <;> rfl
  rw[this]at h;simp[En.z]at h
 ag:=(open_new ok).ag
 cm:=λp b=>V6 b (by simp[bT])
 kept:=λp b=>V6 b (by simp[bT])
theorem uR{s:aH}{r:Rp}(R:Rch s)(U:∀e∈r.evs,aF e.value):Rch (fR s r):=by
 have d:cR (fR s r):=apply_ok R.ok U;have ok:=R.ok;have h5:=R.mnow;have Y:=R.val;unfold fR at *;revert d;have u:∀{n:Int},s.now<=n->(0<=s.ms.now/\s.ms.now<=n)/\∀p∈s.ms.m,p.2.t<=n:=λh=>⟨by omega,λp y=>by have:=R.fl p y;omega⟩
 refine oH (P:=λq=>cR q.1->Rch q.1) (λ_ _=>R) (λ_ _ _=>R) (λ_ _ _ d=>⟨d,R.sunk,R.mnow,R.val,R.keys,R.fl,R.rows,R.ag,R.cm,R.kept⟩) (λE j A d=>?_) (λE j A d=>?_) (λE j A d=>?_) (λE j A d=>?_) (λE j A d=>?_) λE j A d=>?_
 .have v:=iF E;have i:=uO (by omega) (by omega) j;rw[nO]at i;obtain⟨u1,u2⟩:=u i;have W:=xx (most:=s.cfg.agents) ok.rows r.ag r.bt r.nw;revert d;unfold fB
  split
  .exact λ_=>R
  rename_i D;have D:=Decidable.not_not.1 D;have hb:¬bad r.ag r.bt r.nw:=by
   intro hb;unfold grant at D;rw[V5 hb]at D;simp at D
  split
  .rename_i j;intro d
   rcases W with ⟨-,g2,g3,g4,g5⟩|⟨g1,_⟩
   .have H:r.ag.toNat<s.rows.length:=by rw[ok.rows.len];have:=v.ag;omega
    have w:¬((bg s.rows r.ag).epoch=0/\full s.cfg.agents s.rows)/\(grant s.cfg.agents s.rows r.ag r.bt r.nw).2.1.time=r.nw/\(grant s.cfg.agents s.rows r.ag r.bt r.nw).2.1.boot=r.bt:=by
     unfold grant at j D ⊢;rw[V4 hb]at j D ⊢;dsimp only at j D ⊢
     split at j
     .cases j
     rename_i q1;rw[V4 q1]at D ⊢
     split at j
     .cases j
     rename_i q2;rw[V4 q2]at D ⊢
     split at j
     .cases j
     rename_i q3;rw[V4 q3]at D ⊢
     split at j
     .cases j
     rename_i q4;rw[V4 q4];exact⟨q4,rfl,rfl⟩
    have N:=(open_ag (s:=s) ok R.ag v.ag w.1 g2);generalize (grant s.cfg.agents s.rows r.ag r.bt r.nw)=G at *;have I:∀a,bg G.1 a=if a=r.ag then G.2.1 else bg s.rows a:=by
     intro a;rw[g2]
     by_cases e:a=r.ag
     .rw [V5 e,e,B5 v.ag.1 H]
     .rw [V4 e];unfold bg
      by_cases h0:a<0
      .rw [V5 h0,V5 h0]
      .rw [V4 h0,V4 h0,List.getElem?_set_ne (by have:=v.ag;omega)]
    have hold:(gW s r.ag).now=s.ms.now/\(gW s r.ag).value=s.ms.value/\(∀p∈(gW s r.ag).m,p.2.t<=r.nw)/\aK r.ag (gW s r.ag).m=none/\∀a,a≠r.ag->aK a (gW s r.ag).m=aK a s.ms.m:=by
     unfold gW
     cases hs:dL s r.ag with
     | none=>
      dsimp only;refine⟨rfl,rfl,u2,?_,λ_ _=>rfl⟩
      have A:=R.keys r.ag;have h0:¬0<(bg s.rows r.ag).epoch:=by
       intro h;have T:r.ag.toNat<64:=by have:=v.ag;omega
       have e1:((r.ag.toNat:Nat):Int)=r.ag:=by have:=v.ag;omega
       have e2:bg s.rows r.ag=s.rows[r.ag.toNat]:=by rw[<-xO H,e1]
       obtain⟨st,_,F⟩:=R.str T (by rw[<-e2];exact h);rw[e1,hs]at F
       cases F
      rw[Ws h0]at A
      cases h:aK r.ag s.ms.m with
      | none=>rfl
      | some x=>rw[h]at A;simp at A
     | some st=>
      dsimp only;unfold MS.leave
      split
      .rename_i h;exact⟨rfl,rfl,u2,h,λ_ _=>rfl⟩
      .refine⟨rfl,rfl,λp y=>u2 p (rC.1 y).1,?_,λa ha=>?_⟩
       .dsimp only;rw[vO,V5 rfl]
       .dsimp only;rw[vO,V4 ha]
    obtain⟨o1,o2,o3,o4,o5⟩:=hold;have S:(gW s r.ag).join r.ag r.nw=({ gW s r.ag with m:=mset r.ag ⟨r.nw,false,false,false⟩ (gW s r.ag).m },0):=by
     unfold MS.join;have L:=v.ag;have F:=v.nw;rw[V4 (by unfold isAg isT;unfold isT at F;omega),o4]
    rw[S]at d ⊢;refine⟨d,R.sunk,by dsimp only;omega,by dsimp only;omega,λa=>?_,λp y=>?_,λa h=>?_,N,R.cm,R.kept⟩
    .dsimp only;rw[I,lD]
     by_cases e:a=r.ag
     .rw [V5 e,V5 e,VS g3];rfl
     .rw [V4 e,V4 e,o5 a e];exact R.keys a
    .rcases nU y with rfl|y
     .exact Wh _
     .exact o3 p y
    .dsimp only at h ⊢;rw[I]at h ⊢
     by_cases e:a=r.ag
     .rw [V5 e,w.2.1,w.2.2];have L:=v.bt;have F:=v.nw;exact⟨⟨L.1 A,L.2.2⟩,F.1,F.2⟩
     .rw [V4 e]at h ⊢;exact R.rows a h
   .rw [g1]at j;cases j
  .rename_i j;intro d
   rcases W with ⟨g1,_⟩|⟨-,g2,_⟩
   .exact V6 g1 j
   .rw [g2]at d ⊢;exact⟨d,R.sunk,u1,R.val,R.keys,u2,R.rows,R.ag,R.cm,R.kept⟩
 .have v:=iF E;have i:=uO (by omega) (by omega) j;rw[V5 A]at i;obtain⟨u1,u2⟩:=u i;obtain⟨st,C⟩:=lf ok v j (.inl A);revert d;unfold mT;rw[C];intro d;have hh:∀b,(s.ms.hold r.ag b).1.now=s.ms.now/\(s.ms.hold r.ag b).1.value=s.ms.value/\(∀a,(aK a (s.ms.hold r.ag b).1.m).isSome=(aK a s.ms.m).isSome)/\∀p∈(s.ms.hold r.ag b).1.m,p.2.t<=r.sm.came:=by
   intro b;unfold MS.hold
   split
   .exact⟨rfl,rfl,λ_=>rfl,u2⟩
   .rename_i x Z;refine⟨rfl,rfl,λa=>?_,λp y=>?_⟩
    .dsimp only;rw[lD]
     split
     .rename_i e;rw[e,Z];rfl
     .rfl
    .rcases nU y with rfl|y
     .have:=u2 (r.ag,x) (hI Z);exact this
     .exact u2 p y
  obtain⟨L,F,h3,h4⟩:=hh (kS st.ck r.sm).1.held;refine⟨d,R.sunk,?_,?_,λa=>?_,h4,R.rows,R.ag,R.cm,R.kept⟩
  .dsimp only;rw[L];exact u1
  .dsimp only;rw[L,F];exact R.val
  .dsimp only;rw[h3];exact R.keys a
 .have v:=iF E;have i:=uO (by omega) (by omega) j;rw[nO]at i;obtain⟨u1,u2⟩:=u i;obtain⟨st,C⟩:=lf ok v j (.inr (.inl A));have M:=ok.sts st (Wk C);have hb:=v.evs A;unfold gT at hb;simp only[VB,VA,Wt]at hb;obtain⟨⟨l0,l5⟩,⟨⟨h9,h6⟩,h7⟩,O⟩:=hb;have hm:=uq (s:=st.hs) (first:=r.nx) (items:=r.evs);have good:∀e∈(st.hs.offer r.nx r.evs).2.1,gS e=true/\aF e.value:=by
   intro e he
   rcases hm.1 e he with h|⟨q,h,rfl⟩
   .exact⟨O e h,U e h⟩
   .exact (M.rows q h).2
  have S:=Mj (c:=s.cfg) (now:=r.nw) (a:=r.ag) (ep:=r.ep) (first:=st.hs.next) (evs:=(st.hs.offer r.nx r.evs).2.1) (x:=⟨{ st with hs:=(st.hs.offer r.nx r.evs).1 },s.ms,s.cm⟩) ok.cfg.gd v.nw ok.ms good u2 R.cl _ (VF _);revert d;unfold gD;rw[C];dsimp only;unfold kF;generalize dh s.cfg r.nw r.ag r.ep st.hs.next (st.hs.offer r.nx r.evs).2.1 ⟨{ st with hs:=(st.hs.offer r.nx r.evs).1 },s.ms,s.cm⟩ (st.hs.offer r.nx r.evs).2.1.length=G at *;intro d;obtain⟨j1,B,j3⟩:=S;refine⟨d,R.sunk,?_,?_,λa=>?_,B.fl,R.rows,R.ag,cmG d j3,R.kept⟩
  .dsimp only at B ⊢;rw[B.now];exact u1
  .dsimp only at B ⊢;rw[B.now,B.value];exact R.val
  .dsimp only at B ⊢;rw[B.keys];exact R.keys a
 .have v:=iF E;have i:=uO (by omega) (by omega) j;rw[nO]at i;obtain⟨u1,u2⟩:=u i;obtain⟨st,C⟩:=lf ok v j (.inr (.inr A));revert d;unfold lT;rw[C];dsimp only
  split
  .exact λd=>⟨d,R.sunk,u1,R.val,R.keys,u2,R.rows,R.ag,R.cm,R.kept⟩
  split
  .exact λd=>⟨d,R.sunk,u1,R.val,R.keys,u2,R.rows,R.ag,R.cm,R.kept⟩
  .rename_i hT;intro d;obtain⟨t1,t2,t3⟩:=LV (Decidable.not_not.1 hT);have B:=Mi (a:=r.ag) (t:=(cQ st.ck (bF s.ms r.ag) r.nw r.st).1.lo) u2 (by omega);refine⟨d,R.sunk,?_,?_,λa=>?_,B.fl,R.rows,R.ag,R.cm,R.kept⟩
   .dsimp only;rw[B.now];exact u1
   .dsimp only;rw[B.now,B.value];exact R.val
   .dsimp only;rw[B.keys];exact R.keys a
 .have v:=iF E;have i:=uO (by omega) (by omega) j;rw[nO]at i;obtain⟨u1,u2⟩:=u i;have J:=v.nw;have V:=ok.ms.l1;have h8:=ok.lag;have ht:s.ms.tick r.nw=({ s.ms with now:=r.nw,value:=maxI s.ms.value (jA (r.nw-s.ms.lag) s.ms.m (sortI (aG s.ms.m)) (r.nw-s.ms.lag,false)).1,m:=s.ms.m.map λp=>(p.1,ko (r.nw-s.ms.lag) p.2) },0):=by
   unfold MS.tick;rw[V4 (by intro h;rcases h with h|h;exact h J;omega)]
  have f1:=LY (lim:=r.nw-s.ms.lag) u2 J.1 (sortI (aG s.ms.m)) (r.nw-s.ms.lag,false) (by dsimp only;omega);have f2:=Mk (lim:=r.nw-s.ms.lag) (m:=s.ms.m) (sortI (aG s.ms.m)) (r.nw-s.ms.lag,false) (Wh _);revert d;unfold kG dt;rw[ht];intro d;have Q:∀p∈nP s.cm (fN s.cfg.gd (maxI s.ms.value (jA (r.nw-s.ms.lag) s.ms.m (sortI (aG s.ms.m)) (r.nw-s.ms.lag,false)).1)),ni p:=λp y=>R.cm p (UJ.1 y).1
  refine⟨d,R.sunk,⟨J.1,Wh _⟩,?_,λa=>?_,λp y=>?_,R.rows,R.ag,Q,λo K=>?_⟩
  .dsimp only;unfold maxI
   split <;> omega
  .dsimp only;have:=xk (f:=λ(_:Int)=>ko (r.nw-s.ms.lag)) (k:=a) (m:=s.ms.m)
   rw[this,<-R.keys a]
   cases aK a s.ms.m <;> rfl
  .obtain⟨q,hq,rfl⟩:=VH.1 y;exact u2 q hq
  .rcases VV.1 K with K|K
   .exact R.kept o K
   .exact R.cm o (B7 (Bb K))
 .revert d;unfold mU
  split
  .intro d;have v:=iF E;exact⟨d,by have:=v.nx;exact this.2,R.mnow,R.val,R.keys,R.fl,R.rows,R.ag,R.cm,λo K=>R.kept o (WH K)⟩
  .exact λ_=>R
theorem Rch.ser{s:aH}(R:Rch s):qP s:=⟨λp a=>(R.cm p a).size,λo b=>(R.kept o b).size⟩
structure Rx where
 kind:Int
 ag:Int
 ep:Int
 bt:Int
 nx:Int
 st:Int
 nw:Int
 sm:bQ
 ea:KQ
 ec:Nat
 evs:List Ev
abbrev encX(x:Rx):Os:=[aB x.kind,aB x.ag,aB x.ep,aB x.bt,aB x.nx,aB x.st,aB x.nw,aB x.sm.asked,aB x.sm.got,aB x.sm.sent,aB x.sm.came,.slice x.ea x.evs.length x.ec]
theorem Mm(x:Rx):(encX x).length=12:=rfl
structure RxK(Q:aE)(x:Rx):Prop where
 rd:KIn Q x.ea (flat cx x.evs)
 labs:∀e∈x.evs,im Q e
 val:∀e∈x.evs,aF e.value
 ll:∀e∈x.evs,e.labs.length<=maxLen
structure XsK(Q:aE)(a:KQ)(xs:List Rx):Prop where
 rd:KIn Q a (flat encX xs)
 rx:∀x∈xs,RxK Q x
 ll:xs.length<=maxLen
def grL(l:bS):Bool:=decide (300<(l.name.size:Int))||decide (300<(l.value.size:Int))
def grS(name:Fa)(labs:List bS):Bool:=decide (100<(labs.length:Int))||decide (300<(name.size:Int))||labs.any grL
def grE(evs:List Ev):Bool:=decide (100<(evs.length:Int))||evs.any λe=>grS e.name e.labs
def grC(c:bD)(n:Nat):Bool:=decide (80<(n:Int))||(decide (200<c.cells)&&decide (c.cells<=1024))
def grR(c:bD)(xs:List Rx):Bool:=grC c xs.length||xs.any λx=>grE x.evs
theorem B8{α:Type}{p:α->Bool}{l:List α}(h:∀q (a:q<l.length),p l[q]=false):l.any p=false:=by
 rw[List.any_eq_false];intro x b;obtain⟨q,a,rfl⟩:=Wz b;rw[h q a];simp
theorem B9{α:Type}{p:α->Bool}{l:List α}{q:Nat}(a:q<l.length)(h:p l[q]=true):l.any p=true:=List.any_eq_true.2 ⟨_,VL a,h⟩
def dH(s:aH)(rs:List Rp):aH:=rs.foldl (λs r=>(bO s r).1) s
theorem UY(s:aH)(rs:List Rp)(r:Rp):dH s (rs++[r])=(bO (dH s rs) r).1:=by unfold dH;rw[WR];rfl
section
variable {F L:List aE}{H H0:aC}{K KP:KE}{Q Q':aE}{sb:Nat}{s:aH}
theorem Mn{name:Fa}{labs:List bS}{a:KQ}{c:Nat}(h:aA H F)(x:∀H,aA H F->aP H a (flat dg labs))(A:labs.length<=maxLen)(k:∀m,aA m F->K (.bool (grS name labs)) m) :
  CF 186 #[.agg #[.string name,.slice a labs.length c]] H K:=by
 refine cN 186 0x1d21562139925b4c [[(3,sI)]] ?_;unfold grS at k;refine h.al λb _ h=>⟨_,_,_,h.r 0,_,λ_=>h.r 0,λe=>?_,λe=>?_⟩
 .rw [e,Bool.true_or]at k;exact k _ h.tl
 rw[e,Yc]at k;rw[VP,VD]at e;refine⟨λi m=>∃j:Nat,i=j/\j<=labs.length/\(∀q (s:q<labs.length),q<j->grL labs[q]=false)/\aA m (cellsA b [.string name,.slice a labs.length c] 79::F),λi _=>labs.length-i.toNat,⟨0,rfl,by omega,λq _ h=>by omega,h⟩,?_⟩
 rintro i m ⟨j,rfl,B,s,h⟩;refine⟨_,_,_,h.r 0,λe=>?_,λe=>?_⟩
 .have d:j<labs.length:=by have:=V8 e;omega
  have n:=x m h.tl;have e1:=n.el0 iV d (v:=.string labs[j].name) rfl;have e2:=n.el iV d 1 (v:=.string labs[j].value) rfl;refine⟨_,_,_,h.r 0,by omega,_,_,n.some iV (by omega) d,_,e1,_,_,_,λ_=>h.r 0,λ_=>by omega,_,_,λ_=>n.some iV (by omega) d,_,λ_=>e2,λt=>?_,λt=>?_⟩
  .rw [B9 d t]at k;exact k _ h.tl
  .conv=>whnf
   rw[aJ (by omega) (by unfold maxLen at *;omega)];refine⟨⟨j+1,by omega,d,λq f w=>?_,h⟩,by dsimp only;omega⟩
   rcases Wa q j with u|u
   .exact s q f u
   .obtain rfl:q=j:=by omega
    exact t
 .have y:labs.length<=j:=by have:=V9 e;omega
  rw[B8 λq f=>s q f (by omega)]at k
  exact k _ h.tl
theorem UZ{evs:List Ev}{a:KQ}{c:Nat}(h:aA H F)(E:∀H,aA H F->aP H a (flat cx evs))(hb:∀e∈evs,(∀H,aA H F->aP H e.la (flat dg e.labs))/\e.labs.length<=maxLen)(k:∀s,aA s F->K (.bool (grE evs)) s) :
  CF 85 #[.agg #[aD 0,aD 0,aD 0,aD 0,aD 0,aD 0,aD 0,aD 0,aD 0,aD 0,.slice a evs.length c,.string ⟨#[]⟩,.slice none 0 0,.slice none 0 0]] H K:=by
 refine cN 85 0x12283c921562139925b4c [[(3,sI)],[(18,sB)]] ?_;unfold grE at k;refine h.al λb _ h=>?_
 intro G y;refine⟨_,_,_,h.r 0,_,_,_,λ_=>h.r 0,_,_,_,_,λ_=>h.q 0,λm=>?_,λm=>?_⟩
 .have f:decide (100<(evs.length:Int))=false:=(VP.1 m).1;rw[f,Yc]at k;refine Mn (labs:=[]) h (λH _=>iv H _) (by simp) λC h=>⟨_,rfl,y _ _ ?_⟩
  refine⟨λx=>V6 x (by decide),λ_=>?_⟩
  rw[VD]at f;refine⟨λi s=>∃j:Nat,i=j/\j<=evs.length/\(∀q (u:q<evs.length),q<j->grS evs[q].name evs[q].labs=false)/\aA s (cellsA b [aD 0,aD 0,aD 0,aD 0,aD 0,aD 0,aD 0,aD 0,aD 0,aD 0,.slice a evs.length c,.string ⟨#[]⟩,.slice none 0 0,.slice none 0 0] 81::F),λi _=>evs.length-i.toNat,⟨0,rfl,by omega,λq _ h=>by omega,h⟩,?_⟩
  rintro i s ⟨j,rfl,I,u,h⟩;refine⟨_,_,_,h.r 0,λm=>?_,λm=>?_⟩
  .have d:j<evs.length:=by have:=V8 m;omega
   have t:=E s h.tl;have e1:=t.el fG d 2 (v:=.string evs[j].name) rfl;have e2:=t.el fG d 3 (v:=.slice evs[j].la evs[j].labs.length evs[j].lc) rfl;obtain⟨g1,g2⟩:=hb _ (VL d);refine⟨_,_,_,h.r 0,by omega,_,_,t.some fG (by omega) d,_,_,_,_,⟨e1,e2⟩,?_⟩;refine Mn (name:=evs[j].name) (labs:=evs[j].labs) h (λH h=>g1 H h.tl) g2 λC h=>⟨_,rfl,λw=>?_,λw=>?_⟩
   .rw [B9 (p:=λe=>grS e.name e.labs) d w]at k
    exact k _ h.tl
   .conv=>whnf
    rw[aJ];refine⟨⟨j+1,by omega,d,λq n B=>?_,h⟩,by dsimp only;omega⟩
    rcases Wa q j with A|A
    .exact u q n A
    .obtain rfl:q=j:=by omega
     exact w
  .have D:evs.length<=j:=by have:=V9 m;omega
   rw[B8 (p:=λe=>grS e.name e.labs) λq n=>u q n (by omega)]at k
   exact k _ h.tl
 .have f:decide (100<(evs.length:Int))=true:=by
   rw[VP]at m
   cases e:decide (100<(evs.length:Int)) with
   | true=>rfl
   | false=>exact V6 ⟨e,by simp⟩ m
  rw[f,Bool.true_or]at k;refine y _ _ ?_;exact⟨λ_=>k _ h.tl,λx=>V6 x (by decide)⟩
theorem Va{cf:bD}{a:KQ}{c:Nat}{xs:List Rx}(h:aA H (Q::F))(w:XsK Q a xs)(k:∀s,aA s (Q::F)->K (.bool (grR cf xs)) s) :
  CF 36 #[.agg ⟨oA cf⟩,.slice a xs.length c] H K:=by
 refine cN 36 0x1d21562139925b4c [[(5,sI)]] ?_;unfold grR grC at k;refine h.al λb _ h=>⟨_,λ_=>h.r 0,_,λ_=>h.r 0,λm=>?_,λm=>?_⟩
 .rw [m,Bool.true_or]at k;exact k _ h.tl
 rw[m,Yc]at k;refine⟨λi s=>∃j:Nat,i=j/\j<=xs.length/\(∀q (t:q<xs.length),q<j->grE xs[q].evs=false)/\aA s (cellsA b (oA cf) 23::Q::F),λi _=>xs.length-i.toNat,⟨0,rfl,by omega,λq _ h=>by omega,h⟩,?_⟩
 rintro i s ⟨j,rfl,E,t,h⟩;refine⟨λm=>?_,λm=>?_⟩
 .have d:j<xs.length:=by have:=V8 m;omega
  have y:=w.rd.at h 1 rfl;have e1:=y.el Mm d 11 (v:=.slice xs[j].ea xs[j].evs.length xs[j].ec) rfl;refine⟨by omega,_,_,y.some Mm (by omega) d,_,_,_,e1,?_⟩;have f:=w.rx _ (VL d);refine UZ (evs:=xs[j].evs) h (λH h=>f.rd.at h 1 rfl) (λe A=>⟨λH h=>(f.labs e A).at h 1 rfl,f.ll e A⟩) λG h=>⟨_,rfl,λu=>?_,λu=>?_⟩
  .rw [B9 (p:=λx=>grE x.evs) d u]at k
   exact k _ h.tl
  .conv=>whnf
   rw[aJ (by omega) (by have:=w.ll;unfold maxLen at *;omega)];refine⟨⟨j+1,by omega,d,λq n C=>?_,h⟩,by dsimp only;omega⟩
   rcases Wa q j with B|B
   .exact t q n B
   .obtain rfl:q=j:=by omega
    exact u
 .have D:xs.length<=j:=by have:=V9 m;omega
  rw[B8 (p:=λx=>grE x.evs) λq n=>t q n (by omega)]at k
  exact k _ h.tl
end
section
variable {H:Type}{enc:TypeId×Value->H}{W:World}
theorem okWide_agg{P:Program}{w:World}{r:Reach}{a:Nat}{t:TypeId}{v:Value}{fs:Array Field}(b:P.underlying t=some (.struct fs))(h:Value.okWide P w r a t v):∃cs,v=.agg cs:=by
 simp only[Value.okWide,b]at h;obtain⟨cs,h,_⟩:=h;exact⟨cs,h⟩
theorem Vb{cs:Os}(h:kP enc Tryz.prog W 23 cs):∃cf:bD,cs=oA cf:=by
 obtain⟨b,c⟩:=yM Tryz.underlying23 h;have c2:Tryz.prog.cellsOf 2=1:=by kernel_rfl
 have c3:Tryz.prog.cellsOf 3=1:=by kernel_rfl
 have a:Tryz.prog.cellsOf 23=9:=by kernel_rfl
 rw[a]at b;simp only[VN,WF,or_false,forall_eq_or_imp,forall_eq,c2,c3]at c;obtain⟨f1,f2,f3,f4,f5,f6,f7,f8,f9⟩:=c
 match cs,b with
 | [x1,x2,x3,x4,x5,x6,x7,x8,x9],_=>
  simp only[List.drop_zero,WO,Yi,Y9]at f1 f2 f3 f4 f5 f6 f7 f8 f9;obtain⟨n1,e1,_,_⟩:=iw Tryz.underlying2 f1;obtain⟨n2,e2,_,_⟩:=iw Tryz.underlying3 f2;obtain⟨n3,e3,_,_⟩:=iw Tryz.underlying2 f3;obtain⟨n4,e4,_,_⟩:=iw Tryz.underlying2 f4;obtain⟨n5,e5,_,_⟩:=iw Tryz.underlying2 f5;obtain⟨n6,e6,_,_⟩:=iw Tryz.underlying3 f6;obtain⟨n7,e7,_,_⟩:=iw Tryz.underlying3 f7;obtain⟨n8,e8,_,_⟩:=iw Tryz.underlying3 f8;obtain⟨n9,e9,_,_⟩:=iw Tryz.underlying3 f9;simp only[List.cons.injEq,and_true]at e1 e2 e3 e4 e5 e6 e7 e8 e9;subst e1 e2 e3 e4 e5 e6 e7 e8 e9;exact⟨⟨n1,n2,n3,n4,n5,n6,n7,n8,n9⟩,rfl⟩
theorem reads_bs{cs:Os}(h:kP enc Tryz.prog W 43 cs):∃a c bs,cs=[.slice a (List.length bs) c]/\bs.length<=maxLen/\aP W.heap a (bs.map U8)/\aI bs:=by
 obtain⟨a,c,xs,j,i,d,m⟩:=Ey (ec:=λx:Int=>[U8 x]) (Q:=λx=>0<=x/\x<256) Tryz.underlying43 (by kernel_rfl) (by decide) h (λs k _=>by
  obtain⟨n,e,b,f⟩:=iw Tryz.underlying5 k;have b:0<=n:=b;have f:n<=255:=f;exact⟨n,e,b,by omega⟩) (λ_=>rfl)
 have e:∀l:List Int,flat (λx=>[U8 x]) l=l.map U8:=λl=>by
  induction l with
  | nil=>rfl
  | cons x r ih=>rw[lB,ih];rfl
 rw[e]at d;exact⟨a,c,xs,j,i,d,m⟩
end
theorem BA{f:Nat->Int}{is:List Nat}(h:∀i∈is,aF (f i))(r:List Int):∀j,j<=is.length->jb j ⟨0,(is.flatMap λi=>aN [f i])++r⟩=.ok ((is.take j).map f,⟨0,((is.drop j).flatMap λi=>aN [f i])++r⟩)
 | 0,_=>rfl
 | j+1,hj=>by
  have a:j<is.length:=by omega
  unfold jb;rw[BA h r j (by omega)];dsimp only;rw[Wx a,Wg,VK,kI (h _ (VL a))];dsimp only;rw[WI,List.getElem?_eq_getElem a,VW];rfl
theorem Mo{l:List Pv}(h:∀e∈l,gS e=true/\aF e.value)(r:List Int):∀j,j<=l.length->kY j ⟨0,l.flatMap evB++r⟩=.ok (l.take j,⟨0,(l.drop j).flatMap evB++r⟩)
 | 0,_=>rfl
 | j+1,hj=>by
  have a:j<l.length:=by omega
  have hm:=h _ (VL a);unfold kY;rw[Mo h r j (by omega)];dsimp only;rw[Wx a,Wg,VK,L9 hm.1 hm.2];dsimp only;rw[WI,List.getElem?_eq_getElem a];rfl
theorem atV_map{k:Int}{f:Nat->Int}{i:Nat}:atV k ((cu k).map f) i=if i∈cu k then f i else 0:=by
 unfold atV
 split
 .rename_i h;have a:=List.idxOf_lt_length_iff.2 h;rw[Yp,List.getElem?_map,List.getElem?_eq_getElem a,List.getElem_idxOf a];rfl
 .rfl
theorem nums_wf{r:Rp}(a:RLim r)(i:Nat):aF (r.nums i):=by
 have f:=a.ag;have c:=a.ep;have e:=a.bt;have h:=a.nx;have d:=a.st;have j:=a.nw;have b:=a.sm.wf;unfold bQ.wf at b;unfold isT at *;unfold Rp.nums
 split <;> first|exact b.1|exact b.2.1|exact b.2.2.1|exact b.2.2.2|(unfold aF;omega)
theorem rec_back{r:Rp}(a:r.right=true)(s:∀e∈r.evs,aF e.value):recR r.bytes=.ok r:=by
 have k:=iF a;have m:=UK a;have w:=k.kind;have d:(r.kind=4->r.evs.length<=64/\∀e∈r.evs,gS e=true/\aF e.value)/\(¬r.kind=4->r.evs=[]):=by
  refine⟨λc=>?_,λc=>?_⟩
  .have hb:=k.evs c;unfold gT at hb;simp only[VB,VA,Wt]at hb;exact⟨hb.2.1.1.2,λe n=>⟨hb.2.2 e n,s e n⟩⟩
  .unfold Rp.right at a;rw[V4 c]at a;simp only[VB,VA]at a;exact WK.1 a.1.2
 have e:r.bytes=aN [r.kind]++(((cu r.kind).flatMap λi=>aN [r.nums i])++((if r.kind=4 then aN [((r.evs.length:Nat):Int)] else [])++(r.evs.flatMap evB++[]))):=by
  unfold Rp.bytes;rw[V5 a];simp only[VK,We]
 have b:kZ r.kind ((cu r.kind).map r.nums) r.evs=r:=by
  unfold Rp.zeros at m;simp only[VB,VA]at m;have key:∀i x,r.nums i=x->zrK r.kind i x=0->atV r.kind ((cu r.kind).map r.nums) i=x:=by
   intro i x t j;rw[atV_map];unfold zrK at j
   split
   .exact t
   .rename_i h;rw[V4 h]at j;exact j.symm
  unfold kZ;obtain⟨⟨⟨⟨⟨⟨z1,z2⟩,z3⟩,z4⟩,z5⟩,z6⟩,⟨⟨z7,z8⟩,z9⟩,f⟩:=m;rw[key 1 r.ag rfl z1,key 2 r.ep rfl z2,key 3 r.bt rfl z3,key 4 r.nx rfl z4,key 5 r.st rfl z5,key 6 r.nw rfl z6,key 7 r.sm.asked rfl z7,key 8 r.sm.got rfl z8,key 9 r.sm.sent rfl z9,key 10 r.sm.came rfl f]
 unfold recR;rw[e,uF (by omega) (by omega)];dsimp only;rw[nO,BA (λi _=>nums_wf k i) _ _ (VF _),Wi,W6]
 dsimp only;have fin:evsR r.kind ⟨0,([]:List Nat).flatMap (λi=>aN [r.nums i])++((if r.kind=4 then aN [((r.evs.length:Nat):Int)] else [])++(r.evs.flatMap evB++[]))⟩=.ok (r.evs,⟨0,[]⟩):=by
  unfold evsR
  split
  .rename_i c;obtain⟨v,u⟩:=d.1 c;have ec:dO 64 ⟨0,([]:List Nat).flatMap (λi=>aN [r.nums i])++(aN [((r.evs.length:Nat):Int)]++(r.evs.flatMap evB++[]))⟩=.ok (((r.evs.length:Nat):Int),⟨0,r.evs.flatMap evB++[]⟩):=uH (by omega) (by omega) _
   rw[ec];dsimp only;rw[VJ,Mo u _ _ (VF _),Wi,W6];rfl
  .rename_i c;rw[d.2 c];rfl
 rw[fin];dsimp only;rw[show (dF ⟨0,[]⟩).e=0 from rfl,V4 (by simp),b,a,V5 rfl]
namespace Al
def c0:bD:=⟨10,0,1000,100,100,2,4,40,8⟩
def r1:Rp:=⟨2,3,0,1,0,0,0,bQ.z,[]⟩
def r2:Rp:=⟨3,3,1,0,0,0,0,⟨0,0,0,2⟩,[]⟩
def e0:Pv:=⟨5,7,⟨#[109]⟩,[]⟩
def r3:Rp:=⟨4,3,1,0,0,0,9,bQ.z,[e0]⟩
def r4:Rp:=⟨6,0,0,0,0,0,200,bQ.z,[]⟩
def r5:Rp:=⟨6,0,0,0,0,0,199,bQ.z,[]⟩
def r6:Rp:=⟨7,0,0,0,1,0,0,bQ.z,[]⟩
def r7:Rp:=⟨1,0,0,0,0,0,0,bQ.z,[]⟩
def A1:=bO (bT c0) r1
def A2:=bO A1.1 r2
def A3:=bO A2.1 r3
def A4:=bO A3.1 r4
def A5:=bO A4.1 r5
def A6:=bO A5.1 r6
theorem ok0:jB c0:=uC (by kernel_rfl)
theorem nov{r:Rp}(h:r.evs=[]):∀e∈r.evs,aF e.value:=λe a=>by rw[h]at a;cases a
theorem R1:Rch A1.1:=uR (Ml ok0) (nov rfl)
end Al
section
variable {F L:List aE}{H H0:aC}{K KP:KE}{Q Q':aE}{sb:Nat}{s:aH}
theorem Vc(h:aA H F)(k:∀a,aA a F->K (.agg ⟨oA Al.c0⟩) a):CF 81 #[] H K:=by
 refine cM 81 28 ?_;refine h.al λb _ h=>?_
 refine h.st 0 rfl rfl ?_;intro c h;exact⟨_,_,_,_,_,_,_,_,_,h.q 0,k _ h.tl⟩
theorem BB(ok:cR s)(ser:qP s)(d:s.kept.length<=50000):(stB s).length<=1000000000:=by
 have n:=Lf (s:=s);have i:=oE (f:=dR s) (l:=aR 0 s.rows) (B:=345000) λp _=>xB ok p
 have b:=xj ok.rows;have t:=oE (f:=ceB) (l:=bA s.cm) (B:=10100) λo a=>by
  obtain⟨q,c,e⟩:=Bq a;exact xC (xw ok.sh _ a) (by rw[<-e];exact ser.cm q c)
 have j:=oE (f:=ceB) (l:=s.kept) (B:=10100) λo a=>xC (ok.kept o a) (ser.kept o a)
 have m:=um s.cm;have k:=ok.sh.len;have h:=ok.sh.m2;have q1:=dK [(s.cm.length:Int)];have q2:=dK [(s.kept.length:Int)];have m1:345000*(aR 0 s.rows).length<=345000*64:=Yd _ b;have m2:10100*(bA s.cm).length<=10100*1024:=Yd _ (by omega);have m3:10100*s.kept.length<=10100*50000:=Yd _ d;unfold stB li jr;simp only[V7,VE,VZ]at *;omega
end
theorem Vd{s:aH}{r:Rp}(ok:cR s):(fR s r).cfg=s.cfg/\(fR s r).kept.length<=s.kept.length+s.cfg.cells.toNat:=by
 unfold fR;have a:s.cfg=s.cfg/\s.kept.length<=s.kept.length+s.cfg.cells.toNat:=⟨rfl,by omega⟩;refine oH (P:=λx=>x.1.cfg=s.cfg/\x.1.kept.length<=s.kept.length+s.cfg.cells.toNat) (λ_=>a) (λ_ _=>a) (λ_ _ _=>a) (λ_ _ _=>?_) (λ_ _ _=>?_) (λ_ _ _=>?_) (λ_ _ _=>?_) (λ_ _ _=>?_) (λ_ _ _=>?_)
 .unfold fB;split
  .exact a
  .split <;> exact a
 .dsimp only;unfold mT;split <;> exact a
 .dsimp only;unfold gD;split <;> exact a
 .dsimp only;unfold lT
  split
  .split
   .exact a
   .split <;> exact a
  .exact a
 .dsimp only;unfold kG dt;have d:(iC s.cm (fN s.cfg.gd (s.ms.tick r.nw).1.value)).length<=(bA s.cm).length:=by unfold iC;exact (List.takeWhile_sublist _).length_le
  have b:(bA s.cm).length=s.cm.length:=by unfold bA;rw[VM,uk];simp[aG]
  have c:=ok.sh.len;dsimp only;rw[V7];exact⟨rfl,by omega⟩
 .dsimp only;unfold mU
  split
  .dsimp only;rw[VU];exact⟨rfl,by omega⟩
  .exact a
theorem Mp{c:bD}{now a ep first:Int}{evs:List Pv}{x:JS}:∀n,(dh c now a ep first evs x n).2.length=n
 | 0=>rfl
 | n+1=>by
  show ((dh c now a ep first evs x n).2++[_]).length=_;rw[V7,Mp n];rfl
theorem Mq{c:bD}{st:br}(a:lS c st):st.hs.rows.length<=256:=by
 have d:=a.hs.rows.length;have b:=a.hs.most2;omega
theorem BC{s:aH}{r:Rp}(ok:cR s)(f:r.evs.length<=100):(dG s r).length<=2000:=by
 unfold dG;refine oH (P:=λx=>x.2.1.length<=2000) (λ_=>by simp) (λ_ _=>by simp) (λ_ _ _=>by simp) (λ_ _ _=>?_) (λ_ _ _=>by simp) (λ_ _ _=>?_) (λ_ _ _=>by simp) (λ_ _ _=>?_) (λ_ _ _=>by simp)
 .unfold fB
  split
  .simp
  split
  .have:(jq s r.ag).length<=256:=by
    unfold jq
    split
    .rename_i st a;have hm:some st∈s.sts:=by
      unfold dL at a
      split at a
      .cases a
      .cases hq:s.sts[r.ag.toNat]? with
       | none=>rw[hq]at a;cases a
       | some o=>
        rw[hq]at a
        cases o with
        | none=>cases a
        | some st'=>cases a;exact Wk hq
     have:=Mq (ok.sts st hm);simpa[aG] using this
    .simp
   dsimp only;rw[V7,Wv];omega
  .simp
 .dsimp only;unfold gD
  split
  .rename_i st d;have e:=Mq (ok.sts st (Wk d));have c:=J3 (s:=st.hs) (first:=r.nx) (items:=r.evs);have b:(kF s r st).2.length=(st.hs.offer r.nx r.evs).2.1.length:=by unfold kF;exact Mp _
   dsimp only;rw[V7,Wv,b];omega
  .simp
 .dsimp only;unfold kG;dsimp only;rw[nV];unfold dt;have e:(iC s.cm (fN s.cfg.gd (s.ms.tick r.nw).1.value)).length<=(bA s.cm).length:=by unfold iC;exact (List.takeWhile_sublist _).length_le
  have c:(bA s.cm).length=s.cm.length:=by unfold bA;rw[VM,uk];simp[aG]
  have b:=ok.sh.len;have h:=ok.sh.m2;omega
structure lW(s:aH)(c:bD)(n:Nat):Prop where
 R:Rch s
 cfg:s.cfg=c
 kept:s.kept.length<=c.cells.toNat*n
theorem runR_new{c:bD}(h:jB c):lW (bT c) c 0:=⟨Ml h,rfl,by simp[bT]⟩
theorem lW.step{s:aH}{c:bD}{n:Nat}{r:Rp}(h:lW s c n)(d:∀e∈r.evs,aF e.value):lW (bO s r).1 c (n+1):=by
 have b:=Vd (r:=r) h.R.ok;refine⟨uR h.R d,b.1.trans h.cfg,?_⟩;have f:=h.kept;have a:=b.2;rw[h.cfg]at a;rw[Nat.mul_add,W2];exact VT a (Nat.add_le_add_right f _)
theorem lW.run{s:aH}{c:bD}{n:Nat}(h:lW s c n):∀{rs:List Rp},(∀r∈rs,∀e∈r.evs,aF e.value)->lW (dH s rs) c (n+rs.length):=by
 intro rs
 induction rs generalizing s n with
 | nil=>intro _;exact h
 | cons r rs ih=>
  intro a;have:=ih (h.step (r:=r) (a r (VO ..))) λx b=>a x (VQ _ b)
  rw[VE,show n+(rs.length+1)=n+1+rs.length by omega];exact this
theorem Ve{c:bD}{xs:List Rx}(a:fC c=true)(b:grR c xs=false):c.cells.toNat<=200:=by
 have e:=(uC a);have d:1<=c.cells/\c.cells<=1024:=by
  unfold fC at a;simp only[VB,VA]at a;exact a.1.2
 unfold grR grC at b;simp only[VP,Wo,VD]at b;omega
theorem lW.few{s:aH}{c:bD}{n:Nat}(h:lW s c n)(a:c.cells.toNat<=200)(b:n<=200):s.kept.length<=40000:=by
 have:=h.kept;have d:c.cells.toNat*n<=200*200:=Nat.mul_le_mul a b;omega
theorem BE{H0 H:aC}{Q:aE}{F:List aE}(hs:aM (old H0) Q)(h:aA H (Q::F)):dB H0 H:=(KG.old H0).sub hs H F h
structure Gg where
 o:Opt
 s:aH
 p:Pb
 pend:List Ou
 recs:Int
 saved:Bool
 num:Int
 seg:Int
 rl:RL
 rows:DR
 syn:Nat
def cF(g:Gg)(r:Rp):Gg×Int:=
 if (bO g.s r).2.2≠0 then (g,(bO g.s r).2.2) else
 ({ g with s:=(bO g.s r).1,pend:=g.pend++(bO g.s r).2.1.flatMap cI,recs:=g.recs+1,rl:=dp g.rows g.rl ⟨r.kind,r.bytes⟩,rows:=fY g.rows g.rl ⟨r.kind,r.bytes⟩ },0)
structure GgOk(g:Gg):Prop where
 R:Rch g.s
 kept:g.s.kept.length<=40000
 rl:g.rl.ok
 rows:g.rows.length<=549755813888
 seg:g.rl.seg<2147483647
 recs:0<=g.recs/\g.recs<=1000000000
 pend:g.pend.length<=1000000000
 prb:jD g.p
structure GA where
 x:GAd
 pb:Nat
 ys:List Oy
def gateA(Q:aE)(gb db:Nat)(g:Gg):aE:=exS λy:GA=>star [pur (y.x.pv=PA y.pb 0/\y.ys.map Oy.o=g.pend/\∀z∈y.ys,fQ Q z),cellsA gb (lh g.o y.x y.ys.length g.recs) 110,stA Q y.x.sb g.s,
 slA 91 11 y.x.pa y.ys.length y.x.pc (flat bJ y.ys),bookA y.x.bb y.x.rb g.saved g.num g.seg,reelA y.x.rb db g.rl,diskX db g.rows g.syn,prbA y.pb g.p]
section
variable {F L:List aE}{H:aC}{K:KE}{Q:aE}{gb db:Nat}{g:Gg}
theorem gm:aA H (gateA Q gb db g::F)↔∃(x:GAd) (pb:Nat) (ys:List Oy),x.pv=PA pb 0/\ys.map Oy.o=g.pend/\(∀z∈ys,fQ Q z)/\
  aA H (cellsA gb (lh g.o x ys.length g.recs) 110::stA Q x.sb g.s::slA 91 11 x.pa ys.length x.pc (flat bJ ys)::bookA x.bb x.rb g.saved g.num g.seg::reelA x.rb db g.rl::diskX db g.rows g.syn::prbA pb g.p::F):=by
 unfold gateA;rw[cK]
 constructor
 .rintro⟨y,h⟩;obtain⟨a,h⟩:=yA.1 (aA.open h);exact⟨y.x,y.pb,y.ys,a.1,a.2.1,a.2.2,h⟩
 .rintro⟨x,pb,ys,h1,h2,h3,h⟩;exact⟨⟨x,pb,ys⟩,aA.shut [_,_,_,_,_,_,_,_] (h.pur ⟨h1,h2,h3⟩)⟩
theorem lq{A B:aE}(h:aA H (B::A::F)):aA H (A::B::F):=h.o [1,0] 2
theorem BF{s:aH}{r:Rp}(R:Rch s)(j:∀e∈r.evs,aF e.value):(∀e∈(bO s r).2.1,e.kind=4->WC e.out.2/\e.out.1.ser.size<=1000000)/\(bO s r).2.1.length<=1000000:=by
 constructor
 .refine oH (P:=λq=>∀e∈q.2.1,e.kind=4->WC e.out.2/\e.out.1.ser.size<=1000000) (λ_ e a=>V6 a (by simp)) (λ_ _ e a=>V6 a (by simp)) (λ_ _ _ e a=>V6 a (by simp)) (λ_ _ _ e a f=>?_) (λ_ _ _ e a=>V6 a (by simp)) (λ_ _ _ e a f=>?_) (λ_ _ _ e a=>V6 a (by simp)) (λ_ _ _ e a f=>?_) (λ_ _ _ e a=>V6 a (by simp))
  .have:=LP e a;omega
  .have:=LN e a;omega
  .obtain⟨q,c,rfl⟩:=Wz a;have c:q<(dQ s.next (dt s r.nw) (dt s r.nw).length).length:=c;have b:q<(dt s r.nw).length:=by rw[nV]at c;exact c
   have h:(dQ s.next (dt s r.nw) (dt s r.nw).length)[q].out=(dt s r.nw)[q]:=by
    rw[xK];dsimp only;rw[Yp,List.getElem?_eq_getElem b];rfl
   have hm:(dt s r.nw)[q]∈s.cm:=B7 (Bb (VL b));have d:=R.cm _ hm;show WC (dQ s.next (dt s r.nw) (dt s r.nw).length)[q].out.2/\(dQ s.next (dt s r.nw) (dt s r.nw).length)[q].out.1.ser.size<=1000000;rw[h];have:=d.size;exact⟨d.wc,by omega⟩
 .cases hR:r.right with
  | false=>
   have:(bO s r).2.1=[]:=by unfold bO;rw[V5 hR]
   rw[this];simp
  | true=>
   have i:=Rp.right_len hR;have:(bO s r).2.1.length<=2000:=BC R.ok (by omega);omega
theorem BG{r:Rp}{a:KQ}{c:Nat}{evs:List Ev}(ok:GgOk g)(b:oB Q F r a evs)(h:aA H (Q::gateA Q gb db g::F))
  (k:∀Q' d,aM Q Q'->aA d (Q'::gateA Q' gb db (cF g r).1::F)->K (aD (cF g r).2) d):CF 47 #[PA gb 0,.agg ⟨de r a c⟩] H K:=by
 obtain⟨x,pb,ys,e1,e2,e3,h⟩:=gm.1 (h.o [1,0] 2);have m:ys.length=g.pend.length:=by rw[<-e2,VM]
 have j:=BF (r:=r) ok.R b.vals;have i:oB Q (prbA pb g.p::F) r a evs:=⟨b.eq,λH h=>b.rd H h.tl,b.labs,b.len,b.vals⟩
 have h:=h.o [7,0,1,2,3,4,5,6] 8;refine KH ok.R.ok (by have:=ok.R.sunk;omega) (by have:=ok.kept;omega) i j.1 j.2 ok.rl ok.rows ok.seg ok.recs (by have:=ok.pend;omega) e3 h (λf Q' d hs h=>?_) λf Q' n pa pc d hs hm e h=>?_
 .unfold cF at k;rw[V5 f]at k;refine k Q' _ hs ?_;have h:=h.o [1,2,3,4,5,6,7,0] 8;exact lq (gm.2 ⟨x,pb,ys,e1,e2,λz s=>(e3 z s).sub hs,h⟩)
 .unfold cF at k;rw[V4 (by rw[f];decide)]at k;refine k Q' _ hs ?_;have h:=h.o [1,2,3,4,5,6,7,0] 8;exact lq (gm.2 ⟨{ x with pa:=pa,pc:=pc },pb,n,e1,by rw[hm,e2],e,h⟩)
def qR(next:Int):Rp:=⟨7,0,0,0,next,0,0,bQ.z,[]⟩
def fp(now:Int):Rp:=⟨6,0,0,0,0,0,now,bQ.z,[]⟩
theorem recN{r:Rp}(h:r.evs=[]):oB Q F r none []:=⟨by rw[h];rfl,λH _=>iv H none,λe a=>V6 a (by simp),by simp,λe a=>by rw[h]at a;cases a⟩
theorem Mr{next:Int}(ok:GgOk g)(h:aA H (Q::gateA Q gb db g::F))
  (k:∀Q' a,aM Q Q'->aA a (Q'::gateA Q' gb db (cF g (qR next)).1::F)->K (aD (cF g (qR next)).2) a):CF 25 #[PA gb 0,aD next] H K:=by
 refine cM 25 28 ?_;exact BG (r:=qR next) ok (recN rfl) h λQ' a hs h=>⟨_,rfl,k Q' _ hs h⟩
theorem qS(ok:GgOk g)(h:aA H (gateA Q gb db g::F))(k:∀sb a,aA a (stA Q sb g.s::gateA Q gb db g::F)->K (PA sb 0) a):CF 12 #[PA gb 0] H K:=by
 obtain⟨x,pb,ys,e1,e2,e3,h⟩:=gm.1 h;refine cM 12 28 ⟨some ⟨x.sb,0,none⟩,h.r 0,?_⟩;have h:=h.o [1,0,2,3,4,5,6] 7;refine KF (by have:=ok.kept;omega) ok.R.ok h λsb b h=>⟨_,rfl,k sb _ ?_⟩
 have h:=h.o [2,1,3,4,5,6,7,0] 8;exact lq (gm.2 ⟨x,pb,ys,e1,e2,e3,h⟩)
theorem Vf(h:aA H (gateA Q gb db g::F)):bV Tryz.prog 26 #[PA gb 0] H (aD (g.pend.length:Nat)):=by
 obtain⟨x,pb,ys,e1,e2,e3,h⟩:=gm.1 h;unfold bV;refine cM 26 28 ⟨_,_,_,h.r 0,?_,rfl⟩;rw[<-e2,VM];rfl
def je(f:Fq)(agent now asked:Int):Rp:=
 if f.kind=1 then ⟨2,agent,f.ep,f.bt,0,0,now,bQ.z,[]⟩ else
 if f.kind=4 then ⟨3,agent,f.ep,0,0,0,0,⟨asked,f.got,f.sent,now⟩,[]⟩ else
 if f.kind=5 then ⟨4,agent,f.ep,0,f.next,0,now,bQ.z,f.evs⟩ else ⟨5,agent,f.ep,0,f.next,f.stamp,now,bQ.z,[]⟩
def lX(g:Gg)(f:Fq)(agent now:Int):Gg×Int:=
 if ¬(f.kind=1\/f.kind=4\/f.kind=5\/f.kind=7) then (g,16) else
 if f.ag≠agent then (g,10) else
 if f.kind=4 then
  if (fD g.p agent f.ep f.bt f.ct).2.1≠0 then ({ g with p:=(fD g.p agent f.ep f.bt f.ct).2.2 },(fD g.p agent f.ep f.bt f.ct).2.1)
  else cF { g with p:=(fD g.p agent f.ep f.bt f.ct).2.2 } (je f agent now (fD g.p agent f.ep f.bt f.ct).1)
 else cF g (je f agent now 0)
def jf(g:Gg)(agent now:Int)(bs:List Int):Gg×Int:=match fH bs with
 | .error e=>(g,e)
 | .ok f=>lX g f agent now
theorem BH{p:Pb}(h:jD p)(ag ep n0 n1:Int):jD (fD p ag ep n0 n1).2.2:=by
 unfold fD
 split
 .exact h
 .split
  .exact h
  .split
   .exact h
   .split
    .exact h
    .refine⟨h.count,h.most,?_,h.last,h.boot⟩;have:=h.out;simp only[V7,VY,VU];omega
theorem xP{Q':aE}(hs:aM Q Q')(h:aA H (gateA Q gb db g::F)):aA H (gateA Q' gb db g::F):=by
 obtain⟨x,pb,ys,e1,e2,e3,h⟩:=gm.1 h;have h:=qM hs (h.o [1,0,2,3,4,5,6] 7);exact gm.2 ⟨x,pb,ys,e1,e2,λz a=>(e3 z a).sub hs,h.o [1,0,2,3,4,5,6] 7⟩
theorem Ms:∀{n:Nat} {s c:RS} {l:List Pv},j9 n s=.ok (l,c)->∀e∈l,aF e.value
 | 0,s,c,l,h=>by cases h;simp
 | n+1,s,c,l,h=>by
  unfold j9 at h
  split at h
  .cases h
  .rename_i f s1 d
   split at h
   .cases h
   .rename_i v s2 b
    cases h
    intro e a
    rcases VV.1 a with a|a
    .exact Ms d e a
    .rw [VI]at a;subst a;unfold evQ okR at b
     split at b
     .cases b
     .cases b
      exact rT _
theorem Vg{bs:List Int}{f:Fq}(h:fH bs=.ok f):eZ f=true:=by
 unfold fH at h
 split at h
 .cases h
 split at h
 .cases h
 unfold nS at h
 split at h
 .cases h
 split at h
 .cases h
 unfold endQ at h
 split at h
 .cases h
 split at h
 .cases h
 split at h
 .rename_i a
  cases h
  exact a
 .cases h
theorem Mt{bs:List Int}{f:Fq}(h:fH bs=.ok f):∀e∈f.evs,aF e.value:=by
 unfold fH at h
 split at h
 .cases h
 split at h
 .cases h
 unfold nS at h
 split at h
 .cases h
 split at h
 .cases h
 rename_i d s1 m x2 i s2 j;unfold endQ at h
 split at h
 .cases h
 rename_i k s3 a
 split at h
 .cases h
 split at h
 .cases h
  obtain⟨a1,a2,a3,a4,a5⟩:=xf (aU d) i { kind:=d };unfold mO at a
  split at a
  .split at a
   .cases a
   .rename_i l s4 c
    cases a
    unfold mN at c
    split at c
    .cases c
    .exact Ms c
  split at a
  .split at a
   .cases a
   .unfold okR at a
    split at a
    .cases a
    .cases a
     intro e b;dsimp only at b;rw[a2]at b
     cases b
  .cases a
   intro e b;rw[a2]at b
   cases b
 .cases h
theorem sR{agent now:Int}{a:KQ}{c:Nat}{bs:List Int}(ok:GgOk g)(h:aA H (Q::gateA Q gb db g::F))(ha:∀H,aA H F->aP H a (bs.map U8))(hb:aI bs)(m:bs.length<=c)
  (k:∀Q' A,aM Q Q'->aA A (Q'::gateA Q' gb db (jf g agent now bs).1::F)->K (aD (jf g agent now bs).2) A) :
  CF 21 #[PA gb 0,aD agent,aD now,.slice a bs.length c] H K:=by
 refine cN 21 0x11d1215174174174134cd2171d49c [[],[],[],[]] ?_;refine K3 h (λH h=>ha H h.tl.tl) hb m ?_
 unfold jf at k
 cases hd:fH bs with
 | error e=>
  rw[hd]at k;intro Q' H1 j hs h;refine⟨_,_,_,_,_,_,_,_,_,_,_,_,_,_,_,_,_,_,_,_,_,rfl,h.al λb _ h=>?_⟩
  refine h.st 0 rfl rfl λH2 h=>⟨λ_=>?_,λm=>V6 (by simpa using m) j⟩
  exact k Q' _ hs (lq (xP hs (lq h.tl)))
 | ok f=>
  rw[hd]at k;dsimp only at k;have D:=Mt hd;intro Q' x evs H1 hs M j1 L h;refine⟨_,_,_,_,_,_,_,_,_,_,_,_,_,_,_,_,_,_,_,_,_,rfl,h.al λb _ h=>?_⟩
  refine h.st 0 rfl rfl λH2 h=>⟨λm=>V6 m (by simp),λ_=>⟨_,h.r 0,?_⟩⟩
  refine h.al λb1 _ h=>h.st 0 rfl rfl λH3 h=>⟨_,h.r 1,?_⟩
  have h:aA H3 (cellsA b1 (de ⟨0,agent,f.ep,0,0,0,now,bQ.z,[]⟩ none 0) 61::cellsA b (cH f x) 81::Q'::slA 99 4 x.ea evs.length x.ec (flat cx evs)::gateA Q gb db g::F):=h;have h:=xP hs (h.o [4,0,1,2,3] 5);have h:=h.o [1,2,3,4,0] 5;have U:f.evs.length=evs.length:=by rw[M,VM]
  have W:evs.length<=1000000:=by
   by_cases v:f.kind=5
   .have:=JC (Vg hd) v;omega
   .have:=(L.ev v).1;rw[this]at U;simp at U;omega
  intro Jn hJ;have S:∀(g':Gg) (r:Rp) (t:KQ) (rc:Nat) (w:List Ev) A,GgOk g'->lX g f agent now=cF g' r->r.evs=w.map Ev.p->(w=[]/\t=none\/w=evs/\t=x.ea)->(∀e∈r.evs,aF e.value)->
    aA A (cellsA b1 (de r t rc) 61::cellsA b (cH f x) 81::Q'::slA 99 4 x.ea evs.length x.ec (flat cx evs)::gateA Q' gb db g'::F)->
    ∃f0 f1 f2 f3 f4 f5 f6 f7 f8 f9 Z h6 Y P,bE A b1 0 [aD f0,aD f1,aD f2,aD f3,aD f4,aD f5,aD f6,aD f7,aD f8,aD f9,aD Z,.slice h6 Y P]/\
     CF 47 #[PA gb 0,.agg #[aD f0,aD f1,aD f2,aD f3,aD f4,aD f5,aD f6,aD f7,aD f8,aD f9,aD Z,.slice h6 Y P]] A λu H2=>∃h0,u=aD h0/\K (aD h0) H2:=by
   intro g' r t rc w A j3 s j i hv h;refine⟨_,_,_,_,_,_,_,_,_,_,_,_,_,_,h.q 0,?_⟩;have h:=h.o [2,4,0,1,3] 5;have hr:oB Q' (cellsA b1 (de r t rc) 61::cellsA b (cH f x) 81::slA 99 4 x.ea evs.length x.ec (flat cx evs)::F) r t w:=by
    rcases i with ⟨rfl,rfl⟩|⟨rfl,rfl⟩
    .exact⟨j,λH h=>iv H none,λe j=>V6 j (by simp),by simp,hv⟩
    .exact⟨j,λH h=>h.sl_rd 2 rfl,j1,W,hv⟩
   refine BG j3 hr h λQ2 H2 h8 h=>⟨_,rfl,?_⟩
   rw[s]at k;exact k Q2 _ (hs.trans h8) (h.o [0,1] 5)
  have I:f.kind=1\/f.kind=4\/f.kind=5\/f.kind=7->f.ag=agent->f.kind≠4->lX g f agent now=cF g (je f agent now 0):=by
   intro C h2 h3;unfold lX;rw[V4 (λB=>B C),V4 (λB=>B h2),V4 h3]
  have rest:∀(r:Rp) (t:KQ) (rc:Nat) (w:List Ev) A,(f.kind=1\/f.kind=4\/f.kind=5\/f.kind=7)->(f.kind≠4->r=je f agent now 0)->(f.kind=4->r=⟨3,agent,f.ep,0,0,0,0,bQ.z,[]⟩)->r.evs=w.map Ev.p->(w=[]/\t=none\/w=evs/\t=x.ea)->(∀e∈r.evs,aF e.value)->
    aA A (cellsA b1 (de r t rc) 61::cellsA b (cH f x) 81::Q'::slA 99 4 x.ea evs.length x.ec (flat cx evs)::gateA Q' gb db g::F)->Jn A:=by
   intro r t rc w A hk j2 n j i hv h;refine hJ _ ⟨_,h.r 1,λm=>?_,λm=>?_⟩
   .have s:lX g f agent now=(g,10):=by unfold lX;rw[V4 (λB=>B hk),V5 (by simpa using m)]
    rw[s]at k;exact k Q' _ hs (h.o [2,4] 5)
   have T:f.ag=agent:=by simpa using m
   refine⟨_,h.r 1,?_⟩;intro l0 N;refine⟨λd=>?_,λd=>N _ ?_⟩
   .have d:=V8 d;have hr:=n d;subst hr;have V:w=[]:=by simpa using j.symm
    have h9:t=none:=by
     rcases i with ⟨_,e⟩|⟨e1,e2⟩
     .exact e
     .rw [e2];exact (L.ev (by omega)).2.1
    subst V h9;obtain⟨y,pb,ys,e1,e2,e3,h⟩:=gm.1 (h.o [4,0,1,2,3] 5);refine⟨some ⟨pb,0,none⟩,(h.r 0).trans (by show some y.pv=_;rw[e1]),_,h.r 8,_,h.r 8,_,h.r 8,?_⟩;have h:=h.o [6,0,1,2,3,4,5,7,8,9,10] 11;have s:lX g f agent now=if (fD g.p agent f.ep f.bt f.ct).2.1≠0 then ({ g with p:=(fD g.p agent f.ep f.bt f.ct).2.2 },(fD g.p agent f.ep f.bt f.ct).2.1) else cF { g with p:=(fD g.p agent f.ep f.bt f.ct).2.2 } (je f agent now (fD g.p agent f.ep f.bt f.ct).1):=by
     unfold lX;rw[V4 (λB=>B hk),V4 (λB=>B T),V5 d]
    refine Uf ok.prb h λH4 h=>⟨_,_,rfl,λm=>?_,λm=>?_⟩
    .have m:(fD g.p agent f.ep f.bt f.ct).2.1≠0:=by simpa using m
     rw[V5 m]at s;rw[s]at k;refine k Q' _ hs (lq ((gm (g:={ g with p:=(fD g.p agent f.ep f.bt f.ct).2.2 })).2 ⟨y,pb,ys,e1,e2,e3,h.o [1,2,3,4,5,6,0,9] 11⟩))
    have m:(fD g.p agent f.ep f.bt f.ct).2.1=0:=by simpa using m
    rw[V4 (by rw[m];decide)]at s;refine⟨_,h.r 8,_,h.r 8,h.st 7 rfl rfl λH5 h=>⟨h.r 8,h.r 8,?_⟩⟩
    refine h.st 7 rfl rfl λH6 h=>⟨h.r 8,h.st 7 rfl rfl λH7 h=>?_⟩
    refine h.st 7 rfl rfl λH8 h=>N _ ?_
    have hg:=(gm (g:={ g with p:=(fD g.p agent f.ep f.bt f.ct).2.2 })).2 ⟨y,pb,ys,e1,e2,e3,h.o [1,2,3,4,5,6,0,7,8,9,10] 11⟩;have eR:je f agent now (fD g.p agent f.ep f.bt f.ct).1=⟨3,agent,f.ep,0,0,0,0,⟨(fD g.p agent f.ep f.bt f.ct).1,f.got,f.sent,now⟩,[]⟩:=by
     unfold je;rw[nO,V5 d]
    rw[eR]at s;exact S { g with p:=(fD g.p agent f.ep f.bt f.ct).2.2 } _ none rc [] _ ⟨ok.R,ok.kept,ok.rl,ok.rows,ok.seg,ok.recs,ok.pend,BH ok.prb _ _ _ _⟩ s rfl (.inl ⟨rfl,rfl⟩) (λe j=>V6 j (by simp)) (hg.o [1,2,3,4,0] 5)
   .have d:=V9 d;have s:=I hk T d;rw[<-j2 d]at s;exact S g r t rc w _ ok s j i hv h
  refine⟨λC=>?_,λC=>?_⟩
  .have C:=V8 C;refine⟨_,h.r 1,h.st 0 rfl rfl λH4 h=>⟨h.r 1,?_⟩⟩
   refine h.st 0 rfl rfl λH5 h=>rest ⟨2,agent,f.ep,f.bt,0,0,now,bQ.z,[]⟩ none 0 [] _ (.inl C) (λ_=>by unfold je;rw[V5 C]) (λn=>by omega) rfl (.inl ⟨rfl,rfl⟩) (λe j=>V6 j (by simp)) h
  have C:=V9 C;intro l6 G;refine⟨λn=>?_,λn=>?_⟩
  .have n:=V8 n;refine h.st 0 rfl rfl λH4 h=>h.st 0 rfl rfl λH5 h=>G _ ?_
   exact rest ⟨3,agent,f.ep,0,0,0,0,bQ.z,[]⟩ none 0 [] _ (.inr (.inl n)) (λB=>V6 n B) (λ_=>rfl) rfl (.inl ⟨rfl,rfl⟩) (λe j=>V6 j (by simp)) h
  have n:=V9 n;intro l5 O;refine⟨λv=>?_,λv=>⟨λJ=>?_,λJ=>?_⟩⟩
  .have v:=V8 v;refine⟨_,h.r 1,_,_,_,h.r 1,h.st 0 rfl rfl λH4 h=>⟨h.r 1,h.r 1,?_⟩⟩
   refine h.st 0 rfl rfl λH5 h=>⟨h.r 1,h.st 0 rfl rfl λH6 h=>O _ (G _ ?_)⟩
   exact rest ⟨4,agent,f.ep,0,f.next,0,now,bQ.z,f.evs⟩ x.ea x.ec evs _ (.inr (.inr (.inl v))) (λ_=>by unfold je;rw[V4 C,V4 n,V5 v]) (λE=>V6 E n) M (.inr ⟨rfl,rfl⟩) D h
  .have J:=V8 J;have v:=V9 v;refine⟨_,h.r 1,_,h.r 1,h.st 0 rfl rfl λH4 h=>⟨h.r 1,h.r 1,?_⟩⟩
   refine h.st 0 rfl rfl λH5 h=>⟨h.r 1,h.st 0 rfl rfl λH6 h=>O _ (G _ ?_)⟩
   exact rest ⟨5,agent,f.ep,0,f.next,f.stamp,now,bQ.z,[]⟩ none 0 [] _ (.inr (.inr (.inr J))) (λ_=>by unfold je;rw[V4 C,V4 n,V4 v]) (λE=>V6 E n) rfl (.inl ⟨rfl,rfl⟩) (λe j=>V6 j (by simp)) h
  .have v:=V9 v;have J:=V9 J;have s:lX g f agent now=(g,16):=by unfold lX;rw[pO]
   rw[s]at k;exact k Q' _ hs (h.o [2,4] 5)
end
def gq(g:Gg):DR:=if g.saved=true/\¬((g.rl.next:Int)<=g.num) then iB g.seg g.rows else g.rows
def iH(g:Gg):Gg:=
 if g.o.save<=g.recs/\(stB g.s).length<=262144 then
  { g with pend:=[],recs:=0,saved:=true,num:=g.rl.next,seg:=g.rl.seg+1,rl:={ g.rl with syn:=g.rl.next,seg:=g.rl.seg+1,next:=g.rl.next+1 },rows:=gq g++(bN ⟨0,stB g.s⟩).map λb=>(g.rl.seg+1,b),syn:=(gq g).length }
 else { g with pend:=[],rl:={ g.rl with syn:=g.rl.next },rows:=gq g,syn:=(gq g).length }
theorem Vh(g:Gg):∀r∈gq g,r∈g.rows:=by
 unfold gq
 split
 .intro r a;exact (W7.1 a).1
 .intro r a;exact a
theorem Vi(g:Gg):(gq g).length<=g.rows.length:=by
 unfold gq
 split
 .exact Y4 _ _
 .exact VF _
section
variable {F L:List aE}{H:aC}{K:KE}{Q:aE}{gb db:Nat}{g:Gg}
theorem Vj{bb b n c s:Nat}{a:KQ}(h:aA H F)(i:Nat)(f:aW i F=cellsA b [.slice a n c] 43)(t:262144<n)(m:n<=1099511627776)(k:K (.tuple #[aD (-1),aD 17]) H) :
  CF 42 #[PA bb 0,.slice (some ⟨b,0,none⟩) 1 s] H K:=by
 refine cN 42 0x112156123992511b421b1d1c [[(6,sI),(15,sI)]] ?_;refine⟨λsize i e=>size=0/\i=0/\e=H,λ_ _ _=>0,⟨rfl,rfl,rfl⟩,?_⟩
 rintro size i e ⟨rfl,rfl,rfl⟩;refine⟨λ_=>?_,λj=>V6 j (by decide)⟩
 refine⟨by decide,_,_,rfl,_,_,_,h.rd i f _,λd=>?_,λd=>?_⟩
 .exact k
 .have d:=V9 d;rw[aJ]at d;omega
theorem BTrimAny{bb rb:Nat}{saved:Bool}{num seg:Int}{s:RL}{rows:DR}(f:rows.length<=1099511627776)(h:aA H (bookA bb rb saved num seg::reelA rb db s::diskX db rows rows.length::F))
  (k:∀e c R,R=(if saved=true/\¬((s.syn:Int)<=num) then iB seg rows else rows)->aA c (bookA bb rb saved num seg::reelA rb db s::diskX db R R.length::F)->K (aD e) c):CF 41 #[PA bb 0] H K:=by
 refine QZ f (VF _) h (λa=>k 19 H rows ?_ h) (λa b=>k 21 H rows ?_ h) (λa b d=>V6 d (by omega)) λa b d c h=>k 0 c (iB seg rows) ?_ h
 .rw [V4 (by rw[a];simp)]
 .rw [V4 (λi=>i.2 b)]
 .rw [V5 ⟨a,b⟩]
theorem BI(ok:GgOk g)(J:∀r∈g.rows,r.1<=g.rl.seg)(h:aA H (Q::gateA Q gb db g::F))
  (k:∀ys a c E,ys.map Oy.o=g.pend->(∀y∈ys,fQ Q y)->aA E (Q::slA 91 11 a ys.length c (flat bJ ys)::gateA Q gb db (iH g)::F)->K (.slice a ys.length c) E) :
  CF 13 #[PA gb 0] H K:=by
 obtain⟨x,pb,ys,e1,e2,e3,h⟩:=gm.1 (lq h);refine cN 13 76861503970953628 [[],[]] ⟨some ⟨x.bb,0,none⟩,h.r 0,some ⟨x.rb,0,none⟩,h.r 3,?_⟩;have h:=h.o [4,5,0,1,2,3,6,7] 8;refine GU h λN h=>⟨rfl,some ⟨x.bb,0,none⟩,h.r 2,?_⟩
 have h:=h.o [5,0,1,2,3,4,6,7] 8;have I:=Vi g;refine BTrimAny (by have:=ok.rows;omega) h λe T R B h=>⟨_,rfl,?_⟩
 have B:R=gq g:=B;subst B;refine⟨_,_,_,h.r 3,?_⟩;refine h.st 3 rfl rfl λM h=>⟨_,h.r 3,_,h.r 3,?_⟩
 have h:aA M (bookA x.bb x.rb g.saved g.num g.seg::reelA x.rb db { g.rl with syn:=g.rl.next }::diskX db (gq g) (gq g).length::cellsA gb (lh g.o { x with pa:=none,pc:=0 } 0 g.recs) 110::stA Q x.sb g.s::slA 91 11 x.pa ys.length x.pc (flat bJ ys)::prbA pb g.p::Q::F):=h;have d:=λ{H:aC} {F:List aE} (h:aA H F)=>h.sl_nil 91 11
 intro O v;refine⟨λj=>?_,λj=>v _ ?_⟩
 .have j:=V8 j;refine⟨some ⟨x.bb,0,none⟩,h.r 3,some ⟨x.sb,0,none⟩,h.r 3,?_⟩;have h:=h.o [7,4,0,1,2,3,5,6] 8;refine Br ok.R.ok ok.R.ser (by have:=ok.kept;omega) h λba bc U h=>⟨_,_,_,rfl,h.r 6,?_⟩
  refine h.al λb1 _ h=>⟨h.r 7,?_⟩
  by_cases hl:(stB g.s).length<=262144
  .have h:=h.o [4,5,6,0,1,2,3,7,8,9] 10;have f:([(⟨ba,bc,stB g.s⟩:Fy)]:List Fy).flatMap Fy.bs=stB g.s:=by simp
   have u:({ g.rl with syn:=g.rl.next }:RL).ok:=⟨ok.rl.seg,ok.rl.most,ok.rl.next,ok.rl.next⟩;refine QY (parts:=[⟨ba,bc,stB g.s⟩]) u ok.seg (λr L=>J r (Vh g r L)) (by have:=ok.rows;omega) h (λH h=>h.ce_rd 0 rfl) (λH h y D=>by rw[VI]at D;subst D;exact h.sl_rd 1 rfl) (by rw[f];exact xG _) (by simp) (by rw[f];exact hl) λS h=>⟨_,_,rfl,?_⟩
   rw[f]at h;intro A m;refine⟨λ_=>?_,λw=>V6 w (by simp)⟩
   refine h.st 7 rfl rfl λP h=>m _ (v _ ?_)
   have i:iH g={ g with pend:=[],recs:=0,saved:=true,num:=g.rl.next,seg:=g.rl.seg+1,rl:={ g.rl with syn:=g.rl.next,seg:=g.rl.seg+1,next:=g.rl.next+1 },rows:=gq g++(bN ⟨0,stB g.s⟩).map λb=>(g.rl.seg+1,b),syn:=(gq g).length }:=by
    unfold iH;rw[V5 ⟨j,hl⟩]
   have h:=(d (h.o [7,6,0,1,2,9,5,8] 10)).o [1,2,0,3,4,5,6,7,8] 9;have n:=(gm (Q:=Q) (g:=iH g)).2 ⟨{ x with pa:=none,pc:=0 },pb,[],e1,by rw[i];rfl,λz t=>V6 t (by simp),by rw[i];exact h⟩
   exact k ys _ _ _ e2 e3 (n.o [1,2,0] 3)
  .have G:=BB ok.R.ok ok.R.ser (by have:=ok.kept;omega);refine Vj h 0 rfl (by omega) (by omega) ⟨_,_,rfl,?_⟩;intro A m;refine⟨λw=>V6 w (by decide),λ_=>m _ (v _ ?_)⟩
   have i:iH g={ g with pend:=[],rl:={ g.rl with syn:=g.rl.next },rows:=gq g,syn:=(gq g).length }:=by
    unfold iH;rw[V4 (λC=>hl C.2)]
   have h:=(d (h.o [7,3,4,5,6,9,2,8] 10)).o [1,2,0,3,4,5,6,7,8] 9;have n:=(gm (Q:=Q) (g:=iH g)).2 ⟨{ x with pa:=none,pc:=0 },pb,[],e1,by rw[i];rfl,λz t=>V6 t (by simp),by rw[i];exact h⟩
   exact k ys _ _ _ e2 e3 (n.o [1,2,0] 3)
 .have j:=V9 j;have i:iH g={ g with pend:=[],rl:={ g.rl with syn:=g.rl.next },rows:=gq g,syn:=(gq g).length }:=by
   unfold iH;rw[V4 (λC=>j C.1)]
  have h:=(d (h.o [3,4,0,1,2,6,7,5] 8)).o [1,2,0,3,4,5,6,7,8] 9;have n:=(gm (Q:=Q) (g:=iH g)).2 ⟨{ x with pa:=none,pc:=0 },pb,[],e1,by rw[i];rfl,λz t=>V6 t (by simp),by rw[i];exact h⟩
  exact k ys _ _ _ e2 e3 (n.o [1,2,0] 3)
end
def eF(s:aH)(now period:Int)(p:Pb):Nat->Pb×List Ou
 | 0=>(p,[])
 | n+1=>if (lg s (n:Nat)).2=true/\dueP (eF s now period p n).1 (n:Nat) now period=true then
   (sndP (eF s now period p n).1 (n:Nat) (lg s (n:Nat)).1.en.epoch now,(eF s now period p n).2++[gX (dU (n:Nat) (eF s now period p n).1.boot (eF s now period p n).1.count)])
  else eF s now period p n
def eQ(g:Gg)(now:Int):Gg×List Ou×Int:=
 if (cF g (fp now)).2≠0 then ((cF g (fp now)).1,[],(cF g (fp now)).2) else
 ({ (cF g (fp now)).1 with p:=(eF (cF g (fp now)).1.s now g.o.period g.p 64).1 },(eF (cF g (fp now)).1.s now g.o.period g.p 64).2,0)
theorem mem_mset{k v:Int}{m:List (Int×Int)}{x:Int×Int}(h:x∈mset k v m):x=(k,v)\/x∈m:=by
 unfold mset at h
 rcases VN.1 h with h|h
 .exact .inl h
 .exact .inr (W7.1 h).1
theorem sndP_ok{p:Pb}(h:jD p)(f:p.count<1000000000000){ag ep now:Int}(c:0<=now/\now<=4611686018427387903):jD (sndP p ag ep now):=by
 have i:=h.count;have d:=h.out;have e:=h.most;refine⟨?_,h.most,?_,λx b=>?_,h.boot⟩
 .show 0<=p.count+1/\p.count+1<=1000000000000;omega
 .unfold sndP;dsimp only
  split
  .rename_i a;simp only[VU,V7,VE,VZ]at a ⊢;omega
  .rename_i a;simp only[V7,VE,VZ]at a ⊢;omega
 .rcases mem_mset b with rfl|b
  .exact c
  .exact h.last x b
theorem BJ{s:aH}{now period:Int}{p:Pb}(h:jD p)(b:p.count+64<=1000000000000)(a:0<=now/\now<=4611686018427387903):∀n,n<=64->jD (eF s now period p n).1/\(eF s now period p n).1.count<=p.count+n/\(eF s now period p n).2.length<=n
 | 0,_=>⟨h,by show p.count<=p.count+((0:Nat):Int);omega,VF _⟩
 | n+1,hl=>by
  obtain⟨a1,a2,a3⟩:=BJ h b a n (by omega);unfold eF
  split
  .refine⟨sndP_ok a1 (by omega) a,?_,?_⟩
   .show (eF s now period p n).1.count+1<=_;omega
   .simp only[V7,VE,VZ];omega
  .exact⟨a1,by omega,by omega⟩
section
variable {F L:List aE}{H:aC}{K:KE}{Q:aE}{gb db:Nat}{g:Gg}
theorem Vk{now:Int}(ok:GgOk g)(Y:GgOk (cF g (fp now)).1)(hc:g.p.count+64<=1000000000000)(W:(cF g (fp now)).2=0->0<=now/\now<=4611686018427387903)
  (T:∀a:Nat,a<64->(lg (cF g (fp now)).1.s a).2=true->1<=(lg (cF g (fp now)).1.s a).1.en.epoch/\(lg (cF g (fp now)).1.s a).1.en.epoch<=1099511627776)
  (h:aA H (Q::gateA Q gb db g::F))
  (k:∀Q' ys a c f,aM Q Q'->ys.map Oy.o=(eQ g now).2.1->(∀y∈ys,fQ Q' y)->aA f (Q'::slA 91 11 a ys.length c (flat bJ ys)::gateA Q' gb db (eQ g now).1::F)->K (.tuple #[.slice a ys.length c,aD (eQ g now).2.2]) f) :
  CF 23 #[PA gb 0,aD now] H K:=by
 refine cN 23 0x121b12156123992a11213992821399144c [[(11,sA),(12,sI)],[(7,sS)],[(7,sS),(21,sI)]] ?_;refine BG (r:=fp now) ok (recN rfl) h λQ1 H1 U h=>⟨_,rfl,λC=>?_,λC=>?_⟩
 .have he:(cF g (fp now)).2≠0:=by simpa using C
  unfold eQ at k;rw[V5 he]at k;exact k Q1 [] none 0 _ U rfl (λy hy=>V6 hy (by simp)) ((h.sl_nil 91 11).o [1,0,2] 3)
 have he:(cF g (fp now)).2=0:=by simpa using C
 have hn:=W he;have ep:(cF g (fp now)).1.p=g.p:=by unfold cF;split <;> rfl
 have eo:(cF g (fp now)).1.o=g.o:=by unfold cF;split <;> rfl
 unfold eQ at k;rw[V4 (by rw[he];decide)]at k;obtain⟨g1,h4⟩:∃g1,(cF g (fp now)).1=g1:=⟨_,rfl⟩;rw[h4]at k h Y T ep eo;have h2:jD g.p:=ok.prb;refine⟨λla ln lc i f=>∃(j:Nat) (ys:List Oy) (Q':aE),i=j/\j<=64/\ln=ys.length/\aM Q Q'/\ys.map Oy.o=(eF g1.s now g.o.period g.p j).2/\(∀y∈ys,fQ Q' y)/\
   aA f (Q'::slA 91 11 la ys.length lc (flat bJ ys)::gateA Q' gb db { g1 with p:=(eF g1.s now g.o.period g.p j).1 }::F),
  λ_ _ _ i _=>64-i.toNat,⟨0,[],Q1,rfl,by omega,rfl,U,rfl,λy hy=>V6 hy (by simp),?_⟩,?_⟩
 .have e:({ g1 with p:=(eF g1.s now g.o.period g.p 0).1 }:Gg)=g1:=by
   show ({ g1 with p:=g.p }:Gg)=g1;rw[<-ep]
  rw[e];exact (h.sl_nil 91 11).o [1,0,2] 3
 rintro la ln lc i H2 ⟨j,ys,d,rfl,hj,rfl,J,hm,L,h⟩;obtain⟨po,pc,pl⟩:=BJ (s:=g1.s) (period:=g.o.period) h2 hc hn j hj;have h7:ys.length<=64:=by
  have:=congrArg List.length hm;rw[VM]at this;omega
 refine⟨λn=>?_,λn=>?_⟩
 .have n:j<64:=by have:=V8 n;omega
  have hw:i64.wrap ((j:Int)+1)=((j+1:Nat):Int):=by rw[aJ];omega
  intro Jn hJ;obtain⟨p,hp⟩:∃p,(eF g1.s now g.o.period g.p j).1=p:=⟨_,rfl⟩;rw[hp]at h po pc;obtain⟨x,pb,u,e1,e2,e3,h⟩:=gm.1 (h.o [2,0,1] 3);refine⟨some ⟨x.sb,0,none⟩,h.r 0,?_⟩;have h:=h.o [1,0,2,3,4,5,6,7,8] 9;refine TX (s:=g1.s) Y.R.ok h λH3 h=>⟨_,_,_,_,_,_,_,_,_,_,_,_,rfl,?_⟩
  have S:=T j n;obtain⟨A,hA⟩:∃A,lg g1.s (j:Nat)=A:=⟨_,rfl⟩;have v:eF g1.s now g.o.period g.p (j+1)=if A.2=true/\dueP p (j:Nat) now g.o.period=true then (sndP p (j:Nat) A.1.en.epoch now,(eF g1.s now g.o.period g.p j).2++[gX (dU (j:Nat) p.boot p.count)]) else eF g1.s now g.o.period g.p j:=by
   rw[eF,hp,hA]
  rw[hA]at S ⊢;refine h.al λb _ h=>?_
  refine h.st 0 rfl rfl λH4 h=>?_
  have skip:¬(A.2=true/\dueP p (j:Nat) now g.o.period=true)->∀f,aA f (stA d x.sb g1.s::cellsA gb (lh g1.o x u.length g1.recs) 110::slA 91 11 x.pa u.length x.pc (flat bJ u)::bookA x.bb x.rb g1.saved g1.num g1.seg::reelA x.rb db g1.rl::diskX db g1.rows g1.syn::prbA pb p::d::slA 91 11 la ys.length lc (flat bJ ys)::F)->Jn la ys.length lc f:=by
   intro w f h;rw[V4 w]at v;refine hJ _ _ _ _ ⟨⟨j+1,ys,d,hw,n,rfl,J,by rw[v];exact hm,L,?_⟩,by rw[hw];dsimp only;omega⟩;rw[v,hp];have hg:=(gm (g:={ g1 with p:=p })).2 ⟨x,pb,u,e1,e2,e3,h.o [1,0,2,3,4,5,6,7,8] 9⟩;exact hg.o [1,2,0] 3
  have N:∀{f},aA f (cellsA b (encA A.1) 187::stA d x.sb g1.s::cellsA gb (lh g1.o x u.length g1.recs) 110::slA 91 11 x.pa u.length x.pc (flat bJ u)::bookA x.bb x.rb g1.saved g1.num g1.seg::reelA x.rb db g1.rl::diskX db g1.rows g1.syn::prbA pb p::d::slA 91 11 la ys.length lc (flat bJ ys)::F)->aL f gb (0+15)=some (PA pb 0):=λh=>(h.r 2).trans (by show some x.pv=_;rw[e1])
  have O:g1.o.period=g.o.period:=by rw[eo]
  have h:aA H4 (cellsA b (encA A.1) 187::stA d x.sb g1.s::cellsA gb (lh g1.o x u.length g1.recs) 110::slA 91 11 x.pa u.length x.pc (flat bJ u)::bookA x.bb x.rb g1.saved g1.num g1.seg::reelA x.rb db g1.rl::diskX db g1.rows g1.syn::prbA pb p::d::slA 91 11 la ys.length lc (flat bJ ys)::F):=h;have I:=Uc (ag:=(j:Nat)) (now:=now) (period:=g.o.period) po (h.o [7,0,1,2,3,4,5,6,8,9] 10);refine⟨λ_=>trivial,some ⟨pb,0,none⟩,λ_=>N h,λ_=>trivial,_,λ_=>h.r 2,dueP p (j:Nat) now g.o.period,λ_=>by rw[<-O]at I ⊢;exact I,λC=>?_,λC=>?_⟩
  .refine skip (λw=>?_) _ h.tl
   rw[w.1,w.2]at C;exact V6 C (by decide)
  have G:A.2=true/\dueP p (j:Nat) now g.o.period=true:=by
   simp only[VP,Wq]at C;exact C
  rw[V5 G]at v;have h6:=S G.1;have P:sndOk (j:Nat) A.1.en.epoch now=true:=by
   unfold sndOk tmB;simp only[VB,VA];omega
  intro h3 h1;have V:∀(nb:Nat) (R:aE) f,aA f (cellsA nb [aD p.boot,aD p.count] 101::cellsA b (encA A.1) 187::stA d x.sb g1.s::cellsA gb (lh g1.o x u.length g1.recs) 110::slA 91 11 x.pa u.length x.pc (flat bJ u)::bookA x.bb x.rb g1.saved g1.num g1.seg::reelA x.rb db g1.rl::diskX db g1.rows g1.syn::prbA pb (sndP p (j:Nat) A.1.en.epoch now)::d::slA 91 11 la ys.length lc (flat bJ ys)::F)->h3 nb 0 0 f:=by
   intro nb R f h;refine h1 _ _ _ _ ⟨λhc=>V6 hc (by decide),λ_=>?_⟩
   refine h.al λb1 _ h=>?_
   refine h.st 0 rfl rfl λH8 h=>⟨_,_,_,h.q 0,_,h.r 1,_,h.r 1,?_⟩
   refine Bg (Ua (j:Nat) p.boot p.count) h λE B H9 h=>⟨_,_,_,_,_,_,_,_,_,_,_,_,_,rfl,?_⟩
   refine h.al λb2 _ h=>?_
   refine h.append (m:=1) (ws:=bJ ⟨gX (dU (j:Nat) p.boot p.count),E,B⟩) slOy 13 rfl (h.ce_rd 0 rfl) rfl (pD _) (by omega) (by omega) λa5 c5 h5 h=>⟨_,_,_,rfl,?_⟩
   have f1:flat bJ ys++bJ ⟨gX (dU (j:Nat) p.boot p.count),E,B⟩=flat bJ (ys++[⟨gX (dU (j:Nat) p.boot p.count),E,B⟩]):=by rw[dS];simp[flat]
   have f2:ys.length+1=(ys++[(⟨gX (dU (j:Nat) p.boot p.count),E,B⟩:Oy)]).length:=by simp
   have h:=h.o [1,12,13,6,5,7,8,9,10,11] 14;rw[f1,f2]at h;rw[f2];have Z:fQ (slA 5 1 E (cA (dU (j:Nat) p.boot p.count)).length B ((cA (dU (j:Nat) p.boot p.count)).map U8)*d) ⟨gX (dU (j:Nat) p.boot p.count),E,B⟩:=⟨KIn.sl (c:=B),h.sl_nc 0 rfl⟩;have h:=oC.2 h;generalize slA 5 1 E (cA (dU (j:Nat) p.boot p.count)).length B ((cA (dU (j:Nat) p.boot p.count)).map U8)=M at h Z;have t:aM d (M*d):=aM.add M d;have h:=qM t (h.o [3,2,4,5,6,7,8,0,1] 9);have hg:=(gm (Q:=M*d) (g:={ g1 with p:=sndP p (j:Nat) A.1.en.epoch now })).2 ⟨x,pb,u,e1,e2,λz D=>(e3 z D).sub t,h.o [1,0,2,3,4,5,6,7,8] 9⟩
   refine hJ _ _ _ _ ⟨⟨j+1,ys++[⟨gX (dU (j:Nat) p.boot p.count),E,B⟩],M*d,hw,n,rfl,J.trans t,by rw[v,VW,hm];rfl,λz D=>?_,?_⟩,by rw[hw];dsimp only;omega⟩
   .rcases VV.1 D with D|D
    .exact (L z D).sub t
    .rw [VI]at D;rw[D];exact Z
   .rw [v];exact hg.o [1,2,0] 3
  refine⟨some ⟨pb,0,none⟩,N h,_,h.r 0,?_,?_⟩
  .have h:=h.o [7,0,1,2,3,4,5,6,8,9] 10;refine KC po P h λH6 h=>⟨_,_,_,rfl,?_⟩
   refine h.al λb3 _ h=>?_
   refine h.st 0 rfl rfl λH7 h=>?_
   exact V b3 emp _ (h.o [0,2,3,4,5,6,7,8,1,9,10] 11)
  .refine h.al λb4 _ h=>⟨h.r 1,N h.tl,?_⟩
   have h:=h.o [8,0,1,2,3,4,5,6,7,9,10] 11;refine KC po P h λH6 h=>⟨_,_,_,rfl,?_⟩
   refine h.st 1 rfl rfl λH7 h=>?_
   exact V b4 emp _ (h.o [1,2,3,4,5,6,7,8,0,9,10] 11)
 .have h0:j=64:=by have:=V9 n;omega
  subst h0;exact k d ys _ _ _ J hm L h
end
end Go.Proofs.YtaaieblnikcndaaGreatDoor
