/-
  Lemmas for GateAnew: part 9 of what it rests on. Conditions: none.
-/
import Derived.Test.YtaaieblnikcndaaGreatDoorGN8
set_option linter.unusedVariables false
set_option linter.unusedSimpArgs false
set_option maxRecDepth 100000
set_option maxHeartbeats 16000000
open Go.IntKind (i64 u64 i8 u8 i32 u32 i16 u16)
namespace Go.Proofs.YtaaieblnikcndaaGreatDoor
open Go
theorem dig(x m:Nat)(hm:0<m):x/(m*256)*256+x/m%256=x/m:=by
 rw[<-Nat.div_div_eq_div_mul];have:=Nat.div_add_mod (x/m) 256;omega
theorem acc_dig{l:List Int}{x m:Nat}(hm:0<m)(a:x<18446744073709551616)(h:kh l=x/(m*256)):kh (l++[((x/m%256:Nat):Int)])=x/m:=by
 rw[wM,h,VD];have e:=dig x m hm;have:x/m<=x:=Nat.div_le_self _ _;rw[WG (by omega),e]
theorem Lr{x:Nat}(b:x<18446744073709551616):kh ((List.range 8).map λp=>((x/2^(8*(7-p))%256:Nat):Int))=x:=by
 have key:∀k,k<=8->kh ((List.range k).map λp=>((x/2^(8*(7-p))%256:Nat):Int))=x/2^(8*(8-k)):=by
  intro k
  induction k with
  | zero=>
   intro _;show 0=_;rw[Nat.div_eq_of_lt (by simpa using b)]
  | succ k a=>
   intro c;have a:=a (by omega);rw[List.range_succ,VT];have e:2^(8*(8-k))=2^(8*(7-k))*256:=by
    have:8*(8-k)=8*(7-k)+8:=by omega
    rw[this,W2]
   rw[e]at a;have:=acc_dig (WV _) b a;have e2:8-(k+1)=7-k:=by omega
   rw[e2];exact this
 have:=key 8 (VA _);simpa using this
theorem Uz{z:Int}(h:ge z):jo (dL z)=z:=by
 have e1:(dL z).take 8=(List.range 8).map λp=>(((cx z%B64).toNat/2^(8*(7-p))%256:Nat):Int):=by
  apply W3
  .simp [dL]
  .intro i c a;have hi:i<8:=by simpa using a
   simp only[dL,List.getElem_take,Wx,YE];unfold wNat
   rw[V1 hi]
 have e2:(dL z).drop 8=(List.range 8).map λp=>(((wlo z).toNat/2^(8*(7-p))%256:Nat):Int):=by
  apply W3
  .simp [dL]
  .intro i c a;have hi:i<8:=by simpa using a
   simp only[dL,List.getElem_drop,Wx,YE];unfold wNat
   rw[nO];have:15-(8+i)=7-i:=by omega
   rw[this]
 have d:=pp z;have b:0<=cx z%B64/\cx z%B64<B64:=⟨Int.emod_nonneg _ (by decide),Int.emod_lt_of_pos _ (by decide)⟩;unfold jo;simp only[cx,wlo,B64]at d b e1 e2 ⊢;rw[e1,e2,Lr (by omega),Lr (by omega)];unfold ge at h;rw[jM];omega
def jF(h:Nat->Int):Nat->Nat->List (Nat×Nat)
 | _,0=>[]
 | a,n+1=>(if h a=0 then [] else [(a,(h a).toNat)])++jF h (a+1) n
def flP(l:List (Nat×Nat)):List Nat:=l.flatMap λp=>[p.1,p.2]
theorem U0(a b:List (Nat×Nat)):flP (a++b)=flP a++flP b:=by simp[flP]
theorem flP_len(l:List (Nat×Nat)):(flP l).length=2*l.length:=by
 induction l with
 | nil=>rfl
 | cons p r ih=>
  show (p.1::p.2::flP r).length=_;simp only[V9,ih];omega
theorem Ls(h:Nat->Int):∀n a,flP (jF h a n)=(List.range' a n).flatMap λi=>if h i=0 then [] else [i,(h i).toNat]
 | 0,a=>rfl
 | n+1,a=>by
  rw[List.range'_succ,Wb,<-Ls h n (a+1)];show flP ((if h a=0 then [] else [(a,(h a).toNat)])++jF h (a+1) n)=_
  rw[U0];congr 1
  split <;> rfl
theorem fullP_eq(h:Nat->Int)(n:Nat):gR h n=flP (jF h 0 n):=by
 rw[Ls,<-List.range_eq_range'];rfl
theorem Lt(h:Nat->Int):∀n a,(jF h a n).length<=n
 | 0,a=>VA _
 | n+1,a=>by
  have:=Lt h n (a+1);unfold jF;rw[V3]
  split <;> simp <;> omega
theorem Lu{h:Nat->Int}:∀{n a:Nat} {p:Nat×Nat},p∈jF h a n->a<=p.1/\p.1<a+n/\h p.1≠0/\p.2=(h p.1).toNat
 | 0,a,p,b=>by cases b
 | n+1,a,p,b=>by
  unfold jF at b
  rcases VR.1 b with b|b
  .split at b
   .cases b
   .rename_i h0;rw[VE]at b;subst b;exact⟨VA _,by omega,h0,rfl⟩
  .have:=Lu b;exact⟨by omega,by omega,this.2.2.1,this.2.2.2⟩
theorem Bz{h:Nat->Int}(e:∀i,i<65->0<=h i/\h i<=9223372036854775807):∀{n a:Nat} {b:Option Nat} {g:Nat->Int},a+n<=65->(∀x,b=some x->x<a)->
  mQ (jF h a n) b g=some λi=>if a<=i/\i<a+n/\h i≠0 then h i else g i
 | 0,a,b,g,hn,hp=>by
  show some g=_;congr 1;funext i;rw[nO]
 | n+1,a,b,g,hn,hp=>by
  unfold jF
  split
  .rename_i h0;rw[Wh,Bz e (by omega) λx f=>by have:=hp x f;omega]
   congr 1;funext i
   by_cases hi:i=a
   .subst hi;rw[nO,V0 (by simp[h0])]
   .by_cases c:a<=i/\i<a+(n+1)/\h i≠0
    .rw [V1 ⟨by omega,by omega,c.2.2⟩,V1 c]
    .rw [V0 (λd=>c ⟨by omega,by omega,d.2.2⟩),V0 c]
  .rename_i h0;have hb:=e a (by omega);show mQ ((a,(h a).toNat)::jF h (a+1) n) b g=_;unfold mQ;rw[V0 (by
    intro c
    rcases c with c|c
    .unfold pB at c
     split at c
     .rename_i x;have:=hp x rfl;have:=V4 c;omega
     .cases c
    .omega),nO,Bz e (by omega) λx f=>by cases f;omega]
   congr 1;funext i
   by_cases hi:i=a
   .subst hi;rw[nO,V1 ⟨by omega,by omega,h0⟩];unfold fe;rw[V1 rfl];omega
   .by_cases c:a<=i/\i<a+(n+1)/\h i≠0
    .rw [V1 ⟨by omega,by omega,c.2.2⟩,V1 c]
    .rw [V0 (λd=>c ⟨by omega,by omega,d.2.2⟩),V0 c]
     unfold fe;rw[V0 hi]
theorem Lv(r:List Int):∀{l:List (Nat×Nat)},(∀p∈l,p.1<18446744073709551616/\p.2<18446744073709551616)->mP l.length ⟨0,eK (flP l)++r⟩=(l,⟨0,r⟩)
 | [],_=>rfl
 | p::l,h=>by
  have a:=h p (VM ..);have c:=Lv r (l:=l) λq b=>h q (VL _ b)
  have e:eK (flP (p::l))++r=bR p.1++(bR p.2++(eK (flP l)++r)):=by
   show eK (p.1::p.2::flP l)++r=_;simp[eK]
  show mP (l.length+1) _=_;unfold mP;rw[e,oC a.1];dsimp only;rw[oC a.2];dsimp only;rw[c]
def CH(c:Cl):Prop:=∀i,65<=i->c.h i=0
theorem U1{c:Cl}(wc:WC c)(d:gh c=true)(B:CH c):kr (dm c)=(c,0):=by
 obtain⟨p1,p2,p3,p4⟩:=Ap d;have t:=wc.n;have k:=wc.cer;have f:=wc.pos;unfold aF at t k f;have s:∀i,i<65->0<=c.h i/\c.h i<=9223372036854775807:=λi hi=>⟨p4 i hi,(wc.h i hi).2⟩
 have C:=Lt c.h 65 0;have j:∀p∈jF c.h 0 65,p.1<18446744073709551616/\p.2<18446744073709551616:=by
  intro p w;obtain⟨a1,a2,a3,a4⟩:=Lu w;have:=s p.1 (by omega);exact⟨by omega,by omega⟩
 have e:dm c=bR c.n.toNat++(bR c.cer.toNat++(bR c.pos.toNat++(cY [c.mn]++(cY [c.mx]++(dd (bF (dL c.sum))++(bR (jF c.h 0 65).length++(eK (flP (jF c.h 0 65))++[]))))))):=by
  unfold dm;rw[V1 d,fullP_eq,flP_len];have:2*(jF c.h 0 65).length/2=(jF c.h 0 65).length:=by omega
  rw[this];simp[eK,cY]
 have u:(bF (dL c.sum)).size=16:=by rw[nP,sq]
 have b:fj (bF (dL c.sum))=dL c.sum:=by
  unfold fj;rw[show (bF (dL c.sum)).data.toList=(dL c.sum).map λn=>UInt8.ofNat n.toNat from strOfNums_data _,Wr]
  apply W3 (by simp);intro i E A;simp only[Wx,Function.comp];exact qr (Sk c.sum) i A
 have s1:=λr=>uF wc.mn r
 have a:∀{v:Int} (h:aF v) (r:List Int),dE ⟨0,cY [v]++r⟩=(v,⟨0,r⟩):=by
  intro v h r;unfold dE;rw[intsB1,oC (tT v),KN h]
 rw[e];unfold kr;dsimp only;rw[oC (by omega)];dsimp only;rw[oC (by omega)];dsimp only;rw[oC (by omega)];dsimp only;rw[a wc.mn];dsimp only;rw[a wc.mx];dsimp only;rw[uI (m:=16) (by omega) (by omega)];dsimp only;rw[Bp (m:=65) (by omega) (by omega)];dsimp only;rw[VD,Lv [] j];dsimp only;rw[show (dF ⟨0,[]⟩).e=0 from rfl,V0 (by simp)];unfold sD;rw[nO,b,V0 (by rw[sq];simp),Bz s (by omega) (λx D=>by cases D)]
 dsimp only;have y:(λi=>if 0<=i/\i<0+65/\c.h i≠0 then c.h i else Z0 i)=c.h:=by
  funext i
  by_cases h65:i<65
  .by_cases h0:c.h i=0
   .rw [V0 (by simp[h0]),h0]
   .rw [V1 ⟨by omega,by omega,h0⟩]
  .rw [nO,B i (by omega)]
 rw[y,Uz wc.sum,Yy p1,Yy p2,Yy p3];rw[V1 d]
theorem Lw{most:Int}(h0:dX most []):∀{n:Nat} {r a:RS} {m:CM},aH r.bs->fp most n r=.ok (m,a)->n+a.bs.length<=r.bs.length
 | 0,r,a,m,hb,h=>by
  cases h
  omega
 | n+1,r,a,m,hb,h=>by
  unfold fp at h
  cases h1:fp most n r with
  | error e=>rw[h1]at h;cases h
  | ok q=>
  obtain⟨m1,r1⟩:=q;rw[h1]at h;dsimp only at h;have c:=Lw h0 hb h1;have b:=(xD h0 hb h1).2
  cases h2:je r1 with
  | error e=>rw[h2]at h;cases h
  | ok q=>
  obtain⟨o,r2⟩:=q;rw[h2]at h;dsimp only at h;have:=Ln b h2
  split at h
  .cases h
  .cases h
   omega
theorem B0{most:Int}{s:RS}{e:Int}:∀{n j:Nat},fp most j s=.error e->j<=n->fp most n s=.error e
 | 0,j,h,hj=>by
  obtain rfl:j=0:=by omega
  exact h
 | n+1,j,h,hj=>by
  rcases VV n j with a|a
  .obtain rfl:j=n+1:=by omega
   exact h
  .unfold fp;rw[B0 h a]
section
variable {F L:List aE}{H:aD}{K KP:KE}{Q Q':aE}{sb:Nat}{s:aI}
theorem U2{rb b1 b2 b3:Nat}{s1:aI}{bs:List Int}{ba:KQ}{bc:Nat}{n:Int}{r:RS}{B:aE}(i:aM Q B)
  (hA:∀H,aA H F->aP H ba (bs.map U8)) (O:ba=none\/∃k o,ba=some ⟨k,o,none⟩) (R:0<=n/\n<=1024) (h0:dX s1.cfg.cells []) (hb:aH r.bs) (hl:r.bs.length<=1000000000) (G:aH bs)
  (y:∀m f k a l c,fp s1.cfg.cells n.toNat r=.ok (m,f)->dZ f=.ok (k,a)->eF k.toNat a=.ok (l,c)->(dF c).e=0->
   cR { s1 with cm:=m,kept:=l }/\qP { s1 with cm:=m,kept:=l }/\l.length<=50000)
  (D:(∀m f k a l c,fp s1.cfg.cells n.toNat r=.ok (m,f)->dZ f=.ok (k,a)->eF k.toNat a=.ok (l,c)->(dF c).e=0->stB { s1 with cm:=m,kept:=l }=bs->False)->ne Q F K (.error 10))
  (M:∀m f k a l c,fp s1.cfg.cells n.toNat r=.ok (m,f)->dZ f=.ok (k,a)->eF k.toNat a=.ok (l,c)->(dF c).e=0->stB { s1 with cm:=m,kept:=l }=bs->
   ne Q F K (.ok { s1 with cm:=m,kept:=l }))
  (h:aA H (crdA rb r::B::stA B sb { s1 with cm:=[],kept:=[] }::cellsA b1 [PA sb 0] 40::cellsA b2 [aC 0] 50::cellsA b3 [PA rb 0] 388::F)) :
  ∃(s:Int->aD->Prop) (P:Int->aD->Nat),s 0 H/\
   ∀(t:Int),∀A:aD,s t A->mz.l3 ba bs.length bc K b1 b2 b3 n s P t A:=by
 refine⟨λt A=>∃(j:Nat) (m:CM) (c:RS),t=j/\(j:Int)<=n/\fp s1.cfg.cells j r=.ok (m,c)/\
  aA A (crdA rb c::B::stA B sb { s1 with cm:=m,kept:=[] }::cellsA b1 [PA sb 0] 40::cellsA b2 [aC 0] 50::cellsA b3 [PA rb 0] 388::F),
  λt _=>(n-t).toNat,⟨0,[],r,rfl,R.1,rfl,h⟩,?_⟩
 rintro t H1 ⟨j,m,c,rfl,hj,x,h⟩;have W:=Lw h0 hb x;have u:=xD h0 hb x;unfold mz.l3;refine⟨λE=>?_,λE=>?_⟩
 .have E:=V4 E;refine⟨_,h.q 5,?_⟩;refine Li h u.2 (by omega) ?_;have b:fp s1.cfg.cells (j+1) r=match je c with
    | .error e=>.error e
    | .ok (o,r2)=>if (jY s1.cfg.cells m o.1 o.2).2≠0 then .error (jY s1.cfg.cells m o.1 o.2).2 else .ok ((jY s1.cfg.cells m o.1 o.2).1,r2):=by
   rw[fp,x] <;> rfl
  cases hr:je c with
  | error e=>
   rw[hr]at b;exact λA w h=>nf (D λm f k a l r1 d _ _ _ _=>by rw[B0 b (by omega)]at d;cases d) w i (h.o [2,3,0] 5)
  | ok q=>
  obtain⟨o,r2⟩:=q;rw[hr]at b;dsimp only at b;have I:=By u.2 hr;intro H2 L C J h;refine⟨_,_,_,_,_,_,_,_,_,_,rfl,?_⟩;refine h.al λb7 _ h=>?_
  refine h.al λb8 _ h=>?_
  refine h.st 1 rfl rfl ?_;intro H3 h;refine h.sta 0 rfl rfl λH4 h=>?_
  have h:=h.o [4,0,1,2,3,5,6,7] 8;obtain⟨p,h⟩:=cX.1 h;refine⟨_,h.r 13,cZ ⟨_,h.r 0,_,_,h.q 10,_,_,_,_,_,_,_,_,h.rda 9 rfl,?_⟩⟩;refine RA u.1.1 I.1 (h.o [5,6,0,1,2,3,4,7,8,11,12,13,14,15] 16) λU h=>⟨_,rfl,?_⟩
  refine j6 (λw=>⟨rfl,?_⟩) λw=>nf (D λm2 f k a l r1 d _ _ _ _=>by
   rw[V1 w]at b;rw[B0 b (by omega)]at d;cases d) w i (h.o [11,12,10] 14)
  rw[V0 (by simpa using w)]at b;have hw:i64.wrap ((j:Int)+1)=((j+1:Nat):Int):=by rw[aK];omega
  rw[hw];refine⟨⟨j+1,_,r2,rfl,by omega,b,?_⟩,by dsimp only;omega⟩;have h:=h.o [2,3,4,5,6,0,1,7,8,9,10,11,12,13] 14;have h:aA U (stA B sb { s1 with cm:=(jY s1.cfg.cells m o.1 o.2).1,kept:=[] }::_):=cX.2 ⟨p,h⟩;exact h.o [1,2,0,3,4,5] 6
 .have Z:=V5 E;have S:j=n.toNat:=by omega
  subst S;refine⟨_,h.q 5,?_⟩;refine ur h u.2 (by omega) ?_
  cases hr:dZ c with
  | error e=>
   exact λA w h=>nf (D λm2 f k a l r1 d v _ _ _=>by rw[x]at d;cases d;rw[hr]at v;cases v) w i (h.o [2,3,0] 5)
  | ok q=>
  obtain⟨k,a⟩:=q;intro H2 L C J h;have Y:a.bs.length<=c.bs.length:=uK hr;have N:0<=k/\k<18446744073709551616:=by
   rw[(ip hr).2.1];have:=wq u.2;omega
  refine⟨_,rfl,?_⟩;exact Uy (s1:={ s1 with cm:=m }) i hA O N C (by omega) G (λl f d v=>y _ _ _ _ _ _ x hr d v) (λR=>D λm2 f k2 h6 l r1 d v T V h5=>by
   rw[x]at d;cases d;rw[hr]at v;cases v;exact R _ _ T V h5) (λl f d v T=>M _ _ _ _ _ _ x hr d v T) h
end
theorem okR_len{α:Type}{s a:RS}{x y:α}(h:okR s x=.ok (y,a)):a.bs.length=s.bs.length:=by rw[(ip h).1]
theorem U3{s c:RS}{x:Pv}(h:jb s=.ok (x,c)):c.bs.length<=s.bs.length:=by
 unfold jb at h
 cases h1:cH s with
 | error e'=>rw[h1]at h;cases h
 | ok q=>
  obtain⟨a,s1⟩:=q;rw[h1]at h;dsimp only at h
  cases h2:gj s1 with
  | error e'=>rw[h2]at h;cases h
  | ok q=>
   obtain⟨b,s2⟩:=q;rw[h2]at h;dsimp only at h;have d:=okR_len h;have i:=gl h1;have e:=uJ h2;have f:=Av s2;dsimp only at d;omega
theorem Lx{hs:HS Pv}{s c:RS}{x:HS Pv}(h:lj hs s=.ok (x,c)):c.bs.length<=s.bs.length:=by
 unfold lj at h
 (repeat' split at h) <;> first|(cases h;done)|(cases h;rename_i a b;exact VO (U3 ‹_›) (gl ‹_›))
theorem Ly{s a:RS}{x:bQ}(h:smpR s=.ok (x,a)):a.bs.length<=s.bs.length:=by
 unfold smpR at h
 (repeat' split at h) <;> first|(cases h;done)|(cases h;exact VO (gl ‹_›) (VO (gl ‹_›) (VO (gl ‹_›) (gl ‹_›))))|exact VO (gl ‹_›) (VO (gl ‹_›) (VO (gl ‹_›) (gl ‹_›)))
theorem xG:∀{n:Nat} {s a:RS} {x:List bQ},jr n s=.ok (x,a)->a.bs.length<=s.bs.length
 | 0,s,a,x,h=>by cases h;exact VA _
 | n+1,s,a,x,h=>by
  unfold jr at h
  (repeat' split at h) <;> first|(cases h;done)|(cases h;exact VO (Ly ‹_›) (xG ‹_›))|exact VO (Ly ‹_›) (xG ‹_›)
theorem xH{hs:HS Pv}:∀{n:Nat} {s a:RS} {x:HS Pv},iG hs n s=.ok (x,a)->a.bs.length<=s.bs.length
 | 0,s,a,x,h=>by cases h;exact VA _
 | n+1,s,a,x,h=>by
  unfold iG at h
  (repeat' split at h) <;> first|(cases h;done)|(cases h;exact VO (Lx ‹_›) (xH ‹_›))|exact VO (Lx ‹_›) (xH ‹_›)
theorem Lz{c:bD}{a b:Int}{d:Bool}{l:List bQ}{s e:RS}{x:br}(h:oE c a d b l s=.ok (x,e)):e.bs.length<=s.bs.length:=by
 unfold oE at h
 (repeat' split at h) <;> first|(cases h;done)|(cases h;exact VO (xH ‹_›) (VO (sL ‹_›) (gl ‹_›)))|exact VO (xH ‹_›) (VO (sL ‹_›) (gl ‹_›))
theorem L2{c:bD}{a:Int}{s b:RS}{x:br}(h:nV c a s=.ok (x,b)):b.bs.length<=s.bs.length:=by
 unfold nV at h
 (repeat' split at h) <;> first|(cases h;done)|(cases h;exact VO (Lz ‹_›) (VO (xG ‹_›) (VO (sL ‹_›) (VO (gl ‹_›) (uK ‹_›)))))|exact VO (Lz ‹_›) (VO (xG ‹_›) (VO (sL ‹_›) (VO (gl ‹_›) (uK ‹_›))))
theorem L3{c:bD}{s a:RS}{x:br}(h:mZ c s=.ok (x,a)):a.bs.length<=s.bs.length:=by
 unfold mZ at h
 (repeat' split at h) <;> first|(cases h;done)|(cases h;exact VO (L2 ‹_›) (uJ ‹_›))|exact VO (L2 ‹_›) (uJ ‹_›)
theorem L4{c:bD}{t:Int}{s a:RS}{x:Fl×br}(h:flR c t s=.ok (x,a)):a.bs.length<=s.bs.length:=by
 unfold flR at h
 (repeat' split at h) <;> first|(cases h;done)|(cases h;exact VO (L3 ‹_›) (uK ‹_›))|exact VO (L3 ‹_›) (uK ‹_›)
theorem L6{s0:aI}{a:Int}{s b:RS}{x:List En×Fl×br}(h:kL s0 a s=.ok (x,b)):b.bs.length<=s.bs.length:=by
 unfold kL at h
 (repeat' split at h) <;> first|(cases h;done)|(cases h;exact VO (L4 ‹_›) (VO (sM ‹_›) (VO (gl ‹_›) (VO (gl ‹_›) (gl ‹_›)))))|exact VO (L4 ‹_›) (VO (sM ‹_›) (VO (gl ‹_›) (VO (gl ‹_›) (gl ‹_›))))
theorem B1{s0:aI}:∀{n:Nat} {r a:RS} {x:PAg},fo s0 n r=.ok (x,a)->a.bs.length<=r.bs.length
 | 0,s,s',x,h=>by cases h;exact VA _
 | n+1,s,s',x,h=>by
  unfold fo at h
  (repeat' split at h) <;> first|(cases h;done)|(cases h;exact VO (L6 ‹_›) (VO (gl ‹_›) (B1 ‹_›)))|exact VO (L6 ‹_›) (VO (gl ‹_›) (B1 ‹_›))
theorem B2{s0:aI}{s:RS}{e:Int}:∀{n j:Nat},fo s0 j s=.error e->j<=n->fo s0 n s=.error e
 | 0,j,h,hj=>by
  obtain rfl:j=0:=by omega
  exact h
 | n+1,j,h,hj=>by
  rcases VV n j with a|a
  .obtain rfl:j=n+1:=by omega
   exact h
  .unfold fo;rw[B2 h a]
section
variable {F L:List aE}{H:aD}{K KP:KE}{Q Q':aE}{sb:Nat}{s:aI}
theorem U4{rb b1 b2 b3 b4:Nat}{s0:aI}{bs:List Int}{ba:KQ}{bc:Nat}{n b value:Int}{r:RS}{B:aE}(d:aM Q B)
  (hA:∀H,aA H F->aP H ba (bs.map U8)) (h9:ba=none\/∃k o,ba=some ⟨k,o,none⟩) (ok:cR s0) (O:s0.cm=[]) (l0:s0.kept=[]) (hn:0<=n/\n<=64) (D:1<=s0.ms.lag/\s0.ms.lag<=1099511627776) (hm:isT b) (hb:aH r.bs) (hl:r.bs.length<=1000000000) (T:aH bs)
  (M:∀x r7 m u cm i k c l f,fo s0 n.toNat r=.ok (x,r7)->(b-s0.ms.lag<=value/\value<=b)->dM 1024 r7=.ok (m,u)->fp s0.cfg.cells m.toNat u=.ok (cm,i)->dZ i=.ok (k,c)->eF k.toNat c=.ok (l,f)->(dF f).e=0->
   cR { s0 with rows:=x.rows,sts:=x.sts,ms:=⟨s0.ms.lag,b,value,x.fls⟩,cm:=cm,kept:=l }/\qP { s0 with rows:=x.rows,sts:=x.sts,ms:=⟨s0.ms.lag,b,value,x.fls⟩,cm:=cm,kept:=l }/\l.length<=50000)
  (N:(∀x r7 m u cm i k c l f,fo s0 n.toNat r=.ok (x,r7)->(b-s0.ms.lag<=value/\value<=b)->dM 1024 r7=.ok (m,u)->fp s0.cfg.cells m.toNat u=.ok (cm,i)->dZ i=.ok (k,c)->eF k.toNat c=.ok (l,f)->(dF f).e=0->
   stB { s0 with rows:=x.rows,sts:=x.sts,ms:=⟨s0.ms.lag,b,value,x.fls⟩,cm:=cm,kept:=l }=bs->False)->ne Q F K (.error 10))
  (Z:∀x r7 m u cm i k c l f,fo s0 n.toNat r=.ok (x,r7)->(b-s0.ms.lag<=value/\value<=b)->dM 1024 r7=.ok (m,u)->fp s0.cfg.cells m.toNat u=.ok (cm,i)->dZ i=.ok (k,c)->eF k.toNat c=.ok (l,f)->(dF f).e=0->
   stB { s0 with rows:=x.rows,sts:=x.sts,ms:=⟨s0.ms.lag,b,value,x.fls⟩,cm:=cm,kept:=l }=bs->
   ne Q F K (.ok { s0 with rows:=x.rows,sts:=x.sts,ms:=⟨s0.ms.lag,b,value,x.fls⟩,cm:=cm,kept:=l }))
  (h:aA H (crdA rb r::B::stA B sb s0::Ma.mapF b4 []::cellsA b1 [PA sb 0] 40::cellsA b2 [aC 0] 50::cellsA b3 [PA rb 0] 388::F)) :
  ∃(Inv:Int->aD->Prop) (mu:Int->aD->Nat),Inv 0 H/\
   ∀(t:Int),∀G:aD,Inv t G->mz.l4 ba bs.length bc K b1 b2 b3 b value b4 n Inv mu t G:=by
 refine⟨λt G=>∃(j:Nat) (x:PAg) (f:RS) (B:aE) (p:SAd),t=j/\(j:Int)<=n/\fo s0 j r=.ok (x,f)/\aH f.bs/\aM Q B/\
  aA G (crdA rb f::B::cellsA sb (dq s0 p) 145::Ro.rollC p.rb p.rm s0.cfg.agents::Ro.mapE p.rm x.rows::strmA B p.tm x.sts::Ma.markC p.mb p.mm s0.ms::Ma.mapF p.mm s0.ms.m::shC p.hb p.hm s0.cfg.cells::cz p.hm s0.cm::slA 164 74 p.ka s0.kept.length p.kc (flat cI s0.kept)::
   Ma.mapF b4 x.fls::cellsA b1 [PA sb 0] 40::cellsA b2 [aC 0] 50::cellsA b3 [PA rb 0] 388::F),
  λt _=>(n-t).toNat,?_,?_⟩
 .have h:=h.o [2,0,1,3,4,5,6] 7;obtain⟨p,h⟩:=cX.1 h;exact⟨0,⟨s0.rows,s0.sts,[]⟩,r,B,p,rfl,hn.1,rfl,hb,d,h.o [9,10,0,1,2,7,3,4,5,6,8,11,12,13,14] 15⟩
 rintro t H1 ⟨j,x,f,B,p,rfl,hj,E,I,d,h⟩;have l6:=B1 E;have R:=Bx ok E;unfold mz.l4;refine⟨λS=>?_,λS=>?_⟩
 .have S:=V4 S;refine⟨_,h.q 14,?_⟩;refine kj h I (by omega) ?_
  cases hr:cH f with
  | error e=>
   have j2:fo s0 (j+1) r=.error e:=by
    rw[fo,E];dsimp only;rw[hr]
   exact λG A h=>nf (N λx2 r7 m u cm i k c l r1 w _ _ _ _ _ _ _=>by rw[B2 j2 (by omega)]at w;cases w) A d (h.o [11,12,0] 14)
  | ok q=>
  obtain⟨a,r2⟩:=q;intro H2 l5 j1 V h;refine⟨_,rfl,_,h.q 14,_,h.r 12,?_⟩;refine Ut (s:={ s0 with rows:=x.rows,sts:=x.sts }) (a:=a) ok.cfg R.rows R.len j1 V ?_ h;have C:fo s0 (j+1) r=match kL { s0 with rows:=x.rows,sts:=x.sts } a r2 with
    | .error e=>.error e
    | .ok (y,r3)=>.ok (⟨y.1,x.sts.set a.toNat (some y.2.2),mset a y.2.1 x.fls⟩,r3):=by
   rw[fo,E];dsimp only;rw[hr] <;> rfl
  cases hq:kL { s0 with rows:=x.rows,sts:=x.sts } a r2 with
  | error e=>
   rw[hq]at C;exact λQ2 G A hs h=>nf (N λx2 r7 m u cm i k c l r1 w _ _ _ _ _ _ _=>by rw[B2 C (by omega)]at w;cases w) A (d.trans hs) (h.o [7,8,0] 10)
  | ok q=>
  obtain⟨y,r3⟩:=q;rw[hq]at C;intro Q2 H3 hs U J Y h;refine⟨_,_,_,_,rfl,?_⟩;refine h.mp_update (α:=Fl) (v:=y.2.1) Ma.mt45 Ma.ko2 11 rfl λH4 h=>?_
  have hw:i64.wrap ((j:Int)+1)=((j+1:Nat):Int):=by rw[aK];omega
  rw[hw];refine⟨⟨j+1,_,r3,Q2,p,rfl,by omega,C,J,d.trans hs,?_⟩,by dsimp only;omega⟩;exact h.o [1,0,2,4,5,3,6,7,8,9,10,11,12,13,14] 15
 .have r0:=V5 S;have j3:j=n.toNat:=by omega
  subst j3;refine⟨_,h.r 12,cZ ⟨_,h.r 2,?_⟩⟩
  by_cases hv:b-s0.ms.lag<=value/\value<=b
  .refine Ma.Set_spec hm D hv (λp hp=>⟨(R.fls p hp).1,(R.fls p hp).2.1⟩) (h.o [6,7,11,0,1,2,3,4,5,8,9,10,12,13,14] 15) λW H2 h=>⟨_,rfl,?_⟩
   refine j6 (λA=>⟨rfl,_,h.q 14,?_⟩) λA=>V2 rfl A
   refine uu (by decide) (h.o [3,4,5,6,7,8,0,1,9,10,11,12,13,14] 15) I (by omega) ?_
   cases hr:dM 1024 f with
   | error e=>
    exact λG A h=>nf (N λx2 r7 m u cm i k c l r1 w _ P _ _ _ _ _=>by rw[E]at w;cases w;rw[hr]at P;cases P) A d (h.o [10,11,0] 13)
   | ok q=>
   obtain⟨m,u⟩:=q;intro H3 U J Y h;have u8:=sL hr;have h0:0<=m/\m<=1024:=by rw[(ip hr).2.1];exact AW I (by decide)
   refine⟨_,rfl,?_⟩;have h:=h.o [2,3,4,6,7,8,9,5,10,0,1,11,12,13] 14;have h:aA H3 (stA B sb { s0 with rows:=x.rows,sts:=x.sts,ms:=⟨s0.ms.lag,b,value,x.fls⟩,cm:=s0.cm,kept:=s0.kept }::_):=cX.2 ⟨{ p with mm:=W },h⟩;rw[O,l0]at h;exact U2 (s1:={ s0 with rows:=x.rows,sts:=x.sts,ms:=⟨s0.ms.lag,b,value,x.fls⟩ }) d hA h9 h0 (by have:=ok.sh;rwa[O]at this) J (by omega) T
    (λcm i k c l L=>M x f m u cm i k c l L E hv hr) (λhn=>N λx2 r7 m u cm i k c l r1 w _ P h4 h5 h6 h7 h8=>by
     rw[E]at w;cases w;rw[hr]at P;cases P;exact hn _ _ _ _ _ _ h4 h5 h6 h7 h8) (λcm i k c l L=>Z x f m u cm i k c l L E hv hr) (h.o [1,2,0,3,4,5] 6)
  .refine MSet_err hm D hv (h.o [6,0,1,2,3,4,5,7,8,9,10,11,12,13,14] 15) ⟨_,rfl,?_⟩;refine j6 (λA=>V2 A (by decide)) λA=>nf (N λx2 r7 m u cm i k c l r1 w h2 _ _ _ _ _ _=>hv h2) A d (h.o [12,13,1] 15)
end
theorem B3{s a:RS}{x:Int}(hb:aH s.bs)(h:dZ s=.ok (x,a)):aH a.bs:=by rw[(ip h).1];exact gL hb
theorem lk{s a:RS}{x:Int}(hb:aH s.bs)(h:cH s=.ok (x,a)):aH a.bs:=by rw[(ip h).1];exact gL hb
theorem B4{s a:RS}{x:Int}(hb:aH s.bs)(h:gj s=.ok (x,a)):aH a.bs:=by rw[(ip h).1];exact gL hb
theorem xI{s a:RS}{m x:Int}(hb:aH s.bs)(h:dM m s=.ok (x,a)):aH a.bs:=by rw[(ip h).1];exact rU hb
theorem uL{s b:RS}{m x:Int}(hb:aH s.bs)(h:upR m s=.ok (x,b)):aH b.bs:=by
 unfold upR at h
 cases h1:cH s with
 | error e=>rw[h1]at h;cases h
 | ok q=>
  obtain⟨a,s1⟩:=q;rw[h1]at h;dsimp only at h
  split at h
  .cases h;exact lk hb h1
  .cases h
theorem U5{s c:RS}{x:Pv}(hb:aH s.bs)(h:jb s=.ok (x,c)):aH c.bs:=by
 unfold jb at h
 cases h1:cH s with
 | error e'=>rw[h1]at h;cases h
 | ok q=>
  obtain⟨a,s1⟩:=q;rw[h1]at h;dsimp only at h
  cases h2:gj s1 with
  | error e'=>rw[h2]at h;cases h
  | ok q=>
   obtain⟨b,s2⟩:=q;rw[h2]at h;dsimp only at h;rw[(ip h).1];exact Au (B4 (lk hb h1) h2)
theorem waitR_by{hs:HS Pv}{s a:RS}{x:HS Pv}(hb:aH s.bs)(h:lj hs s=.ok (x,a)):aH a.bs:=by
 unfold lj at h
 (repeat' split at h) <;> first|(cases h;done)|(cases h;exact U5 (lk hb ‹_›) ‹_›)
theorem smpR_by{s a:RS}{x:bQ}(hb:aH s.bs)(h:smpR s=.ok (x,a)):aH a.bs:=by
 unfold smpR at h
 (repeat' split at h) <;> first|(cases h;done)|(cases h;exact lk (lk (lk (lk hb ‹_›) ‹_›) ‹_›) ‹_›)
theorem L8:∀{n:Nat} {s a:RS} {x:List bQ},aH s.bs->jr n s=.ok (x,a)->aH a.bs
 | 0,s,a,x,hb,h=>by cases h;exact hb
 | n+1,s,a,x,hb,h=>by
  unfold jr at h
  (repeat' split at h) <;> first|(cases h;done)|(cases h;exact smpR_by (L8 hb ‹_›) ‹_›)
theorem L9{hs:HS Pv}:∀{n:Nat} {s a:RS} {x:HS Pv},aH s.bs->iG hs n s=.ok (x,a)->aH a.bs
 | 0,s,a,x,hb,h=>by cases h;exact hb
 | n+1,s,a,x,hb,h=>by
  unfold iG at h
  (repeat' split at h) <;> first|(cases h;done)|exact waitR_by (L9 hb ‹_›) h
theorem strR3_by{c:bD}{a b:Int}{d:Bool}{l:List bQ}{s e:RS}{x:br}(hb:aH s.bs)(h:oE c a d b l s=.ok (x,e)):aH e.bs:=by
 unfold oE at h
 (repeat' split at h) <;> first|(cases h;done)|(cases h;exact L9 (xI (lk hb ‹_›) ‹_›) ‹_›)
theorem strR2_by{c:bD}{a:Int}{s b:RS}{x:br}(hb:aH s.bs)(h:nV c a s=.ok (x,b)):aH b.bs:=by
 unfold nV at h
 (repeat' split at h) <;> first|(cases h;done)|exact strR3_by (L8 (xI (lk (B3 hb ‹_›) ‹_›) ‹_›) ‹_›) h
theorem strR_by{c:bD}{s a:RS}{x:br}(hb:aH s.bs)(h:mZ c s=.ok (x,a)):aH a.bs:=by
 unfold mZ at h
 (repeat' split at h) <;> first|(cases h;done)|exact strR2_by (B4 hb ‹_›) h
theorem flR_by{c:bD}{t:Int}{s a:RS}{x:Fl×br}(hb:aH s.bs)(h:flR c t s=.ok (x,a)):aH a.bs:=by
 unfold flR at h
 (repeat' split at h) <;> first|(cases h;done)|(cases h;exact strR_by (B3 hb ‹_›) ‹_›)
theorem agtR_by{s0:aI}{a:Int}{s b:RS}{x:List En×Fl×br}(hb:aH s.bs)(h:kL s0 a s=.ok (x,b)):aH b.bs:=by
 unfold kL at h
 (repeat' split at h) <;> first|(cases h;done)|(cases h;exact flR_by (uL (lk (lk (lk hb ‹_›) ‹_›) ‹_›) ‹_›) ‹_›)
theorem LE{s0:aI}:∀{n:Nat} {r a:RS} {x:PAg},aH r.bs->fo s0 n r=.ok (x,a)->aH a.bs
 | 0,s,s',x,hb,h=>by cases h;exact hb
 | n+1,s,s',x,hb,h=>by
  unfold fo at h
  (repeat' split at h) <;> first|(cases h;done)|(cases h;exact agtR_by (lk (LE hb ‹_›) ‹_›) ‹_›)
theorem U6{c:bD}{bs:List Int}{s:aI}(hb:aH bs)(a:jA c)(h:kM c bs=.ok s):cR s:=by
 unfold kM at h
 cases h1:upR 4611686018427387903 ⟨0,bs⟩ with
 | error e=>rw[h1]at h;cases h
 | ok q=>
 obtain⟨now,r1⟩:=q;have b1:=uL hb h1;rw[h1]at h;dsimp only at h
 cases h2:upR 1099511627776 r1 with
 | error e=>rw[h2]at h;cases h
 | ok q=>
 obtain⟨boots,r2⟩:=q;have b2:=uL b1 h2;rw[h2]at h;dsimp only at h
 cases h3:upR 1099511627776 r2 with
 | error e=>rw[h3]at h;cases h
 | ok q=>
 obtain⟨sunk,r3⟩:=q;have b3:=uL b2 h3;rw[h3]at h;dsimp only at h
 cases h4:upR now r3 with
 | error e=>rw[h4]at h;cases h
 | ok q=>
 obtain⟨b,r4⟩:=q;have b4:=uL b3 h4;rw[h4]at h;dsimp only at h
 cases h5:gj r4 with
 | error e=>rw[h5]at h;cases h
 | ok q=>
 obtain⟨value,r5⟩:=q;have b5:=B4 b4 h5;rw[h5]at h;dsimp only at h
 cases h6:dM 64 r5 with
 | error e=>rw[h6]at h;cases h
 | ok q=>
 obtain⟨n,r6⟩:=q;have b6:=xI b5 h6;rw[h6]at h;dsimp only at h;have i1:=oF h1;have i2:=oF h2;have i3:=oF h3;have i4:=oF h4;have ok0:cR { bU c with now:=now,boots:=boots,sunk:=sunk }:=(qM a).upd (now:=now) (ms:=(bU c).ms) (cm:=(bU c).cm) (kept:=(bU c).kept) (sunk:=sunk) (boots:=boots) i1 (qM a).ms rfl (qM a).sh (qM a).kept i3.1 i2
 cases h7:fo { bU c with now:=now,boots:=boots,sunk:=sunk } n.toNat r6 with
 | error e=>rw[h7]at h;cases h
 | ok q=>
 obtain⟨x,r7⟩:=q;have b7:=LE b6 h7;have d:=Bx ok0 h7;rw[h7]at h;dsimp only at h
 split at h
 .cases h
 rename_i u;have u:=Decidable.not_not.1 u
 cases h8:dM 1024 r7 with
 | error e=>rw[h8]at h;cases h
 | ok q=>
 obtain⟨m,y⟩:=q;have b8:=xI b7 h8;rw[h8]at h;dsimp only at h
 cases h9:fp c.cells m.toNat y with
 | error e=>rw[h9]at h;cases h
 | ok q=>
 obtain⟨cm,w⟩:=q;have g9:=xD (qM a).sh b8 h9;rw[h9]at h;dsimp only at h
 cases h10:dZ w with
 | error e=>rw[h10]at h;cases h
 | ok q=>
 obtain⟨k,i⟩:=q;have j:=B3 g9.2 h10;rw[h10]at h;dsimp only at h
 cases h11:eF k.toNat i with
 | error e=>rw[h11]at h;cases h
 | ok q=>
 obtain⟨kept,A⟩:=q;have f:=xE j h11;rw[h11]at h;dsimp only at h
 split at h
 .cases h
 cases h
 have t:=a.lag;have hm:isT b:=⟨i4.1,by show b<=_;omega⟩;exact⟨a,i1,i2,i3.1,d.rows,⟨t.1,t.2,hm,by show -c.lag<=value;omega,by show value<=_;omega,d.nd,λp v=>⟨(d.fls p v).1,(d.fls p v).2.1⟩⟩,rfl,g9.1.sh,d.len,d.sts,d.reg,f.1⟩
section
variable {F L:List aE}{H:aD}{K KP:KE}{Q Q':aE}{sb:Nat}{s:aI}
theorem U7{c:bD}{bs:List Int}{ba:KQ}{bc:Nat}(h:aA H (Q::F))
  (W:∀H,aA H F->aP H ba (bs.map U8)) (O:ba=none\/∃k o,ba=some ⟨k,o,none⟩) (D:aH bs) (hl:bs.length<=1000000000)
  (I:fD c=true->∀s,kM c bs=.ok s->qP s/\s.kept.length<=50000)
  (k1:fD c=false->∀C,aA C (Q::F)->K (.tuple #[.pointer none,aC 11]) C)
  (k2:fD c=true->∀e,pH c bs=.error e->ne Q F K (.error 10))
  (k3:fD c=true->∀s,pH c bs=.ok s->ne Q F K (.ok s)) :
  CF 103 #[.agg ⟨oz c⟩,.slice ba bs.length bc] H K:=by
 refine OO ?_;refine h.al λb0 _ h=>?_
 refine h.al λb1 _ h=>?_
 refine h.al λb2 _ h=>?_
 refine⟨_,_,_,_,_,_,_,_,_,h.q 2,?_⟩;refine K4 (Q:=Q) (c:=c) h (λB H1 h=>?_) λB sb H1 h=>?_
 .refine⟨_,_,rfl,?_⟩;refine h.st 1 rfl rfl ?_;intro H2 h;refine h.st 0 rfl rfl ?_;intro H3 h;refine⟨_,h.r 0,λ_=>?_,λM=>V2 M (by simp)⟩
  refine⟨_,h.r 0,?_⟩;refine h.st 1 rfl rfl ?_;intro H4 h;refine⟨h.r 0,?_⟩;refine h.st 0 rfl rfl ?_;intro Z h;exact⟨_,h.r 1,_,h.r 0,k1 B _ (h.o [3] 4)⟩
 have G:=uB B;have ok0:=qM G;refine⟨_,_,rfl,?_⟩;refine h.st 2 rfl rfl ?_;intro H2 h;refine h.st 1 rfl rfl ?_;intro H3 h;refine⟨_,h.r 1,λM=>V2 M (by simp),λ_=>?_⟩
 refine rR h (λH h=>W H (h.o [] 5)) (by omega) λrb H4 h=>⟨_,rfl,?_⟩
 refine h.al λb3 _ h=>?_
 refine h.st 0 rfl rfl ?_;intro Z h;refine⟨_,h.r 4,_,h.r 4,_,h.r 4,_,h.q 0,_,h.q 0,_,h.q 0,?_⟩;have h:=h.o [1,0,2,3,4,6] 7;have f:=λe (u:kM c bs=.error e)=>k2 B 10 (by unfold pH;rw[V0 (by simp[B]),u])
 have pan:∀{e:Int} {H:aD} {sv:aI} {b1 b2 b3 rb:Nat} {v1:Int} {v:KQ},ne Q F K (.error 10)->e≠0->aA H (cellsA b3 [PA rb 0] 388::stA Q sb sv::cellsA b2 [aC v1] 50::cellsA b1 [.pointer v] 40::Q::F)->
   bJ 196 X.calls=true/\cC Tryz.prog 196 [(PA b1 0),(PA b2 0)] (bi (pnV e) false) H λP w=>P=bi (pnV e) true/\
   ∃A,aL w b1 0=some (.pointer A)/\∃y,aL w b2 0=some (aC y)/\K (.tuple #[(.pointer A),(aC y)]) w:=
  λN u h=>nf N u (aM.refl Q) (h.o [3,2,4] 5)
 unfold kM at f;refine sx h D (by show bs.length<=_;omega) ?_
 cases h1:upR 4611686018427387903 ⟨0,bs⟩ with
 | error e=>rw[h1]at f;exact λC u h=>pan (f _ rfl) u h
 | ok q=>
 obtain⟨now,r1⟩:=q;rw[h1]at f;dsimp only at f;intro H6 e1 R l1 h;refine⟨_,rfl,h.q 1,h.q 1,h.r 4,h.r 4,h.r 4,?_⟩;refine sx h R l1 ?_
 cases h2:upR 1099511627776 r1 with
 | error e=>rw[h2]at f;exact λC u h=>pan (f _ rfl) u h
 | ok q=>
 obtain⟨boots,r2⟩:=q;rw[h2]at f;dsimp only at f;intro H7 e2 S l2 h;refine⟨_,rfl,h.q 1,h.r 4,h.r 4,h.r 4,?_⟩;refine sx h S l2 ?_
 cases h3:upR 1099511627776 r2 with
 | error e=>rw[h3]at f;exact λC u h=>pan (f _ rfl) u h
 | ok q=>
 obtain⟨sunk,r3⟩:=q;rw[h3]at f;dsimp only at f;intro H8 e3 L l3 h;have i1:=oF h1;have i2:=oF h2;have i3:=oF h3;have okN:cR { bU c with now:=now,boots:=boots,sunk:=sunk }:=ok0.upd (now:=now) (ms:=(bU c).ms) (cm:=(bU c).cm) (kept:=(bU c).kept) (sunk:=sunk) (boots:=boots) i1 ok0.ms rfl ok0.sh ok0.kept i3.1 i2;refine⟨_,rfl,h.r 4,h.r 4,h.r 4,cZ ?_⟩;have h:=h.o [2,0,1,3,4,5] 6;obtain⟨p,h⟩:=cX.1 h;refine h.st 0 rfl rfl ?_;intro H9 h;refine⟨h.r 12,h.r 12,cZ ?_⟩;refine h.st 0 rfl rfl ?_;intro h7 h;refine⟨h.r 12,cZ ?_⟩;refine h.st 0 rfl rfl ?_;intro T h;refine⟨_,h.q 10,_,h.r 12,cZ ⟨_,h.r 0,_,h.q 10,?_⟩⟩;have h:aA T (stA Q sb { bU c with now:=now,boots:=boots,sunk:=sunk }::_):=cX.2 ⟨p,h⟩;have h:=h.o [1,2,0,3,4,5] 6;refine sx h L l3 ?_
 cases h4:upR now r3 with
 | error e=>rw[h4]at f;exact λC u h=>pan (f _ rfl) u h
 | ok q=>
 obtain⟨b,r4⟩:=q;rw[h4]at f;dsimp only at f;intro h8 e4 U l4 h;refine⟨_,rfl,h.q 1,?_⟩;refine ut h U l4 ?_
 cases h5:gj r4 with
 | error e=>rw[h5]at f;exact λC u h=>pan (f _ rfl) u h
 | ok q=>
 obtain⟨value,r5⟩:=q;rw[h5]at f;dsimp only at f;intro h9 e5 J l5 h;refine⟨_,rfl,?_⟩;refine h.alm aC mO λb4 _ h=>?_
 refine⟨_,h.q 2,?_⟩;have h:=h.o [1,2,3,4,5,6,0] 7;refine uu (by decide) h J l5 ?_
 cases h6:dM 64 r5 with
 | error e=>rw[h6]at f;exact λC u h=>pan (f _ rfl) u (h.o [0,1,2,3,4] 6)
 | ok q=>
 obtain⟨n,r6⟩:=q;rw[h6]at f;dsimp only at f;intro h0 e6 V l6 h;have i4:=oF h4;have E:0<=n/\n<=64:=by rw[(ip h6).2.1];exact AW J (by decide)
 have t1:=sM h1;have t2:=sM h2;have t3:=sM h3;have t4:=sM h4;have t5:=uJ h5;have t6:=sL h6;dsimp only at t1;refine⟨_,rfl,?_⟩;have Y:∀x r7 m j cm i k d l t,fo { bU c with now:=now,boots:=boots,sunk:=sunk } n.toNat r6=.ok (x,r7)->(b-c.lag<=value/\value<=b)->dM 1024 r7=.ok (m,j)->fp c.cells m.toNat j=.ok (cm,i)->dZ i=.ok (k,d)->eF k.toNat d=.ok (l,t)->(dF t).e=0->
   kM c bs=.ok ⟨c,now,boots,sunk,x.rows,⟨c.lag,b,value,x.fls⟩,cm,x.sts,l⟩:=by
  intro x r7 m j cm i k d l t a1 a2 a3 a4 a5 a6 a7;unfold kM;rw[h1];dsimp only;rw[h2];dsimp only;rw[h3];dsimp only;rw[h4];dsimp only;rw[h5];dsimp only;rw[h6];dsimp only;rw[a1];dsimp only;rw[V0 (λE=>E a2),a3];dsimp only
  rw[a4];dsimp only;rw[a5];dsimp only;rw[a6];dsimp only;rw[V0 (λE=>E a7)]
 have P2:∀s,kM c bs=.ok s->∃x r7 m j cm i k d l t,fo { bU c with now:=now,boots:=boots,sunk:=sunk } n.toNat r6=.ok (x,r7)/\(b-c.lag<=value/\value<=b)/\dM 1024 r7=.ok (m,j)/\fp c.cells m.toNat j=.ok (cm,i)/\dZ i=.ok (k,d)/\eF k.toNat d=.ok (l,t)/\(dF t).e=0/\
   s=⟨c,now,boots,sunk,x.rows,⟨c.lag,b,value,x.fls⟩,cm,x.sts,l⟩:=by
  intro s a;unfold kM at a;rw[h1]at a;dsimp only at a;rw[h2]at a;dsimp only at a;rw[h3]at a;dsimp only at a;rw[h4]at a;dsimp only at a;rw[h5]at a;dsimp only at a;rw[h6]at a;dsimp only at a
  cases a1:fo { bU c with now:=now,boots:=boots,sunk:=sunk } n.toNat r6 with
  | error e=>rw[a1]at a;cases a
  | ok q=>
  obtain⟨x,r7⟩:=q;rw[a1]at a;dsimp only at a
  split at a
  .cases a
  rename_i a2;have a2:=Decidable.not_not.1 a2
  cases a3:dM 1024 r7 with
  | error e=>rw[a3]at a;cases a
  | ok q=>
  obtain⟨m,j⟩:=q;rw[a3]at a;dsimp only at a
  cases a4:fp c.cells m.toNat j with
  | error e=>rw[a4]at a;cases a
  | ok q=>
  obtain⟨cm,i⟩:=q;rw[a4]at a;dsimp only at a
  cases a5:dZ i with
  | error e=>rw[a5]at a;cases a
  | ok q=>
  obtain⟨k,d⟩:=q;rw[a5]at a;dsimp only at a
  cases a6:eF k.toNat d with
  | error e=>rw[a6]at a;cases a
  | ok q=>
  obtain⟨l,t⟩:=q;rw[a6]at a;dsimp only at a
  split at a
  .cases a
  rename_i a7
  cases a
  exact⟨x,r7,m,j,cm,i,k,d,l,t,rfl,a2,a3,a4,a5,a6,Decidable.not_not.1 a7,rfl⟩
 have N:(∀x r7 m j cm i k d l t,fo { bU c with now:=now,boots:=boots,sunk:=sunk } n.toNat r6=.ok (x,r7)->(b-c.lag<=value/\value<=b)->dM 1024 r7=.ok (m,j)->fp c.cells m.toNat j=.ok (cm,i)->dZ i=.ok (k,d)->eF k.toNat d=.ok (l,t)->(dF t).e=0->
   stB ⟨c,now,boots,sunk,x.rows,⟨c.lag,b,value,x.fls⟩,cm,x.sts,l⟩=bs->False)->ne Q F K (.error 10):=by
  intro E
  cases a:pH c bs with
  | error e=>exact k2 B e a
  | ok s=>
   exfalso;unfold pH at a;rw[V0 (by simp[B])]at a
   cases hq:kM c bs with
   | error e=>rw[hq]at a;cases a
   | ok s1=>
   rw[hq]at a;dsimp only at a
   split at a
   .rename_i u
    cases a
    obtain⟨x,r7,m,j,cm,i,k,d,l,t,a1,a2,a3,a4,a5,a6,a7,rfl⟩:=P2 _ hq;exact E x r7 m j cm i k d l t a1 a2 a3 a4 a5 a6 a7 u
   .cases a
 refine U4 (s0:={ bU c with now:=now,boots:=boots,sunk:=sunk }) (aM.refl Q) W O okN rfl rfl E G.lag ⟨i4.1,by omega⟩ V (by omega) D ?_ N ?_ (h.o [0,5,2,6,4,3,1] 7)
 .intro x r7 m j cm i k d l t a1 a2 a3 a4 a5 a6 a7;have:=Y x r7 m j cm i k d l t a1 a2 a3 a4 a5 a6 a7;exact⟨U6 D G this,I B _ this⟩
 .intro x r7 m j cm i k d l t a1 a2 a3 a4 a5 a6 a7 a8;have:=Y x r7 m j cm i k d l t a1 a2 a3 a4 a5 a6 a7;refine k3 B _ ?_;unfold pH;rw[V0 (by simp[B]),this];dsimp only;exact V1 a8
end
theorem LF{e:Pv}(h:gT e=true):(0<=e.stamp/\e.stamp<=4611686018427387903)/\fx e.name e.labs=true:=by
 unfold gT at h;simp only[V7,V6]at h;exact h
theorem LH{e:Pv}(h:gT e=true)(a:aF e.value)(r:List Int):jb ⟨0,evB e++r⟩=.ok (e,⟨0,r⟩):=by
 obtain⟨c,b⟩:=LF h;have e1:evB e++r=aN [e.stamp]++(cY [e.value]++(iZ e.name e.labs++r)):=by unfold evB;simp
 unfold jb;rw[e1,kK (by unfold aF;omega)];dsimp only;rw[uF a];dsimp only;rw[Uk b];rfl
theorem smpR_enc{x:bQ}(h:x.ok)(r:List Int):smpR ⟨0,smB x++r⟩=.ok (x,⟨0,r⟩):=by
 have a:=h.wf;unfold bQ.wf at a;have e1:smB x++r=aN [x.asked]++(aN [x.got]++(aN [x.sent]++(aN [x.came]++r))):=by simp[smB,aN]
 unfold smpR;rw[e1,kK a.1];dsimp only;rw[kK a.2.1];dsimp only;rw[kK a.2.2.1];dsimp only;rw[kK a.2.2.2]
theorem LI{l:List bQ}(h:∀x∈l,x.ok)(r:List Int):∀j,j<=l.length->jr j ⟨0,l.flatMap smB++r⟩=.ok (l.take j,⟨0,(l.drop j).flatMap smB++r⟩)
 | 0,_=>rfl
 | j+1,hj=>by
  have a:j<l.length:=by omega
  unfold jr;rw[LI h r j (by omega)];dsimp only;rw[Wv a,Wb,VI,smpR_enc (h _ (VF a))];dsimp only;rw[WF,List.getElem?_eq_getElem a];rfl
theorem LJ{α:Type}{n:Int}{v:α}:∀{l:cy α},(∀p∈l,p.1<n)->ins n v l=l++[(n,v)]
 | [],_=>rfl
 | (a,b)::r,h=>by
  have c:=h _ (VM ..);dsimp only at c;unfold ins;rw[nO,LJ λp d=>h p (VL _ d)];rfl
theorem pop_none{α:Type}{next:Int}:∀{l:cy α},(∀p∈l,next+1<=p.1)->pop next l=([],next,l)
 | [],_=>rfl
 | (n,v)::r,h=>by
  have a:=h _ (VM ..);dsimp only at a;unfold pop;rw[nO]
theorem U9{next most n:Int}{l:cy Pv}{e:Pv}(h0:0<=next)(hb:∀p∈l,next+1<=p.1/\p.1<n)(f:next+1<=n)(hm:n<next+most)(j:n<1099511627776)(c:gT e=true)(h:aF e.value)(r:List Int) :
  lj ⟨next,most,l⟩ ⟨0,rwB (n,e)++r⟩=.ok (⟨next,most,l++[(n,e)]⟩,⟨0,r⟩):=by
 have e1:rwB (n,e)++r=aN [n]++(evB e++r):=by simp[rwB]
 have b:aJ n l=none:=fw.2 λk=>by
  obtain⟨p,a,c⟩:=VB.1 k;have:=hb p a;omega
 have i:(⟨next,most,l⟩:HS Pv).offer n [e]=(⟨next,most,l++[(n,e)]⟩,[],0):=by
  unfold HS.offer;rw[nO];have e2:fk next most n [e] (l,0)=(l++[(n,e)],0):=by
   show ei next most n e (l,0)=_;unfold ei;dsimp only;rw[b,V0 (by simp;omega),nO,LJ λp a=>(hb p a).2]
  have e3:pop next (l++[(n,e)])=([],next,l++[(n,e)]):=pop_none λp a=>by
   rcases VR.1 a with a|a
   .exact (hb p a).1
   .rw [VE]at a;subst a;exact f
  dsimp only;rw[e2];dsimp only;rw[e3]
 unfold lj;rw[e1,kK (by unfold aF;omega)];dsimp only;rw[LH c h];dsimp only;have d:gU n [e]=true:=by
  unfold gU;simp[c];omega
 rw[d,V0 (by simp),i,V0 (by simp)]
theorem LK{next most:Int}{l:cy Pv}(h0:0<=next)(f:jL (next+1) next most l)(h:∀p∈l,p.1<1099511627776/\gT p.2=true/\aF p.2.value)(r:List Int):∀j,j<=l.length->
  iG ⟨next,most,[]⟩ j ⟨0,l.flatMap rwB++r⟩=.ok (⟨next,most,l.take j⟩,⟨0,(l.drop j).flatMap rwB++r⟩)
 | 0,_=>rfl
 | j+1,hj=>by
  have b:j<l.length:=by omega
  unfold iG;rw[LK h0 f h r j (by omega)];dsimp only;have hm:=VF b;have hi:=f.inb _ hm;have d:=h _ hm;rw[Wv b,Wb,VI];have a:∀p∈l.take j,p.1<l[j].1:=by
   intro p c;obtain⟨q,i,rfl⟩:=Wu c;rw[VU]at i;rw[List.getElem_take];exact Yt.1 f.rising q j (by omega) b (by omega)
  have:=U9 (next:=next) (most:=most) (n:=l[j].1) (l:=l.take j) (e:=l[j].2) h0 (λp c=>⟨(f.inb p (Ww c)).1,a p c⟩) hi.1 hi.2 d.1 d.2.1 d.2.2 ((l.drop (j+1)).flatMap rwB++r)
  rw[WF,List.getElem?_eq_getElem b];exact this
theorem flN1(b:Bool):flN [b] 1=if b then 1 else 0:=by cases b <;> rfl
def sO(st:br):List Int:=((aN [flN [st.ck.held] 1,st.ck.streak,(st.ck.smps.length:Int)]++st.ck.smps.flatMap smB)++aN [st.hs.next,(st.hs.rows.length:Int)])++st.hs.rows.flatMap rwB
theorem strR_enc{c:bD}{st:br}(ok:lS c st)(r:List Int):mZ c ⟨0,cY [st.last]++(sO st++r)⟩=.ok (st,⟨0,r⟩):=by
 have n:=ok.last;have b:=ok.ck;have d:st.ck.smps.length<=8:=b.len;have f:=b.st;have e:=ok.hs.next0;have k:=ok.next;have m:=ok.hs.most2;have j:=ok.hs.rows.length;have e1:sO st++r=aN [flN [st.ck.held] 1]++(aN [st.ck.streak]++(aN [((st.ck.smps.length:Nat):Int)]++(st.ck.smps.flatMap smB++(aN [st.hs.next]++(aN [((st.hs.rows.length:Nat):Int)]++(st.hs.rows.flatMap rwB++r)))))):=by
  unfold sO;rw[mY (flN [st.ck.held] 1),mY st.ck.streak,mY st.hs.next];simp only[VI]
 unfold mZ;rw[uF (by unfold aF;omega)];dsimp only;rw[V0 (by simp[inM];omega),e1];unfold nV;have h:=xz [st.ck.held] 1 (by decide);rw[uE h.1 (by have:=h.2;omega)];dsimp only;rw[kK (by unfold aF;omega)];dsimp only;rw[uG (by omega) (by omega)];dsimp only;rw[VD,LI b.ok _ _ (VA _),Wf,W1];dsimp only;unfold oE;rw[V0 (λi=>i ⟨d,f.1,b.ok⟩)]
 have e2:([]:List bQ).flatMap smB++(aN [st.hs.next]++(aN [((st.hs.rows.length:Nat):Int)]++(st.hs.rows.flatMap rwB++r)))=aN [st.hs.next]++(aN [((st.hs.rows.length:Nat):Int)]++(st.hs.rows.flatMap rwB++r)):=rfl;rw[e2,kK (by unfold aF;omega)];dsimp only;rw[nO,uG (by omega) (by omega)];dsimp only;have a:=ok.hs.rows;rw[ok.most]at a;rw[VD,LK e a ok.rows _ _ (VA _),Wf,W1];dsimp only;have e3:decide (flN [st.ck.held] 1=1)=st.ck.held:=by rw[flN1];cases st.ck.held <;> rfl
 rw[e3,<-ok.rho,<-ok.least,<-ok.most];rfl
theorem bits3(a b c:Bool):bitF (flN [a,b,c] 3) 1=a/\bitF (flN [a,b,c] 3) 2=b/\bitF (flN [a,b,c] 3) 4=c:=by
 cases a <;> cases b <;> cases c <;> decide
theorem flR_enc{c:bD}{fl:Fl}{st:br}(ok:lS c st)(r:List Int):flR c fl.t ⟨0,aN [flN [fl.out,fl.was,fl.held] 3]++(cY [st.last]++(sO st++r))⟩=.ok ((fl,st),⟨0,r⟩):=by
 have a:=xz [fl.out,fl.was,fl.held] 3 (by decide);unfold flR;rw[uE a.1 (by have:=a.2;omega)];dsimp only;rw[strR_enc ok];dsimp only;obtain⟨b1,b2,b3⟩:=bits3 fl.out fl.was fl.held;rw[b1,b2,b3]
theorem agtR_enc{s0:aI}{a:Int}{e:En}{fl:Fl}{st:br}(ok:lS s0.cfg st)(c:aF e.epoch/\aF e.boot/\aF e.time)(hs:gD s0.cfg.agents s0.rows a e=(s0.rows.set a.toNat e,0))(d:0<=fl.t/\fl.t<=s0.now)(b:aF fl.t)(r:List Int) :
  ∃rest,agB a e fl st++r=aN [a]++rest/\kL s0 a ⟨0,rest⟩=.ok ((s0.rows.set a.toNat e,fl,st),⟨0,r⟩):=by
 refine⟨aN [e.epoch]++(aN [e.boot]++(aN [e.time]++(aN [fl.t]++(aN [flN [fl.out,fl.was,fl.held] 3]++(cY [st.last]++(sO st++r)))))),?_,?_⟩
 .unfold agB agB1 sO;rw[mY a,mY e.epoch,mY e.boot,mY e.time,mY fl.t];simp only[VI]
 .unfold kL;rw[kK c.1];dsimp only;rw[kK c.2.1];dsimp only;rw[kK c.2.2];dsimp only;have e1:(⟨e.epoch,e.boot,e.time⟩:En)=e:=rfl;rw[e1,hs,V0 (by simp),uH d b];dsimp only;rw[flR_enc ok]
structure nh(o:Ot):Prop where
 wc:WC o.2
 rt:gh o.2=true
 ch:CH o.2
 win:0<=o.1.win/\o.1.win<=4611686018427387903
 ser:(im o.1.ser).2.2=true
 size:o.1.ser.size<=5000
theorem LM{o:Ot}(h:nh o)(r:List Int):je ⟨0,ceB o++r⟩=.ok (o,⟨0,r⟩):=by
 have j:=un h.wc;have b:(bF (dm o.2)).size=(dm o.2).length:=nP _;have hs:=h.size;have e1:ceB o++r=cY [o.1.win]++(dd o.1.ser++(dd (bF (dm o.2))++r)):=by
  show cbB o.1 o.2++r=_;unfold cbB;simp[dC]
 have a:fj (bF (dm o.2))=dm o.2:=by
  unfold fj;rw[show (bF (dm o.2)).data.toList=(dm o.2).map λn=>UInt8.ofNat n.toNat from strOfNums_data _,Wr]
  apply W3 (by simp);intro i f c;simp only[Wx,Function.comp];exact qr (Ss o.2) i c
 have t1:∀x:Fa,∀r:List Int,x.size<18446744073709551616->aY (dd x++r).length ⟨0,dd x++r⟩=(fj x,⟨0,r⟩):=λx r d=>by
  refine uI ?_ d r;unfold dd;simp only[V3];have:=tD x;omega
 unfold je;have e:=h.win;rw[e1,uF (by unfold aF;omega)];dsimp only;rw[t1 _ _ (by omega)];dsimp only;rw[t1 _ _ (by omega)];dsimp only;rw[V0 (by simp),xw,h.ser,V0 (by simp[inM];omega),a,U1 h.wc h.rt h.ch];dsimp only;rw[V0 (by simp)]
theorem LN{l:List Ot}(h:∀o∈l,nh o)(r:List Int):∀j,j<=l.length->eF j ⟨0,l.flatMap ceB++r⟩=.ok (l.take j,⟨0,(l.drop j).flatMap ceB++r⟩)
 | 0,_=>rfl
 | j+1,hj=>by
  have a:j<l.length:=by omega
  unfold eF;rw[LN h r j (by omega)];dsimp only;rw[Wv a,Wb,VI,LM (h _ (VF a))];dsimp only;rw[WF,List.getElem?_eq_getElem a];rfl
theorem LO{κ α:Type}[DecidableEq κ]{k:κ}{v:α}{m:List (κ×α)}(h:aJ k m=none):mset k v m=(k,v)::m:=by
 unfold mset;rw[kP h]
theorem LP{most:Int}{l:List Ot}(d:(aG l).Nodup)(h:∀o∈l,nh o)(hm:(l.length:Int)<=most)(r:List Int):∀j,j<=l.length->fp most j ⟨0,l.flatMap ceB++r⟩=.ok ((l.take j).reverse,⟨0,(l.drop j).flatMap ceB++r⟩)
 | 0,_=>rfl
 | j+1,hj=>by
  have c:j<l.length:=by omega
  have b:=VF c;have a:aJ l[j].1 (l.take j).reverse=none:=fw.2 λm=>by
   obtain⟨p,f,i⟩:=VB.1 m;rw[List.mem_reverse]at f;obtain⟨q,k,rfl⟩:=Wu f;rw[VU]at k;rw[List.getElem_take]at i;have e:=Yt.1 d q j (by simp[aG];omega) (by simp[aG];omega) (by omega);simp only[aG,Wx]at e;exact e i
  unfold fp;rw[LP d h hm r j (by omega)];dsimp only;rw[Wv c,Wb,VI,LM (h _ b)];dsimp only;have hs:jY most (l.take j).reverse l[j].1 l[j].2=((l.take (j+1)).reverse,0):=by
   unfold jY;rw[a,V0 (by simp),(h _ b).rt,V0 (by simp),V0 (by rw[List.length_reverse,VU];omega),LO a,WF,List.getElem?_eq_getElem c,List.reverse_append];rfl
  rw[hs,V0 (by simp)]
abbrev fS(s:aI)(r:Rp):aI:=(bO s r).1
abbrev ee(s:aI)(r:Rp):List bI:=(bO s r).2.1
def emO(l:List bI):List Ot:=(l.filter λe=>decide (e.kind=4)).map bI.out
theorem uM(a b:List bI):emO (a++b)=emO a++emO b:=by simp[emO]
theorem emO_none{l:List bI}(h:∀e∈l,e.kind≠4):emO l=[]:=by
 grind [emO,List.filter_eq_nil_iff]
structure NumI(s:aI)(all:List Ot):Prop where
 len:s.sunk+(s.kept.length:Int)=all.length
 kept:s.kept=all.drop s.sunk.toNat
theorem B5{c:bD}{now a ep first:Int}{evs:List Pv}{x:JS}:∀n,∀e∈(dh c now a ep first evs x n).2,e.kind=3
 | 0,e,h=>by cases h
 | n+1,e,h=>by
  rcases VR.1 h with h|h
  .exact B5 n e h
  .rw [VE]at h;rw[h];rfl
theorem LQ{s:aI}{r:Rp}:∀e∈(gE s r).2,e.kind=3\/e.kind=2:=by
 unfold gE
 split
 .intro e a
  rcases VR.1 a with h|h
  .exact .inl (B5 _ e h)
  grind
 grind
theorem LR{s:aI}{a:Int}:∀e∈jp s a,e.kind=3:=by
 unfold jp
 split
 .intro e b;obtain⟨n,_,rfl⟩:=VB.1 b;rfl
 grind
theorem LS{s:aI}{r:Rp}:∀e∈(fC s r).2.1,e.kind=3\/e.kind=1:=by
 unfold fC
 split
 .grind
 split
 .intro e a
  rcases VR.1 a with h|h
  .grind [LR]
  grind
 grind
theorem oG{s:aI}{r:Rp}{P:aI×List bI×Int->Prop}(h0:r.right=false->P (s,[],10))(d:r.right=true->fB s r≠0->P (s,[],fB s r))
  (k1:r.right=true->fB s r=0->r.kind=1->P ({ s with boots:=s.boots+1 },[],0))
  (k2:r.right=true->fB s r=0->r.kind=2->P (fC s r))
  (k3:r.right=true->fB s r=0->r.kind=3->P (mS s r,[],0))
  (k4:r.right=true->fB s r=0->r.kind=4->P ((gE s r).1,(gE s r).2,0))
  (k5:r.right=true->fB s r=0->r.kind=5->P (lT s r,[],0))
  (k6:r.right=true->fB s r=0->r.kind=6->P ((kI s r.nw).1,(kI s r.nw).2,0))
  (k7:r.right=true->fB s r=0->r.kind=7->P (mT s r,[],0)):P (bO s r):=by
 unfold bO
 split
 .rename_i h;exact h0 h
 rename_i a;have a:r.right=true:=by grind
 have c:=iF a
 split
 .rename_i h;exact d a h
 rename_i b;have b:fB s r=0:=by grind
 split
 .rename_i h;exact k1 a b h
 split
 .rename_i h;exact k2 a b h
 split
 .rename_i h;exact k3 a b h
 split
 .rename_i h;exact k4 a b h
 split
 .rename_i h;exact k5 a b h
 split
 .rename_i h;exact k6 a b h
 .rename_i q1 q2 q3 q4 q5 q6;exact k7 a b (by have:=c.kind;omega)
theorem UA{s:aI}{r:Rp}(a:r.kind=7)(h:fB s r=0):r.nx<=s.next:=by
 unfold fB at h
 grind
theorem uN{s:aI}{r:Rp}(b:r.kind≠1)(a:r.kind≠7)(h:fB s r=0):s.now<=(if r.kind=3 then r.sm.came else r.nw):=by
 unfold fB at h;rw[V0 b,V0 a]at h
 grind [sG]
theorem xJ{first:Int}{a:List Ot}:∀{n k:Nat} (b:k<(dO first a n).length),(dO first a n)[k]={ kind:=4,number:=first+k,out:=a.getD k Ot.z }
 | 0,k,b=>by grind [dO]
 | n+1,k,b=>by
  simp only[dO];rw[List.getElem_append]
  split
  .rename_i h;exact xJ h
  .rename_i h;rw[nU]at h;have c:k<n+1:=by simpa[dO,nU] using b
   have:k=n:=by omega
   subst this;simp[nU]
theorem xK{first:Int}{a:List Ot}:∀n,n<=a.length->emO (dO first a n)=a.take n
 | 0,_=>rfl
 | n+1,h=>by
  simp only[dO];rw[uM,xK n (by omega),WF,List.getElem?_eq_getElem (by omega)];congr 1;show [a.getD n Ot.z]=_;rw[Yl,List.getElem?_eq_getElem (by omega)];rfl
theorem LT{first:Int}{a:List Ot}:∀{n k:Nat},k<=n->(dO first a n).take k=dO first a k
 | 0,k,h=>by
  obtain rfl:k=0:=by omega
  rfl
 | n+1,k,h=>by
  rcases VV n k with b|b
  .obtain rfl:k=n+1:=by omega
   grind [nU]
  .simp only[dO];rw[Yr (by rw[nU];omega),LT b]
theorem num_step{s:aI}{r:Rp}{all:List Ot}(h0:0<=s.sunk)(I:NumI s all) :
  (∀k (b:k<(ee s r).length),(ee s r)[k].kind=4->(ee s r)[k].number=all.length+((emO ((ee s r).take k)).length:Nat))/\NumI (fS s r) (all++emO (ee s r))/\0<=(fS s r).sunk:=by
 unfold ee fS;have quiet:∀l:List bI,(∀e∈l,e.kind≠4)->∀a:aI,NumI a all->0<=a.sunk->∀e:Int,
   (∀k (b:k<(a,l,e).2.1.length),(a,l,e).2.1[k].kind=4->(a,l,e).2.1[k].number=all.length+((emO ((a,l,e).2.1.take k)).length:Nat))/\NumI (a,l,e).1 (all++emO (a,l,e).2.1)/\0<=(a,l,e).1.sunk:=by
  grind [emO_none]
 have nil:∀e∈([]:List bI),e.kind≠4:=λe h=>by cases h
 refine oG (P:=λq=>(∀k (b:k<q.2.1.length),q.2.1[k].kind=4->q.2.1[k].number=all.length+((emO (q.2.1.take k)).length:Nat))/\NumI q.1 (all++emO q.2.1)/\0<=q.1.sunk) (λ_=>quiet [] nil s I h0 _) (λ_ _=>quiet [] nil s I h0 _) (λ_ _ _=>quiet [] nil { s with boots:=s.boots+1 } ⟨I.len,I.kept⟩ h0 0) (λ_ _ _=>?_) (λ_ _ _=>?_) (λ_ _ _=>?_) (λ_ _ _=>?_) (λ_ _ _=>?_) λn d b=>?_
 .have b:=LS (s:=s) (r:=r);have e:fC s r=((fC s r).1,(fC s r).2.1,(fC s r).2.2):=rfl;rw[e];refine quiet _ (λx i=>by grind) _ ?_ ?_ _
  .unfold fC;split
   .exact I
   .split <;> exact⟨I.len,I.kept⟩
  grind [fC]
 .refine quiet [] nil _ ?_ ?_ _
  .unfold mS;split <;> exact⟨I.len,I.kept⟩
  grind [mS]
 .have b:=LQ (s:=s) (r:=r);refine quiet _ (λx i=>by grind) _ ?_ ?_ _
  .unfold gE;split <;> exact⟨I.len,I.kept⟩
  grind [gE]
 .refine quiet [] nil _ ?_ ?_ _
  .unfold lT;split
   .split
    .exact⟨I.len,I.kept⟩
    .split <;> exact⟨I.len,I.kept⟩
   .exact I
  grind [lT]
 .have j:s.next=all.length:=I.len;refine⟨λk b m=>?_,⟨?_,?_⟩,h0⟩
  .have b:k<(dO s.next (dv s r.nw) (dv s r.nw).length).length:=b;show (dO s.next (dv s r.nw) (dv s r.nw).length)[k].number=all.length+((emO ((dO s.next (dv s r.nw) (dv s r.nw).length).take k)).length:Nat)
   grind [nU,xJ,LT,xK]
  .show s.sunk+((s.kept++dv s r.nw).length:Int)=((all++emO (dO s.next (dv s r.nw) (dv s r.nw).length)).length:Nat);rw[xK _ (VA _),Wf,V3,V3]
   grind
  .show s.kept++dv s r.nw=(all++emO (dO s.next (dv s r.nw) (dv s r.nw).length)).drop s.sunk.toNat
   have:=I.len;rw[xK _ (VA _),Wf,List.drop_append_of_le_length (by omega),<-I.kept]
 .have c:=UA b d;have t:=I.len;refine quiet [] nil _ ?_ ?_ _
  .unfold mT
   split
   .rename_i f;refine⟨?_,?_⟩
    .grind
    .dsimp only;rw[I.kept,Ys]
     grind
   .exact I
  grind [mT]
theorem LU{α:Type}{p:α->Bool}:∀{l:List α},l.Pairwise (λx y=>p y=true->p x=true)->l.takeWhile p=l.filter p
 | [],_=>rfl
 | a::r,h=>by
  rw[W0]at h;rw[List.takeWhile_cons,Wk]
  split
  .rw [LU h.2]
  .rename_i b;exact (WM.2 λx c d=>b (h.1 x c d)).symm
theorem LV{p:Ky×Cl}:∀{l:List Ot} {m:CM},p∈lM m l↔p∈m/\∀o∈l,o.1≠p.1
 | [],m=>by simp[lM]
 | o::r,m=>by
  have a:=LV (p:=p) (l:=r) (m:=bT o.1 m);show p∈lM (bT o.1 m) r↔_;rw[a,rD]
  grind
open  Go.Sort
theorem B6(x y:Ky):ij x y=!(ltOf j5) y x:=by rw[ltKy];rfl
theorem UB(ks:List Ky):(dY ks).Pairwise λx y=>ij x y=true:=by
 unfold dY;refine List.pairwise_mergeSort (le:=ij) (λx y z b a=>?_) (λx y=>?_) ks
 .rw [B6]at *;simp only[VY]at *;exact swoKy.ntrans z y x a b
 .rw [B6,B6]
  cases b:ltOf j5 y x with
  | false=>rfl
  | true=>
   cases a:ltOf j5 x y with
   | false=>rfl
   | true=>have:=swoKy.trans _ _ _ b a;rw[swoKy.irrefl]at this;cases this
theorem B7{x y:Ky}(h:ij x y=true):x.win<=y.win:=by
 grind [ij]
theorem LW(m:CM)(b:Int):iC m b=(bA m).filter λo=>decide (o.1.win<b):=by
 unfold iC;refine LU ?_;unfold bA;rw[Yw];refine (UB _).imp λh a=>?_
 have:=B7 h
 grind
theorem UC{m:CM}{k:Ky}:(∃o∈bA m,o.1=k)↔k∈aG m:=by
 unfold bA
 constructor
 .rintro⟨o,ho,rfl⟩;obtain⟨b,a,rfl⟩:=VB.1 ho
  grind [kX]
 .intro h;exact⟨_,VB.2 ⟨k,(kX _).mem_iff.2 h,rfl⟩,rfl⟩
theorem UD{m:CM}{b:Int}{p:Ky×Cl}:p∈nN m b↔p∈m/\b<=p.1.win:=by
 unfold nN;rw[LV]
 constructor
 .rintro⟨h1,h2⟩;refine⟨h1,?_⟩;obtain⟨o,a,c⟩:=(UC (m:=m) (k:=p.1)).2 (VB.2 ⟨p,h1,rfl⟩)
  grind [LW]
 .rintro⟨h1,h2⟩;refine⟨h1,λo a c=>?_⟩
  rw[LW]at a
  grind
theorem UE{r:Rp}(h:r.right=true):r.zeros=true:=by
 unfold Rp.right at h
 grind
theorem B8{rows:List En}{a:Int}{e:En}(h0:0<=a)(b:a.toNat<rows.length):bg (rows.set a.toNat e) a=e:=by
 unfold bg
 grind
abbrev isV(t:Int):Prop:=-4611686018427387904<=t/\t<=4611686018427387903
theorem LX{g:Gd}(a:g.ok){t:Int}(d:isV t):fP g t=t/g.width:=by
 have b:1<=g.width:=a.1;have hb:isV (t/g.width):=by
  constructor
  .rw [Int.le_ediv_iff_mul_le (by omega)];omega
  .rcases Int.lt_or_le t 0 with h|h
   .have:t/g.width<0:=Int.ediv_neg_of_neg_of_pos h (by omega);omega
   .have:=Int.ediv_le_self g.width h;omega
 unfold fP;rw[V1 a,Int.tdiv_eq_ediv,Int.tmod_eq_emod];have h0:=Int.emod_nonneg t (show g.width≠0 by omega);have c:=Int.emod_lt_of_pos t (show 0<g.width by omega)
 by_cases hc:0<=t\/g.width ∣ t
 .rw [V1 hc,V1 hc,nO,aK];omega
 .rw [V0 hc,V0 hc,pO,Int.sign_eq_one_of_pos (by omega),aK (x:=t/g.width+1),aK];omega
theorem meet2_of{x:Gp}{f n:Int}(h:(kS [x,⟨f,n⟩]).2=0):(kS [x,⟨f,n⟩]).1.lo<=(kS [x,⟨f,n⟩]).1.hi/\(kS [x,⟨f,n⟩]).1.hi<=n/\f<=(kS [x,⟨f,n⟩]).1.lo:=by
 unfold kS mD at h ⊢
 split at h
 .rename_i b;rw[V1 b];unfold mD at h ⊢
  split at h
  .rename_i c;rw[V1 c];unfold mD at h ⊢
   split at h
   .rename_i a;rw[V1 a];refine⟨a,?_,?_⟩
    .unfold meet2;dsimp only;split <;> omega
    .unfold meet2;dsimp only;split <;> omega
   .simp at h
  .simp at h
 .simp at h
theorem LY{ck:Ck}{fl:Fl}{now stamp:Int}(h:(cQ ck fl now stamp).2=0):(cQ ck fl now stamp).1.lo<=(cQ ck fl now stamp).1.hi/\(cQ ck fl now stamp).1.hi<=now/\fl.t<=(cQ ck fl now stamp).1.lo:=by
 unfold cQ at h ⊢
 split at h
 .rename_i a;exact V2 h a
 rename_i a;rw[V0 a]
 split at h
 .simp at h
 rename_i b;rw[V0 b];exact meet2_of (Decidable.not_not.1 b)
theorem LZ{p:Ky×Cl}:∀{l m:CM},p∈lL l m->p∈l\/p∈m
 | [],m,h=>.inr h
 | q::r,m,h=>by
  rcases LZ (l:=r) (m:=mset q.1 q.2 m) h with h|h
  .exact .inl (VL _ h)
  .rcases nT h with rfl|h
   .exact .inl (VM ..)
   .exact .inr h
structure CelI(lo hi B:Int)(m:CM):Prop where
 win:∀p∈m,lo<=p.1.win/\p.1.win<=hi
 cnt:∀p∈m,1<=p.2.cer+p.2.pos/\p.2.cer+p.2.pos<=B
theorem UF(ms:MS)(a t:Int):(ms.raise a t).1.value=ms.value/\(ms.raise a t).1.now=ms.now:=by
 unfold MS.raise
 split
 .exact⟨rfl,rfl⟩
 .split <;> exact⟨rfl,rfl⟩
theorem raise_fl{ms:MS}{a t n:Int}(h:∀p∈ms.m,p.2.t<=n)(d:t<=n):∀p∈(ms.raise a t).1.m,p.2.t<=n:=by
 unfold MS.raise
 split
 .exact h
 rename_i x c
 split
 .exact h
 intro p b
 rcases nT b with rfl|b
 .have:=h _ (iv c);dsimp only at this ⊢
  split <;> omega
 .exact h p b
theorem UG{g:Gd}{x:Gp}(h:(dK g x).1≠0\/True)(b:g.ok)(a:x.ok):dK g x=(fP g x.lo,fP g x.hi,0):=by
 unfold dK;rw[V1 b,V1 a]
structure OpenI(s:aI)(B:Int):Prop where
 b0:0<=B
 val:s.ms.value<=s.now
 cel:CelI (fP s.cfg.gd s.ms.value) (fP s.cfg.gd s.now) B s.cm
 fl:∀p∈s.ms.m,p.2.t<=s.now
 en:∀a,(bg s.rows a).time<=s.now
 ag:s.rows.countP (λe=>decide (0<e.epoch))<=s.cfg.agents
theorem uO:∀{l:List En} {i:Nat},(aR i l).length=l.countP λe=>decide (0<e.epoch)
 | [],i=>rfl
 | e::r,i=>by
  unfold aR;rw[List.countP_cons]
  split
  .rename_i h;rw[V9,uO (l:=r),V1 (by simpa using h)]
  .rename_i h;rw[uO (l:=r),V0 (by simpa using h)];rfl
theorem Mb{p:En->Bool}{x:En}:∀{l:List En} {k:Nat} (b:k<l.length),(l.set k x).countP p<=l.countP p+(if p l[k] then 0 else 1)
 | a::r,0,_=>by
  simp only[Yp,List.getElem_cons_zero];rw[List.countP_cons,List.countP_cons]
  by_cases h1:p x=true <;> by_cases h2:p a=true <;> simp[h1,h2]
 | a::r,k+1,h=>by
  have c:=Mb (p:=p) (x:=x) (l:=r) (k:=k) (by simpa using h);simp only[Y6,List.getElem_cons_succ];rw[List.countP_cons,List.countP_cons];omega
theorem open_ag{s:aI}{a:Int}{x:En}{rows':List En}(ok:cR s)(m:s.rows.countP (λe=>decide (0<e.epoch))<=s.cfg.agents)(k:0<=a/\a<=63)(j:¬((bg s.rows a).epoch=0/\full s.cfg.agents s.rows))(g2:rows'=s.rows.set a.toNat x) :
  rows'.countP (λe=>decide (0<e.epoch))<=s.cfg.agents:=by
 have b:a.toNat<s.rows.length:=by rw[ok.rows.len];omega
 rw[g2];have c:=Mb (p:=λe=>decide (0<e.epoch)) (x:=x) b
 have d:bg s.rows a=s.rows[a.toNat]:=by
  unfold bg;rw[nO,List.getElem?_eq_getElem b];rfl
 by_cases h4:0<s.rows[a.toNat].epoch
 .rw [V1 (by simpa using h4)]at c;omega
 .rw [V0 (by simpa using h4)]at c;have i:=(ok.rows.at a).1;rw[d]at i;have f:¬full s.cfg.agents s.rows:=λh=>j ⟨by rw[d];omega,h⟩
  unfold full at f;rw[uO]at f;omega
theorem Mc{lim n:Int}{m:FM}(hm:∀p∈m,p.2.t<=n)(a:0<=n):∀(ks:List Int) (s:Int×Bool),s.1<=n->(j9 lim m ks s).1<=n
 | [],s,h=>h
 | k::r,s,h=>by
  refine Mc hm a r _ ?_;unfold nS
  split
  .cases hk:aJ k m with
   | none=>simp only[Option.getD_none,Fl.z];exact a
   | some x=>simp only[Option.getD_some];exact hm _ (iv hk)
  .exact h
theorem open_new{c:bD}(ok:jA c):OpenI (bU c) 0 where
 b0:=Wd _
 val:=by have:=ok.lag;show -c.lag<=0;omega
 cel:=⟨λp b=>V2 b (by simp[bU]),λp b=>V2 b (by simp[bU])⟩
 fl:=λp b=>V2 b (by simp[bU,MS.new])
 en:=λa=>by
  unfold bg bU;dsimp only
  split
  .exact Wd _
  .rw [List.getElem?_replicate]
   split <;> exact Wd _
 ag:=by
  have:=ok.ag;unfold bU;dsimp only;rw[List.countP_replicate];simp[En.z];omega
structure Rch(s:aI):Prop where
 ok:cR s
 sunk:s.sunk<=1099511627776
 mnow:0<=s.ms.now/\s.ms.now<=s.now
 val:s.ms.now-s.cfg.lag<=s.ms.value/\s.ms.value<=s.ms.now
 keys:∀a,(aJ a s.ms.m).isSome=decide (0<(bg s.rows a).epoch)
 fl:∀p∈s.ms.m,p.2.t<=s.now
 rows:∀a,0<(bg s.rows a).epoch->(1<=(bg s.rows a).boot/\(bg s.rows a).boot<=1099511627776)/\0<=(bg s.rows a).time/\(bg s.rows a).time<=4611686018427387903
 ag:s.rows.countP (λe=>decide (0<e.epoch))<=s.cfg.agents
 cm:∀p∈s.cm,nh p
 kept:∀o∈s.kept,nh o
theorem B9(e:En)(r:List En)(i:Nat):aR i (e::r)=(if 0<e.epoch then [((i:Int),e)] else [])++aR (i+1) r:=by
 grind [aR]
theorem xL:∀(a b:List En) (i:Nat),aR i (a++b)=aR i a++aR (i+a.length) b
 | [],b,i=>rfl
 | e::r,b,i=>by
  have c:=xL r b (i+1);have e1:i+1+r.length=i+(e::r).length:=by simp only[V9];omega
  rw[e1]at c;rw[W7,B9,B9,c,VI]
theorem Md:∀(n i:Nat),aR i (List.replicate n En.z)=[]
 | 0,i=>rfl
 | n+1,i=>by
  rw[YB];unfold aR;rw[V0 (by simp[En.z]),Md n (i+1)]
theorem Me{rows:List En}{k:Nat}(a:k<rows.length):aR k (rows.drop k)=(if 0<rows[k].epoch then [((k:Int),rows[k])] else [])++aR (k+1) (rows.drop (k+1)):=by
 rw[Wv a,B9]
theorem BA{rows:List En}{k:Nat}(a:k<rows.length):aR 0 (rows.take (k+1))=aR 0 (rows.take k)++(if 0<rows[k].epoch then [((k:Int),rows[k])] else []):=by
 rw[WF,List.getElem?_eq_getElem a,xL];congr 1;rw[VU,WR (by omega),VQ]
 grind [aR]
def lm(rows:List En)(k:Nat):List En:=rows.take k++List.replicate (64-k) En.z
def cutT(sts:List (Option br))(k:Nat):List (Option br):=sts.take k++List.replicate (64-k) none
def jG(s:aI)(k:Nat):FM:=((aR 0 (s.rows.take k)).map λp=>(p.1,bG s.ms p.1)).reverse
theorem Mf{α:Type}{l:List α}{z:α}{k:Nat}(b:l.length=64)(a:k<64):(l.take k++List.replicate (64-k) z).set k (l[k]'(by omega))=l.take (k+1)++List.replicate (64-(k+1)) z:=by
 have e:List.replicate (64-k) z=z::List.replicate (64-(k+1)) z:=by
  rw[<-YB];grind
 rw[e,List.set_append_right _ _ (by grind),VU,WR (by omega),Nat.sub_self,Yp,WF,List.getElem?_eq_getElem (by omega),VI];rfl
theorem Mg{α:Type}{l:List α}{z:α}{k:Nat}(b:l.length=64)(a:k<64)(h:l[k]'(by omega)=z):l.take (k+1)++List.replicate (64-(k+1)) z=l.take k++List.replicate (64-k) z:=by
 have e:List.replicate (64-k) z=z::List.replicate (64-(k+1)) z:=by
  rw[<-YB];grind
 grind [List.take_add_one]
theorem xM{rows:List En}{k:Nat}(a:k<rows.length):bg rows (k:Int)=rows[k]:=by
 unfold bg
 grind
theorem rowE_cut{rows:List En}{k:Nat}(b:rows.length=64)(a:k<64):bg (lm rows k) (k:Int)=En.z:=by
 unfold bg lm
 grind
theorem Rch.count{s:aI}(R:Rch s):((aR 0 s.rows).length:Int)<=s.cfg.agents:=by rw[uO];exact R.ag
theorem UH{s:aI}(k:Nat):(aR 0 (s.rows.take k)).length+(aR k (s.rows.drop k)).length=(aR 0 s.rows).length:=by
 rcases VV k s.rows.length with h|h
 .have:=xL (s.rows.take k) (s.rows.drop k) 0;rw[Wt,VU,WR (by omega),VQ]at this
  grind
 .rw [VZ h,Y5 h];rfl
theorem flsK_new{s:aI}(k:Nat):aJ (k:Int) (jG s k)=none:=fw.2 λhm=>by
 obtain⟨p,a,c⟩:=VB.1 hm;unfold jG at a;rw[List.mem_reverse]at a;obtain⟨q,b,rfl⟩:=VB.1 a;have:=(pA b).2.1
 grind
theorem Rch.str{s:aI}(R:Rch s){k:Nat}(b:k<64)(h:0<(s.rows[k]'(by rw[R.ok.rows.len];exact b)).epoch):∃st,s.sts[k]?=some (some st)/\dP s (k:Int)=some st:=by
 obtain⟨st,a⟩:=(R.ok.reg k).2 ⟨_,List.getElem?_eq_getElem (by grind),h⟩;refine⟨st,a,?_⟩;unfold dP
 grind
theorem Rch.nostr{s:aI}(R:Rch s){k:Nat}(a:k<64)(h:¬0<(s.rows[k]'(by rw[R.ok.rows.len];exact a)).epoch):s.sts[k]'(by rw[R.ok.len];exact a)=none:=by
 have b:k<s.sts.length:=by rw[R.ok.len];exact a
 cases e:s.sts[k] with
 | none=>rfl
 | some st=>
  obtain⟨c,f,d⟩:=(R.ok.reg k).1 ⟨st,by grind⟩
  grind
theorem Rch.flat{s:aI}(R:Rch s)(a:Int):isT (bG s.ms a).t/\(bG s.ms a).t<=s.now:=by
 have h0:=R.ok.now;unfold bG
 cases h:aJ a s.ms.m with
 | none=>exact⟨by show isT 0;decide,by show (0:Int)<=_;exact h0.1⟩
 | some x=>
  have:=iv h;exact⟨(R.ok.ms.rows _ this).2,R.fl _ this⟩
theorem Mh{s s0:aI}(R:Rch s)(h0:s0.cfg=s.cfg)(y:s0.now=s.now)(w:s0.rows=List.replicate 64 En.z)(u:s0.sts=List.replicate 64 none)(r:List Int):∀k,k<=64->
  fo s0 (aR 0 (s.rows.take k)).length ⟨0,(aR 0 s.rows).flatMap (dU s)++r⟩=.ok (⟨lm s.rows k,cutT s.sts k,jG s k⟩,⟨0,(aR k (s.rows.drop k)).flatMap (dU s)++r⟩)
 | 0,_=>by
  show Except.ok _=_;rw[w,u];rfl
 | k+1,hk=>by
  have i:=R.ok.rows.len;have h:=R.ok.len;have b:k<s.rows.length:=by omega
  have c:=Mh R h0 y w u r k (by omega);rw[BA b];rw[Me b]at c
  by_cases he:0<s.rows[k].epoch
  .rw [V1 he]at c ⊢;rw[V3,Wo];obtain⟨st,j,A⟩:=R.str (by omega) he;have d:=R.ok.sts st (Wg j);have f:=R.rows (k:Int) (by grind [xM]);rw[xM b]at f;have n:=R.ok.rows.at (k:Int);rw[xM b]at n;have m:=R.flat (k:Int);have v:(aR 0 (s.rows.take k)).length<(aR 0 s.rows).length:=by
    have:=UH (s:=s) k;rw[Me b,V1 he,V3,Wo]at this;omega
   have x:=R.count;have t:gD s.cfg.agents (lm s.rows k) (k:Int) s.rows[k]=((lm s.rows k).set ((k:Int)).toNat s.rows[k],0):=by
    unfold gD;rw[V0 (by grind),rowE_cut i (by omega),V0 (by simp[En.z]),V0];unfold full lm
    grind [xL,Md]
   obtain⟨rest,e1,e2⟩:=agtR_enc (s0:={ s0 with rows:=lm s.rows k,sts:=cutT s.sts k }) (a:=(k:Int)) (e:=s.rows[k]) (fl:=bG s.ms (k:Int)) (st:=st) (by rw[h0];exact d) ⟨by unfold aF;omega,by unfold aF;omega,by unfold aF;omega⟩ (by grind) (by grind) (by have:=m.1;unfold aF;omega) ((aR (k+1) (s.rows.drop (k+1))).flatMap (dU s)++r);have e3:([((k:Int),s.rows[k])]++aR (k+1) (s.rows.drop (k+1))).flatMap (dU s)++r=aN [(k:Int)]++rest:=by
    grind [dU]
   rw[e3]at c;unfold fo;rw[c];dsimp only;rw[kK (by unfold aF;omega)];dsimp only;rw[e2];dsimp only;rw[VD,LO (flsK_new k)];have c1:(lm s.rows k).set k s.rows[k]=lm s.rows (k+1):=Mf i (by omega);have c2:(cutT s.sts k).set k (some st)=cutT s.sts (k+1):=by
    have:=Mf (z:=none) h (show k<64 by omega);have e4:s.sts[k]'(by omega)=some st:=by
     grind
    rw[e4]at this;exact this
   have c3:((k:Int),bG s.ms (k:Int))::jG s k=jG s (k+1):=by
    unfold jG;rw[BA b,V1 he,VT,List.reverse_append];rfl
   grind
  .rw [V0 he]at c ⊢;rw[Wc];rw[Wh]at c;rw[c];have c1:lm s.rows (k+1)=lm s.rows k:=Mg i (by omega) (R.ok.rows.zero _ (VF b) he);have c2:cutT s.sts (k+1)=cutT s.sts k:=Mg h (by omega) (R.nostr (by omega) he);have c3:jG s (k+1)=jG s k:=by
    unfold jG;rw[BA b,V0 he,Wc]
   grind
theorem Rch.nStE{s:aI}(R:Rch s):nStr s=(aR 0 s.rows).length:=by
 have hm:s.sts.map Option.isSome=s.rows.map λe=>decide (0<e.epoch):=by
  apply W3
  .simp [R.ok.len,R.ok.rows.len]
  .intro k a d;have b:k<64:=by rw[VH,R.ok.len]at a;exact a
   simp only[Wx]
   by_cases he:0<(s.rows[k]'(by grind)).epoch
   .obtain⟨st,c,_⟩:=R.str b he
    grind
   .rw [R.nostr b he];simp[he]
 unfold nStr;rw[uO,<-List.countP_eq_length_filter];have a:s.sts.countP Option.isSome=(s.sts.map Option.isSome).countP id:=by simp
 simp_all
def jH(s:aI):aI:={ s with ms:={ s.ms with m:=jG s 64 },cm:=(bA s.cm).reverse }
theorem Mi(m:CM):aG (bA m)=dY (aG m):=by
 unfold bA aG;rw[Wr];have:((λx:Ky×Cl=>x.1)∘λk=>(k,fQ m k))=id:=rfl
 simp_all
theorem BB{m:CM}{o:Ot}(h:o∈bA m):o∈m:=by
 unfold bA at h;obtain⟨k,a,rfl⟩:=VB.1 h;have a:=(kX _).mem_iff.1 a;unfold fQ
 cases e:aJ k m with
 | none=>grind [fw]
 | some c=>exact iv e
theorem outsL_nd{m:CM}(h:(aG m).Nodup):(aG (bA m)).Nodup:=by
 grind [Mi,kX]
theorem UI{s:aI}(R:Rch s)(j:s.kept.length<=1000000000):kM s.cfg (stB s)=.ok (jH s):=by
 have d:=R.ok.now;have a:=R.ok.boots;have c:=R.sunk;have b:=R.ok.sunk;have i:=R.mnow;have B:=R.val;have k:=R.ok.cfg.lag;have t:=R.ok.sh.len;have u:=R.ok.sh.m2;have x:=R.count;have m:=R.ok.cfg.ag;have f:(bA s.cm).length=s.cm.length:=uk s.cm;have h:∀o∈bA s.cm,nh o:=λo C=>R.cm o (BB C)
 have e:stB s=aN [s.now]++(aN [s.boots]++(aN [s.sunk]++(aN [s.ms.now]++(cY [s.ms.value]++(aN [(((aR 0 s.rows).length:Nat):Int)]++((aR 0 s.rows).flatMap (dU s)++(aN [((s.cm.length:Nat):Int)]++((bA s.cm).flatMap ceB++(aN [((s.kept.length:Nat):Int)]++(s.kept.flatMap ceB++[])))))))))):=by
  unfold stB li jq ku;rw[R.nStE,mY s.now,mY s.boots,mY s.sunk]
  grind
 unfold kM;rw[e,uH d (by unfold aF;omega)];dsimp only;rw[uH a (by unfold aF;omega)];dsimp only;rw[uH ⟨b,c⟩ (by unfold aF;omega)];dsimp only;rw[uH i (by unfold aF;omega)];dsimp only;rw[uF (by unfold aF;omega)];dsimp only;rw[uG (by omega) (by omega)];dsimp only;have n:=Mh (s0:={ bU s.cfg with now:=s.now,boots:=s.boots,sunk:=s.sunk }) R rfl rfl rfl rfl (aN [((s.cm.length:Nat):Int)]++((bA s.cm).flatMap ceB++(aN [((s.kept.length:Nat):Int)]++(s.kept.flatMap ceB++[])))) 64 (VA _);rw[VZ (by rw[R.ok.rows.len];omega),Y5 (by rw[R.ok.rows.len];omega)]at n;rw[VD,n];dsimp only;rw[V0 (λy=>y B)]
 have e2:(aR 64 ([]:List En)).flatMap (dU s)++(aN [((s.cm.length:Nat):Int)]++((bA s.cm).flatMap ceB++(aN [((s.kept.length:Nat):Int)]++(s.kept.flatMap ceB++[]))))=aN [((s.cm.length:Nat):Int)]++((bA s.cm).flatMap ceB++(aN [((s.kept.length:Nat):Int)]++(s.kept.flatMap ceB++[]))):=rfl;rw[e2,uG (by omega) (by omega)];dsimp only;have w:=LP (most:=s.cfg.cells) (outsL_nd R.ok.sh.nd) h (by grind) (aN [((s.kept.length:Nat):Int)]++(s.kept.flatMap ceB++[])) (bA s.cm).length (VA _);rw[Wf,W1]at w;rw[VD,<-f,w];dsimp only;have e3:([]:List Ot).flatMap ceB++(aN [((s.kept.length:Nat):Int)]++(s.kept.flatMap ceB++[]))=aN [((s.kept.length:Nat):Int)]++(s.kept.flatMap ceB++[]):=rfl;rw[e3,uE (by omega) (by omega)];dsimp only;have v:=LN R.kept [] s.kept.length (VA _);rw[Wf,W1]at v;rw[VD,v];dsimp only;rw[show (dF ⟨0,([]:List Ot).flatMap ceB++[]⟩).e=0 from rfl,V0 (by simp)];have A:lm s.rows 64=s.rows:=by
  unfold lm;rw[VZ (by rw[R.ok.rows.len];omega)];simp
 have D:cutT s.sts 64=s.sts:=by
  unfold cutT;rw[VZ (by rw[R.ok.len];omega)];simp
 rw[A,D,<-R.ok.lag];rfl
theorem UJ{ks ls:List Ky}(h:ks.Perm ls):dY ks=dY ls:=by
 refine List.Perm.eq_of_pairwise (le:=λx y=>ij x y=true) (λa b _ _ c d=>?_) (wJ ks) (wJ ls) ((kX ks).trans (h.trans (kX ls).symm))
 have w1:=B7 c;have w2:=B7 d;have f:a.win=b.win:=by omega
 unfold ij at c d;simp only[VY,VK,Wl,V8]at c d;have s1:=c.2.resolve_left (λe=>e f.symm)
 have s2:=d.2.resolve_left (λe=>e f)
 rw[Go.Proofs.bytesLess_eq,V8]at s1 s2;have:a.ser.toList=b.ser.toList:=List.le_antisymm s1 s2;obtain⟨aw,i⟩:=a;obtain⟨bw,sb⟩:=b
 grind [ByteArray.toList_eq,sJ]
theorem UK{m m':CM}(a:(aG m).Nodup)(h:m.Perm m'):bA m=bA m':=by
 unfold bA;rw[UJ (h.map Prod.fst:(aG m).Perm (aG m'))]
 grind [fQ,qj]
theorem UL{m:CM}(a:(aG m).Nodup):(bA m).Perm m:=by
 have d:(aG (bA m)).Perm (aG m):=by grind [Mi,kX]
 have c:bA m=(dY (aG m)).map λk=>(k,fQ m k):=rfl
 rw[c];refine ((kX (aG m)).map _).trans ?_;have:(aG m).map (λk=>(k,fQ m k))=m:=by
  unfold aG;rw[Wr]
  conv=>rhs;rw[<-List.map_id m]
  apply WS;intro p b;show (p.1,fQ m p.1)=p;unfold fQ;rw[nA a b];rfl
 rw[this]
theorem UM{s:aI}(R:Rch s)(a:Int):aJ a (jG s 64)=if 0<(bg s.rows a).epoch then some (bG s.ms a) else none:=by
 have c:=R.ok.rows.len;have b:((aR 0 s.rows).map λp=>(p.1,bG s.ms p.1)).Perm (jG s 64):=by
  grind [jG]
 have d:aG ((aR 0 s.rows).map λp=>(p.1,bG s.ms p.1))=aG (aR 0 s.rows):=by simp_all
 rw[<-qj (by grind [xf]) b];have:=xi (f:=λ(k:Int) (_:En)=>bG s.ms k) (k:=a) (m:=aR 0 s.rows)
 grind [AU]
theorem flsK_nd(s:aI)(k:Nat):(aG (jG s k)).Nodup:=by
 unfold jG;have:aG (((aR 0 (s.rows.take k)).map λp=>(p.1,bG s.ms p.1)).reverse)=(aG (aR 0 (s.rows.take k))).reverse:=by simp_all
 rw[this];exact List.pairwise_reverse.2 (xf.imp λh=>h.symm)
theorem UN{κ α:Type}{m:List (κ×α)}(h:(aG m).Nodup):m.Nodup:=List.Pairwise.of_map Prod.fst (λa b c e=>c (by rw[e])) h
theorem UO{κ α:Type}[DecidableEq κ][DecidableEq α]{m m':List (κ×α)}(h:(aG m).Nodup)(a:(aG m').Nodup)(b:∀k,aJ k m=aJ k m'):m.Perm m':=by
 grind [List.perm_ext_iff_of_nodup,UN,nA,iv]
theorem uP{s:aI}(R:Rch s):s.ms.m.Perm (jH s).ms.m/\s.cm.Perm (jH s).cm:=by
 refine⟨UO R.ok.ms.nd (flsK_nd s 64) λa=>?_,?_⟩
 .show aJ a s.ms.m=aJ a (jG s 64);rw[UM R];have b:=R.keys a;unfold bG
  cases h:aJ a s.ms.m with
  | none=>
   grind
  | some x=>
   grind
 .exact ((UL R.ok.sh.nd).symm.trans (List.reverse_perm _).symm)
theorem UP{s:aI}(R:Rch s)(a:Int):bG (jH s).ms a=bG s.ms a:=by
 have:=qj (x:=a) R.ok.ms.nd (uP R).1
 grind
theorem norm_cm{s:aI}(R:Rch s):bA (jH s).cm=bA s.cm:=(UK R.ok.sh.nd (uP R).2).symm
theorem UQ{s:aI}(R:Rch s):stB (jH s)=stB s:=by
 have c:∀p,dU (jH s) p=dU s p:=by
  intro p;unfold dU;have:dP (jH s) p.1=dP s p.1:=rfl
  grind [UP]
 have a:(jH s).cm.length=s.cm.length:=(uP R).2.length_eq.symm;unfold stB li jq ku;rw[norm_cm R,a];have b:(aR 0 (jH s).rows).flatMap (dU (jH s))=(aR 0 s.rows).flatMap (dU s):=by
  show (aR 0 s.rows).flatMap _=_;congr 1
  grind
 rw[b];rfl
structure lp(o:Ot):Prop where
 ch:CH o.2
 win:0<=o.1.win/\o.1.win<=4611686018427387903
 ser:(im o.1.ser).2.2=true
 size:o.1.ser.size<=5000
theorem nh.l{o:Ot}(h:nh o):lp o:=⟨h.ch,h.win,h.ser,h.size⟩
theorem lp.g{o:Ot}(h:lp o)(wc:WC o.2)(rt:gh o.2=true):nh o:=⟨wc,rt,h.ch,h.win,h.ser,h.size⟩
theorem CH.z:CH Cl.z:=λi _=>rfl
theorem CH.note{c:Cl}(h:CH c)(b:Bool):CH (gQ c b).1:=by
 unfold gQ
 split
 .exact CH.z
 split
 .split
  .exact CH.z
  .exact h
 .split
  .exact CH.z
  .exact h
theorem CH.add{c:Cl}(h:CH c){v:Int}(d:aF v):CH (jV c v).1:=by
 unfold jV
 split
 .exact CH.z
 split
 .exact CH.z
 split
 .exact CH.z
 split
 .exact CH.z
 rename_i h0;intro i hi;dsimp only;have h0:(jn c.h v).2=0:=Decidable.not_not.1 h0;unfold jn at h0 ⊢
 split at h0
 .simp at h0
 rename_i b;rw[V0 b]
 split at h0
 .simp at h0
 rename_i a;rw[V0 a];have:=pq d;dsimp only;unfold fe;rw[nO];exact h i hi
theorem Mj{B:Nat}:∀{ps:List (List UInt8)},(∀p∈ps,p.length<=B)->(Go.Lib.join ps [44]).length<=(B+1)*ps.length
 | [],_=>by simp[Go.Lib.join_nil]
 | [p],h=>by grind [Go.Lib.join_one]
 | p::q::r,h=>by
  have b:=Mj (ps:=q::r) λx a=>h x (VL _ a)
  grind [join2,Nat.mul_succ]
theorem US{name:Fa}{labs:List bS}(h:fx name labs=true):(gC name labs).size<=5000:=by
 have a:=mI h;have i:=sj a.named;unfold gC;rw[V1 h]
 split
 .omega
 .have e:=Mj (ps:=(labs.map fA).map aZ) (B:=129) (by
   intro p c;obtain⟨b,hb,rfl⟩:=VB.1 c;obtain⟨l,f,rfl⟩:=VB.1 hb;have:=sk (a.val l f)
   grind [xy,lN])
  rw[VH,VH]at e;have j:=a.len;rw[<-lN,xx,xx,xx];have d:aZ (kg labs)=Go.Lib.join ((labs.map fA).map aZ) [44]:=qN _;simp only[V3,d];rw[lN]
  grind
structure SerG(ser:Fa):Prop where
 ok:(im ser).2.2=true
 size:ser.size<=5000
theorem serG_of{e:Pv}(h:gT e=true):SerG (gC e.name e.labs):=by
 obtain⟨_,a⟩:=LF h;exact⟨by rw[Uj a],US a⟩
theorem note_L{most first last:Int}{m:CM}{ser:Fa}(h:∀p∈m,lp p)(hs:SerG ser)(f:0<=first)(j:last<=4611686018427387903):∀p∈(jX most m first last ser).1,lp p:=by
 unfold jX
 split
 .exact h
 split
 .exact h
 split
 .exact h
 intro p a
 rcases LZ a with a|a
 .obtain⟨w,d,e1,e2,e3⟩:=AZ a;unfold cr at d;obtain⟨i,b,rfl⟩:=VB.1 d;have b:=WB.1 b;have e:CH (fQ m ⟨first+(i:Int),ser⟩):=by
   unfold fQ
   cases hm:aJ (⟨first+(i:Int),ser⟩:Ky) m with
   | none=>exact CH.z
   | some c=>exact (h _ (iv hm)).ch
  exact⟨by rw[e2];exact e.note _,by grind,by rw[e1];exact hs.ok,by rw[e1];exact hs.size⟩
 .exact h p a
theorem count_L{m:CM}{k:Ky}{v:Int}(h:∀p∈m,lp p)(b:aF v):∀p∈(mH m k v).1,lp p:=by
 unfold mH
 split
 .exact h
 rename_i c d
 split
 .exact h
 intro p a
 rcases nT a with rfl|a
 .have:=h (k,c) (iv d);exact⟨this.ch.add b,this.win,this.ser,this.size⟩
 .exact h p a
structure MsJ(lim:Int)(ms ms':MS):Prop where
 now:ms'.now=ms.now
 value:ms'.value=ms.value
 keys:∀a,(aJ a ms'.m).isSome=(aJ a ms.m).isSome
 fl:∀p∈ms'.m,p.2.t<=lim
theorem Mk{now:Int}{ms:MS}{a t:Int}(h:∀p∈ms.m,p.2.t<=now)(c:t<=now):MsJ now ms (ms.raise a t).1:=by
 have r1:=UF ms a t;refine⟨r1.2,r1.1,λb=>?_,raise_fl h c⟩
 grind [MS.raise,lD]
theorem MsJ.trans{now:Int}{a b c:MS}(h:MsJ now a b)(d:MsJ now b c):MsJ now a c:=⟨d.now.trans h.now,d.value.trans h.value,λk=>(d.keys k).trans (h.keys k),d.fl⟩
theorem flOf_lo{ms:MS}(h:MOk ms)(a:Int):0<=(bG ms a).t:=by
 unfold bG
 cases e:aJ a ms.m with
 | none=>exact Wd _
 | some x=>exact (h.rows _ (iv e)).2.1
theorem judgeS_J{c:bD}{now a:Int}{st:br}{ms:MS}{cm:CM}{e:Pv}(b:c.gd.ok)(i:isT now)(hm:MOk ms)(n:gT e=true)(k:aF e.value)(f:∀p∈ms.m,p.2.t<=now)(s:∀p∈cm,lp p) :
  MsJ now ms (eE c now a st ms cm e).ms/\∀p∈(eE c now a st ms cm e).cm,lp p:=by
 have same:MsJ now ms ms:=⟨rfl,rfl,λ_=>rfl,f⟩
 unfold eE
 split
 .grind
 split
 .grind
 rename_i j d;have d:(cQ st.ck (bG ms a) now e.stamp).2=0:=Decidable.not_not.1 (not_or.1 d).1;obtain⟨t1,t2,t3⟩:=LY d;have h:=flOf_lo hm a;generalize cQ st.ck (bG ms a) now e.stamp=T at *;have r:=Mk (a:=a) (t:=T.1.lo) f (by omega)
 split
 .grind
 have w:=UG (g:=c.gd) (x:=T.1) (.inr trivial) b t1;rw[w];dsimp only;have w0:0<=fP c.gd T.1.lo:=by
  rw[LX b (by unfold isV isT at *;omega)];exact Int.ediv_nonneg (by omega) (by have:=b.1;omega)
 have w1:fP c.gd T.1.hi<=4611686018427387903:=by
  rw[LX b (by unfold isV isT at *;omega)];have:=Int.ediv_le_self (a:=T.1.hi) c.gd.width (by omega)
  grind
 grind [note_L,serG_of,count_L]
theorem Ml{c:bD}{now a ep first:Int}{evs:List Pv}{x:JS}(f:c.gd.ok)(d:isT now)(hm:MOk x.ms)(j:∀e∈evs,gT e=true/\aF e.value)(h:∀p∈x.ms.m,p.2.t<=now)(k:∀p∈x.cm,lp p):∀n,n<=evs.length->
  MOk (dh c now a ep first evs x n).1.ms/\MsJ now x.ms (dh c now a ep first evs x n).1.ms/\∀p∈(dh c now a ep first evs x n).1.cm,lp p
 | 0,_=>⟨hm,⟨rfl,rfl,λ_=>rfl,h⟩,k⟩
 | n+1,hl=>by
  obtain⟨i1,i2,i3⟩:=Ml (ep:=ep) (first:=first) (a:=a) f d hm j h k n (by omega);have b:=j (evs.getD n Pv.z) (by rw[ov _ (by omega)];exact VF _);have i:=judgeS_J (a:=a) (st:=(dh c now a ep first evs x n).1.st) (e:=evs.getD n Pv.z) f d i1 b.1 b.2 i2.fl i3;have hm:=K2 (c:=c) (now:=now) (a:=a) (st:=(dh c now a ep first evs x n).1.st) (cm:=(dh c now a ep first evs x n).1.cm) (e:=evs.getD n Pv.z) i1;exact⟨hm.1,i2.trans i.1,i.2⟩
theorem Mm{lim:Int}{m:FM}:∀(ks:List Int) (s:Int×Bool),lim<=s.1->lim<=(j9 lim m ks s).1
 | [],s,h=>h
 | k::r,s,h=>by
  refine Mm r _ ?_
  grind [nS]
theorem cmG{s:aI}(ok:cR s)(h:∀p∈s.cm,lp p):∀p∈s.cm,nh p:=λp a=>(h p a).g (ok.sh.wc p a) (ok.sh.rt p a)
theorem Rch.cl{s:aI}(R:Rch s):∀p∈s.cm,lp p:=λp a=>(R.cm p a).l
theorem Mn{c:bD}(ok:jA c):Rch (bU c) where
 ok:=qM ok
 sunk:=by show (0:Int)<=_;decide
 mnow:=⟨Wd _,Wd _⟩
 val:=by have:=ok.lag;show (0:Int)-c.lag<=-c.lag/\-c.lag<=0;omega
 keys:=λa=>by
  have:bg (bU c).rows a=En.z:=by
   grind [bg,bU]
  rw[this];rfl
 fl:=λp b=>V2 b (by simp[bU,MS.new])
 rows:=λa h=>by
  grind [bg,bU,En.z]
 ag:=(open_new ok).ag
 cm:=λp b=>V2 b (by simp[bU])
 kept:=λp b=>V2 b (by simp[bU])
theorem uQ{s:aI}{r:Rp}(R:Rch s)(hv:∀e∈r.evs,aF e.value):Rch (fS s r):=by
 have d:cR (fS s r):=apply_ok R.ok hv;have ok:=R.ok;have h6:=R.mnow;have S:=R.val;unfold fS at *;revert d;have j:∀{n:Int},s.now<=n->(0<=s.ms.now/\s.ms.now<=n)/\∀p∈s.ms.m,p.2.t<=n:=λh=>⟨by omega,λp y=>by have:=R.fl p y;omega⟩
 refine oG (P:=λq=>cR q.1->Rch q.1) (λ_ _=>R) (λ_ _ _=>R) (λ_ _ _ d=>⟨d,R.sunk,R.mnow,R.val,R.keys,R.fl,R.rows,R.ag,R.cm,R.kept⟩) (λC u B d=>?_) (λC u B d=>?_) (λC u B d=>?_) (λC u B d=>?_) (λC u B d=>?_) λC u B d=>?_
 .have v:=iF C;have i:=uN (by omega) (by omega) u;rw[nO]at i;obtain⟨u1,u2⟩:=j i;have T:=xv (most:=s.cfg.agents) ok.rows r.ag r.bt r.nw;revert d;unfold fC
  split
  .exact λ_=>R
  rename_i K;have K:=Decidable.not_not.1 K;have hb:¬bad r.ag r.bt r.nw:=by
   intro hb;unfold grant at K
   grind
  split
  .rename_i u;intro d
   rcases T with ⟨-,g2,g3,g4,g5⟩|⟨g1,_⟩
   .have J:r.ag.toNat<s.rows.length:=by rw[ok.rows.len];grind
    have F:¬((bg s.rows r.ag).epoch=0/\full s.cfg.agents s.rows)/\(grant s.cfg.agents s.rows r.ag r.bt r.nw).2.1.time=r.nw/\(grant s.cfg.agents s.rows r.ag r.bt r.nw).2.1.boot=r.bt:=by
     unfold grant at u K ⊢
     grind
    have M:=(open_ag (s:=s) ok R.ag v.ag F.1 g2);generalize (grant s.cfg.agents s.rows r.ag r.bt r.nw)=G at *;have D:∀a,bg G.1 a=if a=r.ag then G.2.1 else bg s.rows a:=by
     intro a;rw[g2]
     by_cases e:a=r.ag
     .rw [V1 e,e,B8 v.ag.1 J]
     .rw [V0 e];unfold bg
      grind
    have hold:(gX s r.ag).now=s.ms.now/\(gX s r.ag).value=s.ms.value/\(∀p∈(gX s r.ag).m,p.2.t<=r.nw)/\aJ r.ag (gX s r.ag).m=none/\∀a,a≠r.ag->aJ a (gX s r.ag).m=aJ a s.ms.m:=by
     unfold gX
     cases hs:dP s r.ag with
     | none=>
      dsimp only;refine⟨rfl,rfl,u2,?_,λ_ _=>rfl⟩
      have B:=R.keys r.ag;have h0:¬0<(bg s.rows r.ag).epoch:=by
       intro h;have L:r.ag.toNat<64:=by grind
       have e1:((r.ag.toNat:Nat):Int)=r.ag:=by grind
       have e2:bg s.rows r.ag=s.rows[r.ag.toNat]:=by grind [xM]
       obtain⟨st,_,Z⟩:=R.str L (by grind)
       grind
      simp_all
     | some st=>
      dsimp only;unfold MS.leave
      split
      .grind
      .refine⟨rfl,rfl,λp y=>u2 p (rD.1 y).1,?_,λa ha=>?_⟩
       .dsimp only;rw[vO,V1 rfl]
       .dsimp only;rw[vO,V0 ha]
    obtain⟨o1,o2,o3,o4,o5⟩:=hold;have O:(gX s r.ag).join r.ag r.nw=({ gX s r.ag with m:=mset r.ag ⟨r.nw,false,false,false⟩ (gX s r.ag).m },0):=by
     unfold MS.join
     grind
    rw[O]at d ⊢;refine⟨d,R.sunk,by grind,by grind,λa=>?_,λp y=>?_,λa h=>?_,M,R.cm,R.kept⟩
    .dsimp only;rw[D,lD]
     by_cases e:a=r.ag
     .grind
     .rw [V0 e,V0 e,o5 a e];exact R.keys a
    .rcases nT y with rfl|y
     .grind
     grind
    .dsimp only at h ⊢;rw[D]at h ⊢
     by_cases e:a=r.ag
     .grind
     .rw [V0 e]at h ⊢;exact R.rows a h
   .rw [g1]at u;cases u
  .rename_i u;intro d
   rcases T with ⟨g1,_⟩|⟨-,g2,_⟩
   .exact V2 g1 u
   .rw [g2]at d ⊢;exact⟨d,R.sunk,u1,R.val,R.keys,u2,R.rows,R.ag,R.cm,R.kept⟩
 .have v:=iF C;have i:=uN (by omega) (by omega) u;rw[V1 B]at i;obtain⟨u1,u2⟩:=j i;obtain⟨st,A⟩:=lg ok v u (.inl B);revert d;unfold mS;rw[A];intro d;have hh:∀b,(s.ms.hold r.ag b).1.now=s.ms.now/\(s.ms.hold r.ag b).1.value=s.ms.value/\(∀a,(aJ a (s.ms.hold r.ag b).1.m).isSome=(aJ a s.ms.m).isSome)/\∀p∈(s.ms.hold r.ag b).1.m,p.2.t<=r.sm.came:=by
   intro b;unfold MS.hold
   split
   .grind
   .rename_i x hx;refine⟨rfl,rfl,λa=>?_,λp y=>?_⟩
    .grind [lD]
    .rcases nT y with rfl|y
     .have:=u2 (r.ag,x) (iv hx);exact this
     grind
  obtain⟨h1,Z,h3,W⟩:=hh (kU st.ck r.sm).1.held;refine⟨d,R.sunk,?_,?_,λa=>?_,W,R.rows,R.ag,R.cm,R.kept⟩
  .grind
  .grind
  .dsimp only;rw[h3];exact R.keys a
 .have v:=iF C;have i:=uN (by omega) (by omega) u;rw[nO]at i;obtain⟨u1,u2⟩:=j i;obtain⟨st,A⟩:=lg ok v u (.inr (.inl B));have H:=ok.sts st (Wg A);have hb:=v.evs B;unfold gU at hb;simp only[V7,V6,Wq]at hb;obtain⟨⟨h9,h8⟩,⟨⟨h5,U⟩,V⟩,h7⟩:=hb;have hm:=uo (s:=st.hs) (first:=r.nx) (items:=r.evs);have good:∀e∈(st.hs.offer r.nx r.evs).2.1,gT e=true/\aF e.value:=by
   intro e he
   rcases hm.1 e he with h|⟨q,h,rfl⟩
   .grind
   .exact (H.rows q h).2
  have O:=Ml (c:=s.cfg) (now:=r.nw) (a:=r.ag) (ep:=r.ep) (first:=st.hs.next) (evs:=(st.hs.offer r.nx r.evs).2.1) (x:=⟨{ st with hs:=(st.hs.offer r.nx r.evs).1 },s.ms,s.cm⟩) ok.cfg.gd v.nw ok.ms good u2 R.cl _ (VA _);revert d;unfold gE;rw[A];dsimp only;unfold kH;generalize dh s.cfg r.nw r.ag r.ep st.hs.next (st.hs.offer r.nx r.evs).2.1 ⟨{ st with hs:=(st.hs.offer r.nx r.evs).1 },s.ms,s.cm⟩ (st.hs.offer r.nx r.evs).2.1.length=G at *;intro d;obtain⟨j1,w,j3⟩:=O;refine⟨d,R.sunk,?_,?_,λa=>?_,w.fl,R.rows,R.ag,cmG d j3,R.kept⟩
  .dsimp only at w ⊢;rw[w.now];exact u1
  .dsimp only at w ⊢;rw[w.now,w.value];exact R.val
  .dsimp only at w ⊢;rw[w.keys];exact R.keys a
 .have v:=iF C;have i:=uN (by omega) (by omega) u;rw[nO]at i;obtain⟨u1,u2⟩:=j i;obtain⟨st,A⟩:=lg ok v u (.inr (.inr B));revert d;unfold lT;rw[A];dsimp only
  split
  .exact λd=>⟨d,R.sunk,u1,R.val,R.keys,u2,R.rows,R.ag,R.cm,R.kept⟩
  split
  .exact λd=>⟨d,R.sunk,u1,R.val,R.keys,u2,R.rows,R.ag,R.cm,R.kept⟩
  .rename_i Y;intro d;obtain⟨t1,t2,t3⟩:=LY (Decidable.not_not.1 Y);have w:=Mk (a:=r.ag) (t:=(cQ st.ck (bG s.ms r.ag) r.nw r.st).1.lo) u2 (by omega);refine⟨d,R.sunk,?_,?_,λa=>?_,w.fl,R.rows,R.ag,R.cm,R.kept⟩
   .dsimp only;rw[w.now];exact u1
   .dsimp only;rw[w.now,w.value];exact R.val
   .dsimp only;rw[w.keys];exact R.keys a
 .have v:=iF C;have i:=uN (by omega) (by omega) u;rw[nO]at i;obtain⟨u1,u2⟩:=j i;have I:=v.nw;have Q:=ok.ms.l1;have l0:=ok.lag;have ht:s.ms.tick r.nw=({ s.ms with now:=r.nw,value:=maxI s.ms.value (j9 (r.nw-s.ms.lag) s.ms.m (sortI (aG s.ms.m)) (r.nw-s.ms.lag,false)).1,m:=s.ms.m.map λp=>(p.1,ko (r.nw-s.ms.lag) p.2) },0):=by
   unfold MS.tick
   grind
  have f1:=Mc (lim:=r.nw-s.ms.lag) u2 I.1 (sortI (aG s.ms.m)) (r.nw-s.ms.lag,false) (by grind);have f2:=Mm (lim:=r.nw-s.ms.lag) (m:=s.ms.m) (sortI (aG s.ms.m)) (r.nw-s.ms.lag,false) (Wd _);revert d;unfold kI dv;rw[ht];intro d;have N:∀p∈nN s.cm (fP s.cfg.gd (maxI s.ms.value (j9 (r.nw-s.ms.lag) s.ms.m (sortI (aG s.ms.m)) (r.nw-s.ms.lag,false)).1)),nh p:=λp y=>R.cm p (UD.1 y).1
  refine⟨d,R.sunk,⟨I.1,Wd _⟩,?_,λa=>?_,λp y=>?_,R.rows,R.ag,N,λo E=>?_⟩
  .grind
  .dsimp only;have:=xi (f:=λ(_:Int)=>ko (r.nw-s.ms.lag)) (k:=a) (m:=s.ms.m)
   rw[this,<-R.keys a]
   grind
  .obtain⟨q,hq,rfl⟩:=VB.1 y;exact u2 q hq
  .rcases VR.1 E with E|E
   .exact R.kept o E
   .exact R.cm o (BB (Bd E))
 .revert d;unfold mT
  split
  .intro d;have v:=iF C;exact⟨d,by have:=v.nx;grind,R.mnow,R.val,R.keys,R.fl,R.rows,R.ag,R.cm,λo E=>R.kept o (WE E)⟩
  .exact λ_=>R
theorem Rch.ser{s:aI}(R:Rch s):qP s:=⟨λp b=>(R.cm p b).size,λo a=>(R.kept o a).size⟩
structure Rx where
 kind:Int
 ag:Int
 ep:Int
 bt:Int
 nx:Int
 st:Int
 nw:Int
 sm:bQ
 ea:KQ
 ec:Nat
 evs:List Ev
abbrev encX(x:Rx):Os:=[aB x.kind,aB x.ag,aB x.ep,aB x.bt,aB x.nx,aB x.st,aB x.nw,aB x.sm.asked,aB x.sm.got,aB x.sm.sent,aB x.sm.came,.slice x.ea x.evs.length x.ec]
theorem Mo(x:Rx):(encX x).length=12:=rfl
structure RxK(Q:aE)(x:Rx):Prop where
 rd:KIn Q x.ea (flat cw x.evs)
 labs:∀e∈x.evs,io Q e
 val:∀e∈x.evs,aF e.value
 ll:∀e∈x.evs,e.labs.length<=maxLen
structure XsK(Q:aE)(a:KQ)(xs:List Rx):Prop where
 rd:KIn Q a (flat encX xs)
 rx:∀x∈xs,RxK Q x
 ll:xs.length<=maxLen
def grL(l:bS):Bool:=decide (300<(l.name.size:Int))||decide (300<(l.value.size:Int))
def grS(name:Fa)(labs:List bS):Bool:=decide (100<(labs.length:Int))||decide (300<(name.size:Int))||labs.any grL
def grE(evs:List Ev):Bool:=decide (100<(evs.length:Int))||evs.any λe=>grS e.name e.labs
def grC(c:bD)(n:Nat):Bool:=decide (80<(n:Int))||(decide (200<c.cells)&&decide (c.cells<=1024))
def grR(c:bD)(xs:List Rx):Bool:=grC c xs.length||xs.any λx=>grE x.evs
theorem BC{α:Type}{p:α->Bool}{l:List α}(h:∀q (a:q<l.length),p l[q]=false):l.any p=false:=by
 rw[List.any_eq_false];intro x b;obtain⟨q,a,rfl⟩:=Wu b;rw[h q a];simp
theorem BE{α:Type}{p:α->Bool}{l:List α}{q:Nat}(a:q<l.length)(h:p l[q]=true):l.any p=true:=List.any_eq_true.2 ⟨_,VF a,h⟩
def dH(s:aI)(rs:List Rp):aI:=rs.foldl (λs r=>(bO s r).1) s
theorem UT(s:aI)(rs:List Rp)(r:Rp):dH s (rs++[r])=(bO (dH s rs) r).1:=by unfold dH;rw[WX];rfl
section
variable {F L:List aE}{H H0:aD}{K KP:KE}{Q Q':aE}{sb:Nat}{s:aI}
theorem Mp{name:Fa}{labs:List bS}{a:KQ}{c:Nat}(h:aA H F)(y:∀H,aA H F->aP H a (flat dg labs))(B:labs.length<=maxLen)(k:∀m,aA m F->K (.bool (grS name labs)) m) :
  CF 186 #[.agg #[.string name,.slice a labs.length c]] H K:=by
 refine cN 186 0x1d21562139925b4c [[(3,sI)]] ?_;unfold grS at k;refine h.al λb _ h=>⟨_,_,_,h.r 0,_,λ_=>h.r 0,λe=>?_,λe=>?_⟩
 .rw [e,Bool.true_or]at k;exact k _ h.tl
 rw[e,WY]at k;rw[VK,V8]at e;refine⟨λi m=>∃j:Nat,i=j/\j<=labs.length/\(∀q (s:q<labs.length),q<j->grL labs[q]=false)/\aA m (cellsA b [.string name,.slice a labs.length c] 79::F),λi _=>labs.length-i.toNat,⟨0,rfl,by omega,λq _ h=>by omega,h⟩,?_⟩
 rintro i m ⟨j,rfl,A,s,h⟩;refine⟨_,_,_,h.r 0,λe=>?_,λe=>?_⟩
 .have d:j<labs.length:=by have:=V4 e;omega
  have n:=y m h.tl;have e1:=n.el0 iW d (v:=.string labs[j].name) rfl;have e2:=n.el iW d 1 (v:=.string labs[j].value) rfl;refine⟨_,_,_,h.r 0,by omega,_,_,n.some iW (by omega) d,_,e1,_,_,_,λ_=>h.r 0,λ_=>by omega,_,_,λ_=>n.some iW (by omega) d,_,λ_=>e2,λt=>?_,λt=>?_⟩
  .rw [BE d t]at k;exact k _ h.tl
  .conv=>whnf
   rw[aK (by omega) (by unfold maxLen at *;omega)];refine⟨⟨j+1,by omega,d,λq f x=>?_,h⟩,by dsimp only;omega⟩
   rcases VV q j with u|u
   .exact s q f u
   .obtain rfl:q=j:=by omega
    exact t
 .have w:labs.length<=j:=by have:=V5 e;omega
  rw[BC λq f=>s q f (by omega)]at k
  exact k _ h.tl
theorem UU{evs:List Ev}{a:KQ}{c:Nat}(h:aA H F)(E:∀H,aA H F->aP H a (flat cw evs))(hb:∀e∈evs,(∀H,aA H F->aP H e.la (flat dg e.labs))/\e.labs.length<=maxLen)(k:∀s,aA s F->K (.bool (grE evs)) s) :
  CF 85 #[.agg #[aC 0,aC 0,aC 0,aC 0,aC 0,aC 0,aC 0,aC 0,aC 0,aC 0,.slice a evs.length c,.string ⟨#[]⟩,.slice none 0 0,.slice none 0 0]] H K:=by
 refine cN 85 0x12283c921562139925b4c [[(3,sI)],[(18,sB)]] ?_;unfold grE at k;refine h.al λb _ h=>?_
 intro G y;refine⟨_,_,_,h.r 0,_,_,_,λ_=>h.r 0,_,_,_,_,λ_=>h.q 0,λm=>?_,λm=>?_⟩
 .have f:decide (100<(evs.length:Int))=false:=(VK.1 m).1;rw[f,WY]at k;refine Mp (labs:=[]) h (λH _=>iu H _) (by simp) λD h=>⟨_,rfl,y _ _ ?_⟩
  refine⟨λx=>V2 x (by decide),λ_=>?_⟩
  rw[V8]at f;refine⟨λi s=>∃j:Nat,i=j/\j<=evs.length/\(∀q (t:q<evs.length),q<j->grS evs[q].name evs[q].labs=false)/\aA s (cellsA b [aC 0,aC 0,aC 0,aC 0,aC 0,aC 0,aC 0,aC 0,aC 0,aC 0,.slice a evs.length c,.string ⟨#[]⟩,.slice none 0 0,.slice none 0 0] 81::F),λi _=>evs.length-i.toNat,⟨0,rfl,by omega,λq _ h=>by omega,h⟩,?_⟩
  rintro i s ⟨j,rfl,I,t,h⟩;refine⟨_,_,_,h.r 0,λm=>?_,λm=>?_⟩
  .have d:j<evs.length:=by have:=V4 m;omega
   have u:=E s h.tl;have e1:=u.el fI d 2 (v:=.string evs[j].name) rfl;have e2:=u.el fI d 3 (v:=.slice evs[j].la evs[j].labs.length evs[j].lc) rfl;obtain⟨g1,g2⟩:=hb _ (VF d);refine⟨_,_,_,h.r 0,by omega,_,_,u.some fI (by omega) d,_,_,_,_,⟨e1,e2⟩,?_⟩;refine Mp (name:=evs[j].name) (labs:=evs[j].labs) h (λH h=>g1 H h.tl) g2 λD h=>⟨_,rfl,λw=>?_,λw=>?_⟩
   .rw [BE (p:=λe=>grS e.name e.labs) d w]at k
    exact k _ h.tl
   .conv=>whnf
    rw[aK];refine⟨⟨j+1,by omega,d,λq n C=>?_,h⟩,by dsimp only;omega⟩
    rcases VV q j with A|A
    .exact t q n A
    .obtain rfl:q=j:=by omega
     exact w
  .have B:evs.length<=j:=by have:=V5 m;omega
   rw[BC (p:=λe=>grS e.name e.labs) λq n=>t q n (by omega)]at k
   exact k _ h.tl
 .have f:decide (100<(evs.length:Int))=true:=by
   rw[VK]at m
   cases e:decide (100<(evs.length:Int)) with
   | true=>rfl
   | false=>exact V2 ⟨e,by simp⟩ m
  rw[f,Bool.true_or]at k;refine y _ _ ?_;exact⟨λ_=>k _ h.tl,λx=>V2 x (by decide)⟩
theorem UV{cf:bD}{a:KQ}{c:Nat}{xs:List Rx}(h:aA H (Q::F))(w:XsK Q a xs)(k:∀s,aA s (Q::F)->K (.bool (grR cf xs)) s) :
  CF 36 #[.agg ⟨oz cf⟩,.slice a xs.length c] H K:=by
 refine cN 36 0x1d21562139925b4c [[(5,sI)]] ?_;unfold grR grC at k;refine h.al λb _ h=>⟨_,λ_=>h.r 0,_,λ_=>h.r 0,λn=>?_,λn=>?_⟩
 .rw [n,Bool.true_or]at k;exact k _ h.tl
 rw[n,WY]at k;refine⟨λi s=>∃j:Nat,i=j/\j<=xs.length/\(∀q (t:q<xs.length),q<j->grE xs[q].evs=false)/\aA s (cellsA b (oz cf) 23::Q::F),λi _=>xs.length-i.toNat,⟨0,rfl,by omega,λq _ h=>by omega,h⟩,?_⟩
 rintro i s ⟨j,rfl,G,t,h⟩;refine⟨λn=>?_,λn=>?_⟩
 .have d:j<xs.length:=by have:=V4 n;omega
  have A:=w.rd.at h 1 rfl;have e1:=A.el Mo d 11 (v:=.slice xs[j].ea xs[j].evs.length xs[j].ec) rfl;refine⟨by omega,_,_,A.some Mo (by omega) d,_,_,_,e1,?_⟩;have f:=w.rx _ (VF d);refine UU (evs:=xs[j].evs) h (λH h=>f.rd.at h 1 rfl) (λe B=>⟨λH h=>(f.labs e B).at h 1 rfl,f.ll e B⟩) λE h=>⟨_,rfl,λu=>?_,λu=>?_⟩
  .rw [BE (p:=λx=>grE x.evs) d u]at k
   exact k _ h.tl
  .conv=>whnf
   rw[aK (by omega) (by have:=w.ll;unfold maxLen at *;omega)];refine⟨⟨j+1,by omega,d,λq m D=>?_,h⟩,by dsimp only;omega⟩
   rcases VV q j with y|y
   .exact t q m y
   .obtain rfl:q=j:=by omega
    exact u
 .have C:xs.length<=j:=by have:=V5 n;omega
  rw[BC (p:=λx=>grE x.evs) λq m=>t q m (by omega)]at k
  exact k _ h.tl
end
section
variable {H:Type}{enc:TypeId×Value->H}{W:World}
theorem okWide_agg{P:Program}{w:World}{r:Reach}{a:Nat}{t:TypeId}{v:Value}{fs:Array Field}(b:P.underlying t=some (.struct fs))(h:Value.okWide P w r a t v):∃cs,v=.agg cs:=by
 simp only[Value.okWide,b]at h;obtain⟨cs,h,_⟩:=h;exact⟨cs,h⟩
theorem UW{cs:Os}(h:kR enc Tryz.prog W 23 cs):∃cf:bD,cs=oz cf:=by
 obtain⟨c,b⟩:=yN Tryz.underlying23 h;have c2:Tryz.prog.cellsOf 2=1:=by kernel_rfl
 have c3:Tryz.prog.cellsOf 3=1:=by kernel_rfl
 have a:Tryz.prog.cellsOf 23=9:=by kernel_rfl
 rw[a]at c;simp only[VJ,W8,or_false,forall_eq_or_imp,forall_eq,c2,c3]at b;obtain⟨f1,f2,f3,f4,f5,f6,f7,f8,f9⟩:=b
 match cs,c with
 | [x1,x2,x3,x4,x5,x6,x7,x8,x9],_=>
  simp only[List.drop_zero,WL,Yc,Y4]at f1 f2 f3 f4 f5 f6 f7 f8 f9;obtain⟨n1,e1,_,_⟩:=iw Tryz.underlying2 f1;obtain⟨n2,e2,_,_⟩:=iw Tryz.underlying3 f2;obtain⟨n3,e3,_,_⟩:=iw Tryz.underlying2 f3;obtain⟨n4,e4,_,_⟩:=iw Tryz.underlying2 f4;obtain⟨n5,e5,_,_⟩:=iw Tryz.underlying2 f5;obtain⟨n6,e6,_,_⟩:=iw Tryz.underlying3 f6;obtain⟨n7,e7,_,_⟩:=iw Tryz.underlying3 f7;obtain⟨n8,e8,_,_⟩:=iw Tryz.underlying3 f8;obtain⟨n9,e9,_,_⟩:=iw Tryz.underlying3 f9;simp only[List.cons.injEq,and_true]at e1 e2 e3 e4 e5 e6 e7 e8 e9;subst e1 e2 e3 e4 e5 e6 e7 e8 e9;exact⟨⟨n1,n2,n3,n4,n5,n6,n7,n8,n9⟩,rfl⟩
theorem reads_bs{cs:Os}(h:kR enc Tryz.prog W 43 cs):∃a c bs,cs=[.slice a (List.length bs) c]/\bs.length<=maxLen/\aP W.heap a (bs.map U8)/\aH bs:=by
 obtain⟨a,c,xs,i,k,d,j⟩:=EB (ec:=λx:Int=>[U8 x]) (Q:=λx=>0<=x/\x<256) Tryz.underlying43 (by kernel_rfl) (by decide) h (λs m _=>by
  obtain⟨n,e,b,f⟩:=iw Tryz.underlying5 m;have b:0<=n:=b;have f:n<=255:=f;exact⟨n,e,b,by omega⟩) (λ_=>rfl)
 have e:∀l:List Int,flat (λx=>[U8 x]) l=l.map U8:=λl=>by
  induction l with
  | nil=>rfl
  | cons x r ih=>rw[lB,ih];rfl
 rw[e]at d;exact⟨a,c,xs,i,k,d,j⟩
end
theorem BF{f:Nat->Int}{is:List Nat}(h:∀i∈is,aF (f i))(r:List Int):∀j,j<=is.length->jc j ⟨0,(is.flatMap λi=>aN [f i])++r⟩=.ok ((is.take j).map f,⟨0,((is.drop j).flatMap λi=>aN [f i])++r⟩)
 | 0,_=>rfl
 | j+1,hj=>by
  have a:j<is.length:=by omega
  unfold jc;rw[BF h r j (by omega)];dsimp only;rw[Wv a,Wb,VI,kK (h _ (VF a))];dsimp only;rw[WF,List.getElem?_eq_getElem a,VT];rfl
theorem Mq{l:List Pv}(h:∀e∈l,gT e=true/\aF e.value)(r:List Int):∀j,j<=l.length->kZ j ⟨0,l.flatMap evB++r⟩=.ok (l.take j,⟨0,(l.drop j).flatMap evB++r⟩)
 | 0,_=>rfl
 | j+1,hj=>by
  have a:j<l.length:=by omega
  have hm:=h _ (VF a);unfold kZ;rw[Mq h r j (by omega)];dsimp only;rw[Wv a,Wb,VI,LH hm.1 hm.2];dsimp only;rw[WF,List.getElem?_eq_getElem a];rfl
theorem atV_map{k:Int}{f:Nat->Int}{i:Nat}:atV k ((cu k).map f) i=if i∈cu k then f i else 0:=by
 unfold atV
 split
 .rename_i h;have a:=List.idxOf_lt_length_iff.2 h;rw[Yl,List.getElem?_map,List.getElem?_eq_getElem a,List.getElem_idxOf a];rfl
 .rfl
theorem nums_wf{r:Rp}(a:RLim r)(i:Nat):aF (r.nums i):=by
 have e:=a.ag;have d:=a.ep;have j:=a.bt;have h:=a.nx;have c:=a.st;have f:=a.nw;have b:=a.sm.wf;unfold bQ.wf at b;unfold isT at *;unfold Rp.nums
 split <;> first|exact b.1|exact b.2.1|exact b.2.2.1|exact b.2.2.2|(unfold aF;omega)
theorem rec_back{r:Rp}(a:r.right=true)(t:∀e∈r.evs,aF e.value):recR r.bytes=.ok r:=by
 have j:=iF a;have k:=UE a;have w:=j.kind;have d:(r.kind=4->r.evs.length<=64/\∀e∈r.evs,gT e=true/\aF e.value)/\(¬r.kind=4->r.evs=[]):=by
  refine⟨λb=>?_,λb=>?_⟩
  .have hb:=j.evs b;unfold gU at hb;simp only[V7,V6,Wq]at hb;exact⟨hb.2.1.1.2,λe n=>⟨hb.2.2 e n,t e n⟩⟩
  .unfold Rp.right at a;rw[V0 b]at a;simp only[V7,V6]at a;exact WH.1 a.1.2
 have e:r.bytes=aN [r.kind]++(((cu r.kind).flatMap λi=>aN [r.nums i])++((if r.kind=4 then aN [((r.evs.length:Nat):Int)] else [])++(r.evs.flatMap evB++[]))):=by
  unfold Rp.bytes;rw[V1 a];simp only[VI,Wc]
 have c:ld r.kind ((cu r.kind).map r.nums) r.evs=r:=by
  unfold Rp.zeros at k;simp only[V7,V6]at k;have key:∀i x,r.nums i=x->zrK r.kind i x=0->atV r.kind ((cu r.kind).map r.nums) i=x:=by
   intro i x s m;rw[atV_map];unfold zrK at m
   split
   .exact s
   .rename_i h;rw[V0 h]at m;exact m.symm
  unfold ld;obtain⟨⟨⟨⟨⟨⟨z1,z2⟩,z3⟩,z4⟩,z5⟩,z6⟩,⟨⟨z7,z8⟩,z9⟩,f⟩:=k;rw[key 1 r.ag rfl z1,key 2 r.ep rfl z2,key 3 r.bt rfl z3,key 4 r.nx rfl z4,key 5 r.st rfl z5,key 6 r.nw rfl z6,key 7 r.sm.asked rfl z7,key 8 r.sm.got rfl z8,key 9 r.sm.sent rfl z9,key 10 r.sm.came rfl f]
 unfold recR;rw[e,uE (by omega) (by omega)];dsimp only;rw[nO,BF (λi _=>nums_wf j i) _ _ (VA _),Wf,W1]
 dsimp only;have fin:evsR r.kind ⟨0,([]:List Nat).flatMap (λi=>aN [r.nums i])++((if r.kind=4 then aN [((r.evs.length:Nat):Int)] else [])++(r.evs.flatMap evB++[]))⟩=.ok (r.evs,⟨0,[]⟩):=by
  unfold evsR
  split
  .rename_i b;obtain⟨v,u⟩:=d.1 b;have ec:dM 64 ⟨0,([]:List Nat).flatMap (λi=>aN [r.nums i])++(aN [((r.evs.length:Nat):Int)]++(r.evs.flatMap evB++[]))⟩=.ok (((r.evs.length:Nat):Int),⟨0,r.evs.flatMap evB++[]⟩):=uG (by omega) (by omega) _
   rw[ec];dsimp only;rw[VD,Mq u _ _ (VA _),Wf,W1];rfl
  .rename_i b;rw[d.2 b];rfl
 rw[fin];dsimp only;rw[show (dF ⟨0,[]⟩).e=0 from rfl,V0 (by simp),c,a,V1 rfl]
namespace Al
def c0:bD:=⟨10,0,1000,100,100,2,4,40,8⟩
def r1:Rp:=⟨2,3,0,1,0,0,0,bQ.z,[]⟩
def r2:Rp:=⟨3,3,1,0,0,0,0,⟨0,0,0,2⟩,[]⟩
def e0:Pv:=⟨5,7,⟨#[109]⟩,[]⟩
def r3:Rp:=⟨4,3,1,0,0,0,9,bQ.z,[e0]⟩
def r4:Rp:=⟨6,0,0,0,0,0,200,bQ.z,[]⟩
def r5:Rp:=⟨6,0,0,0,0,0,199,bQ.z,[]⟩
def r6:Rp:=⟨7,0,0,0,1,0,0,bQ.z,[]⟩
def r7:Rp:=⟨1,0,0,0,0,0,0,bQ.z,[]⟩
def A1:=bO (bU c0) r1
def A2:=bO A1.1 r2
def A3:=bO A2.1 r3
def A4:=bO A3.1 r4
def A5:=bO A4.1 r5
def A6:=bO A5.1 r6
theorem ok0:jA c0:=uB (by kernel_rfl)
theorem nov{r:Rp}(h:r.evs=[]):∀e∈r.evs,aF e.value:=λe a=>by rw[h]at a;cases a
theorem R1:Rch A1.1:=uQ (Mn ok0) (nov rfl)
end Al
section
variable {F L:List aE}{H H0:aD}{K KP:KE}{Q Q':aE}{sb:Nat}{s:aI}
theorem UX(h:aA H F)(k:∀a,aA a F->K (.agg ⟨oz Al.c0⟩) a):CF 81 #[] H K:=by
 refine cM 81 28 ?_;refine h.al λb _ h=>?_
 refine h.st 0 rfl rfl ?_;intro c h;exact⟨_,_,_,_,_,_,_,_,_,h.q 0,k _ h.tl⟩
theorem xN(ok:cR s)(ser:qP s)(d:s.kept.length<=50000):(stB s).length<=1000000000:=by
 have i:=Lh (s:=s);have m:=oD (f:=dU s) (l:=aR 0 s.rows) (B:=345000) λp _=>xA ok p
 have c:=xh ok.rows;have j:=oD (f:=ceB) (l:=bA s.cm) (B:=10100) λo a=>by
  obtain⟨q,b,e⟩:=Bt a;exact xB (xu ok.sh _ a) (by rw[<-e];exact ser.cm q b)
 have h:=oD (f:=ceB) (l:=s.kept) (B:=10100) λo a=>xB (ok.kept o a) (ser.kept o a)
 have t:=uk s.cm;have k:=ok.sh.len;have n:=ok.sh.m2;have q1:=dJ [(s.cm.length:Int)];have q2:=dJ [(s.kept.length:Int)];have m1:345000*(aR 0 s.rows).length<=345000*64:=Yd _ c;have m2:10100*(bA s.cm).length<=10100*1024:=Yd _ (by omega);have m3:10100*s.kept.length<=10100*50000:=Yd _ d;unfold stB li jq;simp only[V3,V9,VW]at *;omega
end
theorem UY{s:aI}{r:Rp}(ok:cR s):(fS s r).cfg=s.cfg/\(fS s r).kept.length<=s.kept.length+s.cfg.cells.toNat:=by
 unfold fS;have a:s.cfg=s.cfg/\s.kept.length<=s.kept.length+s.cfg.cells.toNat:=⟨rfl,by omega⟩;refine oG (P:=λx=>x.1.cfg=s.cfg/\x.1.kept.length<=s.kept.length+s.cfg.cells.toNat) (λ_=>a) (λ_ _=>a) (λ_ _ _=>a) (λ_ _ _=>?_) (λ_ _ _=>?_) (λ_ _ _=>?_) (λ_ _ _=>?_) (λ_ _ _=>?_) (λ_ _ _=>?_)
 .unfold fC;split
  .exact a
  .split <;> exact a
 .dsimp only;unfold mS;split <;> exact a
 .dsimp only;unfold gE;split <;> exact a
 .dsimp only;unfold lT
  split
  .split
   .exact a
   .split <;> exact a
  .exact a
 .dsimp only;unfold kI dv;have c:(iC s.cm (fP s.cfg.gd (s.ms.tick r.nw).1.value)).length<=(bA s.cm).length:=by unfold iC;exact (List.takeWhile_sublist _).length_le
  have b:(bA s.cm).length=s.cm.length:=by unfold bA;rw[VH,uj];simp[aG]
  have d:=ok.sh.len;dsimp only;rw[V3];exact⟨rfl,by omega⟩
 .dsimp only;unfold mT
  split
  .dsimp only;rw[VP];exact⟨rfl,by omega⟩
  .exact a
theorem Mr{c:bD}{now a ep first:Int}{evs:List Pv}{x:JS}:∀n,(dh c now a ep first evs x n).2.length=n
 | 0=>rfl
 | n+1=>by
  show ((dh c now a ep first evs x n).2++[_]).length=_;rw[V3,Mr n];rfl
theorem Ms{c:bD}{st:br}(a:lS c st):st.hs.rows.length<=256:=by
 have b:=a.hs.rows.length;have d:=a.hs.most2;omega
theorem BG{s:aI}{r:Rp}(ok:cR s)(h:r.evs.length<=100):(ee s r).length<=2000:=by
 unfold ee;refine oG (P:=λx=>x.2.1.length<=2000) (λ_=>by simp) (λ_ _=>by simp) (λ_ _ _=>by simp) (λ_ _ _=>?_) (λ_ _ _=>by simp) (λ_ _ _=>?_) (λ_ _ _=>by simp) (λ_ _ _=>?_) (λ_ _ _=>by simp)
 .unfold fC
  split
  .simp
  split
  .have:(jp s r.ag).length<=256:=by
    unfold jp
    split
    .rename_i st a;have hm:some st∈s.sts:=by
      unfold dP at a
      split at a
      .cases a
      .cases hq:s.sts[r.ag.toNat]? with
       | none=>rw[hq]at a;cases a
       | some o=>
        rw[hq]at a
        cases o with
        | none=>cases a
        | some st'=>cases a;exact Wg hq
     have:=Ms (ok.sts st hm);simpa[aG] using this
    .simp
   dsimp only;rw[V3,Wo];omega
  .simp
 .dsimp only;unfold gE
  split
  .rename_i st e;have d:=Ms (ok.sts st (Wg e));have c:=J6 (s:=st.hs) (first:=r.nx) (items:=r.evs);have b:(kH s r st).2.length=(st.hs.offer r.nx r.evs).2.1.length:=by unfold kH;exact Mr _
   dsimp only;rw[V3,Wo,b];omega
  .simp
 .dsimp only;unfold kI;dsimp only;rw[nU];unfold dv;have d:(iC s.cm (fP s.cfg.gd (s.ms.tick r.nw).1.value)).length<=(bA s.cm).length:=by unfold iC;exact (List.takeWhile_sublist _).length_le
  have c:(bA s.cm).length=s.cm.length:=by unfold bA;rw[VH,uj];simp[aG]
  have b:=ok.sh.len;have f:=ok.sh.m2;omega
structure RunR(s:aI)(c:bD)(n:Nat):Prop where
 R:Rch s
 cfg:s.cfg=c
 kept:s.kept.length<=c.cells.toNat*n
theorem runR_new{c:bD}(h:jA c):RunR (bU c) c 0:=⟨Mn h,rfl,by simp[bU]⟩
theorem RunR.step{s:aI}{c:bD}{n:Nat}{r:Rp}(h:RunR s c n)(f:∀e∈r.evs,aF e.value):RunR (bO s r).1 c (n+1):=by
 have b:=UY (r:=r) h.R.ok;refine⟨uQ h.R f,b.1.trans h.cfg,?_⟩;have d:=h.kept;have a:=b.2;rw[h.cfg]at a;rw[Nat.mul_add,Wz];exact VO a (Nat.add_le_add_right d _)
theorem RunR.run{s:aI}{c:bD}{n:Nat}(h:RunR s c n):∀{rs:List Rp},(∀r∈rs,∀e∈r.evs,aF e.value)->RunR (dH s rs) c (n+rs.length):=by
 intro rs
 induction rs generalizing s n with
 | nil=>intro _;exact h
 | cons r rs ih=>
  intro a;have:=ih (h.step (r:=r) (a r (VM ..))) λx b=>a x (VL _ b)
  rw[V9,show n+(rs.length+1)=n+1+rs.length by omega];exact this
theorem UZ{c:bD}{xs:List Rx}(a:fD c=true)(b:grR c xs=false):c.cells.toNat<=200:=by
 have d:=(uB a);have e:1<=c.cells/\c.cells<=1024:=by
  unfold fD at a;simp only[V7,V6]at a;exact a.1.2
 unfold grR grC at b;simp only[VK,Wl,V8]at b;omega
theorem RunR.few{s:aI}{c:bD}{n:Nat}(h:RunR s c n)(b:c.cells.toNat<=200)(a:n<=200):s.kept.length<=40000:=by
 have:=h.kept;have d:c.cells.toNat*n<=200*200:=Nat.mul_le_mul b a;omega
theorem BH{H0 H:aD}{Q:aE}{F:List aE}(hs:aM (old H0) Q)(h:aA H (Q::F)):dB H0 H:=(KG.old H0).sub hs H F h
structure Gg where
 o:Opt
 s:aI
 p:Pb
 pend:List Ou
 recs:Int
 saved:Bool
 num:Int
 seg:Int
 rl:RL
 rows:DR
 syn:Nat
def cF(g:Gg)(r:Rp):Gg×Int:=
 if (bO g.s r).2.2≠0 then (g,(bO g.s r).2.2) else
 ({ g with s:=(bO g.s r).1,pend:=g.pend++(bO g.s r).2.1.flatMap cK,recs:=g.recs+1,rl:=du g.rows g.rl ⟨r.kind,r.bytes⟩,rows:=gA g.rows g.rl ⟨r.kind,r.bytes⟩ },0)
structure GgOk(g:Gg):Prop where
 R:Rch g.s
 kept:g.s.kept.length<=40000
 rl:g.rl.ok
 rows:g.rows.length<=549755813888
 seg:g.rl.seg<2147483647
 recs:0<=g.recs/\g.recs<=1000000000
 pend:g.pend.length<=1000000000
 prb:jD g.p
structure GA where
 x:GAd
 pb:Nat
 ys:List Oy
def gateA(Q:aE)(gb db:Nat)(g:Gg):aE:=exS λy:GA=>star [pur (y.x.pv=PA y.pb 0/\y.ys.map Oy.o=g.pend/\∀z∈y.ys,fK Q z),cellsA gb (kJ g.o y.x y.ys.length g.recs) 110,stA Q y.x.sb g.s,
 slA 91 11 y.x.pa y.ys.length y.x.pc (flat bH y.ys),bookA y.x.bb y.x.rb g.saved g.num g.seg,reelA y.x.rb db g.rl,diskX db g.rows g.syn,prbA y.pb g.p]
section
variable {F L:List aE}{H:aD}{K:KE}{Q:aE}{gb db:Nat}{g:Gg}
theorem fT:aA H (gateA Q gb db g::F)↔∃(x:GAd) (pb:Nat) (ys:List Oy),x.pv=PA pb 0/\ys.map Oy.o=g.pend/\(∀z∈ys,fK Q z)/\
  aA H (cellsA gb (kJ g.o x ys.length g.recs) 110::stA Q x.sb g.s::slA 91 11 x.pa ys.length x.pc (flat bH ys)::bookA x.bb x.rb g.saved g.num g.seg::reelA x.rb db g.rl::diskX db g.rows g.syn::prbA pb g.p::F):=by
 unfold gateA;rw[cJ]
 constructor
 .rintro⟨y,h⟩;obtain⟨a,h⟩:=vH.1 (aA.open h);exact⟨y.x,y.pb,y.ys,a.1,a.2.1,a.2.2,h⟩
 .rintro⟨x,pb,ys,h1,h2,h3,h⟩;exact⟨⟨x,pb,ys⟩,aA.shut [_,_,_,_,_,_,_,_] (h.pur ⟨h1,h2,h3⟩)⟩
theorem kN{A B:aE}(h:aA H (B::A::F)):aA H (A::B::F):=h.o [1,0] 2
theorem BI{s:aI}{r:Rp}(R:Rch s)(j:∀e∈r.evs,aF e.value):(∀e∈(bO s r).2.1,e.kind=4->WC e.out.2/\e.out.1.ser.size<=1000000)/\(bO s r).2.1.length<=1000000:=by
 constructor
 .refine oG (P:=λq=>∀e∈q.2.1,e.kind=4->WC e.out.2/\e.out.1.ser.size<=1000000) (λ_ e a=>V2 a (by simp)) (λ_ _ e a=>V2 a (by simp)) (λ_ _ _ e a=>V2 a (by simp)) (λ_ _ _ e a f=>?_) (λ_ _ _ e a=>V2 a (by simp)) (λ_ _ _ e a f=>?_) (λ_ _ _ e a=>V2 a (by simp)) (λ_ _ _ e a f=>?_) (λ_ _ _ e a=>V2 a (by simp))
  .have:=LS e a;omega
  .have:=LQ e a;omega
  .obtain⟨q,c,rfl⟩:=Wu a;have c:q<(dO s.next (dv s r.nw) (dv s r.nw).length).length:=c;have b:q<(dv s r.nw).length:=by rw[nU]at c;exact c
   have h:(dO s.next (dv s r.nw) (dv s r.nw).length)[q].out=(dv s r.nw)[q]:=by
    rw[xJ];dsimp only;rw[Yl,List.getElem?_eq_getElem b];rfl
   have hm:(dv s r.nw)[q]∈s.cm:=BB (Bd (VF b));have d:=R.cm _ hm;show WC (dO s.next (dv s r.nw) (dv s r.nw).length)[q].out.2/\(dO s.next (dv s r.nw) (dv s r.nw).length)[q].out.1.ser.size<=1000000;rw[h];have:=d.size;exact⟨d.wc,by omega⟩
 .cases hR:r.right with
  | false=>
   have:(bO s r).2.1=[]:=by unfold bO;rw[V1 hR]
   rw[this];simp
  | true=>
   have i:=Rp.right_len hR;have:(bO s r).2.1.length<=2000:=BG R.ok (by omega);omega
theorem BJ{r:Rp}{a:KQ}{c:Nat}{evs:List Ev}(ok:GgOk g)(b:oB Q F r a evs)(h:aA H (Q::gateA Q gb db g::F))
  (k:∀Q' d,aM Q Q'->aA d (Q'::gateA Q' gb db (cF g r).1::F)->K (aC (cF g r).2) d):CF 47 #[PA gb 0,.agg ⟨de r a c⟩] H K:=by
 obtain⟨x,pb,ys,e1,e2,e3,h⟩:=fT.1 (h.o [1,0] 2);have m:ys.length=g.pend.length:=by rw[<-e2,VH]
 have j:=BI (r:=r) ok.R b.vals;have e:oB Q (prbA pb g.p::F) r a evs:=⟨b.eq,λH h=>b.rd H h.tl,b.labs,b.len,b.vals⟩
 have h:=h.o [7,0,1,2,3,4,5,6] 8;refine KK ok.R.ok (by have:=ok.R.sunk;omega) (by have:=ok.kept;omega) e j.1 j.2 ok.rl ok.rows ok.seg ok.recs (by have:=ok.pend;omega) e3 h (λf Q' d hs h=>?_) λf Q' s pa pc d hs hm i h=>?_
 .unfold cF at k;rw[V1 f]at k;refine k Q' _ hs ?_;have h:=h.o [1,2,3,4,5,6,7,0] 8;exact kN (fT.2 ⟨x,pb,ys,e1,e2,λz n=>(e3 z n).sub hs,h⟩)
 .unfold cF at k;rw[V0 (by rw[f];decide)]at k;refine k Q' _ hs ?_;have h:=h.o [1,2,3,4,5,6,7,0] 8;exact kN (fT.2 ⟨{ x with pa:=pa,pc:=pc },pb,s,e1,by rw[hm,e2],i,h⟩)
def qR(next:Int):Rp:=⟨7,0,0,0,next,0,0,bQ.z,[]⟩
def fq(now:Int):Rp:=⟨6,0,0,0,0,0,now,bQ.z,[]⟩
theorem recN{r:Rp}(h:r.evs=[]):oB Q F r none []:=⟨by rw[h];rfl,λH _=>iu H none,λe a=>V2 a (by simp),by simp,λe a=>by rw[h]at a;cases a⟩
theorem Mt{next:Int}(ok:GgOk g)(h:aA H (Q::gateA Q gb db g::F))
  (k:∀Q' a,aM Q Q'->aA a (Q'::gateA Q' gb db (cF g (qR next)).1::F)->K (aC (cF g (qR next)).2) a):CF 25 #[PA gb 0,aC next] H K:=by
 refine cM 25 28 ?_;exact BJ (r:=qR next) ok (recN rfl) h λQ' a hs h=>⟨_,rfl,k Q' _ hs h⟩
theorem xO(ok:GgOk g)(h:aA H (gateA Q gb db g::F))(k:∀sb a,aA a (stA Q sb g.s::gateA Q gb db g::F)->K (PA sb 0) a):CF 12 #[PA gb 0] H K:=by
 obtain⟨x,pb,ys,e1,e2,e3,h⟩:=fT.1 h;refine cM 12 28 ⟨some ⟨x.sb,0,none⟩,h.r 0,?_⟩;have h:=h.o [1,0,2,3,4,5,6] 7;refine KJ (by have:=ok.kept;omega) ok.R.ok h λsb b h=>⟨_,rfl,k sb _ ?_⟩
 have h:=h.o [2,1,3,4,5,6,7,0] 8;exact kN (fT.2 ⟨x,pb,ys,e1,e2,e3,h⟩)
theorem Va(h:aA H (gateA Q gb db g::F)):bV Tryz.prog 26 #[PA gb 0] H (aC (g.pend.length:Nat)):=by
 obtain⟨x,pb,ys,e1,e2,e3,h⟩:=fT.1 h;unfold bV;refine cM 26 28 ⟨_,_,_,h.r 0,?_,rfl⟩;rw[<-e2,VH];rfl
def jf(f:Fq)(agent now asked:Int):Rp:=
 if f.kind=1 then ⟨2,agent,f.ep,f.bt,0,0,now,bQ.z,[]⟩ else
 if f.kind=4 then ⟨3,agent,f.ep,0,0,0,0,⟨asked,f.got,f.sent,now⟩,[]⟩ else
 if f.kind=5 then ⟨4,agent,f.ep,0,f.next,0,now,bQ.z,f.evs⟩ else ⟨5,agent,f.ep,0,f.next,f.stamp,now,bQ.z,[]⟩
def lW(g:Gg)(f:Fq)(agent now:Int):Gg×Int:=
 if ¬(f.kind=1\/f.kind=4\/f.kind=5\/f.kind=7) then (g,16) else
 if f.ag≠agent then (g,10) else
 if f.kind=4 then
  if (fE g.p agent f.ep f.bt f.ct).2.1≠0 then ({ g with p:=(fE g.p agent f.ep f.bt f.ct).2.2 },(fE g.p agent f.ep f.bt f.ct).2.1)
  else cF { g with p:=(fE g.p agent f.ep f.bt f.ct).2.2 } (jf f agent now (fE g.p agent f.ep f.bt f.ct).1)
 else cF g (jf f agent now 0)
def jg(g:Gg)(agent now:Int)(bs:List Int):Gg×Int:=match fJ bs with
 | .error e=>(g,e)
 | .ok f=>lW g f agent now
theorem BK{p:Pb}(h:jD p)(ag ep n0 n1:Int):jD (fE p ag ep n0 n1).2.2:=by
 unfold fE
 split
 .exact h
 .split
  .exact h
  .split
   .exact h
   .split
    .exact h
    .refine⟨h.count,h.most,?_,h.last,h.boot⟩;have:=h.out;simp only[V3,VU,VP];omega
theorem uR{Q':aE}(hs:aM Q Q')(h:aA H (gateA Q gb db g::F)):aA H (gateA Q' gb db g::F):=by
 obtain⟨x,pb,ys,e1,e2,e3,h⟩:=fT.1 h;have h:=oA hs (h.o [1,0,2,3,4,5,6] 7);exact fT.2 ⟨x,pb,ys,e1,e2,λz a=>(e3 z a).sub hs,h.o [1,0,2,3,4,5,6] 7⟩
theorem Mu:∀{n:Nat} {s c:RS} {l:List Pv},j8 n s=.ok (l,c)->∀e∈l,aF e.value
 | 0,s,c,l,h=>by cases h;simp
 | n+1,s,c,l,h=>by
  unfold j8 at h
  split at h
  .cases h
  .rename_i f s1 d
   split at h
   .cases h
   .rename_i v s2 b
    cases h
    intro e a
    rcases VR.1 a with a|a
    .exact Mu d e a
    .rw [VE]at a;subst a;unfold evQ okR at b
     split at b
     .cases b
     .cases b
      exact rT _
theorem Vb{bs:List Int}{f:Fq}(h:fJ bs=.ok f):ff f=true:=by
 unfold fJ at h
 split at h
 .cases h
 split at h
 .cases h
 unfold nR at h
 split at h
 .cases h
 split at h
 .cases h
 unfold endQ at h
 split at h
 .cases h
 split at h
 .cases h
 split at h
 .rename_i a
  cases h
  exact a
 .cases h
theorem Mv{bs:List Int}{f:Fq}(h:fJ bs=.ok f):∀e∈f.evs,aF e.value:=by
 unfold fJ at h
 split at h
 .cases h
 split at h
 .cases h
 unfold nR at h
 split at h
 .cases h
 split at h
 .cases h
 rename_i d s1 j x2 i s2 m;unfold endQ at h
 split at h
 .cases h
 rename_i k s3 a
 split at h
 .cases h
 split at h
 .cases h
  obtain⟨a1,a2,a3,a4,a5⟩:=xd (aV d) i { kind:=d };unfold mN at a
  split at a
  .split at a
   .cases a
   .rename_i l s4 c
    cases a
    unfold mM at c
    split at c
    .cases c
    .exact Mu c
  split at a
  .split at a
   .cases a
   .unfold okR at a
    split at a
    .cases a
    .cases a
     intro e b;dsimp only at b;rw[a2]at b
     cases b
  .cases a
   intro e b;rw[a2]at b
   cases b
 .cases h
theorem sQ{agent now:Int}{a:KQ}{c:Nat}{bs:List Int}(ok:GgOk g)(h:aA H (Q::gateA Q gb db g::F))(ha:∀H,aA H F->aP H a (bs.map U8))(hb:aH bs)(j:bs.length<=c)
  (k:∀Q' A,aM Q Q'->aA A (Q'::gateA Q' gb db (jg g agent now bs).1::F)->K (aC (jg g agent now bs).2) A) :
  CF 21 #[PA gb 0,aC agent,aC now,.slice a bs.length c] H K:=by
 refine cN 21 0x11d1215174174174134cd2171d49c [[],[],[],[]] ?_;refine Bf h (λH h=>ha H h.tl.tl) hb j ?_
 unfold jg at k
 cases hd:fJ bs with
 | error e=>
  rw[hd]at k;intro Q' H1 m hs h;refine⟨_,_,_,_,_,_,_,_,_,_,_,_,_,_,_,_,_,_,_,_,_,rfl,h.al λb _ h=>?_⟩
  refine h.st 0 rfl rfl λH2 h=>⟨λ_=>?_,λj=>V2 (by simpa using j) m⟩
  exact k Q' _ hs (kN (uR hs (kN h.tl)))
 | ok f=>
  rw[hd]at k;dsimp only at k;have D:=Mv hd;intro Q' x evs H1 hs M h9 L h;refine⟨_,_,_,_,_,_,_,_,_,_,_,_,_,_,_,_,_,_,_,_,_,rfl,h.al λb _ h=>?_⟩
  refine h.st 0 rfl rfl λH2 h=>⟨λj=>V2 j (by simp),λ_=>⟨_,h.r 0,?_⟩⟩
  refine h.al λb1 _ h=>h.st 0 rfl rfl λH3 h=>⟨_,h.r 1,?_⟩
  have h:aA H3 (cellsA b1 (de ⟨0,agent,f.ep,0,0,0,now,bQ.z,[]⟩ none 0) 61::cellsA b (cG f x) 81::Q'::slA 99 4 x.ea evs.length x.ec (flat cw evs)::gateA Q gb db g::F):=h;have h:=uR hs (h.o [4,0,1,2,3] 5);have h:=h.o [1,2,3,4,0] 5;have W:f.evs.length=evs.length:=by rw[M,VH]
  have O:evs.length<=1000000:=by
   by_cases t:f.kind=5
   .have:=JG (Vb hd) t;omega
   .have:=(L.ev t).1;rw[this]at W;simp at W;omega
  intro Jn hJ;have P:∀(g':Gg) (r:Rp) (v:KQ) (rc:Nat) (w:List Ev) A,GgOk g'->lW g f agent now=cF g' r->r.evs=w.map Ev.p->(w=[]/\v=none\/w=evs/\v=x.ea)->(∀e∈r.evs,aF e.value)->
    aA A (cellsA b1 (de r v rc) 61::cellsA b (cG f x) 81::Q'::slA 99 4 x.ea evs.length x.ec (flat cw evs)::gateA Q' gb db g'::F)->
    ∃f0 f1 f2 f3 f4 f5 f6 f7 f8 f9 h6 V Z U,bE A b1 0 [aC f0,aC f1,aC f2,aC f3,aC f4,aC f5,aC f6,aC f7,aC f8,aC f9,aC h6,.slice V Z U]/\
     CF 47 #[PA gb 0,.agg #[aC f0,aC f1,aC f2,aC f3,aC f4,aC f5,aC f6,aC f7,aC f8,aC f9,aC h6,.slice V Z U]] A λu H2=>∃S,u=aC S/\K (aC S) H2:=by
   intro g' r v rc w A h8 s m i hv h;refine⟨_,_,_,_,_,_,_,_,_,_,_,_,_,_,h.q 0,?_⟩;have h:=h.o [2,4,0,1,3] 5;have hr:oB Q' (cellsA b1 (de r v rc) 61::cellsA b (cG f x) 81::slA 99 4 x.ea evs.length x.ec (flat cw evs)::F) r v w:=by
    rcases i with ⟨rfl,rfl⟩|⟨rfl,rfl⟩
    .exact⟨m,λH h=>iu H none,λe m=>V2 m (by simp),by simp,hv⟩
    .exact⟨m,λH h=>h.sl_rd 2 rfl,h9,O,hv⟩
   refine BJ h8 hr h λQ2 H2 j1 h=>⟨_,rfl,?_⟩
   rw[s]at k;exact k Q2 _ (hs.trans j1) (h.o [0,1] 5)
  have G:f.kind=1\/f.kind=4\/f.kind=5\/f.kind=7->f.ag=agent->f.kind≠4->lW g f agent now=cF g (jf f agent now 0):=by
   intro B h2 h3;unfold lW;rw[V0 (λC=>C B),V0 (λC=>C h2),V0 h3]
  have rest:∀(r:Rp) (v:KQ) (rc:Nat) (w:List Ev) A,(f.kind=1\/f.kind=4\/f.kind=5\/f.kind=7)->(f.kind≠4->r=jf f agent now 0)->(f.kind=4->r=⟨3,agent,f.ep,0,0,0,0,bQ.z,[]⟩)->r.evs=w.map Ev.p->(w=[]/\v=none\/w=evs/\v=x.ea)->(∀e∈r.evs,aF e.value)->
    aA A (cellsA b1 (de r v rc) 61::cellsA b (cG f x) 81::Q'::slA 99 4 x.ea evs.length x.ec (flat cw evs)::gateA Q' gb db g::F)->Jn A:=by
   intro r v rc w A hk j2 n m i hv h;refine hJ _ ⟨_,h.r 1,λj=>?_,λj=>?_⟩
   .have s:lW g f agent now=(g,10):=by unfold lW;rw[V0 (λC=>C hk),V1 (by simpa using j)]
    rw[s]at k;exact k Q' _ hs (h.o [2,4] 5)
   have Y:f.ag=agent:=by simpa using j
   refine⟨_,h.r 1,?_⟩;intro l0 T;refine⟨λd=>?_,λd=>T _ ?_⟩
   .have d:=V4 d;have hr:=n d;subst hr;have N:w=[]:=by simpa using m.symm
    have j3:v=none:=by
     rcases i with ⟨_,e⟩|⟨e1,e2⟩
     .exact e
     .rw [e2];exact (L.ev (by omega)).2.1
    subst N j3;obtain⟨y,pb,ys,e1,e2,e3,h⟩:=fT.1 (h.o [4,0,1,2,3] 5);refine⟨some ⟨pb,0,none⟩,(h.r 0).trans (by show some y.pv=_;rw[e1]),_,h.r 8,_,h.r 8,_,h.r 8,?_⟩;have h:=h.o [6,0,1,2,3,4,5,7,8,9,10] 11;have s:lW g f agent now=if (fE g.p agent f.ep f.bt f.ct).2.1≠0 then ({ g with p:=(fE g.p agent f.ep f.bt f.ct).2.2 },(fE g.p agent f.ep f.bt f.ct).2.1) else cF { g with p:=(fE g.p agent f.ep f.bt f.ct).2.2 } (jf f agent now (fE g.p agent f.ep f.bt f.ct).1):=by
     unfold lW;rw[V0 (λC=>C hk),V0 (λC=>C Y),V1 d]
    refine TZ ok.prb h λH4 h=>⟨_,_,rfl,λj=>?_,λj=>?_⟩
    .have j:(fE g.p agent f.ep f.bt f.ct).2.1≠0:=by simpa using j
     rw[V1 j]at s;rw[s]at k;refine k Q' _ hs (kN ((fT (g:={ g with p:=(fE g.p agent f.ep f.bt f.ct).2.2 })).2 ⟨y,pb,ys,e1,e2,e3,h.o [1,2,3,4,5,6,0,9] 11⟩))
    have j:(fE g.p agent f.ep f.bt f.ct).2.1=0:=by simpa using j
    rw[V0 (by rw[j];decide)]at s;refine⟨_,h.r 8,_,h.r 8,h.st 7 rfl rfl λH5 h=>⟨h.r 8,h.r 8,?_⟩⟩
    refine h.st 7 rfl rfl λH6 h=>⟨h.r 8,h.st 7 rfl rfl λH7 h=>?_⟩
    refine h.st 7 rfl rfl λH8 h=>T _ ?_
    have hg:=(fT (g:={ g with p:=(fE g.p agent f.ep f.bt f.ct).2.2 })).2 ⟨y,pb,ys,e1,e2,e3,h.o [1,2,3,4,5,6,0,7,8,9,10] 11⟩;have eR:jf f agent now (fE g.p agent f.ep f.bt f.ct).1=⟨3,agent,f.ep,0,0,0,0,⟨(fE g.p agent f.ep f.bt f.ct).1,f.got,f.sent,now⟩,[]⟩:=by
     unfold jf;rw[nO,V1 d]
    rw[eR]at s;exact P { g with p:=(fE g.p agent f.ep f.bt f.ct).2.2 } _ none rc [] _ ⟨ok.R,ok.kept,ok.rl,ok.rows,ok.seg,ok.recs,ok.pend,BK ok.prb _ _ _ _⟩ s rfl (.inl ⟨rfl,rfl⟩) (λe m=>V2 m (by simp)) (hg.o [1,2,3,4,0] 5)
   .have d:=V5 d;have s:=G hk Y d;rw[<-j2 d]at s;exact P g r v rc w _ ok s m i hv h
  refine⟨λB=>?_,λB=>?_⟩
  .have B:=V4 B;refine⟨_,h.r 1,h.st 0 rfl rfl λH4 h=>⟨h.r 1,?_⟩⟩
   refine h.st 0 rfl rfl λH5 h=>rest ⟨2,agent,f.ep,f.bt,0,0,now,bQ.z,[]⟩ none 0 [] _ (.inl B) (λ_=>by unfold jf;rw[V1 B]) (λn=>by omega) rfl (.inl ⟨rfl,rfl⟩) (λe m=>V2 m (by simp)) h
  have B:=V5 B;intro l5 E;refine⟨λn=>?_,λn=>?_⟩
  .have n:=V4 n;refine h.st 0 rfl rfl λH4 h=>h.st 0 rfl rfl λH5 h=>E _ ?_
   exact rest ⟨3,agent,f.ep,0,0,0,0,bQ.z,[]⟩ none 0 [] _ (.inr (.inl n)) (λC=>V2 n C) (λ_=>rfl) rfl (.inl ⟨rfl,rfl⟩) (λe m=>V2 m (by simp)) h
  have n:=V5 n;intro l6 h0;refine⟨λt=>?_,λt=>⟨λJ=>?_,λJ=>?_⟩⟩
  .have t:=V4 t;refine⟨_,h.r 1,_,_,_,h.r 1,h.st 0 rfl rfl λH4 h=>⟨h.r 1,h.r 1,?_⟩⟩
   refine h.st 0 rfl rfl λH5 h=>⟨h.r 1,h.st 0 rfl rfl λH6 h=>h0 _ (E _ ?_)⟩
   exact rest ⟨4,agent,f.ep,0,f.next,0,now,bQ.z,f.evs⟩ x.ea x.ec evs _ (.inr (.inr (.inl t))) (λ_=>by unfold jf;rw[V0 B,V0 n,V1 t]) (λI=>V2 I n) M (.inr ⟨rfl,rfl⟩) D h
  .have J:=V4 J;have t:=V5 t;refine⟨_,h.r 1,_,h.r 1,h.st 0 rfl rfl λH4 h=>⟨h.r 1,h.r 1,?_⟩⟩
   refine h.st 0 rfl rfl λH5 h=>⟨h.r 1,h.st 0 rfl rfl λH6 h=>h0 _ (E _ ?_)⟩
   exact rest ⟨5,agent,f.ep,0,f.next,f.stamp,now,bQ.z,[]⟩ none 0 [] _ (.inr (.inr (.inr J))) (λ_=>by unfold jf;rw[V0 B,V0 n,V0 t]) (λI=>V2 I n) rfl (.inl ⟨rfl,rfl⟩) (λe m=>V2 m (by simp)) h
  .have t:=V5 t;have J:=V5 J;have s:lW g f agent now=(g,16):=by unfold lW;rw[pO]
   rw[s]at k;exact k Q' _ hs (h.o [2,4] 5)
end
def gm(g:Gg):DR:=if g.saved=true/\¬((g.rl.next:Int)<=g.num) then iB g.seg g.rows else g.rows
def iH(g:Gg):Gg:=
 if g.o.save<=g.recs/\(stB g.s).length<=262144 then
  { g with pend:=[],recs:=0,saved:=true,num:=g.rl.next,seg:=g.rl.seg+1,rl:={ g.rl with syn:=g.rl.next,seg:=g.rl.seg+1,next:=g.rl.next+1 },rows:=gm g++(bN ⟨0,stB g.s⟩).map λb=>(g.rl.seg+1,b),syn:=(gm g).length }
 else { g with pend:=[],rl:={ g.rl with syn:=g.rl.next },rows:=gm g,syn:=(gm g).length }
theorem Vc(g:Gg):∀r∈gm g,r∈g.rows:=by
 unfold gm
 split
 .intro r a;exact (WA.1 a).1
 .intro r a;exact a
theorem Vd(g:Gg):(gm g).length<=g.rows.length:=by
 unfold gm
 split
 .exact Y0 _ _
 .exact VA _
section
variable {F L:List aE}{H:aD}{K:KE}{Q:aE}{gb db:Nat}{g:Gg}
theorem Ve{bb b n c s:Nat}{a:KQ}(h:aA H F)(i:Nat)(f:aW i F=cellsA b [.slice a n c] 43)(t:262144<n)(j:n<=1099511627776)(k:K (.tuple #[aC (-1),aC 17]) H) :
  CF 42 #[PA bb 0,.slice (some ⟨b,0,none⟩) 1 s] H K:=by
 refine cN 42 0x112156123992511b421b1d1c [[(6,sI),(15,sI)]] ?_;refine⟨λsize i e=>size=0/\i=0/\e=H,λ_ _ _=>0,⟨rfl,rfl,rfl⟩,?_⟩
 rintro size i e ⟨rfl,rfl,rfl⟩;refine⟨λ_=>?_,λm=>V2 m (by decide)⟩
 refine⟨by decide,_,_,rfl,_,_,_,h.rd i f _,λd=>?_,λd=>?_⟩
 .exact k
 .have d:=V5 d;rw[aK]at d;omega
theorem BTrimAny{bb rb:Nat}{saved:Bool}{num seg:Int}{s:RL}{rows:DR}(i:rows.length<=1099511627776)(h:aA H (bookA bb rb saved num seg::reelA rb db s::diskX db rows rows.length::F))
  (k:∀e b R,R=(if saved=true/\¬((s.syn:Int)<=num) then iB seg rows else rows)->aA b (bookA bb rb saved num seg::reelA rb db s::diskX db R R.length::F)->K (aC e) b):CF 41 #[PA bb 0] H K:=by
 refine QR i (VA _) h (λa=>k 19 H rows ?_ h) (λa c=>k 21 H rows ?_ h) (λa c d=>V2 d (by omega)) λa c d b h=>k 0 b (iB seg rows) ?_ h
 .rw [V0 (by rw[a];simp)]
 .rw [V0 (λf=>f.2 c)]
 .rw [V1 ⟨a,c⟩]
theorem xP(ok:GgOk g)(L:∀r∈g.rows,r.1<=g.rl.seg)(h:aA H (Q::gateA Q gb db g::F))
  (k:∀ys a c D,ys.map Oy.o=g.pend->(∀y∈ys,fK Q y)->aA D (Q::slA 91 11 a ys.length c (flat bH ys)::gateA Q gb db (iH g)::F)->K (.slice a ys.length c) D) :
  CF 13 #[PA gb 0] H K:=by
 obtain⟨x,pb,ys,e1,e2,e3,h⟩:=fT.1 (kN h);refine cN 13 76861503970953628 [[],[]] ⟨some ⟨x.bb,0,none⟩,h.r 0,some ⟨x.rb,0,none⟩,h.r 3,?_⟩;have h:=h.o [4,5,0,1,2,3,6,7] 8;refine GZ h λT h=>⟨rfl,some ⟨x.bb,0,none⟩,h.r 2,?_⟩
 have h:=h.o [5,0,1,2,3,4,6,7] 8;have I:=Vd g;refine BTrimAny (by have:=ok.rows;omega) h λe P R B h=>⟨_,rfl,?_⟩
 have B:R=gm g:=B;subst B;refine⟨_,_,_,h.r 3,?_⟩;refine h.st 3 rfl rfl λJ h=>⟨_,h.r 3,_,h.r 3,?_⟩
 have h:aA J (bookA x.bb x.rb g.saved g.num g.seg::reelA x.rb db { g.rl with syn:=g.rl.next }::diskX db (gm g) (gm g).length::cellsA gb (kJ g.o { x with pa:=none,pc:=0 } 0 g.recs) 110::stA Q x.sb g.s::slA 91 11 x.pa ys.length x.pc (flat bH ys)::prbA pb g.p::Q::F):=h;have d:=λ{H:aD} {F:List aE} (h:aA H F)=>h.sl_nil 91 11
 intro N v;refine⟨λm=>?_,λm=>v _ ?_⟩
 .have m:=V4 m;refine⟨some ⟨x.bb,0,none⟩,h.r 3,some ⟨x.sb,0,none⟩,h.r 3,?_⟩;have h:=h.o [7,4,0,1,2,3,5,6] 8;refine Bu ok.R.ok ok.R.ser (by have:=ok.kept;omega) h λba bc S h=>⟨_,_,_,rfl,h.r 6,?_⟩
  refine h.al λb1 _ h=>⟨h.r 7,?_⟩
  by_cases hl:(stB g.s).length<=262144
  .have h:=h.o [4,5,6,0,1,2,3,7,8,9] 10;have f:([(⟨ba,bc,stB g.s⟩:Fy)]:List Fy).flatMap Fy.bs=stB g.s:=by simp
   have A:({ g.rl with syn:=g.rl.next }:RL).ok:=⟨ok.rl.seg,ok.rl.most,ok.rl.next,ok.rl.next⟩;refine QP (parts:=[⟨ba,bc,stB g.s⟩]) A ok.seg (λr M=>L r (Vc g r M)) (by have:=ok.rows;omega) h (λH h=>h.ce_rd 0 rfl) (λH h y E=>by rw[VE]at E;subst E;exact h.sl_rd 1 rfl) (by rw[f];exact xF _) (by simp) (by rw[f];exact hl) λO h=>⟨_,_,rfl,?_⟩
   rw[f]at h;intro w j;refine⟨λ_=>?_,λC=>V2 C (by simp)⟩
   refine h.st 7 rfl rfl λU h=>j _ (v _ ?_)
   have i:iH g={ g with pend:=[],recs:=0,saved:=true,num:=g.rl.next,seg:=g.rl.seg+1,rl:={ g.rl with syn:=g.rl.next,seg:=g.rl.seg+1,next:=g.rl.next+1 },rows:=gm g++(bN ⟨0,stB g.s⟩).map λb=>(g.rl.seg+1,b),syn:=(gm g).length }:=by
    unfold iH;rw[V1 ⟨m,hl⟩]
   have h:=(d (h.o [7,6,0,1,2,9,5,8] 10)).o [1,2,0,3,4,5,6,7,8] 9;have n:=(fT (Q:=Q) (g:=iH g)).2 ⟨{ x with pa:=none,pc:=0 },pb,[],e1,by rw[i];rfl,λz t=>V2 t (by simp),by rw[i];exact h⟩
   exact k ys _ _ _ e2 e3 (n.o [1,2,0] 3)
  .have G:=xN ok.R.ok ok.R.ser (by have:=ok.kept;omega);refine Ve h 0 rfl (by omega) (by omega) ⟨_,_,rfl,?_⟩;intro w j;refine⟨λC=>V2 C (by decide),λ_=>j _ (v _ ?_)⟩
   have i:iH g={ g with pend:=[],rl:={ g.rl with syn:=g.rl.next },rows:=gm g,syn:=(gm g).length }:=by
    unfold iH;rw[V0 (λu=>hl u.2)]
   have h:=(d (h.o [7,3,4,5,6,9,2,8] 10)).o [1,2,0,3,4,5,6,7,8] 9;have n:=(fT (Q:=Q) (g:=iH g)).2 ⟨{ x with pa:=none,pc:=0 },pb,[],e1,by rw[i];rfl,λz t=>V2 t (by simp),by rw[i];exact h⟩
   exact k ys _ _ _ e2 e3 (n.o [1,2,0] 3)
 .have m:=V5 m;have i:iH g={ g with pend:=[],rl:={ g.rl with syn:=g.rl.next },rows:=gm g,syn:=(gm g).length }:=by
   unfold iH;rw[V0 (λu=>m u.1)]
  have h:=(d (h.o [3,4,0,1,2,6,7,5] 8)).o [1,2,0,3,4,5,6,7,8] 9;have n:=(fT (Q:=Q) (g:=iH g)).2 ⟨{ x with pa:=none,pc:=0 },pb,[],e1,by rw[i];rfl,λz t=>V2 t (by simp),by rw[i];exact h⟩
  exact k ys _ _ _ e2 e3 (n.o [1,2,0] 3)
end
def eH(s:aI)(now period:Int)(p:Pb):Nat->Pb×List Ou
 | 0=>(p,[])
 | n+1=>if (lh s (n:Nat)).2=true/\dueP (eH s now period p n).1 (n:Nat) now period=true then
   (sndP (eH s now period p n).1 (n:Nat) (lh s (n:Nat)).1.en.epoch now,(eH s now period p n).2++[gY (dT (n:Nat) (eH s now period p n).1.boot (eH s now period p n).1.count)])
  else eH s now period p n
def eT(g:Gg)(now:Int):Gg×List Ou×Int:=
 if (cF g (fq now)).2≠0 then ((cF g (fq now)).1,[],(cF g (fq now)).2) else
 ({ (cF g (fq now)).1 with p:=(eH (cF g (fq now)).1.s now g.o.period g.p 64).1 },(eH (cF g (fq now)).1.s now g.o.period g.p 64).2,0)
theorem mem_mset{k v:Int}{m:List (Int×Int)}{x:Int×Int}(h:x∈mset k v m):x=(k,v)\/x∈m:=by
 unfold mset at h
 rcases VJ.1 h with h|h
 .exact .inl h
 .exact .inr (WA.1 h).1
theorem sndP_ok{p:Pb}(h:jD p)(f:p.count<1000000000000){ag ep now:Int}(c:0<=now/\now<=4611686018427387903):jD (sndP p ag ep now):=by
 have e:=h.count;have d:=h.out;have i:=h.most;refine⟨?_,h.most,?_,λx a=>?_,h.boot⟩
 .show 0<=p.count+1/\p.count+1<=1000000000000;omega
 .unfold sndP;dsimp only
  split
  .rename_i b;simp only[VP,V3,V9,VW]at b ⊢;omega
  .rename_i b;simp only[V3,V9,VW]at b ⊢;omega
 .rcases mem_mset a with rfl|a
  .exact c
  .exact h.last x a
theorem BL{s:aI}{now period:Int}{p:Pb}(h:jD p)(b:p.count+64<=1000000000000)(a:0<=now/\now<=4611686018427387903):∀n,n<=64->jD (eH s now period p n).1/\(eH s now period p n).1.count<=p.count+n/\(eH s now period p n).2.length<=n
 | 0,_=>⟨h,by show p.count<=p.count+((0:Nat):Int);omega,VA _⟩
 | n+1,hl=>by
  obtain⟨a1,a2,a3⟩:=BL h b a n (by omega);unfold eH
  split
  .refine⟨sndP_ok a1 (by omega) a,?_,?_⟩
   .show (eH s now period p n).1.count+1<=_;omega
   .simp only[V3,V9,VW];omega
  .exact⟨a1,by omega,by omega⟩
section
variable {F L:List aE}{H:aD}{K:KE}{Q:aE}{gb db:Nat}{g:Gg}
theorem Vf{now:Int}(ok:GgOk g)(Z:GgOk (cF g (fq now)).1)(hc:g.p.count+64<=1000000000000)(Y:(cF g (fq now)).2=0->0<=now/\now<=4611686018427387903)
  (P:∀a:Nat,a<64->(lh (cF g (fq now)).1.s a).2=true->1<=(lh (cF g (fq now)).1.s a).1.en.epoch/\(lh (cF g (fq now)).1.s a).1.en.epoch<=1099511627776)
  (h:aA H (Q::gateA Q gb db g::F))
  (k:∀Q' ys a c f,aM Q Q'->ys.map Oy.o=(eT g now).2.1->(∀y∈ys,fK Q' y)->aA f (Q'::slA 91 11 a ys.length c (flat bH ys)::gateA Q' gb db (eT g now).1::F)->K (.tuple #[.slice a ys.length c,aC (eT g now).2.2]) f) :
  CF 23 #[PA gb 0,aC now] H K:=by
 refine cN 23 0x121b12156123992a11213992821399144c [[(11,sA),(12,sI)],[(7,sS)],[(7,sS),(21,sI)]] ?_;refine BJ (r:=fq now) ok (recN rfl) h λQ1 H1 O h=>⟨_,rfl,λB=>?_,λB=>?_⟩
 .have he:(cF g (fq now)).2≠0:=by simpa using B
  unfold eT at k;rw[V1 he]at k;exact k Q1 [] none 0 _ O rfl (λy hy=>V2 hy (by simp)) ((h.sl_nil 91 11).o [1,0,2] 3)
 have he:(cF g (fq now)).2=0:=by simpa using B
 have hn:=Y he;have ep:(cF g (fq now)).1.p=g.p:=by unfold cF;split <;> rfl
 have eo:(cF g (fq now)).1.o=g.o:=by unfold cF;split <;> rfl
 unfold eT at k;rw[V0 (by rw[he];decide)]at k;obtain⟨g1,h4⟩:∃g1,(cF g (fq now)).1=g1:=⟨_,rfl⟩;rw[h4]at k h Z P ep eo;have h3:jD g.p:=ok.prb;refine⟨λla ln lc i f=>∃(j:Nat) (ys:List Oy) (Q':aE),i=j/\j<=64/\ln=ys.length/\aM Q Q'/\ys.map Oy.o=(eH g1.s now g.o.period g.p j).2/\(∀y∈ys,fK Q' y)/\
   aA f (Q'::slA 91 11 la ys.length lc (flat bH ys)::gateA Q' gb db { g1 with p:=(eH g1.s now g.o.period g.p j).1 }::F),
  λ_ _ _ i _=>64-i.toNat,⟨0,[],Q1,rfl,by omega,rfl,O,rfl,λy hy=>V2 hy (by simp),?_⟩,?_⟩
 .have e:({ g1 with p:=(eH g1.s now g.o.period g.p 0).1 }:Gg)=g1:=by
   show ({ g1 with p:=g.p }:Gg)=g1;rw[<-ep]
  rw[e];exact (h.sl_nil 91 11).o [1,0,2] 3
 rintro la ln lc i H2 ⟨j,ys,d,rfl,hj,rfl,L,hm,N,h⟩;obtain⟨po,pc,pl⟩:=BL (s:=g1.s) (period:=g.o.period) h3 hc hn j hj;have h7:ys.length<=64:=by
  have:=congrArg List.length hm;rw[VH]at this;omega
 refine⟨λn=>?_,λn=>?_⟩
 .have n:j<64:=by have:=V4 n;omega
  have hw:i64.wrap ((j:Int)+1)=((j+1:Nat):Int):=by rw[aK];omega
  intro Jn hJ;obtain⟨p,hp⟩:∃p,(eH g1.s now g.o.period g.p j).1=p:=⟨_,rfl⟩;rw[hp]at h po pc;obtain⟨x,pb,t,e1,e2,e3,h⟩:=fT.1 (h.o [2,0,1] 3);refine⟨some ⟨x.sb,0,none⟩,h.r 0,?_⟩;have h:=h.o [1,0,2,3,4,5,6,7,8] 9;refine TO (s:=g1.s) Z.R.ok h λH3 h=>⟨_,_,_,_,_,_,_,_,_,_,_,_,rfl,?_⟩
  have S:=P j n;obtain⟨A,hA⟩:∃A,lh g1.s (j:Nat)=A:=⟨_,rfl⟩;have v:eH g1.s now g.o.period g.p (j+1)=if A.2=true/\dueP p (j:Nat) now g.o.period=true then (sndP p (j:Nat) A.1.en.epoch now,(eH g1.s now g.o.period g.p j).2++[gY (dT (j:Nat) p.boot p.count)]) else eH g1.s now g.o.period g.p j:=by
   rw[eH,hp,hA]
  rw[hA]at S ⊢;refine h.al λb _ h=>?_
  refine h.st 0 rfl rfl λH4 h=>?_
  have skip:¬(A.2=true/\dueP p (j:Nat) now g.o.period=true)->∀f,aA f (stA d x.sb g1.s::cellsA gb (kJ g1.o x t.length g1.recs) 110::slA 91 11 x.pa t.length x.pc (flat bH t)::bookA x.bb x.rb g1.saved g1.num g1.seg::reelA x.rb db g1.rl::diskX db g1.rows g1.syn::prbA pb p::d::slA 91 11 la ys.length lc (flat bH ys)::F)->Jn la ys.length lc f:=by
   intro w f h;rw[V0 w]at v;refine hJ _ _ _ _ ⟨⟨j+1,ys,d,hw,n,rfl,L,by rw[v];exact hm,N,?_⟩,by rw[hw];dsimp only;omega⟩;rw[v,hp];have hg:=(fT (g:={ g1 with p:=p })).2 ⟨x,pb,t,e1,e2,e3,h.o [1,0,2,3,4,5,6,7,8] 9⟩;exact hg.o [1,2,0] 3
  have J:∀{f},aA f (cellsA b (encA A.1) 187::stA d x.sb g1.s::cellsA gb (kJ g1.o x t.length g1.recs) 110::slA 91 11 x.pa t.length x.pc (flat bH t)::bookA x.bb x.rb g1.saved g1.num g1.seg::reelA x.rb db g1.rl::diskX db g1.rows g1.syn::prbA pb p::d::slA 91 11 la ys.length lc (flat bH ys)::F)->aL f gb (0+15)=some (PA pb 0):=λh=>(h.r 2).trans (by show some x.pv=_;rw[e1])
  have U:g1.o.period=g.o.period:=by rw[eo]
  have h:aA H4 (cellsA b (encA A.1) 187::stA d x.sb g1.s::cellsA gb (kJ g1.o x t.length g1.recs) 110::slA 91 11 x.pa t.length x.pc (flat bH t)::bookA x.bb x.rb g1.saved g1.num g1.seg::reelA x.rb db g1.rl::diskX db g1.rows g1.syn::prbA pb p::d::slA 91 11 la ys.length lc (flat bH ys)::F):=h;have D:=TW (ag:=(j:Nat)) (now:=now) (period:=g.o.period) po (h.o [7,0,1,2,3,4,5,6,8,9] 10);refine⟨λ_=>trivial,some ⟨pb,0,none⟩,λ_=>J h,λ_=>trivial,_,λ_=>h.r 2,dueP p (j:Nat) now g.o.period,λ_=>by rw[<-U]at D ⊢;exact D,λB=>?_,λB=>?_⟩
  .refine skip (λw=>?_) _ h.tl
   rw[w.1,w.2]at B;exact V2 B (by decide)
  have E:A.2=true/\dueP p (j:Nat) now g.o.period=true:=by
   simp only[VK,Wm]at B;exact B
  rw[V1 E]at v;have h6:=S E.1;have T:sndOk (j:Nat) A.1.en.epoch now=true:=by
   unfold sndOk tmB;simp only[V7,V6];omega
  intro h0 h2;have W:∀(nb:Nat) (R:aE) f,aA f (cellsA nb [aC p.boot,aC p.count] 101::cellsA b (encA A.1) 187::stA d x.sb g1.s::cellsA gb (kJ g1.o x t.length g1.recs) 110::slA 91 11 x.pa t.length x.pc (flat bH t)::bookA x.bb x.rb g1.saved g1.num g1.seg::reelA x.rb db g1.rl::diskX db g1.rows g1.syn::prbA pb (sndP p (j:Nat) A.1.en.epoch now)::d::slA 91 11 la ys.length lc (flat bH ys)::F)->h0 nb 0 0 f:=by
   intro nb R f h;refine h2 _ _ _ _ ⟨λhc=>V2 hc (by decide),λ_=>?_⟩
   refine h.al λb1 _ h=>?_
   refine h.st 0 rfl rfl λH8 h=>⟨_,_,_,h.q 0,_,h.r 1,_,h.r 1,?_⟩
   refine Bj (TU (j:Nat) p.boot p.count) h λI C H9 h=>⟨_,_,_,_,_,_,_,_,_,_,_,_,_,rfl,?_⟩
   refine h.al λb2 _ h=>?_
   refine h.append (m:=1) (ws:=bH ⟨gY (dT (j:Nat) p.boot p.count),I,C⟩) slOy 13 rfl (h.ce_rd 0 rfl) rfl (pE _) (by omega) (by omega) λa5 c5 h5 h=>⟨_,_,_,rfl,?_⟩
   have f1:flat bH ys++bH ⟨gY (dT (j:Nat) p.boot p.count),I,C⟩=flat bH (ys++[⟨gY (dT (j:Nat) p.boot p.count),I,C⟩]):=by rw[dR];simp[flat]
   have f2:ys.length+1=(ys++[(⟨gY (dT (j:Nat) p.boot p.count),I,C⟩:Oy)]).length:=by simp
   have h:=h.o [1,12,13,6,5,7,8,9,10,11] 14;rw[f1,f2]at h;rw[f2];have V:fK (slA 5 1 I (cA (dT (j:Nat) p.boot p.count)).length C ((cA (dT (j:Nat) p.boot p.count)).map U8)*d) ⟨gY (dT (j:Nat) p.boot p.count),I,C⟩:=⟨KIn.sl (c:=C),h.sl_nc 0 rfl⟩;have h:=pG.2 h;generalize slA 5 1 I (cA (dT (j:Nat) p.boot p.count)).length C ((cA (dT (j:Nat) p.boot p.count)).map U8)=M at h V;have u:aM d (M*d):=aM.add M d;have h:=oA u (h.o [3,2,4,5,6,7,8,0,1] 9);have hg:=(fT (Q:=M*d) (g:={ g1 with p:=sndP p (j:Nat) A.1.en.epoch now })).2 ⟨x,pb,t,e1,e2,λz G=>(e3 z G).sub u,h.o [1,0,2,3,4,5,6,7,8] 9⟩
   refine hJ _ _ _ _ ⟨⟨j+1,ys++[⟨gY (dT (j:Nat) p.boot p.count),I,C⟩],M*d,hw,n,rfl,L.trans u,by rw[v,VT,hm];rfl,λz G=>?_,?_⟩,by rw[hw];dsimp only;omega⟩
   .rcases VR.1 G with G|G
    .exact (N z G).sub u
    .rw [VE]at G;rw[G];exact V
   .rw [v];exact hg.o [1,2,0] 3
  refine⟨some ⟨pb,0,none⟩,J h,_,h.r 0,?_,?_⟩
  .have h:=h.o [7,0,1,2,3,4,5,6,8,9] 10;refine KF po T h λH6 h=>⟨_,_,_,rfl,?_⟩
   refine h.al λb3 _ h=>?_
   refine h.st 0 rfl rfl λH7 h=>?_
   exact W b3 emp _ (h.o [0,2,3,4,5,6,7,8,1,9,10] 11)
  .refine h.al λb4 _ h=>⟨h.r 1,J h.tl,?_⟩
   have h:=h.o [8,0,1,2,3,4,5,6,7,9,10] 11;refine KF po T h λH6 h=>⟨_,_,_,rfl,?_⟩
   refine h.st 1 rfl rfl λH7 h=>?_
   exact W b4 emp _ (h.o [1,2,3,4,5,6,7,8,0,9,10] 11)
 .have h1:j=64:=by have:=V5 n;omega
  subst h1;exact k d ys _ _ _ L hm N h
end
def iI(s:aI):Nat->List Ou
 | 0=>[]
 | n+1=>iI s n++[jC (s.sunk+(n:Nat)) (s.kept.getD n Ot.z)]
def recT(s:aI)(rs:List Rp):Nat->List Ou
 | 0=>iI s s.kept.length
 | n+1=>recT s rs n++(match rs[n]? with|some r=>(bO (dH s (rs.take n)) r).2.1.flatMap cK|none=>[])
section
variable {F L:List aE}{H:aD}{K:KE}{Q:aE}
theorem stA_perm{sb:Nat}{s:aI}(R:Rch s)(h:aA H (stA Q sb (jH s)::F)):aA H (stA Q sb s::F):=by
 obtain⟨p,h⟩:=cX.1 h;have a:=uP R;have e1:Ma.mapF p.mm (jH s).ms.m=Ma.mapF p.mm s.ms.m:=nB a.1.symm;have e2:cz p.hm (jH s).cm=cz p.hm s.cm:=nB a.2.symm;rw[e1,e2]at h;exact cX.2 ⟨p,h⟩
theorem uS(s:aI):∀n,(iI s n).length=n
 | 0=>rfl
 | n+1=>by rw[iI,V3,uS s n];rfl
theorem Rec_spec{c:bD}{s0:aI}{rs:List Rp}{s:List Ry}{v:Fy}{has:Bool}{P:KQ}{W:Nat}(Z:fD c=true)(A:Rch s0)(hc0:s0.cfg=c)
  (y3:has=false/\s0=bU c\/has=true/\v.bs=stB s0) (h4:s.map Ry.rc=rs.map λr=>⟨r.kind,r.bytes⟩) (hv:∀r∈rs,∀e∈r.evs,aF e.value)
  (u8:∀j (hj:j<rs.length),(bO (dH s0 (rs.take j)) rs[j]).2.2=0) (hk0:s0.kept.length<=40000) (hk:∀j,j<=rs.length->(dH s0 (rs.take j)).kept.length<=1000000) (hrl:rs.length<=100000)
  (hq:∀H,aA H F->aP H P (flat fY s)) (hqd:∀H,aA H F->∀q∈s,aP H q.y.a (q.y.bs.map U8)) (hfy:∀H,aA H F->aP H v.a (v.bs.map U8)) (hfa:v.a=none\/∃k o,v.a=some ⟨k,o,none⟩)
  (h:aA H (Q::F))
  (k:∀Q' sb ys a c' J,aM Q Q'->ys.map Oy.o=recT s0 rs rs.length->(∀y∈ys,fK Q' y)->aA J (Q'::slA 91 11 a ys.length c' (flat bH ys)::stA Q' sb (dH s0 rs)::F)->K (.tuple #[PA sb 0,.slice a ys.length c',aC 0]) J) :
  CF 46 #[.agg ⟨oz c⟩,.agg #[dV v,.bool has,.slice P s.length W]] H K:=by
 have hql:s.length=rs.length:=by have:=congrArg List.length h4;simpa using this
 refine cN 46 0x1121749d1215612399251442156123992511d1d44c [[(9,sS),(54,sI)],[(9,sS),(36,sI)],[(7,sP),(8,sI)]] ?_;refine h.al λb _ h=>?_
 refine h.al λb1 _ h=>⟨_,_,_,_,_,_,_,_,_,h.q 1,?_⟩
 refine K4 (Q:=Q) h (λhn=>V2 hn (by rw[Z];simp)) λ_ sb H1 h=>⟨some ⟨sb,0,none⟩,_,rfl,_,h.r 1,?_⟩
 intro Jn hJ;have fin:∀(Q1:aE) (sb:Nat) J,aM Q Q1->aA J (Q1::stA Q1 sb s0::cellsA b1 [dV v,.bool has,.slice P s.length W] 129::F)->Jn (some ⟨sb,0,none⟩) 0 J:=by
  intro Q1 sb H2 hs1 h;refine hJ _ _ _ ⟨λhc=>V2 hc (by decide),λ_=>?_⟩
  refine TN (by omega) (h.o [1,0,2] 3) λka kc H3 h=>⟨_,_,_,rfl,?_⟩
  refine⟨λla ln lc i J=>∃(j:Nat) (ys:List Oy) (Q':aE),i=j/\j<=s0.kept.length/\ln=ys.length/\aM Q Q'/\ys.map Oy.o=iI s0 j/\(∀y∈ys,fK Q' y)/\
    aA J (Q'::slA 91 11 la ys.length lc (flat bH ys)::slA 164 74 ka s0.kept.length kc (flat cI s0.kept)::stA Q' sb s0::cellsA b1 [dV v,.bool has,.slice P s.length W] 129::F),
   λ_ _ _ i _=>s0.kept.length-i.toNat,⟨0,[],Q1,rfl,by omega,rfl,hs1,rfl,λy U=>V2 U (by simp),(h.sl_nil 91 11).o [3,0,1,2,4] 5⟩,?_⟩
  rintro la ln lc i H4 ⟨j,ys,O,rfl,hj,rfl,h5,hm,r9,h⟩;have hyl:ys.length=j:=by rw[<-uS s0 j,<-hm,VH]
  refine⟨λd=>?_,λd=>?_⟩
  .have d:j<s0.kept.length:=by have:=V4 d;omega
   have hw:i64.wrap ((j:Int)+1)=((j+1:Nat):Int):=by rw[aK];omega
   have Y:=h.sl_rd 2 rfl;have hsk:=A.sunk;have hsk0:=A.ok.sunk;have j1:=A.kept _ (VF d);refine⟨by omega,_,_,Y.some iX (by omega) d,_,_,_,_,_,_,_,_,_,_,Y.els iX d,?_⟩;refine h.al λb3 _ h=>?_
   refine h.sta 0 rfl rfl λH5 h=>?_
   have h:aA H5 (cellsA b3 (cI s0.kept[j]) 164::O::slA 91 11 la ys.length lc (flat bH ys)::slA 164 74 ka s0.kept.length kc (flat cI s0.kept)::stA O sb s0::cellsA b1 [dV v,.bool has,.slice P s.length W] 129::F):=h;refine⟨_,TM (h.o [4,0,1,2,3,5] 6),_,_,_,_,_,_,_,_,_,_,h.rda 0 rfl,?_⟩;have hn:i64.wrap (s0.sunk+(j:Int))=s0.sunk+(j:Int):=aK;refine K8 (n:=i64.wrap (s0.sunk+(j:Int))) (o:=s0.kept[j]) j1.wc (by have:=j1.size;omega) h λR N H6 h=>⟨_,_,_,_,_,_,_,_,_,_,_,_,_,rfl,?_⟩
   refine h.al λb4 _ h=>?_
   refine h.append (m:=1) (ws:=bH ⟨jC (i64.wrap (s0.sunk+(j:Int))) s0.kept[j],R,N⟩) slOy 4 rfl (h.ce_rd 0 rfl) rfl (pE _) (by omega) (by omega) λa5 c5 H9 h=>⟨_,_,_,rfl,?_⟩
   have f1:flat bH ys++bH ⟨jC (i64.wrap (s0.sunk+(j:Int))) s0.kept[j],R,N⟩=flat bH (ys++[⟨jC (i64.wrap (s0.sunk+(j:Int))) s0.kept[j],R,N⟩]):=by rw[dR];simp[flat]
   have f2:ys.length+1=(ys++[(⟨jC (i64.wrap (s0.sunk+(j:Int))) s0.kept[j],R,N⟩:Oy)]).length:=by simp
   have h:=h.o [1,3,4,5,6,7] 8;rw[f1,f2]at h;have h6:fK (slA 5 1 R (cA (pF s0.kept[j])).length N ((cA (pF s0.kept[j])).map U8)*O) ⟨jC (i64.wrap (s0.sunk+(j:Int))) s0.kept[j],R,N⟩:=⟨KIn.sl (c:=N),h.sl_nc 0 rfl⟩;have h:=pG.2 h;generalize slA 5 1 R (cA (pF s0.kept[j])).length N ((cA (pF s0.kept[j])).map U8)=M at h h6;have E:aM O (M*O):=aM.add M O;have h:=oA E (h.o [3,0,1,2,4] 5);refine⟨⟨j+1,ys++[(⟨jC (i64.wrap (s0.sunk+(j:Int))) s0.kept[j],R,N⟩:Oy)],M*O,hw,d,f2,h5.trans E,?_,λz hz=>?_,?_⟩,by rw[hw];dsimp only;omega⟩
   rotate_left 2
   .exact h.o [1,2,3,0,4] 5
   .rw [VT,hm,iI,hn,Yl,List.getElem?_eq_getElem d];rfl
   .rcases VR.1 hz with hz|hz
    .exact (r9 z hz).sub E
    .rw [VE]at hz;rw[hz];exact h6
  have hge:j=s0.kept.length:=by have:=V5 d;omega
  rw[hge]at hm hyl;refine⟨_,_,_,h.r 4,?_⟩;refine⟨λla ln lc i J=>∃(j:Nat) (w:List Oy) (Q':aE),i=j/\j<=rs.length/\ln=w.length/\w.length<=100000+2000*j/\aM Q Q'/\w.map Oy.o=recT s0 rs j/\(∀y∈w,fK Q' y)/\Rch (dH s0 (rs.take j))/\
    aA J (Q'::slA 91 11 la w.length lc (flat bH w)::stA Q' sb (dH s0 (rs.take j))::cellsA b1 [dV v,.bool has,.slice P s.length W] 129::F),
   λ_ _ _ i _=>rs.length-i.toNat,⟨0,ys,O,rfl,by omega,rfl,by omega,h5,hm,r9,A,h.o [0,1,3,4] 5⟩,?_⟩
  rintro j3 ln2 r0 i2 H5 ⟨f,w,Q3,rfl,hj2,rfl,hzl,y2,h3,l5,Rj,h⟩;refine⟨λd=>?_,λd=>?_⟩
  .have x:f<s.length:=by have:=V4 d;omega
   have d:f<rs.length:=by omega
   have hw:i64.wrap ((f:Int)+1)=((f+1:Nat):Int):=by rw[aK];omega
   have h1:s[f].rc=⟨rs[f].kind,rs[f].bytes⟩:=by
    have:=congrArg (λl=>l[f]?) h4
    simpa[List.getElem?_map,List.getElem?_eq_getElem d,List.getElem?_eq_getElem x] using this
   have h0:s[f].kind=rs[f].kind:=congrArg Rc.kind h1;have u:s[f].y.bs=rs[f].bytes:=congrArg Rc.data h1;have Y:=hq _ h.tl.tl.tl.tl;refine⟨by omega,_,_,Y.some ph (by omega) x,_,_,_,_,Y.els ph x,?_⟩;have hR:=sH (u8 f d);have D:=hv _ (VF d);have hkj:=hk f hj2;have hE:=BI (r:=rs[f]) Rj D;have hA:=u8 f d;have hqm:s[f]∈s:=VF x;have hbl:=Rp.bytes_len rs[f];have I:(bO (dH s0 (rs.take f)) rs[f]).2.1.length<=2000:=BG Rj.ok (by have:=Rp.right_len hR;omega);have V:dH s0 (rs.take (f+1))=(bO (dH s0 (rs.take f)) rs[f]).1:=by rw[Wj d,UT]
   have T:recT s0 rs (f+1)=recT s0 rs f++(bO (dH s0 (rs.take f)) rs[f]).2.1.flatMap cK:=by rw[recT,List.getElem?_eq_getElem d]
   refine h.al λb6 _ h=>?_
   refine h.st 0 rfl rfl λH6 h=>⟨_,_,_,h.r 0,?_⟩
   have h:aA H6 (cellsA b6 [aC s[f].kind,.slice s[f].y.a s[f].y.bs.length s[f].y.c] 234::Q3::slA 91 11 j3 w.length r0 (flat bH w)::stA Q3 sb (dH s0 (rs.take f))::cellsA b1 [dV v,.bool has,.slice P s.length W] 129::F):=h;have h:=h.o [1,0,2,3,4] 5;have hbb:aH s[f].y.bs:=by rw[u];exact Rp.bytes_by _
   refine Tc h (λH h=>hqd H h.tl.tl.tl.tl.tl _ hqm) hbb (by rw[u];omega) ?_
   rw[u,rec_back hR D];obtain⟨r,Y⟩:∃r,rs[f]=r:=⟨_,rfl⟩;rw[Y]at hR D hE hA I V T h0 ⊢;intro Q4 evs ea ec H7 S h9 hkl h;refine⟨_,_,_,_,_,_,_,_,_,_,_,_,_,_,_,rfl,?_⟩;refine h.al λb7 _ h=>?_
   refine h.st 0 rfl rfl λH8 h=>⟨_,λ_=>h.r 0,_,λ_=>h.r 3,λhx=>?_,λ_=>?_⟩
   .exfalso;rw[h0]at hx;simp at hx
   have h:aA H8 (cellsA b7 (de r ea ec) 61::Q4::slA 99 4 ea evs.length ec (flat cw evs)::cellsA b6 [aC s[f].kind,.slice s[f].y.a r.bytes.length s[f].y.c] 234::slA 91 11 j3 w.length r0 (flat bH w)::stA Q3 sb (dH s0 (rs.take f))::cellsA b1 [dV v,.bool has,.slice P s.length W] 129::F):=h;refine⟨_,_,_,_,_,_,_,_,_,_,_,_,_,_,h.q 0,?_⟩;have h:=oA S (h.o [5,1,0,2,3,4,6] 7);have h:=h.o [1,0,3,2,4,5,6] 7;have hell:evs.length<=64:=by have:=Rp.right_len hR;rw[h9,VH]at this;exact this
   have r8:∀G:List aE,oB Q4 (slA 99 4 ea evs.length ec (flat cw evs)::G) r ea evs:=λG=>⟨h9,λH h=>h.sl_rd 0 rfl,hkl,by omega,D⟩
   refine Bc Rj.ok (by have:=Rj.sunk;omega) (by omega) (r8 _) h λQ5 fa fc H9 l0 h=>⟨_,_,_,_,rfl,λhx=>?_,λ_=>?_⟩
   .exfalso;rw[hA]at hx;simp at hx
   obtain⟨t,hf⟩:∃t,(bO (dH s0 (rs.take f)) r).2.1=t:=⟨_,rfl⟩;rw[hf]at h hE I T ⊢;refine K9 hE.2 hE.1 h (λH h=>h.sl_rd 0 rfl) λQ6 L wa wc H10 B h2 hwi h=>⟨_,_,_,rfl,?_⟩
   have hwl:L.length<=t.length:=by
    have e1:L.length=(t.flatMap cK).length:=by rw[<-h2,VH]
    have:∀l:List bI,(l.flatMap cK).length<=l.length:=by
     intro l
     induction l with
     | nil=>simp
     | cons e l ih=>
      rw[Wb,V3,V9];have:(cK e).length<=1:=by unfold cK;split <;> (try split) <;> (try split) <;> (try split) <;> simp
      omega
    have:=this t;omega
   refine h.append (m:=L.length) (ws:=flat bH L) slOy 7 rfl (h.sl_rd 1 rfl) (fi jB _) (lC pE _) (by omega) (by omega) λpa pc H11 h=>⟨_,_,_,rfl,?_⟩
   have e2:w.length+L.length=(w++L).length:=by rw[V3]
   have h:=h.o [3,0,7,8] 9;rw[e2,<-dR]at h;have h:=oA B h;refine⟨⟨f+1,w++L,Q6,hw,d,e2,by rw[V3];omega,((y2.trans S).trans l0).trans B,by rw[VT,h3,h2,T],λy U=>?_,by rw[V];exact uQ Rj D,?_⟩,by rw[hw];dsimp only;omega⟩
   .rcases VR.1 U with U|U
    .exact (l5 y U).sub ((S.trans l0).trans B)
    .exact hwi y U
   .rw [V];exact h.o [1,2,0,3] 4
  .have h8:f=rs.length:=by have:=V5 d;omega
   subst h8;rw[Wf]at h;exact k Q3 sb w _ _ _ y2 h3 l5 (h.o [0,1,2] 4)
 refine⟨λhb=>?_,λhb=>?_⟩
 .have u:v.bs=stB s0:=by
   rcases y3 with ⟨e,_⟩|⟨_,e⟩
   .rw [e]at hb;cases hb
   .exact e
  refine⟨_,_,_,_,_,_,_,_,_,h.q 2,_,_,_,h.r 1,?_⟩;have h7:kM c v.bs=.ok (jH s0):=by
   have:=UI A (by omega);rw[hc0]at this;rw[u];exact this
  have l6:pH c v.bs=.ok (jH s0):=by
   unfold pH;rw[V0 (by rw[Z];simp),h7];dsimp only;rw[u,V1 (UQ A)]
  have hll:=xN A.ok A.ser (by omega);have h:=h.o [3,0,1,2] 4;refine U7 (c:=c) h (λH h=>hfy H h.tl.tl.tl) hfa (by rw[u];exact xF _) (by rw[u];omega) (λ_ s' C=>?_) (λhR=>V2 hR (by rw[Z];simp)) (λ_ e he=>by rw[l6]at he;cases he) λ_ s' C=>?_
  .rw [h7]at C
   cases C
   exact⟨⟨λp hp=>(A.ser).cm p ((uP A).2.mem_iff.2 hp),A.ser.kept⟩,by show s0.kept.length<=_;omega⟩
  rw[l6]at C
  cases C
  intro Q6 tb H6 B h;refine⟨_,_,rfl,?_⟩;have h:=stA_perm A (h.o [1,0,3] 5);exact fin Q6 tb _ B (h.o [1,0,2] 3)
 .have hs0:s0=bU c:=by
   rcases y3 with ⟨_,e⟩|⟨e,_⟩
   .exact e
   .rw [e]at hb;cases hb
  rw[<-hs0]at h;exact fin Q sb _ (aM.refl Q) (h.o [3,0,1] 4)
end
def dQ:Rp:=⟨1,0,0,0,0,0,0,bQ.z,[]⟩
def kv(o:Opt)(s:aI)(rows:DR):Gg:=
 ⟨o,(bO s dQ).1,⟨(bO s dQ).1.boots,o.probes,0,[],[]⟩,[],0,false,0,0,{ du rows (opS o.segment rows) ⟨1,dQ.bytes⟩ with syn:=(du rows (opS o.segment rows) ⟨1,dQ.bytes⟩).next },
  gA rows (opS o.segment rows) ⟨1,dQ.bytes⟩,(gA rows (opS o.segment rows) ⟨1,dQ.bytes⟩).length⟩
theorem rch_run{s:aI}(R:Rch s):∀{rs:List Rp},(∀r∈rs,∀e∈r.evs,aF e.value)->Rch (dH s rs):=by
 intro rs
 induction rs generalizing s with
 | nil=>intro _;exact R
 | cons r rs ih=>intro h;exact ih (uQ R (h r (VM ..))) λx a=>h x (VL _ a)
section
variable {F L:List aE}{H:aD}{K:KE}{Q:aE}{o:Opt}{db:Nat}{rows:DR}{syn:Nat}
theorem Vg{s0:aI}{rs:List Rp}(f:fg o=true)(ok:fZ rows)(hB:rows.length<=549755813888)(B:eX o.segment rows=0)(u:(opS o.segment rows).seg<2147483647)(D:(opS o.segment rows).ok)
  (R0:Rch s0) (O:s0.cfg=o.cfg) (i:dw (di rows)=(none,rs.map λr=>⟨r.kind,r.bytes⟩)/\s0=bU o.cfg\/dw (di rows)=(some (stB s0),rs.map λr=>⟨r.kind,r.bytes⟩))
  (hv:∀r∈rs,∀e∈r.evs,aF e.value) (U:∀j (hj:j<rs.length),(bO (dH s0 (rs.take j)) rs[j]).2.2=0) (N:s0.kept.length<=40000) (hk:∀j,j<=rs.length->(dH s0 (rs.take j)).kept.length<=1000000) (Z:rs.length<=100000)
  (w:(bO (dH s0 rs) dQ).2.2=0) (t:1<=(bO (dH s0 rs) dQ).1.boots/\(bO (dH s0 rs) dQ).1.boots<=1099511627776)
  (h:aA H (Q::diskX db rows syn::F))
  (k:∀Q' gb ys a c H',aM Q Q'->ys.map Oy.o=recT s0 rs rs.length->(∀y∈ys,fK Q' y)->aA H' (Q'::slA 91 11 a ys.length c (flat bH ys)::gateA Q' gb db (kv o (dH s0 rs) rows)::F)->K (.tuple #[PA gb 0,.slice a ys.length c,aC 0]) H'):CF 16 #[PA db 0,.agg ⟨jE o⟩] H K:=by
 refine cM 16 8194785019629852 ?_;have G:fD o.cfg=true:=by
  unfold fg at f;simp only[V7]at f;exact f.1.1.1.1
 refine h.al λb _ h=>⟨_,_,_,_,_,_,_,_,_,_,_,_,_,h.q 0,?_⟩
 refine Bn (o:=o) h λH1 h=>⟨_,rfl,λm=>?_,λ_=>?_⟩
 .rw [f]at m;cases m
 refine⟨_,h.r 0,?_⟩;have h:=h.o [2,0,1] 3;refine QM ok (by omega) h (λ_ h4 qs T has a c bb rb H2 n C h=>⟨_,_,_,_,_,_,_,_,_,rfl,?_⟩) λJ=>V2 B J
 refine h.al λb1 _ h=>?_
 refine h.st 0 rfl rfl λH3 h=>⟨λm=>V2 m (by simp),λ_=>⟨_,_,_,_,_,_,_,_,_,h.q 6,_,_,_,_,_,_,_,h.q 0,?_⟩⟩
 have h:=h.o [7,4,3,0,1,2,5,6] 8;have d:=C.tell;have W:has=false/\s0=bU o.cfg\/has=true/\T.bs=stB s0:=by
  rw[n]at d
  rcases i with ⟨e1,e2⟩|e1
  .rw [e1]at d
   cases has with
   | false=>exact .inl ⟨rfl,e2⟩
   | true=>simp at d
  .rw [e1]at d
   cases has with
   | false=>simp at d
   | true=>exact .inr ⟨rfl,by simpa using (Prod.mk.inj d).1.symm⟩
 have L:qs.map Ry.rc=rs.map λr=>⟨r.kind,r.bytes⟩:=by
  rw[n]at d
  rcases i with ⟨e1,_⟩|e1 <;> rw[e1]at d <;> exact (Prod.mk.inj d).2.symm
 have S:T.a=none\/∃k o,T.a=some ⟨k,o,none⟩:=by
  rcases C.st with rfl|⟨r,hr,rfl⟩
  .exact .inl rfl
  .exact Ii h.tl r hr
 refine Rec_spec G R0 O W L hv U N hk Z (λH h=>h.sl_rd 1 rfl) (λH h q hq=>zV h q (C.sub q hq)) (λH h=>C.rd h) S h λQ1 sb ys oa oc H4 E hm R h=>⟨_,_,_,_,_,rfl,λm=>V2 m (by simp),λ_=>?_⟩
 have A:=rch_run R0 hv;have s:=hk rs.length (VA _);rw[Wf]at s;obtain⟨P,M⟩:∃P,dH s0 rs=P:=⟨_,rfl⟩;rw[M]at A s w t k h;refine⟨_,_,_,_,_,_,_,_,_,_,_,_,_,h.q 9,?_⟩;refine h.al λb2 H5 h=>?_
 have h:=h.sl_nil 91 11;have h:=h.o [2,1,4,0,8,9,10,3,11] 12;have B:=BI (r:=dQ) A (λe Y=>V2 Y (by simp[dQ]))
 refine KK (r:=dQ) (x:=⟨bb,rb,sb,.pointer none,none,0⟩) (o:=o) (recs:=0) (ys:=[]) A.ok (by have:=A.sunk;omega) s (recN rfl) B.1 B.2 D hB u (by omega) (by simp) (λy V=>V2 V (by simp)) h (λY=>V2 w Y) λ_ Q2 zs pa pc H6 v h2 h1 h=>?_
 refine⟨_,rfl,λm=>V2 m (by decide),λ_=>?_⟩
 refine⟨some ⟨bb,0,none⟩,h.r 1,some ⟨rb,0,none⟩,h.r 4,?_⟩;have h:=h.o [5,6,0,1,2,3,4,7,8] 9;refine GZ h λH7 h=>⟨rfl,?_⟩
 refine h.st 3 rfl rfl λH8 h=>?_
 refine h.st 3 rfl rfl λH9 h=>⟨some ⟨sb,0,none⟩,h.r 3,?_⟩
 refine⟨_,Bg (h.o [4,0,1,2,3,5,6,7,8] 9),_,h.r 8,?_⟩;have I:1<=o.probes/\o.probes<=1024:=by
  unfold fg at f;simp only[V7,V6]at f;exact f.1.1.1.2
 refine KC h (λJ=>V2 ⟨t.1,t.2,I⟩ J) λ_ pb h0 h=>⟨_,_,rfl,?_⟩
 refine h.st 4 rfl rfl λh3 h=>?_
 have h:=(h.o [4,5,7,1,2,0,3,8] 10).sl_nil 91 11;have h:=h.o [1,2,0,3,4,5,6,7,8] 9;have hg:=(fT (Q:=Q2) (g:=kv o P rows)).2 ⟨⟨bb,rb,sb,PA pb 0,none,0⟩,pb,[],rfl,rfl,λz hz=>V2 hz (by simp),h⟩
 exact k Q2 b2 ys oa oc _ (E.trans v) hm (λy V=>(R y V).sub v) (hg.o [1,2,0] 3)
end
end Go.Proofs.YtaaieblnikcndaaGreatDoor
