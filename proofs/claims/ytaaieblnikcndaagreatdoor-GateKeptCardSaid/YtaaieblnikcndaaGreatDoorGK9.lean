/-
  Lemmas for GateKept: part 9 of what it rests on. Conditions: none.
-/
import Derived.Test.YtaaieblnikcndaaGreatDoorGK8
set_option linter.unusedVariables false
set_option linter.unusedSimpArgs false
set_option maxRecDepth 100000
set_option maxHeartbeats 16000000
open Go.IntKind (i64 u64 i8 u8 i32 u32 i16 u16)
namespace Go.Proofs.YtaaieblnikcndaaGreatDoor
open Go
theorem uRes_lt2{s:RS}(hb:aH s.bs)(h:(bM s).2.e=0):(bM s).2.bs.length+1<=s.bs.length:=by
 unfold bM at h ⊢
 split at h
 .rename_i h0;exact Vu h h0
 .rename_i h0;rw[Vs h0]
  split at h
  .rename_i u n e;have:=qq hb e;simp only[e];rw[VH];omega
  .simp at h
  .simp at h
theorem Lf{s a:RS}{o:Ot}(hb:aH s.bs)(h:jc s=.ok (o,a)):a.bs.length+1<=s.bs.length:=by
 unfold jc at h
 cases e:gj s with
 | error e'=>rw[e]at h;cases h
 | ok q=>
  obtain⟨v,s1⟩:=q;rw[e]at h;dsimp only at h;have h0:=ip e;have b:s1.bs.length+1<=s.bs.length:=by
   rw[h0.1];exact uRes_lt2 hb h0.2.2
  have d:=(mC s1 s1.bs.length).1;have c:=(mC (aZ s1.bs.length s1).2 (aZ s1.bs.length s1).2.bs.length).1
  split at h
  .cases h
  split at h
  .cases h
  split at h
  .cases h
  .cases h;omega
theorem Lg:∀{n:Nat} {r a:RS} {l:List Ot},aH r.bs->eF n r=.ok (l,a)->l.length=n/\n+a.bs.length<=r.bs.length
 | 0,r,a,l,hb,h=>by
  cases h
  exact⟨rfl,by omega⟩
 | n+1,r,a,l,hb,h=>by
  unfold eF at h
  cases h1:eF n r with
  | error e=>rw[h1]at h;cases h
  | ok q=>
  obtain⟨l1,r1⟩:=q;rw[h1]at h;dsimp only at h;have c:=Lg hb h1;have b:=(xD hb h1).2
  cases h2:jc r1 with
  | error e=>rw[h2]at h;cases h
  | ok q=>
  obtain⟨o,r2⟩:=q;rw[h2]at h
  cases h
  have:=Lf b h2;rw[Vv];simp only[V1,VN];omega
theorem Lh{s:RS}{e:Int}:∀{n j:Nat},eF j s=.error e->j<=n->eF n s=.error e
 | 0,j,h,hj=>by
  obtain rfl:j=0:=by omega
  exact h
 | n+1,j,h,hj=>by
  rcases VO n j with a|a
  .obtain rfl:j=n+1:=by omega
   exact h
  .unfold eF;rw[Lh h a]
section
variable {F L:List aE}{H:aD}{K KP:KE}{Q Q':aE}{sb:Nat}{s:aI}
def ne(Q:aE)(F:List aE)(K:KE):Except Int aI->Prop
 | .ok s=>∀Q' sb H',aM Q Q'->aA H' (Q'::stA Q' sb s::F)->K (.tuple #[PA sb 0,aC 0]) H'
 | .error e=>∀Q' H',aM Q Q'->aA H' (Q'::F)->K (.tuple #[.pointer none,aC e]) H'
theorem nf{b1 b2:Nat}{e v1:Int}{v:KQ}(f:ne Q F K (.error 10))(i:e≠0)(hs:aM Q Q')(h:aA H (cellsA b1 [.pointer v] 40::cellsA b2 [aC v1] 50::Q'::F)) :
  bJ 196 X.calls=true/\cC Tryz.prog 196 [(PA b1 0),(PA b2 0)] (bi (pnV e) false) H λd a=>d=bi (pnV e) true/\
   ∃b,aL a b1 0=some (.pointer b)/\∃c,aL a b2 0=some (aC c)/\K (.tuple #[(.pointer b),(aC c)]) a:=
 ⟨rfl,Uo i h λj h=>⟨rfl,_,h.r 0,_,h.r 1,f Q' _ hs h.tl.tl⟩⟩
theorem Li(k:Ky)(c:Cl):aH (cbB k c):=dD (tT _) (Pn _)
theorem Uq(a:Int)(e:En)(fl:Fl)(st:br):aH (agB a e fl st):=
 dD (dD (dD (dD (dD (iE _) (tT _)) (iE _)) (j0 λ_ _=>iE _)) (iE _)) (j0 λ_ _=>dD (iE _) (wW _))
theorem Ur(s:aI)(p:Int×En):aH (dR s p):=by
 unfold dR
 split
 .exact Uq _ _ _ _
 .exact λx a=>by cases a
theorem xE(s:aI):aH (stB s):=
 dD (dD (dD (dD (dD (dD (dD (iE _) (tT _)) (iE _)) (j0 λ_ _=>Ur _ _)) (iE _)) (j0 λ_ _=>Li _ _)) (iE _)) (j0 λ_ _=>Li _ _)
theorem strB_inj{xs ys:List Int}(f:aH xs)(j:aH ys)(h:(bF xs).toList=(bF ys).toList):xs=ys:=by
 have a:xs.map (λn=>UInt8.ofNat n.toNat)=ys.map (λn=>UInt8.ofNat n.toNat):=by
  rw[<-strOfNums_data xs,<-strOfNums_data ys];have e:∀b:Fa,b.data.toList=b.toList:=λb=>Eq.symm (ByteArray.toList_eq b)
  rw[e,e];exact h
 have c:=congrArg (List.map λb:UInt8=>(b.toNat:Int)) a
 have e:∀l:List Int,aH l->(l.map λn=>UInt8.ofNat n.toNat).map (λb:UInt8=>(b.toNat:Int))=l:=by
  intro l d;apply Wx (by simp);intro i k a;simp only[Wp];exact qr d i a
 rwa[e _ f,e _ j]at c
theorem Us{rb b1 b2 b3:Nat}{s1:aI}{bs:List Int}{ba:KQ}{bc:Nat}{kn:Int}{r:RS}{w:aE}(f:aM Q w)
  (W:∀H,aA H F->aP H ba (bs.map U8)) (L:ba=none\/∃k o,ba=some ⟨k,o,none⟩) (N:0<=kn/\kn<18446744073709551616) (hb:aH r.bs) (hl:r.bs.length<=1000000000) (M:aH bs)
  (A:∀l d,eF kn.toNat r=.ok (l,d)->(dF d).e=0->cR { s1 with kept:=l }/\qO { s1 with kept:=l }/\l.length<=50000)
  (P:(∀l d,eF kn.toNat r=.ok (l,d)->(dF d).e=0->stB { s1 with kept:=l }=bs->False)->ne Q F K (.error 10))
  (E:∀l d,eF kn.toNat r=.ok (l,d)->(dF d).e=0->stB { s1 with kept:=l }=bs->ne Q F K (.ok { s1 with kept:=l }))
  (h:aA H (crdA rb r::w::stA w sb { s1 with kept:=[] }::cellsA b1 [PA sb 0] 40::cellsA b2 [aC 0] 50::cellsA b3 [PA rb 0] 388::F)) :
  ∃(i:Int->aD->Prop) (G:Int->aD->Nat),i kn H/\
   ∀(n:Int),∀u:aD,i n u->mz.l2 ba bs.length bc K b1 b2 b3 i G n u:=by
 refine⟨λn T=>∃(j:Nat) (l:List Ot) (d:RS),n=kn-j/\(j:Int)<=kn/\eF j r=.ok (l,d)/\
  aA T (crdA rb d::w::stA w sb { s1 with kept:=l }::cellsA b1 [PA sb 0] 40::cellsA b2 [aC 0] 50::cellsA b3 [PA rb 0] 388::F),
  λn _=>n.toNat,⟨0,[],r,by omega,N.1,rfl,h⟩,?_⟩
 rintro n H1 ⟨j,l,d,rfl,hj,y,h⟩;have h0:=Lg hb y;have D:=xD hb y;unfold mz.l2;refine⟨λs=>?_,λs=>?_⟩
 .have s:=Vw s;refine⟨_,h.q 5,?_⟩;refine La h D.2 (by omega) ?_;have t:eF (j+1) r=match jc d with|.error e=>.error e|.ok (o,r2)=>.ok (l++[o],r2):=by
   rw[eF,y] <;> rfl
  cases hr:jc d with
  | error e=>
   rw[hr]at t;exact λT x h=>nf (P λl r1 v _ _=>by rw[Lh t (by omega)]at v;cases v) x f (h.o [2,3,0] 5)
  | ok q=>
  obtain⟨o,r2⟩:=q;rw[hr]at t;intro H2 h7 h6 h5 h;refine⟨_,_,_,_,_,_,_,_,_,_,rfl,?_⟩;refine h.al λb7 _ h=>?_
  refine h.al λb8 _ h=>?_
  refine h.st 1 rfl rfl ?_;intro Z h;refine h.sta 0 rfl rfl λH4 h=>?_
  have h:=h.o [4,0,1,2,3,5,6,7] 8;obtain⟨p,h⟩:=cX.1 h;refine⟨_,h.r 13,_,h.r 13,cZ ⟨_,_,_,h.r 0,_,_,h.q 10,_,_,_,_,_,_,_,_,h.rda 9 rfl,?_⟩⟩;refine h.al λb9 _ h=>⟨h.r 1,h.r 14,h.r 14,?_⟩
  refine h.append (m:=1) (ws:=cJ o) sl86 9 rfl (h.ce_rd 0 rfl) rfl (rY _) (by show (l.length+1)*600<=_;omega) (by show l.length+1<=_;omega) λa6 c6 V h=>⟨_,_,_,rfl,h.r 14,cZ ?_⟩
  refine h.st 1 rfl rfl ?_;intro S h;have hw:u64.wrap (kn-(j:Int)-1)=kn-((j+1:Nat):Int):=by rw[de];omega
  rw[hw];refine⟨⟨j+1,l++[o],r2,rfl,by omega,t,?_⟩,by dsimp only;omega⟩;have e4:flat cJ (l++[o])=flat cJ l++cJ o:=by rw[dS];simp[flat]
  have h:=h.o [1,2,3,4,5,6,7,8,9,12,13,14,15,16] 17;have h:aA S (stA w sb { s1 with kept:=l++[o] }::_):=cX.2 ⟨{ p with ka:=a6,kc:=c6 },by
   simp only[dr,Vv,Wi,e4];exact h⟩
  exact h.o [1,2,0,3,4,5] 6
 .have h4:=Vx s;have R:j=kn.toNat:=by omega
  subst R;refine⟨_,h.r 5,?_⟩;refine wu h λH2 h=>⟨_,rfl,?_⟩
  refine j8 (λx=>⟨rfl,_,h.r 3,?_⟩) λx=>nf (P λl2 r2 v B _=>by rw[y]at v;cases v;exact x B) x f (h.o [3,4,1] 6)
  obtain⟨O,C,Y⟩:=A l d y x;have h:=h.o [1,2,3,4,5] 6;refine KZ O C Y h λa c Z h=>⟨_,_,_,rfl,?_⟩
  have J:a=none\/∃k o,a=some ⟨k,o,none⟩:=by
   rcases (kz (F:=star _) h).2 with ⟨B,_⟩|⟨b,pre,post,e',fr,B,_⟩
   .exact .inl B
   .exact .inr ⟨_,_,B⟩
  refine Av J L (h.sl_rd 0 rfl) (W _ (h.o [] 6)) ⟨_,rfl,?_⟩;intro Jn hJ;refine⟨λs=>?_,λs=>?_⟩
  .refine nf (e:=10) (P λl2 r2 v B U=>?_) (by decide) f (h.o [3,4,1] 6)
   rw[y]at v;cases v;rw[U]at s;simp at s
  .refine hJ _ ?_;have I:stB { s1 with kept:=l }=bs:=strB_inj (xE _) M (by simpa using s);refine⟨_,h.r 3,?_⟩;refine h.st 3 rfl rfl ?_;intro H4 h;refine h.st 4 rfl rfl ?_;intro V h;refine⟨rfl,Up (h.o [3,4,1,2] 6) λS h=>⟨rfl,_,h.r 0,_,h.r 1,E l d y x I w sb _ f h.tl.tl⟩⟩
end
theorem dig(x m:Nat)(hm:0<m):x/(m*256)*256+x/m%256=x/m:=by
 rw[<-Nat.div_div_eq_div_mul];have:=Nat.div_add_mod (x/m) 256;omega
theorem acc_dig{l:List Int}{x m:Nat}(hm:0<m)(a:x<18446744073709551616)(h:kj l=x/(m*256)):kj (l++[((x/m%256:Nat):Int)])=x/m:=by
 rw[wM,h,V4];have e:=dig x m hm;have:x/m<=x:=Nat.div_le_self _ _;rw[W5 (by omega),e]
theorem Lj{x:Nat}(b:x<18446744073709551616):kj ((List.range 8).map λp=>((x/2^(8*(7-p))%256:Nat):Int))=x:=by
 have key:∀k,k<=8->kj ((List.range k).map λp=>((x/2^(8*(7-p))%256:Nat):Int))=x/2^(8*(8-k)):=by
  intro k
  induction k with
  | zero=>
   intro _;show 0=_;rw[Nat.div_eq_of_lt (by simpa using b)]
  | succ k a=>
   intro c;have a:=a (by omega);rw[List.range_succ,VJ];have e:2^(8*(8-k))=2^(8*(7-k))*256:=by
    have:8*(8-k)=8*(7-k)+8:=by omega
    rw[this,Ww]
   rw[e]at a;have:=acc_dig (WO _) b a;have e2:8-(k+1)=7-k:=by omega
   rw[e2];exact this
 have:=key 8 (V2 _);simpa using this
theorem Ut{z:Int}(h:fZ z):jn (dN z)=z:=by
 have e1:(dN z).take 8=(List.range 8).map λp=>(((cx z%B64).toNat/2^(8*(7-p))%256:Nat):Int):=by
  apply Wx
  .simp [dN]
  .intro i b a;have hi:i<8:=by simpa using a
   simp only[dN,List.getElem_take,Wp,Y8];unfold wNat
   rw[Vt hi]
 have e2:(dN z).drop 8=(List.range 8).map λp=>(((wlo z).toNat/2^(8*(7-p))%256:Nat):Int):=by
  apply Wx
  .simp [dN]
  .intro i b a;have hi:i<8:=by simpa using a
   simp only[dN,List.getElem_drop,Wp,Y8];unfold wNat
   rw[nO];have:15-(8+i)=7-i:=by omega
   rw[this]
 have c:=pj z;have d:0<=cx z%B64/\cx z%B64<B64:=⟨Int.emod_nonneg _ (by decide),Int.emod_lt_of_pos _ (by decide)⟩;unfold jn;simp only[cx,wlo,B64]at c d e1 e2 ⊢;rw[e1,e2,Lj (by omega),Lj (by omega)];unfold fZ at h;rw[jN];omega
def jG(h:Nat->Int):Nat->Nat->List (Nat×Nat)
 | _,0=>[]
 | a,n+1=>(if h a=0 then [] else [(a,(h a).toNat)])++jG h (a+1) n
def flP(l:List (Nat×Nat)):List Nat:=l.flatMap λp=>[p.1,p.2]
theorem Uu(a b:List (Nat×Nat)):flP (a++b)=flP a++flP b:=by simp[flP]
theorem flP_len(l:List (Nat×Nat)):(flP l).length=2*l.length:=by
 induction l with
 | nil=>rfl
 | cons p r ih=>
  show (p.1::p.2::flP r).length=_;simp only[V1,ih];omega
theorem Lk(h:Nat->Int):∀n a,flP (jG h a n)=(List.range' a n).flatMap λi=>if h i=0 then [] else [i,(h i).toNat]
 | 0,a=>rfl
 | n+1,a=>by
  rw[List.range'_succ,VU,<-Lk h n (a+1)];show flP ((if h a=0 then [] else [(a,(h a).toNat)])++jG h (a+1) n)=_
  rw[Uu];congr 1
  split <;> rfl
theorem fullP_eq(h:Nat->Int)(n:Nat):gQ h n=flP (jG h 0 n):=by
 rw[Lk,<-List.range_eq_range'];rfl
theorem Ll(h:Nat->Int):∀n a,(jG h a n).length<=n
 | 0,a=>V2 _
 | n+1,a=>by
  have:=Ll h n (a+1);unfold jG;rw[Vv]
  split <;> simp <;> omega
theorem Lm{h:Nat->Int}:∀{n a:Nat} {p:Nat×Nat},p∈jG h a n->a<=p.1/\p.1<a+n/\h p.1≠0/\p.2=(h p.1).toNat
 | 0,a,p,b=>by cases b
 | n+1,a,p,b=>by
  unfold jG at b
  rcases VK.1 b with b|b
  .split at b
   .cases b
   .rename_i h0;rw[V6]at b;subst b;exact⟨V2 _,by omega,h0,rfl⟩
  .have:=Lm b;exact⟨by omega,by omega,this.2.2.1,this.2.2.2⟩
theorem Bs{h:Nat->Int}(d:∀i,i<65->0<=h i/\h i<=9223372036854775807):∀{n a:Nat} {c:Option Nat} {g:Nat->Int},a+n<=65->(∀x,c=some x->x<a)->
  mQ (jG h a n) c g=some λi=>if a<=i/\i<a+n/\h i≠0 then h i else g i
 | 0,a,c,g,hn,hp=>by
  show some g=_;congr 1;funext i;rw[nO]
 | n+1,a,c,g,hn,hp=>by
  unfold jG
  split
  .rename_i h0;rw[VZ,Bs d (by omega) λx f=>by have:=hp x f;omega]
   congr 1;funext i
   by_cases hi:i=a
   .subst hi;rw[nO,Vs (by simp[h0])]
   .by_cases b:a<=i/\i<a+(n+1)/\h i≠0
    .rw [Vt ⟨by omega,by omega,b.2.2⟩,Vt b]
    .rw [Vs (λe=>b ⟨by omega,by omega,e.2.2⟩),Vs b]
  .rename_i h0;have hb:=d a (by omega);show mQ ((a,(h a).toNat)::jG h (a+1) n) c g=_;unfold mQ;rw[Vs (by
    intro b
    rcases b with b|b
    .unfold pz at b
     split at b
     .rename_i x;have:=hp x rfl;have:=Vw b;omega
     .cases b
    .omega),nO,Bs d (by omega) λx f=>by cases f;omega]
   congr 1;funext i
   by_cases hi:i=a
   .subst hi;rw[nO,Vt ⟨by omega,by omega,h0⟩];unfold eZ;rw[Vt rfl];omega
   .by_cases b:a<=i/\i<a+(n+1)/\h i≠0
    .rw [Vt ⟨by omega,by omega,b.2.2⟩,Vt b]
    .rw [Vs (λe=>b ⟨by omega,by omega,e.2.2⟩),Vs b]
     unfold eZ;rw[Vs hi]
theorem Ln(r:List Int):∀{l:List (Nat×Nat)},(∀p∈l,p.1<18446744073709551616/\p.2<18446744073709551616)->mP l.length ⟨0,eJ (flP l)++r⟩=(l,⟨0,r⟩)
 | [],_=>rfl
 | p::l,h=>by
  have a:=h p (VA ..);have b:=Ln r (l:=l) λq c=>h q (VD _ c)
  have e:eJ (flP (p::l))++r=bR p.1++(bR p.2++(eJ (flP l)++r)):=by
   show eJ (p.1::p.2::flP l)++r=_;simp[eJ]
  show mP (l.length+1) _=_;unfold mP;rw[e,oB a.1];dsimp only;rw[oB a.2];dsimp only;rw[b]
def CH(c:Cl):Prop:=∀i,65<=i->c.h i=0
theorem Uv{c:Cl}(wc:WC c)(d:ge c=true)(w:CH c):ku (dm c)=(c,0):=by
 obtain⟨p1,p2,p3,p4⟩:=Aj d;have A:=wc.n;have f:=wc.cer;have k:=wc.pos;unfold aF at A f k;have s:∀i,i<65->0<=c.h i/\c.h i<=9223372036854775807:=λi hi=>⟨p4 i hi,(wc.h i hi).2⟩
 have B:=Ll c.h 65 0;have j:∀p∈jG c.h 0 65,p.1<18446744073709551616/\p.2<18446744073709551616:=by
  intro p D;obtain⟨a1,a2,a3,a4⟩:=Lm D;have:=s p.1 (by omega);exact⟨by omega,by omega⟩
 have e:dm c=bR c.n.toNat++(bR c.cer.toNat++(bR c.pos.toNat++(cY [c.mn]++(cY [c.mx]++(dd (bF (dN c.sum))++(bR (jG c.h 0 65).length++(eJ (flP (jG c.h 0 65))++[]))))))):=by
  unfold dm;rw[Vt d,fullP_eq,flP_len];have:2*(jG c.h 0 65).length/2=(jG c.h 0 65).length:=by omega
  rw[this];simp[eJ,cY]
 have y:(bF (dN c.sum)).size=16:=by rw[nQ,sg]
 have b:fi (bF (dN c.sum))=dN c.sum:=by
  unfold fi;rw[show (bF (dN c.sum)).data.toList=(dN c.sum).map λn=>UInt8.ofNat n.toNat from strOfNums_data _,Wh]
  apply Wx (by simp);intro i E t;simp only[Wp,Function.comp];exact qr (Sc c.sum) i t
 have s1:=λr=>uE wc.mn r
 have a:∀{v:Int} (h:aF v) (r:List Int),dE ⟨0,cY [v]++r⟩=(v,⟨0,r⟩):=by
  intro v h r;unfold dE;rw[intsB1,oB (tS v),K9 h]
 rw[e];unfold ku;dsimp only;rw[oB (by omega)];dsimp only;rw[oB (by omega)];dsimp only;rw[oB (by omega)];dsimp only;rw[a wc.mn];dsimp only;rw[a wc.mx];dsimp only;rw[uH (m:=16) (by omega) (by omega)];dsimp only;rw[Bj (m:=65) (by omega) (by omega)];dsimp only;rw[V4,Ln [] j];dsimp only;rw[show (dF ⟨0,[]⟩).e=0 from rfl,Vs (by simp)];unfold sw;rw[nO,b,Vs (by rw[sg];simp),Bs s (by omega) (λx u=>by cases u)]
 dsimp only;have C:(λi=>if 0<=i/\i<0+65/\c.h i≠0 then c.h i else Z0 i)=c.h:=by
  funext i
  by_cases h65:i<65
  .by_cases h0:c.h i=0
   .rw [Vs (by simp[h0]),h0]
   .rw [Vt ⟨by omega,by omega,h0⟩]
  .rw [nO,w i (by omega)]
 rw[C,Ut wc.sum,Yq p1,Yq p2,Yq p3];rw[Vt d]
theorem Lo{most:Int}(h0:dZ most []):∀{n:Nat} {r a:RS} {m:CM},aH r.bs->fo most n r=.ok (m,a)->n+a.bs.length<=r.bs.length
 | 0,r,a,m,hb,h=>by
  cases h
  omega
 | n+1,r,a,m,hb,h=>by
  unfold fo at h
  cases h1:fo most n r with
  | error e=>rw[h1]at h;cases h
  | ok q=>
  obtain⟨m1,r1⟩:=q;rw[h1]at h;dsimp only at h;have c:=Lo h0 hb h1;have b:=(xC h0 hb h1).2
  cases h2:jc r1 with
  | error e=>rw[h2]at h;cases h
  | ok q=>
  obtain⟨o,r2⟩:=q;rw[h2]at h;dsimp only at h;have:=Lf b h2
  split at h
  .cases h
  .cases h
   omega
theorem Bt{most:Int}{s:RS}{e:Int}:∀{n j:Nat},fo most j s=.error e->j<=n->fo most n s=.error e
 | 0,j,h,hj=>by
  obtain rfl:j=0:=by omega
  exact h
 | n+1,j,h,hj=>by
  rcases VO n j with a|a
  .obtain rfl:j=n+1:=by omega
   exact h
  .unfold fo;rw[Bt h a]
section
variable {F L:List aE}{H:aD}{K KP:KE}{Q Q':aE}{sb:Nat}{s:aI}
theorem Uw{rb b1 b2 b3:Nat}{s1:aI}{bs:List Int}{ba:KQ}{bc:Nat}{n:Int}{r:RS}{A:aE}(i:aM Q A)
  (Z:∀H,aA H F->aP H ba (bs.map U8)) (M:ba=none\/∃k o,ba=some ⟨k,o,none⟩) (R:0<=n/\n<=1024) (h0:dZ s1.cfg.cells []) (hb:aH r.bs) (hl:r.bs.length<=1000000000) (N:aH bs)
  (y:∀m f k a l c,fo s1.cfg.cells n.toNat r=.ok (m,f)->ei f=.ok (k,a)->eF k.toNat a=.ok (l,c)->(dF c).e=0->
   cR { s1 with cm:=m,kept:=l }/\qO { s1 with cm:=m,kept:=l }/\l.length<=50000)
  (E:(∀m f k a l c,fo s1.cfg.cells n.toNat r=.ok (m,f)->ei f=.ok (k,a)->eF k.toNat a=.ok (l,c)->(dF c).e=0->stB { s1 with cm:=m,kept:=l }=bs->False)->ne Q F K (.error 10))
  (J:∀m f k a l c,fo s1.cfg.cells n.toNat r=.ok (m,f)->ei f=.ok (k,a)->eF k.toNat a=.ok (l,c)->(dF c).e=0->stB { s1 with cm:=m,kept:=l }=bs->
   ne Q F K (.ok { s1 with cm:=m,kept:=l }))
  (h:aA H (crdA rb r::A::stA A sb { s1 with cm:=[],kept:=[] }::cellsA b1 [PA sb 0] 40::cellsA b2 [aC 0] 50::cellsA b3 [PA rb 0] 388::F)) :
  ∃(u:Int->aD->Prop) (L:Int->aD->Nat),u 0 H/\
   ∀(t:Int),∀B:aD,u t B->mz.l3 ba bs.length bc K b1 b2 b3 n u L t B:=by
 refine⟨λt B=>∃(j:Nat) (m:CM) (c:RS),t=j/\(j:Int)<=n/\fo s1.cfg.cells j r=.ok (m,c)/\
  aA B (crdA rb c::A::stA A sb { s1 with cm:=m,kept:=[] }::cellsA b1 [PA sb 0] 40::cellsA b2 [aC 0] 50::cellsA b3 [PA rb 0] 388::F),
  λt _=>(n-t).toNat,⟨0,[],r,rfl,R.1,rfl,h⟩,?_⟩
 rintro t H1 ⟨j,m,c,rfl,hj,x,h⟩;have h6:=Lo h0 hb x;have s:=xC h0 hb x;unfold mz.l3;refine⟨λD=>?_,λD=>?_⟩
 .have D:=Vw D;refine⟨_,h.q 5,?_⟩;refine La h s.2 (by omega) ?_;have b:fo s1.cfg.cells (j+1) r=match jc c with
    | .error e=>.error e
    | .ok (o,r2)=>if (jZ s1.cfg.cells m o.1 o.2).2≠0 then .error (jZ s1.cfg.cells m o.1 o.2).2 else .ok ((jZ s1.cfg.cells m o.1 o.2).1,r2):=by
   rw[fo,x] <;> rfl
  cases hr:jc c with
  | error e=>
   rw[hr]at b;exact λB w h=>nf (E λm f k a l r1 d _ _ _ _=>by rw[Bt b (by omega)]at d;cases d) w i (h.o [2,3,0] 5)
  | ok q=>
  obtain⟨o,r2⟩:=q;rw[hr]at b;dsimp only at b;have P:=Br s.2 hr;intro H2 S C O h;refine⟨_,_,_,_,_,_,_,_,_,_,rfl,?_⟩;refine h.al λb7 _ h=>?_
  refine h.al λb8 _ h=>?_
  refine h.st 1 rfl rfl ?_;intro H3 h;refine h.sta 0 rfl rfl λH4 h=>?_
  have h:=h.o [4,0,1,2,3,5,6,7] 8;obtain⟨p,h⟩:=cX.1 h;refine⟨_,h.r 13,cZ ⟨_,h.r 0,_,_,h.q 10,_,_,_,_,_,_,_,_,h.rda 9 rfl,?_⟩⟩;refine R3 s.1.1 P.1 (h.o [5,6,0,1,2,3,4,7,8,11,12,13,14,15] 16) λU h=>⟨_,rfl,?_⟩
  refine j8 (λw=>⟨rfl,?_⟩) λw=>nf (E λm2 f k a l r1 d _ _ _ _=>by
   rw[Vt w]at b;rw[Bt b (by omega)]at d;cases d) w i (h.o [11,12,10] 14)
  rw[Vs (by simpa using w)]at b;have hw:i64.wrap ((j:Int)+1)=((j+1:Nat):Int):=by rw[aK];omega
  rw[hw];refine⟨⟨j+1,_,r2,rfl,by omega,b,?_⟩,by dsimp only;omega⟩;have h:=h.o [2,3,4,5,6,0,1,7,8,9,10,11,12,13] 14;have h:aA U (stA A sb { s1 with cm:=(jZ s1.cfg.cells m o.1 o.2).1,kept:=[] }::_):=cX.2 ⟨p,h⟩;exact h.o [1,2,0,3,4,5] 6
 .have h7:=Vx D;have T:j=n.toNat:=by omega
  subst T;refine⟨_,h.q 5,?_⟩;refine uq h s.2 (by omega) ?_
  cases hr:ei c with
  | error e=>
   exact λB w h=>nf (E λm2 f k a l r1 d v _ _ _=>by rw[x]at d;cases d;rw[hr]at v;cases v) w i (h.o [2,3,0] 5)
  | ok q=>
  obtain⟨k,a⟩:=q;intro H2 S C O h;have W:a.bs.length<=c.bs.length:=uJ hr;have G:0<=k/\k<18446744073709551616:=by
   rw[(ip hr).2.1];have:=wq s.2;omega
  refine⟨_,rfl,?_⟩;exact Us (s1:={ s1 with cm:=m }) i Z M G C (by omega) N (λl f d v=>y _ _ _ _ _ _ x hr d v) (λR=>E λm2 f k2 Y l r1 d v I V h5=>by
   rw[x]at d;cases d;rw[hr]at v;cases v;exact R _ _ I V h5) (λl f d v I=>J _ _ _ _ _ _ x hr d v I) h
end
theorem okR_len{α:Type}{s a:RS}{x y:α}(h:okR s x=.ok (y,a)):a.bs.length=s.bs.length:=by rw[(ip h).1]
theorem Ux{s c:RS}{x:Pv}(h:iZ s=.ok (x,c)):c.bs.length<=s.bs.length:=by
 unfold iZ at h
 cases h1:cH s with
 | error e'=>rw[h1]at h;cases h
 | ok q=>
  obtain⟨a,s1⟩:=q;rw[h1]at h;dsimp only at h
  cases h2:gj s1 with
  | error e'=>rw[h2]at h;cases h
  | ok q=>
   obtain⟨b,s2⟩:=q;rw[h2]at h;dsimp only at h;have d:=okR_len h;have f:=gl h1;have e:=uI h2;have i:=Aq s2;dsimp only at d;omega
theorem Lp{hs:HS Pv}{s c:RS}{x:HS Pv}(h:lk hs s=.ok (x,c)):c.bs.length<=s.bs.length:=by
 unfold lk at h
 (repeat' split at h) <;> first|(cases h;done)|(cases h;rename_i a b;exact VI (Ux ‹_›) (gl ‹_›))
theorem Lq{s a:RS}{x:bQ}(h:smpR s=.ok (x,a)):a.bs.length<=s.bs.length:=by
 unfold smpR at h
 (repeat' split at h) <;> first|(cases h;done)|(cases h;exact VI (gl ‹_›) (VI (gl ‹_›) (VI (gl ‹_›) (gl ‹_›))))|exact VI (gl ‹_›) (VI (gl ‹_›) (VI (gl ‹_›) (gl ‹_›)))
theorem xF:∀{n:Nat} {s a:RS} {x:List bQ},jr n s=.ok (x,a)->a.bs.length<=s.bs.length
 | 0,s,a,x,h=>by cases h;exact V2 _
 | n+1,s,a,x,h=>by
  unfold jr at h
  (repeat' split at h) <;> first|(cases h;done)|(cases h;exact VI (Lq ‹_›) (xF ‹_›))|exact VI (Lq ‹_›) (xF ‹_›)
theorem xG{hs:HS Pv}:∀{n:Nat} {s a:RS} {x:HS Pv},iG hs n s=.ok (x,a)->a.bs.length<=s.bs.length
 | 0,s,a,x,h=>by cases h;exact V2 _
 | n+1,s,a,x,h=>by
  unfold iG at h
  (repeat' split at h) <;> first|(cases h;done)|(cases h;exact VI (Lp ‹_›) (xG ‹_›))|exact VI (Lp ‹_›) (xG ‹_›)
theorem Lr{c:bD}{a b:Int}{d:Bool}{l:List bQ}{s e:RS}{x:br}(h:oD c a d b l s=.ok (x,e)):e.bs.length<=s.bs.length:=by
 unfold oD at h
 (repeat' split at h) <;> first|(cases h;done)|(cases h;exact VI (xG ‹_›) (VI (sH ‹_›) (gl ‹_›)))|exact VI (xG ‹_›) (VI (sH ‹_›) (gl ‹_›))
theorem Ls{c:bD}{a:Int}{s b:RS}{x:br}(h:nW c a s=.ok (x,b)):b.bs.length<=s.bs.length:=by
 unfold nW at h
 (repeat' split at h) <;> first|(cases h;done)|(cases h;exact VI (Lr ‹_›) (VI (xF ‹_›) (VI (sH ‹_›) (VI (gl ‹_›) (uJ ‹_›)))))|exact VI (Lr ‹_›) (VI (xF ‹_›) (VI (sH ‹_›) (VI (gl ‹_›) (uJ ‹_›))))
theorem Lt{c:bD}{s a:RS}{x:br}(h:mZ c s=.ok (x,a)):a.bs.length<=s.bs.length:=by
 unfold mZ at h
 (repeat' split at h) <;> first|(cases h;done)|(cases h;exact VI (Ls ‹_›) (uI ‹_›))|exact VI (Ls ‹_›) (uI ‹_›)
theorem Lu{c:bD}{t:Int}{s a:RS}{x:Fl×br}(h:flR c t s=.ok (x,a)):a.bs.length<=s.bs.length:=by
 unfold flR at h
 (repeat' split at h) <;> first|(cases h;done)|(cases h;exact VI (Lt ‹_›) (uJ ‹_›))|exact VI (Lt ‹_›) (uJ ‹_›)
theorem Lv{s0:aI}{a:Int}{s b:RS}{x:List En×Fl×br}(h:kJ s0 a s=.ok (x,b)):b.bs.length<=s.bs.length:=by
 unfold kJ at h
 (repeat' split at h) <;> first|(cases h;done)|(cases h;exact VI (Lu ‹_›) (VI (sJ ‹_›) (VI (gl ‹_›) (VI (gl ‹_›) (gl ‹_›)))))|exact VI (Lu ‹_›) (VI (sJ ‹_›) (VI (gl ‹_›) (VI (gl ‹_›) (gl ‹_›))))
theorem Bu{s0:aI}:∀{n:Nat} {r a:RS} {x:PAg},fm s0 n r=.ok (x,a)->a.bs.length<=r.bs.length
 | 0,s,s',x,h=>by cases h;exact V2 _
 | n+1,s,s',x,h=>by
  unfold fm at h
  (repeat' split at h) <;> first|(cases h;done)|(cases h;exact VI (Lv ‹_›) (VI (gl ‹_›) (Bu ‹_›)))|exact VI (Lv ‹_›) (VI (gl ‹_›) (Bu ‹_›))
theorem Bv{s0:aI}{s:RS}{e:Int}:∀{n j:Nat},fm s0 j s=.error e->j<=n->fm s0 n s=.error e
 | 0,j,h,hj=>by
  obtain rfl:j=0:=by omega
  exact h
 | n+1,j,h,hj=>by
  rcases VO n j with a|a
  .obtain rfl:j=n+1:=by omega
   exact h
  .unfold fm;rw[Bv h a]
section
variable {F L:List aE}{H:aD}{K KP:KE}{Q Q':aE}{sb:Nat}{s:aI}
theorem Uy{rb b1 b2 b3 b4:Nat}{s0:aI}{bs:List Int}{ba:KQ}{bc:Nat}{n b value:Int}{r:RS}{B:aE}(d:aM Q B)
  (hA:∀H,aA H F->aP H ba (bs.map U8)) (h9:ba=none\/∃k o,ba=some ⟨k,o,none⟩) (ok:cR s0) (O:s0.cm=[]) (V:s0.kept=[]) (hn:0<=n/\n<=64) (D:1<=s0.ms.lag/\s0.ms.lag<=1099511627776) (hm:isT b) (hb:aH r.bs) (hl:r.bs.length<=1000000000) (j1:aH bs)
  (L:∀x r7 m u cm i k c l f,fm s0 n.toNat r=.ok (x,r7)->(b-s0.ms.lag<=value/\value<=b)->dO 1024 r7=.ok (m,u)->fo s0.cfg.cells m.toNat u=.ok (cm,i)->ei i=.ok (k,c)->eF k.toNat c=.ok (l,f)->(dF f).e=0->
   cR { s0 with rows:=x.rows,sts:=x.sts,ms:=⟨s0.ms.lag,b,value,x.fls⟩,cm:=cm,kept:=l }/\qO { s0 with rows:=x.rows,sts:=x.sts,ms:=⟨s0.ms.lag,b,value,x.fls⟩,cm:=cm,kept:=l }/\l.length<=50000)
  (P:(∀x r7 m u cm i k c l f,fm s0 n.toNat r=.ok (x,r7)->(b-s0.ms.lag<=value/\value<=b)->dO 1024 r7=.ok (m,u)->fo s0.cfg.cells m.toNat u=.ok (cm,i)->ei i=.ok (k,c)->eF k.toNat c=.ok (l,f)->(dF f).e=0->
   stB { s0 with rows:=x.rows,sts:=x.sts,ms:=⟨s0.ms.lag,b,value,x.fls⟩,cm:=cm,kept:=l }=bs->False)->ne Q F K (.error 10))
  (W:∀x r7 m u cm i k c l f,fm s0 n.toNat r=.ok (x,r7)->(b-s0.ms.lag<=value/\value<=b)->dO 1024 r7=.ok (m,u)->fo s0.cfg.cells m.toNat u=.ok (cm,i)->ei i=.ok (k,c)->eF k.toNat c=.ok (l,f)->(dF f).e=0->
   stB { s0 with rows:=x.rows,sts:=x.sts,ms:=⟨s0.ms.lag,b,value,x.fls⟩,cm:=cm,kept:=l }=bs->
   ne Q F K (.ok { s0 with rows:=x.rows,sts:=x.sts,ms:=⟨s0.ms.lag,b,value,x.fls⟩,cm:=cm,kept:=l }))
  (h:aA H (crdA rb r::B::stA B sb s0::Ma.mapF b4 []::cellsA b1 [PA sb 0] 40::cellsA b2 [aC 0] 50::cellsA b3 [PA rb 0] 388::F)) :
  ∃(Inv:Int->aD->Prop) (mu:Int->aD->Nat),Inv 0 H/\
   ∀(t:Int),∀J:aD,Inv t J->mz.l4 ba bs.length bc K b1 b2 b3 b value b4 n Inv mu t J:=by
 refine⟨λt J=>∃(j:Nat) (x:PAg) (f:RS) (B:aE) (p:SAd),t=j/\(j:Int)<=n/\fm s0 j r=.ok (x,f)/\aH f.bs/\aM Q B/\
  aA J (crdA rb f::B::cellsA sb (dr s0 p) 145::Ro.rollC p.rb p.rm s0.cfg.agents::Ro.mapE p.rm x.rows::strmA B p.tm x.sts::Ma.markC p.mb p.mm s0.ms::Ma.mapF p.mm s0.ms.m::shC p.hb p.hm s0.cfg.cells::cz p.hm s0.cm::slA 164 74 p.ka s0.kept.length p.kc (flat cJ s0.kept)::
   Ma.mapF b4 x.fls::cellsA b1 [PA sb 0] 40::cellsA b2 [aC 0] 50::cellsA b3 [PA rb 0] 388::F),
  λt _=>(n-t).toNat,?_,?_⟩
 .have h:=h.o [2,0,1,3,4,5,6] 7;obtain⟨p,h⟩:=cX.1 h;exact⟨0,⟨s0.rows,s0.sts,[]⟩,r,B,p,rfl,hn.1,rfl,hb,d,h.o [9,10,0,1,2,7,3,4,5,6,8,11,12,13,14] 15⟩
 rintro t H1 ⟨j,x,f,B,p,rfl,hj,E,M,d,h⟩;have l5:=Bu E;have S:=Bq ok E;unfold mz.l4;refine⟨λR=>?_,λR=>?_⟩
 .have R:=Vw R;refine⟨_,h.q 14,?_⟩;refine ko h M (by omega) ?_
  cases hr:cH f with
  | error e=>
   have h0:fm s0 (j+1) r=.error e:=by
    rw[fm,E];dsimp only;rw[hr]
   exact λJ w h=>nf (P λx2 r7 m u cm i k c l r1 A _ _ _ _ _ _ _=>by rw[Bv h0 (by omega)]at A;cases A) w d (h.o [11,12,0] 14)
  | ok q=>
  obtain⟨a,r2⟩:=q;intro H2 u8 j3 j2 h;refine⟨_,rfl,_,h.q 14,_,h.r 12,?_⟩;refine Un (s:={ s0 with rows:=x.rows,sts:=x.sts }) (a:=a) ok.cfg S.rows S.len j3 j2 ?_ h;have C:fm s0 (j+1) r=match kJ { s0 with rows:=x.rows,sts:=x.sts } a r2 with
    | .error e=>.error e
    | .ok (y,r3)=>.ok (⟨y.1,x.sts.set a.toNat (some y.2.2),mset a y.2.1 x.fls⟩,r3):=by
   rw[fm,E];dsimp only;rw[hr] <;> rfl
  cases hq:kJ { s0 with rows:=x.rows,sts:=x.sts } a r2 with
  | error e=>
   rw[hq]at C;exact λQ2 J w hs h=>nf (P λx2 r7 m u cm i k c l r1 A _ _ _ _ _ _ _=>by rw[Bv C (by omega)]at A;cases A) w (d.trans hs) (h.o [7,8,0] 10)
  | ok q=>
  obtain⟨y,r3⟩:=q;rw[hq]at C;intro Q2 H3 hs U I T h;refine⟨_,_,_,_,rfl,?_⟩;refine h.mp_update (α:=Fl) (v:=y.2.1) Ma.mt45 Ma.ko2 11 rfl λH4 h=>?_
  have hw:i64.wrap ((j:Int)+1)=((j+1:Nat):Int):=by rw[aK];omega
  rw[hw];refine⟨⟨j+1,_,r3,Q2,p,rfl,by omega,C,I,d.trans hs,?_⟩,by dsimp only;omega⟩;exact h.o [1,0,2,4,5,3,6,7,8,9,10,11,12,13,14] 15
 .have l6:=Vx R;have l0:j=n.toNat:=by omega
  subst l0;refine⟨_,h.r 12,cZ ⟨_,h.r 2,?_⟩⟩
  by_cases hv:b-s0.ms.lag<=value/\value<=b
  .refine Ma.Set_spec hm D hv (λp hp=>⟨(S.fls p hp).1,(S.fls p hp).2.1⟩) (h.o [6,7,11,0,1,2,3,4,5,8,9,10,12,13,14] 15) λY H2 h=>⟨_,rfl,?_⟩
   refine j8 (λw=>⟨rfl,_,h.q 14,?_⟩) λw=>Vu rfl w
   refine ut (by decide) (h.o [3,4,5,6,7,8,0,1,9,10,11,12,13,14] 15) M (by omega) ?_
   cases hr:dO 1024 f with
   | error e=>
    exact λJ w h=>nf (P λx2 r7 m u cm i k c l r1 A _ N _ _ _ _ _=>by rw[E]at A;cases A;rw[hr]at N;cases N) w d (h.o [10,11,0] 13)
   | ok q=>
   obtain⟨m,u⟩:=q;intro H3 U I T h;have r0:=sH hr;have Z:0<=m/\m<=1024:=by rw[(ip hr).2.1];exact AR M (by decide)
   refine⟨_,rfl,?_⟩;have h:=h.o [2,3,4,6,7,8,9,5,10,0,1,11,12,13] 14;have h:aA H3 (stA B sb { s0 with rows:=x.rows,sts:=x.sts,ms:=⟨s0.ms.lag,b,value,x.fls⟩,cm:=s0.cm,kept:=s0.kept }::_):=cX.2 ⟨{ p with mm:=Y },h⟩;rw[O,V]at h;exact Uw (s1:={ s0 with rows:=x.rows,sts:=x.sts,ms:=⟨s0.ms.lag,b,value,x.fls⟩ }) d hA h9 Z (by have:=ok.sh;rwa[O]at this) I (by omega) j1
    (λcm i k c l G=>L x f m u cm i k c l G E hv hr) (λhn=>P λx2 r7 m u cm i k c l r1 A _ N h4 h5 h6 h7 h8=>by
     rw[E]at A;cases A;rw[hr]at N;cases N;exact hn _ _ _ _ _ _ h4 h5 h6 h7 h8) (λcm i k c l G=>W x f m u cm i k c l G E hv hr) (h.o [1,2,0,3,4,5] 6)
  .refine MSet_err hm D hv (h.o [6,0,1,2,3,4,5,7,8,9,10,11,12,13,14] 15) ⟨_,rfl,?_⟩;refine j8 (λw=>Vu w (by decide)) λw=>nf (P λx2 r7 m u cm i k c l r1 A h2 _ _ _ _ _ _=>hv h2) w d (h.o [12,13,1] 15)
end
theorem Bw{s a:RS}{x:Int}(hb:aH s.bs)(h:ei s=.ok (x,a)):aH a.bs:=by rw[(ip h).1];exact gK hb
theorem lm{s a:RS}{x:Int}(hb:aH s.bs)(h:cH s=.ok (x,a)):aH a.bs:=by rw[(ip h).1];exact gK hb
theorem Bx{s a:RS}{x:Int}(hb:aH s.bs)(h:gj s=.ok (x,a)):aH a.bs:=by rw[(ip h).1];exact gK hb
theorem xH{s a:RS}{m x:Int}(hb:aH s.bs)(h:dO m s=.ok (x,a)):aH a.bs:=by rw[(ip h).1];exact rQ hb
theorem uK{s b:RS}{m x:Int}(hb:aH s.bs)(h:upR m s=.ok (x,b)):aH b.bs:=by
 unfold upR at h
 cases h1:cH s with
 | error e=>rw[h1]at h;cases h
 | ok q=>
  obtain⟨a,s1⟩:=q;rw[h1]at h;dsimp only at h
  split at h
  .cases h;exact lm hb h1
  .cases h
theorem Uz{s c:RS}{x:Pv}(hb:aH s.bs)(h:iZ s=.ok (x,c)):aH c.bs:=by
 unfold iZ at h
 cases h1:cH s with
 | error e'=>rw[h1]at h;cases h
 | ok q=>
  obtain⟨a,s1⟩:=q;rw[h1]at h;dsimp only at h
  cases h2:gj s1 with
  | error e'=>rw[h2]at h;cases h
  | ok q=>
   obtain⟨b,s2⟩:=q;rw[h2]at h;dsimp only at h;rw[(ip h).1];exact Ap (Bx (lm hb h1) h2)
theorem waitR_by{hs:HS Pv}{s a:RS}{x:HS Pv}(hb:aH s.bs)(h:lk hs s=.ok (x,a)):aH a.bs:=by
 unfold lk at h
 (repeat' split at h) <;> first|(cases h;done)|(cases h;exact Uz (lm hb ‹_›) ‹_›)
theorem smpR_by{s a:RS}{x:bQ}(hb:aH s.bs)(h:smpR s=.ok (x,a)):aH a.bs:=by
 unfold smpR at h
 (repeat' split at h) <;> first|(cases h;done)|(cases h;exact lm (lm (lm (lm hb ‹_›) ‹_›) ‹_›) ‹_›)
theorem Lw:∀{n:Nat} {s a:RS} {x:List bQ},aH s.bs->jr n s=.ok (x,a)->aH a.bs
 | 0,s,a,x,hb,h=>by cases h;exact hb
 | n+1,s,a,x,hb,h=>by
  unfold jr at h
  (repeat' split at h) <;> first|(cases h;done)|(cases h;exact smpR_by (Lw hb ‹_›) ‹_›)
theorem Lx{hs:HS Pv}:∀{n:Nat} {s a:RS} {x:HS Pv},aH s.bs->iG hs n s=.ok (x,a)->aH a.bs
 | 0,s,a,x,hb,h=>by cases h;exact hb
 | n+1,s,a,x,hb,h=>by
  unfold iG at h
  (repeat' split at h) <;> first|(cases h;done)|exact waitR_by (Lx hb ‹_›) h
theorem strR3_by{c:bD}{a b:Int}{d:Bool}{l:List bQ}{s e:RS}{x:br}(hb:aH s.bs)(h:oD c a d b l s=.ok (x,e)):aH e.bs:=by
 unfold oD at h
 (repeat' split at h) <;> first|(cases h;done)|(cases h;exact Lx (xH (lm hb ‹_›) ‹_›) ‹_›)
theorem strR2_by{c:bD}{a:Int}{s b:RS}{x:br}(hb:aH s.bs)(h:nW c a s=.ok (x,b)):aH b.bs:=by
 unfold nW at h
 (repeat' split at h) <;> first|(cases h;done)|exact strR3_by (Lw (xH (lm (Bw hb ‹_›) ‹_›) ‹_›) ‹_›) h
theorem strR_by{c:bD}{s a:RS}{x:br}(hb:aH s.bs)(h:mZ c s=.ok (x,a)):aH a.bs:=by
 unfold mZ at h
 (repeat' split at h) <;> first|(cases h;done)|exact strR2_by (Bx hb ‹_›) h
theorem flR_by{c:bD}{t:Int}{s a:RS}{x:Fl×br}(hb:aH s.bs)(h:flR c t s=.ok (x,a)):aH a.bs:=by
 unfold flR at h
 (repeat' split at h) <;> first|(cases h;done)|(cases h;exact strR_by (Bw hb ‹_›) ‹_›)
theorem agtR_by{s0:aI}{a:Int}{s b:RS}{x:List En×Fl×br}(hb:aH s.bs)(h:kJ s0 a s=.ok (x,b)):aH b.bs:=by
 unfold kJ at h
 (repeat' split at h) <;> first|(cases h;done)|(cases h;exact flR_by (uK (lm (lm (lm hb ‹_›) ‹_›) ‹_›) ‹_›) ‹_›)
theorem Ly{s0:aI}:∀{n:Nat} {r a:RS} {x:PAg},aH r.bs->fm s0 n r=.ok (x,a)->aH a.bs
 | 0,s,s',x,hb,h=>by cases h;exact hb
 | n+1,s,s',x,hb,h=>by
  unfold fm at h
  (repeat' split at h) <;> first|(cases h;done)|(cases h;exact agtR_by (lm (Ly hb ‹_›) ‹_›) ‹_›)
theorem U0{c:bD}{bs:List Int}{s:aI}(hb:aH bs)(a:jC c)(h:kK c bs=.ok s):cR s:=by
 unfold kK at h
 cases h1:upR 4611686018427387903 ⟨0,bs⟩ with
 | error e=>rw[h1]at h;cases h
 | ok q=>
 obtain⟨now,r1⟩:=q;have b1:=uK hb h1;rw[h1]at h;dsimp only at h
 cases h2:upR 1099511627776 r1 with
 | error e=>rw[h2]at h;cases h
 | ok q=>
 obtain⟨boots,r2⟩:=q;have b2:=uK b1 h2;rw[h2]at h;dsimp only at h
 cases h3:upR 1099511627776 r2 with
 | error e=>rw[h3]at h;cases h
 | ok q=>
 obtain⟨sunk,r3⟩:=q;have b3:=uK b2 h3;rw[h3]at h;dsimp only at h
 cases h4:upR now r3 with
 | error e=>rw[h4]at h;cases h
 | ok q=>
 obtain⟨b,r4⟩:=q;have b4:=uK b3 h4;rw[h4]at h;dsimp only at h
 cases h5:gj r4 with
 | error e=>rw[h5]at h;cases h
 | ok q=>
 obtain⟨value,r5⟩:=q;have b5:=Bx b4 h5;rw[h5]at h;dsimp only at h
 cases h6:dO 64 r5 with
 | error e=>rw[h6]at h;cases h
 | ok q=>
 obtain⟨n,r6⟩:=q;have b6:=xH b5 h6;rw[h6]at h;dsimp only at h;have i1:=oE h1;have i2:=oE h2;have i3:=oE h3;have i4:=oE h4;have ok0:cR { bU c with now:=now,boots:=boots,sunk:=sunk }:=(qM a).upd (now:=now) (ms:=(bU c).ms) (cm:=(bU c).cm) (kept:=(bU c).kept) (sunk:=sunk) (boots:=boots) i1 (qM a).ms rfl (qM a).sh (qM a).kept i3.1 i2
 cases h7:fm { bU c with now:=now,boots:=boots,sunk:=sunk } n.toNat r6 with
 | error e=>rw[h7]at h;cases h
 | ok q=>
 obtain⟨x,r7⟩:=q;have b7:=Ly b6 h7;have d:=Bq ok0 h7;rw[h7]at h;dsimp only at h
 split at h
 .cases h
 rename_i t;have t:=Decidable.not_not.1 t
 cases h8:dO 1024 r7 with
 | error e=>rw[h8]at h;cases h
 | ok q=>
 obtain⟨m,A⟩:=q;have b8:=xH b7 h8;rw[h8]at h;dsimp only at h
 cases h9:fo c.cells m.toNat A with
 | error e=>rw[h9]at h;cases h
 | ok q=>
 obtain⟨cm,w⟩:=q;have g9:=xC (qM a).sh b8 h9;rw[h9]at h;dsimp only at h
 cases h10:ei w with
 | error e=>rw[h10]at h;cases h
 | ok q=>
 obtain⟨k,j⟩:=q;have f:=Bw g9.2 h10;rw[h10]at h;dsimp only at h
 cases h11:eF k.toNat j with
 | error e=>rw[h11]at h;cases h
 | ok q=>
 obtain⟨kept,y⟩:=q;have i:=xD f h11;rw[h11]at h;dsimp only at h
 split at h
 .cases h
 cases h
 have v:=a.lag;have hm:isT b:=⟨i4.1,by show b<=_;omega⟩;exact⟨a,i1,i2,i3.1,d.rows,⟨v.1,v.2,hm,by show -c.lag<=value;omega,by show value<=_;omega,d.nd,λp u=>⟨(d.fls p u).1,(d.fls p u).2.1⟩⟩,rfl,g9.1.sh,d.len,d.sts,d.reg,i.1⟩
section
variable {F L:List aE}{H:aD}{K KP:KE}{Q Q':aE}{sb:Nat}{s:aI}
theorem U1{c:bD}{bs:List Int}{ba:KQ}{bc:Nat}(h:aA H (Q::F))
  (W:∀H,aA H F->aP H ba (bs.map U8)) (R:ba=none\/∃k o,ba=some ⟨k,o,none⟩) (D:aH bs) (hl:bs.length<=1000000000)
  (G:fD c=true->∀s,kK c bs=.ok s->qO s/\s.kept.length<=50000)
  (k1:fD c=false->∀C,aA C (Q::F)->K (.tuple #[.pointer none,aC 11]) C)
  (k2:fD c=true->∀e,pH c bs=.error e->ne Q F K (.error 10))
  (k3:fD c=true->∀s,pH c bs=.ok s->ne Q F K (.ok s)) :
  CF 103 #[.agg ⟨oz c⟩,.slice ba bs.length bc] H K:=by
 refine OH ?_;refine h.al λb0 _ h=>?_
 refine h.al λb1 _ h=>?_
 refine h.al λb2 _ h=>?_
 refine⟨_,_,_,_,_,_,_,_,_,h.q 2,?_⟩;refine Ku (Q:=Q) (c:=c) h (λB H1 h=>?_) λB sb H1 h=>?_
 .refine⟨_,_,rfl,?_⟩;refine h.st 1 rfl rfl ?_;intro H2 h;refine h.st 0 rfl rfl ?_;intro H3 h;refine⟨_,h.r 0,λ_=>?_,λN=>Vu N (by simp)⟩
  refine⟨_,h.r 0,?_⟩;refine h.st 1 rfl rfl ?_;intro H4 h;refine⟨h.r 0,?_⟩;refine h.st 0 rfl rfl ?_;intro Z h;exact⟨_,h.r 1,_,h.r 0,k1 B _ (h.o [3] 4)⟩
 have E:=uA B;have ok0:=qM E;refine⟨_,_,rfl,?_⟩;refine h.st 2 rfl rfl ?_;intro H2 h;refine h.st 1 rfl rfl ?_;intro H3 h;refine⟨_,h.r 1,λN=>Vu N (by simp),λ_=>?_⟩
 refine rN h (λH h=>W H (h.o [] 5)) (by omega) λrb H4 h=>⟨_,rfl,?_⟩
 refine h.al λb3 _ h=>?_
 refine h.st 0 rfl rfl ?_;intro Z h;refine⟨_,h.r 4,_,h.r 4,_,h.r 4,_,h.q 0,_,h.q 0,_,h.q 0,?_⟩;have h:=h.o [1,0,2,3,4,6] 7;have f:=λe (u:kK c bs=.error e)=>k2 B 10 (by unfold pH;rw[Vs (by simp[B]),u])
 have pan:∀{e:Int} {H:aD} {sv:aI} {b1 b2 b3 rb:Nat} {v1:Int} {v:KQ},ne Q F K (.error 10)->e≠0->aA H (cellsA b3 [PA rb 0] 388::stA Q sb sv::cellsA b2 [aC v1] 50::cellsA b1 [.pointer v] 40::Q::F)->
   bJ 196 X.calls=true/\cC Tryz.prog 196 [(PA b1 0),(PA b2 0)] (bi (pnV e) false) H λP y=>P=bi (pnV e) true/\
   ∃A,aL y b1 0=some (.pointer A)/\∃w,aL y b2 0=some (aC w)/\K (.tuple #[(.pointer A),(aC w)]) y:=
  λU u h=>nf U u (aM.refl Q) (h.o [3,2,4] 5)
 unfold kK at f;refine sq h D (by show bs.length<=_;omega) ?_
 cases h1:upR 4611686018427387903 ⟨0,bs⟩ with
 | error e=>rw[h1]at f;exact λC u h=>pan (f _ rfl) u h
 | ok q=>
 obtain⟨now,r1⟩:=q;rw[h1]at f;dsimp only at f;intro H6 e1 V l1 h;refine⟨_,rfl,h.q 1,h.q 1,h.r 4,h.r 4,h.r 4,?_⟩;refine sq h V l1 ?_
 cases h2:upR 1099511627776 r1 with
 | error e=>rw[h2]at f;exact λC u h=>pan (f _ rfl) u h
 | ok q=>
 obtain⟨boots,r2⟩:=q;rw[h2]at f;dsimp only at f;intro H7 e2 S l2 h;refine⟨_,rfl,h.q 1,h.r 4,h.r 4,h.r 4,?_⟩;refine sq h S l2 ?_
 cases h3:upR 1099511627776 r2 with
 | error e=>rw[h3]at f;exact λC u h=>pan (f _ rfl) u h
 | ok q=>
 obtain⟨sunk,r3⟩:=q;rw[h3]at f;dsimp only at f;intro H8 e3 T l3 h;have i1:=oE h1;have i2:=oE h2;have i3:=oE h3;have okN:cR { bU c with now:=now,boots:=boots,sunk:=sunk }:=ok0.upd (now:=now) (ms:=(bU c).ms) (cm:=(bU c).cm) (kept:=(bU c).kept) (sunk:=sunk) (boots:=boots) i1 ok0.ms rfl ok0.sh ok0.kept i3.1 i2;refine⟨_,rfl,h.r 4,h.r 4,h.r 4,cZ ?_⟩;have h:=h.o [2,0,1,3,4,5] 6;obtain⟨p,h⟩:=cX.1 h;refine h.st 0 rfl rfl ?_;intro H9 h;refine⟨h.r 12,h.r 12,cZ ?_⟩;refine h.st 0 rfl rfl ?_;intro h7 h;refine⟨h.r 12,cZ ?_⟩;refine h.st 0 rfl rfl ?_;intro M h;refine⟨_,h.q 10,_,h.r 12,cZ ⟨_,h.r 0,_,h.q 10,?_⟩⟩;have h:aA M (stA Q sb { bU c with now:=now,boots:=boots,sunk:=sunk }::_):=cX.2 ⟨p,h⟩;have h:=h.o [1,2,0,3,4,5] 6;refine sq h T l3 ?_
 cases h4:upR now r3 with
 | error e=>rw[h4]at f;exact λC u h=>pan (f _ rfl) u h
 | ok q=>
 obtain⟨b,r4⟩:=q;rw[h4]at f;dsimp only at f;intro h9 e4 L l4 h;refine⟨_,rfl,h.q 1,?_⟩;refine ur h L l4 ?_
 cases h5:gj r4 with
 | error e=>rw[h5]at f;exact λC u h=>pan (f _ rfl) u h
 | ok q=>
 obtain⟨value,r5⟩:=q;rw[h5]at f;dsimp only at f;intro h8 e5 J l5 h;refine⟨_,rfl,?_⟩;refine h.alm aC mO λb4 _ h=>?_
 refine⟨_,h.q 2,?_⟩;have h:=h.o [1,2,3,4,5,6,0] 7;refine ut (by decide) h J l5 ?_
 cases h6:dO 64 r5 with
 | error e=>rw[h6]at f;exact λC u h=>pan (f _ rfl) u (h.o [0,1,2,3,4] 6)
 | ok q=>
 obtain⟨n,r6⟩:=q;rw[h6]at f;dsimp only at f;intro h0 e6 O l6 h;have i4:=oE h4;have I:0<=n/\n<=64:=by rw[(ip h6).2.1];exact AR J (by decide)
 have t1:=sJ h1;have t2:=sJ h2;have t3:=sJ h3;have t4:=sJ h4;have t5:=uI h5;have t6:=sH h6;dsimp only at t1;refine⟨_,rfl,?_⟩;have Y:∀x r7 m j cm i k d l t,fm { bU c with now:=now,boots:=boots,sunk:=sunk } n.toNat r6=.ok (x,r7)->(b-c.lag<=value/\value<=b)->dO 1024 r7=.ok (m,j)->fo c.cells m.toNat j=.ok (cm,i)->ei i=.ok (k,d)->eF k.toNat d=.ok (l,t)->(dF t).e=0->
   kK c bs=.ok ⟨c,now,boots,sunk,x.rows,⟨c.lag,b,value,x.fls⟩,cm,x.sts,l⟩:=by
  intro x r7 m j cm i k d l t a1 a2 a3 a4 a5 a6 a7;unfold kK;rw[h1];dsimp only;rw[h2];dsimp only;rw[h3];dsimp only;rw[h4];dsimp only;rw[h5];dsimp only;rw[h6];dsimp only;rw[a1];dsimp only;rw[Vs (λI=>I a2),a3];dsimp only
  rw[a4];dsimp only;rw[a5];dsimp only;rw[a6];dsimp only;rw[Vs (λI=>I a7)]
 have P2:∀s,kK c bs=.ok s->∃x r7 m j cm i k d l t,fm { bU c with now:=now,boots:=boots,sunk:=sunk } n.toNat r6=.ok (x,r7)/\(b-c.lag<=value/\value<=b)/\dO 1024 r7=.ok (m,j)/\fo c.cells m.toNat j=.ok (cm,i)/\ei i=.ok (k,d)/\eF k.toNat d=.ok (l,t)/\(dF t).e=0/\
   s=⟨c,now,boots,sunk,x.rows,⟨c.lag,b,value,x.fls⟩,cm,x.sts,l⟩:=by
  intro s a;unfold kK at a;rw[h1]at a;dsimp only at a;rw[h2]at a;dsimp only at a;rw[h3]at a;dsimp only at a;rw[h4]at a;dsimp only at a;rw[h5]at a;dsimp only at a;rw[h6]at a;dsimp only at a
  cases a1:fm { bU c with now:=now,boots:=boots,sunk:=sunk } n.toNat r6 with
  | error e=>rw[a1]at a;cases a
  | ok q=>
  obtain⟨x,r7⟩:=q;rw[a1]at a;dsimp only at a
  split at a
  .cases a
  rename_i a2;have a2:=Decidable.not_not.1 a2
  cases a3:dO 1024 r7 with
  | error e=>rw[a3]at a;cases a
  | ok q=>
  obtain⟨m,j⟩:=q;rw[a3]at a;dsimp only at a
  cases a4:fo c.cells m.toNat j with
  | error e=>rw[a4]at a;cases a
  | ok q=>
  obtain⟨cm,i⟩:=q;rw[a4]at a;dsimp only at a
  cases a5:ei i with
  | error e=>rw[a5]at a;cases a
  | ok q=>
  obtain⟨k,d⟩:=q;rw[a5]at a;dsimp only at a
  cases a6:eF k.toNat d with
  | error e=>rw[a6]at a;cases a
  | ok q=>
  obtain⟨l,t⟩:=q;rw[a6]at a;dsimp only at a
  split at a
  .cases a
  rename_i a7
  cases a
  exact⟨x,r7,m,j,cm,i,k,d,l,t,rfl,a2,a3,a4,a5,a6,Decidable.not_not.1 a7,rfl⟩
 have U:(∀x r7 m j cm i k d l t,fm { bU c with now:=now,boots:=boots,sunk:=sunk } n.toNat r6=.ok (x,r7)->(b-c.lag<=value/\value<=b)->dO 1024 r7=.ok (m,j)->fo c.cells m.toNat j=.ok (cm,i)->ei i=.ok (k,d)->eF k.toNat d=.ok (l,t)->(dF t).e=0->
   stB ⟨c,now,boots,sunk,x.rows,⟨c.lag,b,value,x.fls⟩,cm,x.sts,l⟩=bs->False)->ne Q F K (.error 10):=by
  intro I
  cases a:pH c bs with
  | error e=>exact k2 B e a
  | ok s=>
   exfalso;unfold pH at a;rw[Vs (by simp[B])]at a
   cases hq:kK c bs with
   | error e=>rw[hq]at a;cases a
   | ok s1=>
   rw[hq]at a;dsimp only at a
   split at a
   .rename_i u
    cases a
    obtain⟨x,r7,m,j,cm,i,k,d,l,t,a1,a2,a3,a4,a5,a6,a7,rfl⟩:=P2 _ hq;exact I x r7 m j cm i k d l t a1 a2 a3 a4 a5 a6 a7 u
   .cases a
 refine Uy (s0:={ bU c with now:=now,boots:=boots,sunk:=sunk }) (aM.refl Q) W R okN rfl rfl I E.lag ⟨i4.1,by omega⟩ O (by omega) D ?_ U ?_ (h.o [0,5,2,6,4,3,1] 7)
 .intro x r7 m j cm i k d l t a1 a2 a3 a4 a5 a6 a7;have:=Y x r7 m j cm i k d l t a1 a2 a3 a4 a5 a6 a7;exact⟨U0 D E this,G B _ this⟩
 .intro x r7 m j cm i k d l t a1 a2 a3 a4 a5 a6 a7 a8;have:=Y x r7 m j cm i k d l t a1 a2 a3 a4 a5 a6 a7;refine k3 B _ ?_;unfold pH;rw[Vs (by simp[B]),this];dsimp only;exact Vt a8
end
theorem Lz{e:Pv}(h:gS e=true):(0<=e.stamp/\e.stamp<=4611686018427387903)/\fx e.name e.labs=true:=by
 unfold gS at h;simp only[Vz,Vy]at h;exact h
theorem L2{e:Pv}(h:gS e=true)(b:aF e.value)(r:List Int):iZ ⟨0,evB e++r⟩=.ok (e,⟨0,r⟩):=by
 obtain⟨c,a⟩:=Lz h;have e1:evB e++r=aO [e.stamp]++(cY [e.value]++(iX e.name e.labs++r)):=by unfold evB;simp
 unfold iZ;rw[e1,kI (by unfold aF;omega)];dsimp only;rw[uE b];dsimp only;rw[Ue a];rfl
theorem smpR_enc{x:bQ}(h:x.ok)(r:List Int):smpR ⟨0,smB x++r⟩=.ok (x,⟨0,r⟩):=by
 have a:=h.wf;unfold bQ.wf at a;have e1:smB x++r=aO [x.asked]++(aO [x.got]++(aO [x.sent]++(aO [x.came]++r))):=by simp[smB,aO]
 unfold smpR;rw[e1,kI a.1];dsimp only;rw[kI a.2.1];dsimp only;rw[kI a.2.2.1];dsimp only;rw[kI a.2.2.2]
theorem L3{l:List bQ}(h:∀x∈l,x.ok)(r:List Int):∀j,j<=l.length->jr j ⟨0,l.flatMap smB++r⟩=.ok (l.take j,⟨0,(l.drop j).flatMap smB++r⟩)
 | 0,_=>rfl
 | j+1,hj=>by
  have a:j<l.length:=by omega
  unfold jr;rw[L3 h r j (by omega)];dsimp only;rw[Wm a,VU,V5,smpR_enc (h _ (V7 a))];dsimp only;rw[W4,List.getElem?_eq_getElem a];rfl
theorem L4{α:Type}{n:Int}{v:α}:∀{l:cy α},(∀p∈l,p.1<n)->ins n v l=l++[(n,v)]
 | [],_=>rfl
 | (a,b)::r,h=>by
  have c:=h _ (VA ..);dsimp only at c;unfold ins;rw[nO,L4 λp d=>h p (VD _ d)];rfl
theorem pop_none{α:Type}{next:Int}:∀{l:cy α},(∀p∈l,next+1<=p.1)->pop next l=([],next,l)
 | [],_=>rfl
 | (n,v)::r,h=>by
  have a:=h _ (VA ..);dsimp only at a;unfold pop;rw[nO]
theorem U2{next most n:Int}{l:cy Pv}{e:Pv}(h0:0<=next)(hb:∀p∈l,next+1<=p.1/\p.1<n)(j:next+1<=n)(hm:n<next+most)(h:n<1099511627776)(c:gS e=true)(i:aF e.value)(r:List Int) :
  lk ⟨next,most,l⟩ ⟨0,rwB (n,e)++r⟩=.ok (⟨next,most,l++[(n,e)]⟩,⟨0,r⟩):=by
 have e1:rwB (n,e)++r=aO [n]++(evB e++r):=by simp[rwB]
 have b:aJ n l=none:=fu.2 λk=>by
  obtain⟨p,a,c⟩:=V3.1 k;have:=hb p a;omega
 have f:(⟨next,most,l⟩:HS Pv).offer n [e]=(⟨next,most,l++[(n,e)]⟩,[],0):=by
  unfold HS.offer;rw[nO];have e2:fj next most n [e] (l,0)=(l++[(n,e)],0):=by
   show eA next most n e (l,0)=_;unfold eA;dsimp only;rw[b,Vs (by simp;omega),nO,L4 λp a=>(hb p a).2]
  have e3:pop next (l++[(n,e)])=([],next,l++[(n,e)]):=pop_none λp a=>by
   rcases VK.1 a with a|a
   .exact (hb p a).1
   .rw [V6]at a;subst a;exact j
  dsimp only;rw[e2];dsimp only;rw[e3]
 unfold lk;rw[e1,kI (by unfold aF;omega)];dsimp only;rw[L2 c i];dsimp only;have d:gT n [e]=true:=by
  unfold gT;simp[c];omega
 rw[d,Vs (by simp),f,Vs (by simp)]
theorem L5{next most:Int}{l:cy Pv}(h0:0<=next)(f:jM (next+1) next most l)(h:∀p∈l,p.1<1099511627776/\gS p.2=true/\aF p.2.value)(r:List Int):∀j,j<=l.length->
  iG ⟨next,most,[]⟩ j ⟨0,l.flatMap rwB++r⟩=.ok (⟨next,most,l.take j⟩,⟨0,(l.drop j).flatMap rwB++r⟩)
 | 0,_=>rfl
 | j+1,hj=>by
  have b:j<l.length:=by omega
  unfold iG;rw[L5 h0 f h r j (by omega)];dsimp only;have hm:=V7 b;have hi:=f.inb _ hm;have d:=h _ hm;rw[Wm b,VU,V5];have a:∀p∈l.take j,p.1<l[j].1:=by
   intro p c;obtain⟨q,i,rfl⟩:=Wn c;rw[VM]at i;rw[List.getElem_take];exact Yl.1 f.rising q j (by omega) b (by omega)
  have:=U2 (next:=next) (most:=most) (n:=l[j].1) (l:=l.take j) (e:=l[j].2) h0 (λp c=>⟨(f.inb p (Wo c)).1,a p c⟩) hi.1 hi.2 d.1 d.2.1 d.2.2 ((l.drop (j+1)).flatMap rwB++r)
  rw[W4,List.getElem?_eq_getElem b];exact this
theorem flN1(b:Bool):flN [b] 1=if b then 1 else 0:=by cases b <;> rfl
def sK(st:br):List Int:=((aO [flN [st.ck.held] 1,st.ck.streak,(st.ck.smps.length:Int)]++st.ck.smps.flatMap smB)++aO [st.hs.next,(st.hs.rows.length:Int)])++st.hs.rows.flatMap rwB
theorem strR_enc{c:bD}{st:br}(ok:lR c st)(r:List Int):mZ c ⟨0,cY [st.last]++(sK st++r)⟩=.ok (st,⟨0,r⟩):=by
 have n:=ok.last;have b:=ok.ck;have f:st.ck.smps.length<=8:=b.len;have e:=b.st;have d:=ok.hs.next0;have m:=ok.next;have j:=ok.hs.most2;have i:=ok.hs.rows.length;have e1:sK st++r=aO [flN [st.ck.held] 1]++(aO [st.ck.streak]++(aO [((st.ck.smps.length:Nat):Int)]++(st.ck.smps.flatMap smB++(aO [st.hs.next]++(aO [((st.hs.rows.length:Nat):Int)]++(st.hs.rows.flatMap rwB++r)))))):=by
  unfold sK;rw[mY (flN [st.ck.held] 1),mY st.ck.streak,mY st.hs.next];simp only[V5]
 unfold mZ;rw[uE (by unfold aF;omega)];dsimp only;rw[Vs (by simp[inM];omega),e1];unfold nW;have h:=xy [st.ck.held] 1 (by decide);rw[uD h.1 (by have:=h.2;omega)];dsimp only;rw[kI (by unfold aF;omega)];dsimp only;rw[uF (by omega) (by omega)];dsimp only;rw[V4,L3 b.ok _ _ (V2 _),VW,Wu];dsimp only;unfold oD;rw[Vs (λk=>k ⟨f,e.1,b.ok⟩)]
 have e2:([]:List bQ).flatMap smB++(aO [st.hs.next]++(aO [((st.hs.rows.length:Nat):Int)]++(st.hs.rows.flatMap rwB++r)))=aO [st.hs.next]++(aO [((st.hs.rows.length:Nat):Int)]++(st.hs.rows.flatMap rwB++r)):=rfl;rw[e2,kI (by unfold aF;omega)];dsimp only;rw[nO,uF (by omega) (by omega)];dsimp only;have a:=ok.hs.rows;rw[ok.most]at a;rw[V4,L5 d a ok.rows _ _ (V2 _),VW,Wu];dsimp only;have e3:decide (flN [st.ck.held] 1=1)=st.ck.held:=by rw[flN1];cases st.ck.held <;> rfl
 rw[e3,<-ok.rho,<-ok.least,<-ok.most];rfl
theorem bits3(a b c:Bool):bitF (flN [a,b,c] 3) 1=a/\bitF (flN [a,b,c] 3) 2=b/\bitF (flN [a,b,c] 3) 4=c:=by
 cases a <;> cases b <;> cases c <;> decide
theorem flR_enc{c:bD}{fl:Fl}{st:br}(ok:lR c st)(r:List Int):flR c fl.t ⟨0,aO [flN [fl.out,fl.was,fl.held] 3]++(cY [st.last]++(sK st++r))⟩=.ok ((fl,st),⟨0,r⟩):=by
 have a:=xy [fl.out,fl.was,fl.held] 3 (by decide);unfold flR;rw[uD a.1 (by have:=a.2;omega)];dsimp only;rw[strR_enc ok];dsimp only;obtain⟨b1,b2,b3⟩:=bits3 fl.out fl.was fl.held;rw[b1,b2,b3]
theorem agtR_enc{s0:aI}{a:Int}{e:En}{fl:Fl}{st:br}(ok:lR s0.cfg st)(c:aF e.epoch/\aF e.boot/\aF e.time)(hs:gC s0.cfg.agents s0.rows a e=(s0.rows.set a.toNat e,0))(d:0<=fl.t/\fl.t<=s0.now)(b:aF fl.t)(r:List Int) :
  ∃rest,agB a e fl st++r=aO [a]++rest/\kJ s0 a ⟨0,rest⟩=.ok ((s0.rows.set a.toNat e,fl,st),⟨0,r⟩):=by
 refine⟨aO [e.epoch]++(aO [e.boot]++(aO [e.time]++(aO [fl.t]++(aO [flN [fl.out,fl.was,fl.held] 3]++(cY [st.last]++(sK st++r)))))),?_,?_⟩
 .unfold agB agB1 sK;rw[mY a,mY e.epoch,mY e.boot,mY e.time,mY fl.t];simp only[V5]
 .unfold kJ;rw[kI c.1];dsimp only;rw[kI c.2.1];dsimp only;rw[kI c.2.2];dsimp only;have e1:(⟨e.epoch,e.boot,e.time⟩:En)=e:=rfl;rw[e1,hs,Vs (by simp),uG d b];dsimp only;rw[flR_enc ok]
structure nh(o:Ot):Prop where
 wc:WC o.2
 rt:ge o.2=true
 ch:CH o.2
 win:0<=o.1.win/\o.1.win<=4611686018427387903
 ser:(im o.1.ser).2.2=true
 size:o.1.ser.size<=5000
theorem L6{o:Ot}(h:nh o)(r:List Int):jc ⟨0,ceB o++r⟩=.ok (o,⟨0,r⟩):=by
 have j:=um h.wc;have b:(bF (dm o.2)).size=(dm o.2).length:=nQ _;have hs:=h.size;have e1:ceB o++r=cY [o.1.win]++(dd o.1.ser++(dd (bF (dm o.2))++r)):=by
  show cbB o.1 o.2++r=_;unfold cbB;simp[dC]
 have a:fi (bF (dm o.2))=dm o.2:=by
  unfold fi;rw[show (bF (dm o.2)).data.toList=(dm o.2).map λn=>UInt8.ofNat n.toNat from strOfNums_data _,Wh]
  apply Wx (by simp);intro i f c;simp only[Wp,Function.comp];exact qr (Sk o.2) i c
 have t1:∀x:Fa,∀r:List Int,x.size<18446744073709551616->aZ (dd x++r).length ⟨0,dd x++r⟩=(fi x,⟨0,r⟩):=λx r d=>by
  refine uH ?_ d r;unfold dd;simp only[Vv];have:=tC x;omega
 unfold jc;have e:=h.win;rw[e1,uE (by unfold aF;omega)];dsimp only;rw[t1 _ _ (by omega)];dsimp only;rw[t1 _ _ (by omega)];dsimp only;rw[Vs (by simp),xw,h.ser,Vs (by simp[inM];omega),a,Uv h.wc h.rt h.ch];dsimp only;rw[Vs (by simp)]
theorem L7{l:List Ot}(h:∀o∈l,nh o)(r:List Int):∀j,j<=l.length->eF j ⟨0,l.flatMap ceB++r⟩=.ok (l.take j,⟨0,(l.drop j).flatMap ceB++r⟩)
 | 0,_=>rfl
 | j+1,hj=>by
  have a:j<l.length:=by omega
  unfold eF;rw[L7 h r j (by omega)];dsimp only;rw[Wm a,VU,V5,L6 (h _ (V7 a))];dsimp only;rw[W4,List.getElem?_eq_getElem a];rfl
theorem L8{κ α:Type}[DecidableEq κ]{k:κ}{v:α}{m:List (κ×α)}(h:aJ k m=none):mset k v m=(k,v)::m:=by
 unfold mset;rw[kO h]
theorem L9{most:Int}{l:List Ot}(f:(aG l).Nodup)(h:∀o∈l,nh o)(hm:(l.length:Int)<=most)(r:List Int):∀j,j<=l.length->fo most j ⟨0,l.flatMap ceB++r⟩=.ok ((l.take j).reverse,⟨0,(l.drop j).flatMap ceB++r⟩)
 | 0,_=>rfl
 | j+1,hj=>by
  have c:j<l.length:=by omega
  have b:=V7 c;have a:aJ l[j].1 (l.take j).reverse=none:=fu.2 λk=>by
   obtain⟨p,i,d⟩:=V3.1 k;rw[List.mem_reverse]at i;obtain⟨q,m,rfl⟩:=Wn i;rw[VM]at m;rw[List.getElem_take]at d;have e:=Yl.1 f q j (by simp[aG];omega) (by simp[aG];omega) (by omega);simp only[aG,Wp]at e;exact e d
  unfold fo;rw[L9 f h hm r j (by omega)];dsimp only;rw[Wm c,VU,V5,L6 (h _ b)];dsimp only;have hs:jZ most (l.take j).reverse l[j].1 l[j].2=((l.take (j+1)).reverse,0):=by
   unfold jZ;rw[a,Vs (by simp),(h _ b).rt,Vs (by simp),Vs (by rw[List.length_reverse,VM];omega),L8 a,W4,List.getElem?_eq_getElem c,List.reverse_append];rfl
  rw[hs,Vs (by simp)]
abbrev iq(s:aI)(r:Rp):aI:=(bO s r).1
abbrev dG(s:aI)(r:Rp):List bI:=(bO s r).2.1
def emO(l:List bI):List Ot:=(l.filter λe=>decide (e.kind=4)).map bI.out
theorem uL(a b:List bI):emO (a++b)=emO a++emO b:=by simp[emO]
theorem emO_none{l:List bI}(h:∀e∈l,e.kind≠4):emO l=[]:=by
 unfold emO;rw[WE.2 λe a=>by simp[h e a]]
 rfl
structure NumI(s:aI)(all:List Ot):Prop where
 len:s.sunk+(s.kept.length:Int)=all.length
 kept:s.kept=all.drop s.sunk.toNat
theorem By{c:bD}{now a ep first:Int}{evs:List Pv}{x:JS}:∀n,∀e∈(dh c now a ep first evs x n).2,e.kind=3
 | 0,e,h=>by cases h
 | n+1,e,h=>by
  rcases VK.1 h with h|h
  .exact By n e h
  .rw [V6]at h;rw[h];rfl
theorem LE{s:aI}{r:Rp}:∀e∈(gD s r).2,e.kind=3\/e.kind=2:=by
 unfold gD
 split
 .intro e a
  rcases VK.1 a with h|h
  .exact .inl (By _ e h)
  .rw [V6]at h;rw[h];exact .inr rfl
 .intro e a;cases a
theorem LF{s:aI}{a:Int}:∀e∈jo s a,e.kind=3:=by
 unfold jo
 split
 .intro e b;obtain⟨n,_,rfl⟩:=V3.1 b;rfl
 .intro e b;cases b
theorem LH{s:aI}{r:Rp}:∀e∈(fC s r).2.1,e.kind=3\/e.kind=1:=by
 unfold fC
 split
 .intro e a;cases a
 split
 .intro e a
  rcases VK.1 a with h|h
  .exact .inl (LF e h)
  .rw [V6]at h;rw[h];exact .inr rfl
 .intro e a;rw[V6]at a;rw[a];exact .inr rfl
theorem oF{s:aI}{r:Rp}{P:aI×List bI×Int->Prop}(h0:r.right=false->P (s,[],10))(d:r.right=true->fB s r≠0->P (s,[],fB s r))
  (k1:r.right=true->fB s r=0->r.kind=1->P ({ s with boots:=s.boots+1 },[],0))
  (k2:r.right=true->fB s r=0->r.kind=2->P (fC s r))
  (k3:r.right=true->fB s r=0->r.kind=3->P (mS s r,[],0))
  (k4:r.right=true->fB s r=0->r.kind=4->P ((gD s r).1,(gD s r).2,0))
  (k5:r.right=true->fB s r=0->r.kind=5->P (lS s r,[],0))
  (k6:r.right=true->fB s r=0->r.kind=6->P ((kH s r.nw).1,(kH s r.nw).2,0))
  (k7:r.right=true->fB s r=0->r.kind=7->P (mT s r,[],0)):P (bO s r):=by
 unfold bO
 split
 .rename_i h;exact h0 h
 rename_i a;have a:r.right=true:=by simpa using a
 have c:=iF a
 split
 .rename_i h;exact d a h
 rename_i b;have b:fB s r=0:=by simpa using b
 split
 .rename_i h;exact k1 a b h
 split
 .rename_i h;exact k2 a b h
 split
 .rename_i h;exact k3 a b h
 split
 .rename_i h;exact k4 a b h
 split
 .rename_i h;exact k5 a b h
 split
 .rename_i h;exact k6 a b h
 .rename_i q1 q2 q3 q4 q5 q6;exact k7 a b (by have:=c.kind;omega)
theorem U3{s:aI}{r:Rp}(a:r.kind=7)(h:fB s r=0):r.nx<=s.next:=by
 unfold fB at h;rw[nO,Vt a]at h
 split at h
 .simp at h
 .omega
theorem uM{s:aI}{r:Rp}(a:r.kind≠1)(b:r.kind≠7)(h:fB s r=0):s.now<=(if r.kind=3 then r.sm.came else r.nw):=by
 unfold fB at h;rw[Vs a,Vs b]at h;generalize (if r.kind=3 then r.sm.came else r.nw)=n at *
 unfold sD at h
 split at h
 .simp at h
 split at h
 .simp at h
 .omega
theorem xI{first:Int}{a:List Ot}:∀{n k:Nat} (b:k<(dQ first a n).length),(dQ first a n)[k]={ kind:=4,number:=first+k,out:=a.getD k Ot.z }
 | 0,k,b=>by simp[dQ]at b
 | n+1,k,b=>by
  simp only[dQ];rw[List.getElem_append]
  split
  .rename_i h;exact xI h
  .rename_i h;rw[nV]at h;have c:k<n+1:=by simpa[dQ,nV] using b
   have:k=n:=by omega
   subst this;simp[nV]
theorem xJ{first:Int}{a:List Ot}:∀n,n<=a.length->emO (dQ first a n)=a.take n
 | 0,_=>rfl
 | n+1,h=>by
  simp only[dQ];rw[uL,xJ n (by omega),W4,List.getElem?_eq_getElem (by omega)];congr 1;show [a.getD n Ot.z]=_;rw[Yd,List.getElem?_eq_getElem (by omega)];rfl
theorem LI{first:Int}{a:List Ot}:∀{n k:Nat},k<=n->(dQ first a n).take k=dQ first a k
 | 0,k,h=>by
  obtain rfl:k=0:=by omega
  rfl
 | n+1,k,h=>by
  rcases VO n k with b|b
  .obtain rfl:k=n+1:=by omega
   exact VR (by rw[nV];omega)
  .simp only[dQ];rw[Yj (by rw[nV];omega),LI b]
theorem num_step{s:aI}{r:Rp}{all:List Ot}(h0:0<=s.sunk)(I:NumI s all) :
  (∀k (a:k<(dG s r).length),(dG s r)[k].kind=4->(dG s r)[k].number=all.length+((emO ((dG s r).take k)).length:Nat))/\NumI (iq s r) (all++emO (dG s r))/\0<=(iq s r).sunk:=by
 unfold dG iq;have quiet:∀l:List bI,(∀e∈l,e.kind≠4)->∀b:aI,NumI b all->0<=b.sunk->∀e:Int,
   (∀k (a:k<(b,l,e).2.1.length),(b,l,e).2.1[k].kind=4->(b,l,e).2.1[k].number=all.length+((emO ((b,l,e).2.1.take k)).length:Nat))/\NumI (b,l,e).1 (all++emO (b,l,e).2.1)/\0<=(b,l,e).1.sunk:=by
  intro l c b t f e;refine⟨λk a i=>Vu i (c _ (V7 a)),?_,f⟩
  show NumI b (all++emO l);rw[emO_none c,VT];exact t
 have nil:∀e∈([]:List bI),e.kind≠4:=λe j=>by cases j
 refine oF (P:=λq=>(∀k (a:k<q.2.1.length),q.2.1[k].kind=4->q.2.1[k].number=all.length+((emO (q.2.1.take k)).length:Nat))/\NumI q.1 (all++emO q.2.1)/\0<=q.1.sunk) (λ_=>quiet [] nil s I h0 _) (λ_ _=>quiet [] nil s I h0 _) (λ_ _ _=>quiet [] nil { s with boots:=s.boots+1 } ⟨I.len,I.kept⟩ h0 0) (λ_ _ _=>?_) (λ_ _ _=>?_) (λ_ _ _=>?_) (λ_ _ _=>?_) (λ_ _ _=>?_) λw v a=>?_
 .have a:=LH (s:=s) (r:=r);have e:fC s r=((fC s r).1,(fC s r).2.1,(fC s r).2.2):=rfl;rw[e];refine quiet _ (λx h=>by have:=a x h;omega) _ ?_ ?_ _
  .unfold fC;split
   .exact I
   .split <;> exact⟨I.len,I.kept⟩
  .unfold fC;split
   .exact h0
   .split <;> exact h0
 .refine quiet [] nil _ ?_ ?_ _
  .unfold mS;split <;> exact⟨I.len,I.kept⟩
  .unfold mS;split <;> exact h0
 .have a:=LE (s:=s) (r:=r);refine quiet _ (λx h=>by have:=a x h;omega) _ ?_ ?_ _
  .unfold gD;split <;> exact⟨I.len,I.kept⟩
  .unfold gD;split <;> exact h0
 .refine quiet [] nil _ ?_ ?_ _
  .unfold lS;split
   .split
    .exact⟨I.len,I.kept⟩
    .split <;> exact⟨I.len,I.kept⟩
   .exact I
  .unfold lS;split
   .split
    .exact h0
    .split <;> exact h0
   .exact h0
 .have u:s.next=all.length:=I.len;refine⟨λk a i=>?_,⟨?_,?_⟩,h0⟩
  .have a:k<(dQ s.next (dt s r.nw) (dt s r.nw).length).length:=a;show (dQ s.next (dt s r.nw) (dt s r.nw).length)[k].number=all.length+((emO ((dQ s.next (dt s r.nw) (dt s r.nw).length).take k)).length:Nat);have m:k<(dt s r.nw).length:=by simpa[nV] using a
   rw[xI,LI (by omega),xJ _ (by omega),VM,u];dsimp only;omega
  .show s.sunk+((s.kept++dt s r.nw).length:Int)=((all++emO (dQ s.next (dt s r.nw) (dt s r.nw).length)).length:Nat);rw[xJ _ (V2 _),VW,Vv,Vv];have:=I.len;omega
  .show s.kept++dt s r.nw=(all++emO (dQ s.next (dt s r.nw) (dt s r.nw).length)).drop s.sunk.toNat
   have:=I.len;rw[xJ _ (V2 _),VW,List.drop_append_of_le_length (by omega),<-I.kept]
 .have d:=U3 a v;have c:=I.len;refine quiet [] nil _ ?_ ?_ _
  .unfold mT
   split
   .rename_i n;refine⟨?_,?_⟩
    .dsimp only;rw[VH];unfold aI.next at d;omega
    .dsimp only;rw[I.kept,Yk];congr 1;omega
   .exact I
  .unfold mT;split
   .dsimp only;omega
   .exact h0
theorem LJ{α:Type}{p:α->Bool}:∀{l:List α},l.Pairwise (λx y=>p y=true->p x=true)->l.takeWhile p=l.filter p
 | [],_=>rfl
 | a::r,h=>by
  rw[Wt]at h;rw[List.takeWhile_cons,Wa]
  split
  .rw [LJ h.2]
  .rename_i b;exact (WE.2 λx c d=>b (h.1 x c d)).symm
theorem LK{p:Ky×Cl}:∀{l:List Ot} {m:CM},p∈lM m l↔p∈m/\∀o∈l,o.1≠p.1
 | [],m=>by simp[lM]
 | o::r,m=>by
  have a:=LK (p:=p) (l:=r) (m:=bT o.1 m);show p∈lM (bT o.1 m) r↔_;rw[a,rA];simp only[V9,forall_eq_or_imp]
  constructor
  .rintro⟨⟨h1,h2⟩,h3⟩;exact⟨h1,λe=>h2 e.symm,h3⟩
  .rintro⟨h1,h2,h3⟩;exact⟨⟨h1,λe=>h2 e.symm⟩,h3⟩
open  Go.Sort
theorem Bz(x y:Ky):ij x y=!(ltOf j7) y x:=by rw[ltKy];rfl
theorem U4(ks:List Ky):(ee ks).Pairwise λx y=>ij x y=true:=by
 unfold ee;refine List.pairwise_mergeSort (le:=ij) (λx y z a b=>?_) (λx y=>?_) ks
 .rw [Bz]at *;simp only[VP]at *;exact swoKy.ntrans z y x b a
 .rw [Bz,Bz]
  cases a:ltOf j7 y x with
  | false=>rfl
  | true=>
   cases b:ltOf j7 x y with
   | false=>rfl
   | true=>have:=swoKy.trans _ _ _ a b;rw[swoKy.irrefl]at this;cases this
theorem B0{x y:Ky}(h:ij x y=true):x.win<=y.win:=by
 unfold ij at h;simp only[VP,VB,V0]at h;omega
theorem LM(m:CM)(b:Int):iC m b=(bA m).filter λo=>decide (o.1.win<b):=by
 unfold iC;refine LJ ?_;unfold bA;rw[Yo];refine (U4 _).imp λh a=>?_
 have:=B0 h;simp only[Vy]at *;omega
theorem U5{m:CM}{k:Ky}:(∃o∈bA m,o.1=k)↔k∈aG m:=by
 unfold bA
 constructor
 .rintro⟨o,ho,rfl⟩;obtain⟨b,a,rfl⟩:=V3.1 ho;exact (kW _).mem_iff.1 a
 .intro h;exact⟨_,V3.2 ⟨k,(kW _).mem_iff.2 h,rfl⟩,rfl⟩
theorem U6{m:CM}{b:Int}{p:Ky×Cl}:p∈nP m b↔p∈m/\b<=p.1.win:=by
 unfold nP;rw[LK]
 constructor
 .rintro⟨h1,h2⟩;refine⟨h1,?_⟩;obtain⟨o,c,a⟩:=(U5 (m:=m) (k:=p.1)).2 (V3.2 ⟨p,h1,rfl⟩)
  rcases Int.lt_or_le p.1.win b with e|d
  .exact Vu a (h2 o (by rw[LM];exact Wv.2 ⟨c,by rw[a];exact VF e⟩))
  .exact d
 .rintro⟨h1,h2⟩;refine⟨h1,λo c a=>?_⟩
  rw[LM]at c;have:=Vw (Wv.1 c).2;rw[a]at this;omega
theorem U7{r:Rp}(h:r.right=true):r.zeros=true:=by
 unfold Rp.right at h;simp only[Vz]at h;exact h.1.1.2
theorem B1{rows:List En}{a:Int}{e:En}(h0:0<=a)(b:a.toNat<rows.length):bg (rows.set a.toNat e) a=e:=by
 unfold bg;rw[nO,List.getElem?_set_self b];rfl
abbrev isV(t:Int):Prop:=-4611686018427387904<=t/\t<=4611686018427387903
theorem LN{g:Gd}(a:g.ok){t:Int}(d:isV t):fO g t=t/g.width:=by
 have b:1<=g.width:=a.1;have hb:isV (t/g.width):=by
  constructor
  .rw [Int.le_ediv_iff_mul_le (by omega)];omega
  .rcases Int.lt_or_le t 0 with h|h
   .have:t/g.width<0:=Int.ediv_neg_of_neg_of_pos h (by omega);omega
   .have:=Int.ediv_le_self g.width h;omega
 unfold fO;rw[Vt a,Int.tdiv_eq_ediv,Int.tmod_eq_emod];have h0:=Int.emod_nonneg t (show g.width≠0 by omega);have c:=Int.emod_lt_of_pos t (show 0<g.width by omega)
 by_cases hc:0<=t\/g.width ∣ t
 .rw [Vt hc,Vt hc,nO,aK];omega
 .rw [Vs hc,Vs hc,pO,Int.sign_eq_one_of_pos (by omega),aK (x:=t/g.width+1),aK];omega
theorem meet2_of{x:Gp}{f n:Int}(h:(kR [x,⟨f,n⟩]).2=0):(kR [x,⟨f,n⟩]).1.lo<=(kR [x,⟨f,n⟩]).1.hi/\(kR [x,⟨f,n⟩]).1.hi<=n/\f<=(kR [x,⟨f,n⟩]).1.lo:=by
 unfold kR mD at h ⊢
 split at h
 .rename_i b;rw[Vt b];unfold mD at h ⊢
  split at h
  .rename_i c;rw[Vt c];unfold mD at h ⊢
   split at h
   .rename_i a;rw[Vt a];refine⟨a,?_,?_⟩
    .unfold meet2;dsimp only;split <;> omega
    .unfold meet2;dsimp only;split <;> omega
   .simp at h
  .simp at h
 .simp at h
theorem LO{ck:Ck}{fl:Fl}{now stamp:Int}(h:(cQ ck fl now stamp).2=0):(cQ ck fl now stamp).1.lo<=(cQ ck fl now stamp).1.hi/\(cQ ck fl now stamp).1.hi<=now/\fl.t<=(cQ ck fl now stamp).1.lo:=by
 unfold cQ at h ⊢
 split at h
 .rename_i a;exact Vu h a
 rename_i a;rw[Vs a]
 split at h
 .simp at h
 rename_i b;rw[Vs b];exact meet2_of (Decidable.not_not.1 b)
theorem LP{p:Ky×Cl}:∀{l m:CM},p∈lL l m->p∈l\/p∈m
 | [],m,h=>.inr h
 | q::r,m,h=>by
  rcases LP (l:=r) (m:=mset q.1 q.2 m) h with h|h
  .exact .inl (VD _ h)
  .rcases nU h with rfl|h
   .exact .inl (VA ..)
   .exact .inr h
structure CelI(lo hi B:Int)(m:CM):Prop where
 win:∀p∈m,lo<=p.1.win/\p.1.win<=hi
 cnt:∀p∈m,1<=p.2.cer+p.2.pos/\p.2.cer+p.2.pos<=B
theorem U9(ms:MS)(a t:Int):(ms.raise a t).1.value=ms.value/\(ms.raise a t).1.now=ms.now:=by
 unfold MS.raise
 split
 .exact⟨rfl,rfl⟩
 .split <;> exact⟨rfl,rfl⟩
theorem raise_fl{ms:MS}{a t n:Int}(h:∀p∈ms.m,p.2.t<=n)(d:t<=n):∀p∈(ms.raise a t).1.m,p.2.t<=n:=by
 unfold MS.raise
 split
 .exact h
 rename_i x c
 split
 .exact h
 intro p b
 rcases nU b with rfl|b
 .have:=h _ (hZ c);dsimp only at this ⊢
  split <;> omega
 .exact h p b
theorem UA{g:Gd}{x:Gp}(h:(dM g x).1≠0\/True)(b:g.ok)(a:x.ok):dM g x=(fO g x.lo,fO g x.hi,0):=by
 unfold dM;rw[Vt b,Vt a]
structure OpenI(s:aI)(B:Int):Prop where
 b0:0<=B
 val:s.ms.value<=s.now
 cel:CelI (fO s.cfg.gd s.ms.value) (fO s.cfg.gd s.now) B s.cm
 fl:∀p∈s.ms.m,p.2.t<=s.now
 en:∀a,(bg s.rows a).time<=s.now
 ag:s.rows.countP (λe=>decide (0<e.epoch))<=s.cfg.agents
theorem uN:∀{l:List En} {i:Nat},(aR i l).length=l.countP λe=>decide (0<e.epoch)
 | [],i=>rfl
 | e::r,i=>by
  unfold aR;rw[List.countP_cons]
  split
  .rename_i h;rw[V1,uN (l:=r),Vt (by simpa using h)]
  .rename_i h;rw[uN (l:=r),Vs (by simpa using h)];rfl
theorem LQ{p:En->Bool}{x:En}:∀{l:List En} {k:Nat} (c:k<l.length),(l.set k x).countP p<=l.countP p+(if p l[k] then 0 else 1)
 | a::r,0,_=>by
  simp only[Yh,List.getElem_cons_zero];rw[List.countP_cons,List.countP_cons]
  by_cases h1:p x=true <;> by_cases h2:p a=true <;> simp[h1,h2]
 | a::r,k+1,h=>by
  have b:=LQ (p:=p) (x:=x) (l:=r) (k:=k) (by simpa using h);simp only[Y0,List.getElem_cons_succ];rw[List.countP_cons,List.countP_cons];omega
theorem open_ag{s:aI}{a:Int}{x:En}{rows':List En}(ok:cR s)(k:s.rows.countP (λe=>decide (0<e.epoch))<=s.cfg.agents)(m:0<=a/\a<=63)(j:¬((bg s.rows a).epoch=0/\full s.cfg.agents s.rows))(g2:rows'=s.rows.set a.toNat x) :
  rows'.countP (λe=>decide (0<e.epoch))<=s.cfg.agents:=by
 have b:a.toNat<s.rows.length:=by rw[ok.rows.len];omega
 rw[g2];have d:=LQ (p:=λe=>decide (0<e.epoch)) (x:=x) b
 have f:bg s.rows a=s.rows[a.toNat]:=by
  unfold bg;rw[nO,List.getElem?_eq_getElem b];rfl
 by_cases h4:0<s.rows[a.toNat].epoch
 .rw [Vt (by simpa using h4)]at d;omega
 .rw [Vs (by simpa using h4)]at d;have h:=(ok.rows.at a).1;rw[f]at h;have c:¬full s.cfg.agents s.rows:=λi=>j ⟨by rw[f];omega,i⟩
  unfold full at c;rw[uN]at c;omega
theorem LR{lim n:Int}{m:FM}(hm:∀p∈m,p.2.t<=n)(a:0<=n):∀(ks:List Int) (s:Int×Bool),s.1<=n->(jB lim m ks s).1<=n
 | [],s,h=>h
 | k::r,s,h=>by
  refine LR hm a r _ ?_;unfold nT
  split
  .cases hk:aJ k m with
   | none=>simp only[Option.getD_none,Fl.z];exact a
   | some x=>simp only[Option.getD_some];exact hm _ (hZ hk)
  .exact h
theorem open_new{c:bD}(ok:jC c):OpenI (bU c) 0 where
 b0:=VV _
 val:=by have:=ok.lag;show -c.lag<=0;omega
 cel:=⟨λp b=>Vu b (by simp[bU]),λp b=>Vu b (by simp[bU])⟩
 fl:=λp b=>Vu b (by simp[bU,MS.new])
 en:=λa=>by
  unfold bg bU;dsimp only
  split
  .exact VV _
  .rw [List.getElem?_replicate]
   split <;> exact VV _
 ag:=by
  have:=ok.ag;unfold bU;dsimp only;rw[List.countP_replicate];simp[En.z];omega
structure Rch(s:aI):Prop where
 ok:cR s
 sunk:s.sunk<=1099511627776
 mnow:0<=s.ms.now/\s.ms.now<=s.now
 val:s.ms.now-s.cfg.lag<=s.ms.value/\s.ms.value<=s.ms.now
 keys:∀a,(aJ a s.ms.m).isSome=decide (0<(bg s.rows a).epoch)
 fl:∀p∈s.ms.m,p.2.t<=s.now
 rows:∀a,0<(bg s.rows a).epoch->(1<=(bg s.rows a).boot/\(bg s.rows a).boot<=1099511627776)/\0<=(bg s.rows a).time/\(bg s.rows a).time<=4611686018427387903
 ag:s.rows.countP (λe=>decide (0<e.epoch))<=s.cfg.agents
 cm:∀p∈s.cm,nh p
 kept:∀o∈s.kept,nh o
theorem xK(e:En)(r:List En)(i:Nat):aR i (e::r)=(if 0<e.epoch then [((i:Int),e)] else [])++aR (i+1) r:=by
 conv=>lhs;unfold aR
 split <;> rfl
theorem xL:∀(a b:List En) (i:Nat),aR i (a++b)=aR i a++aR (i+a.length) b
 | [],b,i=>rfl
 | e::r,b,i=>by
  have c:=xL r b (i+1);have e1:i+1+r.length=i+(e::r).length:=by simp only[V1];omega
  rw[e1]at c;rw[W0,xK,xK,c,V5]
theorem LS:∀(n i:Nat),aR i (List.replicate n En.z)=[]
 | 0,i=>rfl
 | n+1,i=>by
  rw[Y5];unfold aR;rw[Vs (by simp[En.z]),LS n (i+1)]
theorem LT{rows:List En}{k:Nat}(a:k<rows.length):aR k (rows.drop k)=(if 0<rows[k].epoch then [((k:Int),rows[k])] else [])++aR (k+1) (rows.drop (k+1)):=by
 rw[Wm a,xK]
theorem B2{rows:List En}{k:Nat}(a:k<rows.length):aR 0 (rows.take (k+1))=aR 0 (rows.take k)++(if 0<rows[k].epoch then [((k:Int),rows[k])] else []):=by
 rw[W4,List.getElem?_eq_getElem a,xL];congr 1;rw[VM,WL (by omega),VL];show aR k [rows[k]]=_;rw[xK];exact VT _
def lp(rows:List En)(k:Nat):List En:=rows.take k++List.replicate (64-k) En.z
def cutT(sts:List (Option br))(k:Nat):List (Option br):=sts.take k++List.replicate (64-k) none
def jH(s:aI)(k:Nat):FM:=((aR 0 (s.rows.take k)).map λp=>(p.1,bG s.ms p.1)).reverse
theorem LU{α:Type}{l:List α}{z:α}{k:Nat}(b:l.length=64)(a:k<64):(l.take k++List.replicate (64-k) z).set k (l[k]'(by omega))=l.take (k+1)++List.replicate (64-(k+1)) z:=by
 have e:List.replicate (64-k) z=z::List.replicate (64-(k+1)) z:=by
  rw[<-Y5];congr 1;omega
 rw[e,List.set_append_right _ _ (by rw[VM];omega),VM,WL (by omega),Nat.sub_self,Yh,W4,List.getElem?_eq_getElem (by omega),V5];rfl
theorem LV{α:Type}{l:List α}{z:α}{k:Nat}(b:l.length=64)(a:k<64)(h:l[k]'(by omega)=z):l.take (k+1)++List.replicate (64-(k+1)) z=l.take k++List.replicate (64-k) z:=by
 have e:List.replicate (64-k) z=z::List.replicate (64-(k+1)) z:=by
  rw[<-Y5];congr 1;omega
 rw[e,W4,List.getElem?_eq_getElem (by omega)];simp[h]
theorem xM{rows:List En}{k:Nat}(a:k<rows.length):bg rows (k:Int)=rows[k]:=by
 unfold bg;rw[nO,V4,List.getElem?_eq_getElem a];rfl
theorem rowE_cut{rows:List En}{k:Nat}(a:rows.length=64)(b:k<64):bg (lp rows k) (k:Int)=En.z:=by
 unfold bg lp;rw[nO,V4,List.getElem?_append_right (by rw[VM];omega),List.getElem?_replicate]
 split <;> rfl
theorem Rch.count{s:aI}(R:Rch s):((aR 0 s.rows).length:Int)<=s.cfg.agents:=by rw[uN];exact R.ag
theorem UB{s:aI}(k:Nat):(aR 0 (s.rows.take k)).length+(aR k (s.rows.drop k)).length=(aR 0 s.rows).length:=by
 rcases VO k s.rows.length with h|h
 .have:=xL (s.rows.take k) (s.rows.drop k) 0;rw[Wl,VM,WL (by omega),VL]at this;rw[this,Vv]
 .rw [VR h,Yz h];rfl
theorem flsK_new{s:aI}(k:Nat):aJ (k:Int) (jH s k)=none:=fu.2 λhm=>by
 obtain⟨p,a,b⟩:=V3.1 hm;unfold jH at a;rw[List.mem_reverse]at a;obtain⟨q,c,rfl⟩:=V3.1 a;have:=(py c).2.1;rw[VM]at this;dsimp only at b;omega
theorem Rch.str{s:aI}(R:Rch s){k:Nat}(b:k<64)(h:0<(s.rows[k]'(by rw[R.ok.rows.len];exact b)).epoch):∃st,s.sts[k]?=some (some st)/\dL s (k:Int)=some st:=by
 obtain⟨st,a⟩:=(R.ok.reg k).2 ⟨_,List.getElem?_eq_getElem (by rw[R.ok.rows.len];exact b),h⟩;refine⟨st,a,?_⟩;unfold dL;rw[nO,V4,a];rfl
theorem Rch.nostr{s:aI}(R:Rch s){k:Nat}(a:k<64)(h:¬0<(s.rows[k]'(by rw[R.ok.rows.len];exact a)).epoch):s.sts[k]'(by rw[R.ok.len];exact a)=none:=by
 have b:k<s.sts.length:=by rw[R.ok.len];exact a
 cases e:s.sts[k] with
 | none=>rfl
 | some st=>
  obtain⟨f,c,d⟩:=(R.ok.reg k).1 ⟨st,by rw[List.getElem?_eq_getElem b,e]⟩;rw[List.getElem?_eq_getElem (by rw[R.ok.rows.len];exact a)]at c
  cases c
  exact Vu d h
theorem Rch.flat{s:aI}(R:Rch s)(a:Int):isT (bG s.ms a).t/\(bG s.ms a).t<=s.now:=by
 have h0:=R.ok.now;unfold bG
 cases h:aJ a s.ms.m with
 | none=>exact⟨by show isT 0;decide,by show (0:Int)<=_;exact h0.1⟩
 | some x=>
  have:=hZ h;exact⟨(R.ok.ms.rows _ this).2,R.fl _ this⟩
theorem LW{s s0:aI}(R:Rch s)(h0:s0.cfg=s.cfg)(w:s0.now=s.now)(v:s0.rows=List.replicate 64 En.z)(x:s0.sts=List.replicate 64 none)(r:List Int):∀k,k<=64->
  fm s0 (aR 0 (s.rows.take k)).length ⟨0,(aR 0 s.rows).flatMap (dR s)++r⟩=.ok (⟨lp s.rows k,cutT s.sts k,jH s k⟩,⟨0,(aR k (s.rows.drop k)).flatMap (dR s)++r⟩)
 | 0,_=>by
  show Except.ok _=_;rw[v,x];rfl
 | k+1,hk=>by
  have t:=R.ok.rows.len;have j:=R.ok.len;have b:k<s.rows.length:=by omega
  have d:=LW R h0 w v x r k (by omega);rw[B2 b];rw[LT b]at d
  by_cases he:0<s.rows[k].epoch
  .rw [Vt he]at d ⊢;rw[Vv,Wi];obtain⟨st,c,u⟩:=R.str (by omega) he;have i:=R.ok.sts st (VY c);have m:=R.rows (k:Int) (by rw[xM b];exact he);rw[xM b]at m;have n:=R.ok.rows.at (k:Int);rw[xM b]at n;have f:=R.flat (k:Int);have y:(aR 0 (s.rows.take k)).length<(aR 0 s.rows).length:=by
    have:=UB (s:=s) k;rw[LT b,Vt he,Vv,Wi]at this;omega
   have A:=R.count;have h:gC s.cfg.agents (lp s.rows k) (k:Int) s.rows[k]=((lp s.rows k).set ((k:Int)).toNat s.rows[k],0):=by
    unfold gC;rw[Vs (by unfold bad;omega),rowE_cut t (by omega),Vs (by simp[En.z]),Vs];unfold full lp;rw[xL,LS,VT];omega
   obtain⟨rest,e1,e2⟩:=agtR_enc (s0:={ s0 with rows:=lp s.rows k,sts:=cutT s.sts k }) (a:=(k:Int)) (e:=s.rows[k]) (fl:=bG s.ms (k:Int)) (st:=st) (by rw[h0];exact i) ⟨by unfold aF;omega,by unfold aF;omega,by unfold aF;omega⟩ (by rw[h0];exact h) (by rw[w];exact⟨f.1.1,f.2⟩) (by have:=f.1;unfold aF;omega) ((aR (k+1) (s.rows.drop (k+1))).flatMap (dR s)++r);have e3:([((k:Int),s.rows[k])]++aR (k+1) (s.rows.drop (k+1))).flatMap (dR s)++r=aO [(k:Int)]++rest:=by
    rw[Ws,<-e1,V5];congr 1;show dR s ((k:Int),s.rows[k])++[]=_;unfold dR;dsimp only;rw[u,VT]
   rw[e3]at d;unfold fm;rw[d];dsimp only;rw[kI (by unfold aF;omega)];dsimp only;rw[e2];dsimp only;rw[V4,L8 (flsK_new k)];have c1:(lp s.rows k).set k s.rows[k]=lp s.rows (k+1):=LU t (by omega);have c2:(cutT s.sts k).set k (some st)=cutT s.sts (k+1):=by
    have:=LU (z:=none) j (show k<64 by omega);have e4:s.sts[k]'(by omega)=some st:=by
     rw[List.getElem?_eq_getElem (by omega)]at c;exact Option.some.inj c
    rw[e4]at this;exact this
   have c3:((k:Int),bG s.ms (k:Int))::jH s k=jH s (k+1):=by
    unfold jH;rw[B2 b,Vt he,VJ,List.reverse_append];rfl
   rw[c1,c2,c3]
  .rw [Vs he]at d ⊢;rw[VT];rw[VZ]at d;rw[d];have c1:lp s.rows (k+1)=lp s.rows k:=LV t (by omega) (R.ok.rows.zero _ (V7 b) he);have c2:cutT s.sts (k+1)=cutT s.sts k:=LV j (by omega) (R.nostr (by omega) he);have c3:jH s (k+1)=jH s k:=by
    unfold jH;rw[B2 b,Vs he,VT]
   rw[c1,c2,c3]
theorem Rch.nStE{s:aI}(R:Rch s):nStr s=(aR 0 s.rows).length:=by
 have hm:s.sts.map Option.isSome=s.rows.map λe=>decide (0<e.epoch):=by
  apply Wx
  .simp [R.ok.len,R.ok.rows.len]
  .intro k b d;have c:k<64:=by rw[V8,R.ok.len]at b;exact b
   simp only[Wp]
   by_cases he:0<(s.rows[k]'(by rw[R.ok.rows.len];exact c)).epoch
   .obtain⟨st,a,_⟩:=R.str c he;rw[List.getElem?_eq_getElem (by rw[R.ok.len];exact c)]at a;rw[Option.some.inj a];simp[he]
   .rw [R.nostr c he];simp[he]
 unfold nStr;rw[uN,<-List.countP_eq_length_filter];have b:s.sts.countP Option.isSome=(s.sts.map Option.isSome).countP id:=by rw[List.countP_map];rfl
 have d:s.rows.countP (λe=>decide (0<e.epoch))=(s.rows.map λe=>decide (0<e.epoch)).countP id:=by rw[List.countP_map];rfl
 rw[b,d,hm]
def jI(s:aI):aI:={ s with ms:={ s.ms with m:=jH s 64 },cm:=(bA s.cm).reverse }
theorem LX(m:CM):aG (bA m)=ee (aG m):=by
 unfold bA aG;rw[Wh];have:((λx:Ky×Cl=>x.1)∘λk=>(k,fP m k))=id:=rfl
 rw[this,List.map_id]
theorem B3{m:CM}{o:Ot}(h:o∈bA m):o∈m:=by
 unfold bA at h;obtain⟨k,a,rfl⟩:=V3.1 h;have a:=(kW _).mem_iff.1 a;unfold fP
 cases e:aJ k m with
 | none=>exact Vu a (fu.1 e)
 | some c=>exact hZ e
theorem outsL_nd{m:CM}(h:(aG m).Nodup):(aG (bA m)).Nodup:=by
 rw[LX];exact (kW _).nodup_iff.2 h
theorem UC{s:aI}(R:Rch s)(k:s.kept.length<=1000000000):kK s.cfg (stB s)=.ok (jI s):=by
 have f:=R.ok.now;have b:=R.ok.boots;have c:=R.sunk;have a:=R.ok.sunk;have i:=R.mnow;have D:=R.val;have n:=R.ok.cfg.lag;have d:=R.ok.sh.len;have t:=R.ok.sh.m2;have C:=R.count;have m:=R.ok.cfg.ag;have h:(bA s.cm).length=s.cm.length:=uj s.cm;have j:∀o∈bA s.cm,nh o:=λo A=>R.cm o (B3 A)
 have e:stB s=aO [s.now]++(aO [s.boots]++(aO [s.sunk]++(aO [s.ms.now]++(cY [s.ms.value]++(aO [(((aR 0 s.rows).length:Nat):Int)]++((aR 0 s.rows).flatMap (dR s)++(aO [((s.cm.length:Nat):Int)]++((bA s.cm).flatMap ceB++(aO [((s.kept.length:Nat):Int)]++(s.kept.flatMap ceB++[])))))))))):=by
  unfold stB lj jq kv;rw[R.nStE,mY s.now,mY s.boots,mY s.sunk];simp only[V5,VT]
 unfold kK;rw[e,uG f (by unfold aF;omega)];dsimp only;rw[uG b (by unfold aF;omega)];dsimp only;rw[uG ⟨a,c⟩ (by unfold aF;omega)];dsimp only;rw[uG i (by unfold aF;omega)];dsimp only;rw[uE (by unfold aF;omega)];dsimp only;rw[uF (by omega) (by omega)];dsimp only;have v:=LW (s0:={ bU s.cfg with now:=s.now,boots:=s.boots,sunk:=s.sunk }) R rfl rfl rfl rfl (aO [((s.cm.length:Nat):Int)]++((bA s.cm).flatMap ceB++(aO [((s.kept.length:Nat):Int)]++(s.kept.flatMap ceB++[])))) 64 (V2 _);rw[VR (by rw[R.ok.rows.len];omega),Yz (by rw[R.ok.rows.len];omega)]at v;rw[V4,v];dsimp only;rw[Vs (λx=>x D)]
 have e2:(aR 64 ([]:List En)).flatMap (dR s)++(aO [((s.cm.length:Nat):Int)]++((bA s.cm).flatMap ceB++(aO [((s.kept.length:Nat):Int)]++(s.kept.flatMap ceB++[]))))=aO [((s.cm.length:Nat):Int)]++((bA s.cm).flatMap ceB++(aO [((s.kept.length:Nat):Int)]++(s.kept.flatMap ceB++[]))):=rfl;rw[e2,uF (by omega) (by omega)];dsimp only;have u:=L9 (most:=s.cfg.cells) (outsL_nd R.ok.sh.nd) j (by rw[h];exact d) (aO [((s.kept.length:Nat):Int)]++(s.kept.flatMap ceB++[])) (bA s.cm).length (V2 _);rw[VW,Wu]at u;rw[V4,<-h,u];dsimp only;have e3:([]:List Ot).flatMap ceB++(aO [((s.kept.length:Nat):Int)]++(s.kept.flatMap ceB++[]))=aO [((s.kept.length:Nat):Int)]++(s.kept.flatMap ceB++[]):=rfl;rw[e3,uD (by omega) (by omega)];dsimp only;have w:=L7 R.kept [] s.kept.length (V2 _);rw[VW,Wu]at w;rw[V4,w];dsimp only;rw[show (dF ⟨0,([]:List Ot).flatMap ceB++[]⟩).e=0 from rfl,Vs (by simp)];have B:lp s.rows 64=s.rows:=by
  unfold lp;rw[VR (by rw[R.ok.rows.len];omega)];simp
 have y:cutT s.sts 64=s.sts:=by
  unfold cutT;rw[VR (by rw[R.ok.len];omega)];simp
 rw[B,y,<-R.ok.lag];rfl
theorem UD{ks ls:List Ky}(h:ks.Perm ls):ee ks=ee ls:=by
 refine List.Perm.eq_of_pairwise (le:=λx y=>ij x y=true) (λa b _ _ e d=>?_) (wJ ks) (wJ ls) ((kW ks).trans (h.trans (kW ls).symm))
 have w1:=B0 e;have w2:=B0 d;have c:a.win=b.win:=by omega
 unfold ij at e d;simp only[VP,VB,Wc,V0]at e d;have s1:=e.2.resolve_left (λf=>f c.symm)
 have s2:=d.2.resolve_left (λf=>f c)
 rw[Go.Proofs.bytesLess_eq,V0]at s1 s2;have:a.ser.toList=b.ser.toList:=List.le_antisymm s1 s2;obtain⟨aw,i⟩:=a;obtain⟨bw,sb⟩:=b;dsimp only at c this;rw[ByteArray.toList_eq,ByteArray.toList_eq]at this;have hs:i=sb:=sF this;rw[c,hs]
theorem UE{m m':CM}(a:(aG m).Nodup)(h:m.Perm m'):bA m=bA m':=by
 unfold bA;rw[UD (h.map Prod.fst:(aG m).Perm (aG m'))];apply WB;intro k _;unfold fP;rw[qj a h]
theorem UF{m:CM}(a:(aG m).Nodup):(bA m).Perm m:=by
 have d:(aG (bA m)).Perm (aG m):=by rw[LX];exact kW _
 have b:bA m=(ee (aG m)).map λk=>(k,fP m k):=rfl
 rw[b];refine ((kW (aG m)).map _).trans ?_;have:(aG m).map (λk=>(k,fP m k))=m:=by
  unfold aG;rw[Wh]
  conv=>rhs;rw[<-List.map_id m]
  apply WB;intro p c;show (p.1,fP m p.1)=p;unfold fP;rw[mi a c];rfl
 rw[this]
theorem UG{s:aI}(R:Rch s)(a:Int):aJ a (jH s 64)=if 0<(bg s.rows a).epoch then some (bG s.ms a) else none:=by
 have c:=R.ok.rows.len;have b:((aR 0 s.rows).map λp=>(p.1,bG s.ms p.1)).Perm (jH s 64):=by
  unfold jH;rw[VR (by omega)];exact (List.reverse_perm _).symm
 have d:aG ((aR 0 s.rows).map λp=>(p.1,bG s.ms p.1))=aG (aR 0 s.rows):=by simp[aG,Function.comp_def]
 rw[<-qj (by rw[d];exact xf) b];have:=xi (f:=λ(k:Int) (_:En)=>bG s.ms k) (k:=a) (m:=aR 0 s.rows)
 rw[this,AO]
 split <;> rfl
theorem flsK_nd(s:aI)(k:Nat):(aG (jH s k)).Nodup:=by
 unfold jH;have:aG (((aR 0 (s.rows.take k)).map λp=>(p.1,bG s.ms p.1)).reverse)=(aG (aR 0 (s.rows.take k))).reverse:=by simp[aG,Function.comp_def]
 rw[this];exact List.pairwise_reverse.2 (xf.imp λh=>h.symm)
theorem LY{κ α:Type}{m:List (κ×α)}(h:(aG m).Nodup):m.Nodup:=List.Pairwise.of_map Prod.fst (λa b c e=>c (by rw[e])) h
theorem UH{κ α:Type}[DecidableEq κ][DecidableEq α]{m m':List (κ×α)}(h:(aG m).Nodup)(b:(aG m').Nodup)(c:∀k,aJ k m=aJ k m'):m.Perm m':=by
 refine (List.perm_ext_iff_of_nodup (LY h) (LY b)).2 λp=>⟨λa=>?_,λa=>?_⟩
 .have:=mi h a;rw[c]at this;exact hZ this
 .have:=mi b a;rw[<-c]at this;exact hZ this
theorem uO{s:aI}(R:Rch s):s.ms.m.Perm (jI s).ms.m/\s.cm.Perm (jI s).cm:=by
 refine⟨UH R.ok.ms.nd (flsK_nd s 64) λa=>?_,?_⟩
 .show aJ a s.ms.m=aJ a (jH s 64);rw[UG R];have b:=R.keys a;unfold bG
  cases h:aJ a s.ms.m with
  | none=>
   rw[h]at b;rw[Vs (by intro c;rw[VF c]at b;simp at b)]
  | some x=>
   rw[h]at b;rw[Vt (by
    by_cases c:0<(bg s.rows a).epoch
    .exact c
    .rw [Wj c]at b;simp at b)]
   rfl
 .exact ((UF R.ok.sh.nd).symm.trans (List.reverse_perm _).symm)
theorem UI{s:aI}(R:Rch s)(a:Int):bG (jI s).ms a=bG s.ms a:=by
 have:=qj (x:=a) R.ok.ms.nd (uO R).1;unfold bG;rw[<-this]
theorem norm_cm{s:aI}(R:Rch s):bA (jI s).cm=bA s.cm:=(UE R.ok.sh.nd (uO R).2).symm
theorem UJ{s:aI}(R:Rch s):stB (jI s)=stB s:=by
 have a:∀p,dR (jI s) p=dR s p:=by
  intro p;unfold dR;have:dL (jI s) p.1=dL s p.1:=rfl;rw[this]
  cases dL s p.1 with
  | none=>rfl
  | some st=>dsimp only;rw[UI R]
 have c:(jI s).cm.length=s.cm.length:=(uO R).2.length_eq.symm;unfold stB lj jq kv;rw[norm_cm R,c];have b:(aR 0 (jI s).rows).flatMap (dR (jI s))=(aR 0 s.rows).flatMap (dR s):=by
  show (aR 0 s.rows).flatMap _=_;congr 1;funext p;exact a p
 rw[b];rfl
structure lq(o:Ot):Prop where
 ch:CH o.2
 win:0<=o.1.win/\o.1.win<=4611686018427387903
 ser:(im o.1.ser).2.2=true
 size:o.1.ser.size<=5000
theorem nh.l{o:Ot}(h:nh o):lq o:=⟨h.ch,h.win,h.ser,h.size⟩
theorem lq.g{o:Ot}(h:lq o)(wc:WC o.2)(rt:ge o.2=true):nh o:=⟨wc,rt,h.ch,h.win,h.ser,h.size⟩
theorem CH.z:CH Cl.z:=λi _=>rfl
theorem CH.note{c:Cl}(h:CH c)(b:Bool):CH (gP c b).1:=by
 unfold gP
 split
 .exact CH.z
 split
 .split
  .exact CH.z
  .exact h
 .split
  .exact CH.z
  .exact h
theorem CH.add{c:Cl}(h:CH c){v:Int}(b:aF v):CH (jW c v).1:=by
 unfold jW
 split
 .exact CH.z
 split
 .exact CH.z
 split
 .exact CH.z
 split
 .exact CH.z
 rename_i h0;intro i hi;dsimp only;have h0:(jm c.h v).2=0:=Decidable.not_not.1 h0;unfold jm at h0 ⊢
 split at h0
 .simp at h0
 rename_i a;rw[Vs a]
 split at h0
 .simp at h0
 rename_i d;rw[Vs d];have:=pm b;dsimp only;unfold eZ;rw[nO];exact h i hi
theorem LZ{B:Nat}:∀{ps:List (List UInt8)},(∀p∈ps,p.length<=B)->(Go.Lib.join ps [44]).length<=(B+1)*ps.length
 | [],_=>by simp[Go.Lib.join_nil]
 | [p],h=>by rw[Go.Lib.join_one];have:=h p (VA ..);simp;omega
 | p::q::r,h=>by
  have b:=LZ (ps:=q::r) λx a=>h x (VD _ a)
  have:=h p (VA ..);rw[join2,Vv,V1];simp only[V1,Nat.mul_succ]at *;omega
theorem UK{name:Fa}{labs:List bS}(h:fx name labs=true):(gh name labs).size<=5000:=by
 have c:=mI h;have j:=se c.named;unfold gh;rw[Vt h]
 split
 .omega
 .have e:=LZ (ps:=(labs.map fA).map aX) (B:=129) (by
   intro p a;obtain⟨b,hb,rfl⟩:=V3.1 a;obtain⟨l,d,rfl⟩:=V3.1 hb;have:=sf (c.val l d);rw[xx,Vv,V1,kX,kX];omega)
  rw[V8,V8]at e;have i:=c.len;rw[<-kX,pG,pG,pG];have f:aX (kh labs)=Go.Lib.join ((labs.map fA).map aX) [44]:=qN _;simp only[Vv,f];rw[kX];have e1:(aX (⟨#[123]⟩:Fa)).length=1:=rfl;have e2:(aX (⟨#[125]⟩:Fa)).length=1:=rfl;rw[e1,e2];omega
structure SerG(ser:Fa):Prop where
 ok:(im ser).2.2=true
 size:ser.size<=5000
theorem serG_of{e:Pv}(h:gS e=true):SerG (gh e.name e.labs):=by
 obtain⟨_,a⟩:=Lz h;exact⟨by rw[Ud a],UK a⟩
theorem note_L{most first last:Int}{m:CM}{ser:Fa}(h:∀p∈m,lq p)(hs:SerG ser)(j:0<=first)(f:last<=4611686018427387903):∀p∈(jY most m first last ser).1,lq p:=by
 unfold jY
 split
 .exact h
 split
 .exact h
 split
 .exact h
 intro p b
 rcases LP b with b|b
 .obtain⟨w,d,e1,e2,e3⟩:=AU b;unfold cr at d;obtain⟨i,a,rfl⟩:=V3.1 d;have a:=W2.1 a;have e:CH (fP m ⟨first+(i:Int),ser⟩):=by
   unfold fP
   cases hm:aJ (⟨first+(i:Int),ser⟩:Ky) m with
   | none=>exact CH.z
   | some c=>exact (h _ (hZ hm)).ch
  exact⟨by rw[e2];exact e.note _,by rw[e1];dsimp only;omega,by rw[e1];exact hs.ok,by rw[e1];exact hs.size⟩
 .exact h p b
theorem count_L{m:CM}{k:Ky}{v:Int}(h:∀p∈m,lq p)(d:aF v):∀p∈(mH m k v).1,lq p:=by
 unfold mH
 split
 .exact h
 rename_i c b
 split
 .exact h
 intro p a
 rcases nU a with rfl|a
 .have:=h (k,c) (hZ b);exact⟨this.ch.add d,this.win,this.ser,this.size⟩
 .exact h p a
structure MsJ(lim:Int)(ms ms':MS):Prop where
 now:ms'.now=ms.now
 value:ms'.value=ms.value
 keys:∀a,(aJ a ms'.m).isSome=(aJ a ms.m).isSome
 fl:∀p∈ms'.m,p.2.t<=lim
theorem Mb{now:Int}{ms:MS}{a t:Int}(h:∀p∈ms.m,p.2.t<=now)(c:t<=now):MsJ now ms (ms.raise a t).1:=by
 have r1:=U9 ms a t;refine⟨r1.2,r1.1,λb=>?_,raise_fl h c⟩
 unfold MS.raise
 split
 .rfl
 rename_i x d
 split
 .rfl
 dsimp only;rw[lD]
 split
 .rename_i e;rw[e,d];rfl
 .rfl
theorem MsJ.trans{now:Int}{a b c:MS}(h:MsJ now a b)(d:MsJ now b c):MsJ now a c:=⟨d.now.trans h.now,d.value.trans h.value,λk=>(d.keys k).trans (h.keys k),d.fl⟩
theorem flOf_lo{ms:MS}(h:MOk ms)(a:Int):0<=(bG ms a).t:=by
 unfold bG
 cases e:aJ a ms.m with
 | none=>exact VV _
 | some x=>exact (h.rows _ (hZ e)).2.1
theorem judgeS_J{c:bD}{now a:Int}{st:br}{ms:MS}{cm:CM}{e:Pv}(b:c.gd.ok)(n:isT now)(hm:MOk ms)(i:gS e=true)(j:aF e.value)(h:∀p∈ms.m,p.2.t<=now)(d:∀p∈cm,lq p) :
  MsJ now ms (eE c now a st ms cm e).ms/\∀p∈(eE c now a st ms cm e).cm,lq p:=by
 have same:MsJ now ms ms:=⟨rfl,rfl,λ_=>rfl,h⟩
 unfold eE
 split
 .exact⟨same,d⟩
 split
 .exact⟨same,d⟩
 rename_i s f;have f:(cQ st.ck (bG ms a) now e.stamp).2=0:=Decidable.not_not.1 (not_or.1 f).1;obtain⟨t1,t2,t3⟩:=LO f;have k:=flOf_lo hm a;generalize cQ st.ck (bG ms a) now e.stamp=T at *;have r:=Mb (a:=a) (t:=T.1.lo) h (by omega)
 split
 .exact⟨r,d⟩
 have w:=UA (g:=c.gd) (x:=T.1) (.inr trivial) b t1;rw[w];dsimp only;have w0:0<=fO c.gd T.1.lo:=by
  rw[LN b (by unfold isV isT at *;omega)];exact Int.ediv_nonneg (by omega) (by have:=b.1;omega)
 have w1:fO c.gd T.1.hi<=4611686018427387903:=by
  rw[LN b (by unfold isV isT at *;omega)];have:=Int.ediv_le_self (a:=T.1.hi) c.gd.width (by omega);unfold isT at n;omega
 have N:=note_L (most:=c.cells) (ser:=gh e.name e.labs) d (serG_of i) w0 w1
 split
 .exact⟨r,N⟩
 split
 .exact⟨r,N⟩
 .exact⟨r,count_L N j⟩
theorem Mc{c:bD}{now a ep first:Int}{evs:List Pv}{x:JS}(h:c.gd.ok)(j:isT now)(hm:MOk x.ms)(f:∀e∈evs,gS e=true/\aF e.value)(k:∀p∈x.ms.m,p.2.t<=now)(i:∀p∈x.cm,lq p):∀n,n<=evs.length->
  MOk (dh c now a ep first evs x n).1.ms/\MsJ now x.ms (dh c now a ep first evs x n).1.ms/\∀p∈(dh c now a ep first evs x n).1.cm,lq p
 | 0,_=>⟨hm,⟨rfl,rfl,λ_=>rfl,k⟩,i⟩
 | n+1,hl=>by
  obtain⟨i1,i2,i3⟩:=Mc (ep:=ep) (first:=first) (a:=a) h j hm f k i n (by omega);have b:=f (evs.getD n Pv.z) (by rw[ov _ (by omega)];exact V7 _);have d:=judgeS_J (a:=a) (st:=(dh c now a ep first evs x n).1.st) (e:=evs.getD n Pv.z) h j i1 b.1 b.2 i2.fl i3;have hm:=Ks (c:=c) (now:=now) (a:=a) (st:=(dh c now a ep first evs x n).1.st) (cm:=(dh c now a ep first evs x n).1.cm) (e:=evs.getD n Pv.z) i1;exact⟨hm.1,i2.trans d.1,d.2⟩
theorem Md{lim:Int}{m:FM}:∀(ks:List Int) (s:Int×Bool),lim<=s.1->lim<=(jB lim m ks s).1
 | [],s,h=>h
 | k::r,s,h=>by
  refine Md r _ ?_;unfold nT
  split
  .rename_i a;dsimp only;omega
  .exact h
theorem cmG{s:aI}(ok:cR s)(h:∀p∈s.cm,lq p):∀p∈s.cm,nh p:=λp a=>(h p a).g (ok.sh.wc p a) (ok.sh.rt p a)
theorem Rch.cl{s:aI}(R:Rch s):∀p∈s.cm,lq p:=λp a=>(R.cm p a).l
theorem Me{c:bD}(ok:jC c):Rch (bU c) where
 ok:=qM ok
 sunk:=by show (0:Int)<=_;decide
 mnow:=⟨VV _,VV _⟩
 val:=by have:=ok.lag;show (0:Int)-c.lag<=-c.lag/\-c.lag<=0;omega
 keys:=λa=>by
  have:bg (bU c).rows a=En.z:=by
   unfold bg bU;dsimp only
   split
   .rfl
   .rw [List.getElem?_replicate];split <;> rfl
  rw[this];rfl
 fl:=λp b=>Vu b (by simp[bU,MS.new])
 rows:=λa h=>by
  exfalso;have:bg (bU c).rows a=En.z:=by
   unfold bg bU;dsimp only
   split
   .rfl
   .rw [List.getElem?_replicate];split <;> rfl
  rw[this]at h;simp[En.z]at h
 ag:=(open_new ok).ag
 cm:=λp b=>Vu b (by simp[bU])
 kept:=λp b=>Vu b (by simp[bU])
theorem uP{s:aI}{r:Rp}(R:Rch s)(V:∀e∈r.evs,aF e.value):Rch (iq s r):=by
 have d:cR (iq s r):=apply_ok R.ok V;have ok:=R.ok;have h9:=R.mnow;have U:=R.val;unfold iq at *;revert d;have u:∀{n:Int},s.now<=n->(0<=s.ms.now/\s.ms.now<=n)/\∀p∈s.ms.m,p.2.t<=n:=λh=>⟨by omega,λp A=>by have:=R.fl p A;omega⟩
 refine oF (P:=λq=>cR q.1->Rch q.1) (λ_ _=>R) (λ_ _ _=>R) (λ_ _ _ d=>⟨d,R.sunk,R.mnow,R.val,R.keys,R.fl,R.rows,R.ag,R.cm,R.kept⟩) (λD j y d=>?_) (λD j y d=>?_) (λD j y d=>?_) (λD j y d=>?_) (λD j y d=>?_) λD j y d=>?_
 .have v:=iF D;have i:=uM (by omega) (by omega) j;rw[nO]at i;obtain⟨u1,u2⟩:=u i;have Z:=xv (most:=s.cfg.agents) ok.rows r.ag r.bt r.nw;revert d;unfold fC
  split
  .exact λ_=>R
  rename_i E;have E:=Decidable.not_not.1 E;have hb:¬bad r.ag r.bt r.nw:=by
   intro hb;unfold grant at E;rw[Vt hb]at E;simp at E
  split
  .rename_i j;intro d
   rcases Z with ⟨-,g2,g3,g4,g5⟩|⟨g1,_⟩
   .have H:r.ag.toNat<s.rows.length:=by rw[ok.rows.len];have:=v.ag;omega
    have w:¬((bg s.rows r.ag).epoch=0/\full s.cfg.agents s.rows)/\(grant s.cfg.agents s.rows r.ag r.bt r.nw).2.1.time=r.nw/\(grant s.cfg.agents s.rows r.ag r.bt r.nw).2.1.boot=r.bt:=by
     unfold grant at j E ⊢;rw[Vs hb]at j E ⊢;dsimp only at j E ⊢
     split at j
     .cases j
     rename_i q1;rw[Vs q1]at E ⊢
     split at j
     .cases j
     rename_i q2;rw[Vs q2]at E ⊢
     split at j
     .cases j
     rename_i q3;rw[Vs q3]at E ⊢
     split at j
     .cases j
     rename_i q4;rw[Vs q4];exact⟨q4,rfl,rfl⟩
    have Q:=(open_ag (s:=s) ok R.ag v.ag w.1 g2);generalize (grant s.cfg.agents s.rows r.ag r.bt r.nw)=G at *;have I:∀a,bg G.1 a=if a=r.ag then G.2.1 else bg s.rows a:=by
     intro a;rw[g2]
     by_cases e:a=r.ag
     .rw [Vt e,e,B1 v.ag.1 H]
     .rw [Vs e];unfold bg
      by_cases h0:a<0
      .rw [Vt h0,Vt h0]
      .rw [Vs h0,Vs h0,List.getElem?_set_ne (by have:=v.ag;omega)]
    have hold:(gW s r.ag).now=s.ms.now/\(gW s r.ag).value=s.ms.value/\(∀p∈(gW s r.ag).m,p.2.t<=r.nw)/\aJ r.ag (gW s r.ag).m=none/\∀a,a≠r.ag->aJ a (gW s r.ag).m=aJ a s.ms.m:=by
     unfold gW
     cases hs:dL s r.ag with
     | none=>
      dsimp only;refine⟨rfl,rfl,u2,?_,λ_ _=>rfl⟩
      have y:=R.keys r.ag;have h0:¬0<(bg s.rows r.ag).epoch:=by
       intro h;have S:r.ag.toNat<64:=by have:=v.ag;omega
       have e1:((r.ag.toNat:Nat):Int)=r.ag:=by have:=v.ag;omega
       have e2:bg s.rows r.ag=s.rows[r.ag.toNat]:=by rw[<-xM H,e1]
       obtain⟨st,_,F⟩:=R.str S (by rw[<-e2];exact h);rw[e1,hs]at F
       cases F
      rw[Wj h0]at y
      cases h:aJ r.ag s.ms.m with
      | none=>rfl
      | some x=>rw[h]at y;simp at y
     | some st=>
      dsimp only;unfold MS.leave
      split
      .rename_i h;exact⟨rfl,rfl,u2,h,λ_ _=>rfl⟩
      .refine⟨rfl,rfl,λp A=>u2 p (rA.1 A).1,?_,λa ha=>?_⟩
       .dsimp only;rw[vN,Vt rfl]
       .dsimp only;rw[vN,Vs ha]
    obtain⟨o1,o2,o3,o4,o5⟩:=hold;have N:(gW s r.ag).join r.ag r.nw=({ gW s r.ag with m:=mset r.ag ⟨r.nw,false,false,false⟩ (gW s r.ag).m },0):=by
     unfold MS.join;have L:=v.ag;have F:=v.nw;rw[Vs (by unfold isAg isT;unfold isT at F;omega),o4]
    rw[N]at d ⊢;refine⟨d,R.sunk,by dsimp only;omega,by dsimp only;omega,λa=>?_,λp A=>?_,λa h=>?_,Q,R.cm,R.kept⟩
    .dsimp only;rw[I,lD]
     by_cases e:a=r.ag
     .rw [Vt e,Vt e,VF g3];rfl
     .rw [Vs e,Vs e,o5 a e];exact R.keys a
    .rcases nU A with rfl|A
     .exact VV _
     .exact o3 p A
    .dsimp only at h ⊢;rw[I]at h ⊢
     by_cases e:a=r.ag
     .rw [Vt e,w.2.1,w.2.2];have L:=v.bt;have F:=v.nw;exact⟨⟨L.1 y,L.2.2⟩,F.1,F.2⟩
     .rw [Vs e]at h ⊢;exact R.rows a h
   .rw [g1]at j;cases j
  .rename_i j;intro d
   rcases Z with ⟨g1,_⟩|⟨-,g2,_⟩
   .exact Vu g1 j
   .rw [g2]at d ⊢;exact⟨d,R.sunk,u1,R.val,R.keys,u2,R.rows,R.ag,R.cm,R.kept⟩
 .have v:=iF D;have i:=uM (by omega) (by omega) j;rw[Vt y]at i;obtain⟨u1,u2⟩:=u i;obtain⟨st,C⟩:=lg ok v j (.inl y);revert d;unfold mS;rw[C];intro d;have hh:∀b,(s.ms.hold r.ag b).1.now=s.ms.now/\(s.ms.hold r.ag b).1.value=s.ms.value/\(∀a,(aJ a (s.ms.hold r.ag b).1.m).isSome=(aJ a s.ms.m).isSome)/\∀p∈(s.ms.hold r.ag b).1.m,p.2.t<=r.sm.came:=by
   intro b;unfold MS.hold
   split
   .exact⟨rfl,rfl,λ_=>rfl,u2⟩
   .rename_i x Y;refine⟨rfl,rfl,λa=>?_,λp A=>?_⟩
    .dsimp only;rw[lD]
     split
     .rename_i e;rw[e,Y];rfl
     .rfl
    .rcases nU A with rfl|A
     .have:=u2 (r.ag,x) (hZ Y);exact this
     .exact u2 p A
  obtain⟨L,F,h3,h4⟩:=hh (kT st.ck r.sm).1.held;refine⟨d,R.sunk,?_,?_,λa=>?_,h4,R.rows,R.ag,R.cm,R.kept⟩
  .dsimp only;rw[L];exact u1
  .dsimp only;rw[L,F];exact R.val
  .dsimp only;rw[h3];exact R.keys a
 .have v:=iF D;have i:=uM (by omega) (by omega) j;rw[nO]at i;obtain⟨u1,u2⟩:=u i;obtain⟨st,C⟩:=lg ok v j (.inr (.inl y));have M:=ok.sts st (VY C);have hb:=v.evs y;unfold gT at hb;simp only[Vz,Vy,Wg]at hb;obtain⟨⟨h7,l5⟩,⟨⟨h6,h8⟩,l0⟩,T⟩:=hb;have hm:=un (s:=st.hs) (first:=r.nx) (items:=r.evs);have good:∀e∈(st.hs.offer r.nx r.evs).2.1,gS e=true/\aF e.value:=by
   intro e he
   rcases hm.1 e he with h|⟨q,h,rfl⟩
   .exact⟨T e h,V e h⟩
   .exact (M.rows q h).2
  have N:=Mc (c:=s.cfg) (now:=r.nw) (a:=r.ag) (ep:=r.ep) (first:=st.hs.next) (evs:=(st.hs.offer r.nx r.evs).2.1) (x:=⟨{ st with hs:=(st.hs.offer r.nx r.evs).1 },s.ms,s.cm⟩) ok.cfg.gd v.nw ok.ms good u2 R.cl _ (V2 _);revert d;unfold gD;rw[C];dsimp only;unfold kG;generalize dh s.cfg r.nw r.ag r.ep st.hs.next (st.hs.offer r.nx r.evs).2.1 ⟨{ st with hs:=(st.hs.offer r.nx r.evs).1 },s.ms,s.cm⟩ (st.hs.offer r.nx r.evs).2.1.length=G at *;intro d;obtain⟨j1,B,j3⟩:=N;refine⟨d,R.sunk,?_,?_,λa=>?_,B.fl,R.rows,R.ag,cmG d j3,R.kept⟩
  .dsimp only at B ⊢;rw[B.now];exact u1
  .dsimp only at B ⊢;rw[B.now,B.value];exact R.val
  .dsimp only at B ⊢;rw[B.keys];exact R.keys a
 .have v:=iF D;have i:=uM (by omega) (by omega) j;rw[nO]at i;obtain⟨u1,u2⟩:=u i;obtain⟨st,C⟩:=lg ok v j (.inr (.inr y));revert d;unfold lS;rw[C];dsimp only
  split
  .exact λd=>⟨d,R.sunk,u1,R.val,R.keys,u2,R.rows,R.ag,R.cm,R.kept⟩
  split
  .exact λd=>⟨d,R.sunk,u1,R.val,R.keys,u2,R.rows,R.ag,R.cm,R.kept⟩
  .rename_i hT;intro d;obtain⟨t1,t2,t3⟩:=LO (Decidable.not_not.1 hT);have B:=Mb (a:=r.ag) (t:=(cQ st.ck (bG s.ms r.ag) r.nw r.st).1.lo) u2 (by omega);refine⟨d,R.sunk,?_,?_,λa=>?_,B.fl,R.rows,R.ag,R.cm,R.kept⟩
   .dsimp only;rw[B.now];exact u1
   .dsimp only;rw[B.now,B.value];exact R.val
   .dsimp only;rw[B.keys];exact R.keys a
 .have v:=iF D;have i:=uM (by omega) (by omega) j;rw[nO]at i;obtain⟨u1,u2⟩:=u i;have J:=v.nw;have W:=ok.ms.l1;have h5:=ok.lag;have ht:s.ms.tick r.nw=({ s.ms with now:=r.nw,value:=maxI s.ms.value (jB (r.nw-s.ms.lag) s.ms.m (sortI (aG s.ms.m)) (r.nw-s.ms.lag,false)).1,m:=s.ms.m.map λp=>(p.1,kr (r.nw-s.ms.lag) p.2) },0):=by
   unfold MS.tick;rw[Vs (by intro h;rcases h with h|h;exact h J;omega)]
  have f1:=LR (lim:=r.nw-s.ms.lag) u2 J.1 (sortI (aG s.ms.m)) (r.nw-s.ms.lag,false) (by dsimp only;omega);have f2:=Md (lim:=r.nw-s.ms.lag) (m:=s.ms.m) (sortI (aG s.ms.m)) (r.nw-s.ms.lag,false) (VV _);revert d;unfold kH dt;rw[ht];intro d;have O:∀p∈nP s.cm (fO s.cfg.gd (maxI s.ms.value (jB (r.nw-s.ms.lag) s.ms.m (sortI (aG s.ms.m)) (r.nw-s.ms.lag,false)).1)),nh p:=λp A=>R.cm p (U6.1 A).1
  refine⟨d,R.sunk,⟨J.1,VV _⟩,?_,λa=>?_,λp A=>?_,R.rows,R.ag,O,λo K=>?_⟩
  .dsimp only;unfold maxI
   split <;> omega
  .dsimp only;have:=xi (f:=λ(_:Int)=>kr (r.nw-s.ms.lag)) (k:=a) (m:=s.ms.m)
   rw[this,<-R.keys a]
   cases aJ a s.ms.m <;> rfl
  .obtain⟨q,hq,rfl⟩:=V3.1 A;exact u2 q hq
  .rcases VK.1 K with K|K
   .exact R.kept o K
   .exact R.cm o (B3 (AX K))
 .revert d;unfold mT
  split
  .intro d;have v:=iF D;exact⟨d,by have:=v.nx;exact this.2,R.mnow,R.val,R.keys,R.fl,R.rows,R.ag,R.cm,λo K=>R.kept o (W3 K)⟩
  .exact λ_=>R
theorem Rch.ser{s:aI}(R:Rch s):qO s:=⟨λp b=>(R.cm p b).size,λo a=>(R.kept o a).size⟩
structure Rx where
 kind:Int
 ag:Int
 ep:Int
 bt:Int
 nx:Int
 st:Int
 nw:Int
 sm:bQ
 ea:KQ
 ec:Nat
 evs:List Ev
abbrev encX(x:Rx):Os:=[aB x.kind,aB x.ag,aB x.ep,aB x.bt,aB x.nx,aB x.st,aB x.nw,aB x.sm.asked,aB x.sm.got,aB x.sm.sent,aB x.sm.came,.slice x.ea x.evs.length x.ec]
theorem Mf(x:Rx):(encX x).length=12:=rfl
structure RxK(Q:aE)(x:Rx):Prop where
 rd:KIn Q x.ea (flat cw x.evs)
 labs:∀e∈x.evs,io Q e
 val:∀e∈x.evs,aF e.value
 ll:∀e∈x.evs,e.labs.length<=maxLen
structure XsK(Q:aE)(a:KQ)(xs:List Rx):Prop where
 rd:KIn Q a (flat encX xs)
 rx:∀x∈xs,RxK Q x
 ll:xs.length<=maxLen
def grL(l:bS):Bool:=decide (300<(l.name.size:Int))||decide (300<(l.value.size:Int))
def grS(name:Fa)(labs:List bS):Bool:=decide (100<(labs.length:Int))||decide (300<(name.size:Int))||labs.any grL
def grE(evs:List Ev):Bool:=decide (100<(evs.length:Int))||evs.any λe=>grS e.name e.labs
def grC(c:bD)(n:Nat):Bool:=decide (80<(n:Int))||(decide (200<c.cells)&&decide (c.cells<=1024))
def grR(c:bD)(xs:List Rx):Bool:=grC c xs.length||xs.any λx=>grE x.evs
theorem B4{α:Type}{p:α->Bool}{l:List α}(h:∀q (a:q<l.length),p l[q]=false):l.any p=false:=by
 rw[List.any_eq_false];intro x b;obtain⟨q,a,rfl⟩:=Wn b;rw[h q a];simp
theorem B5{α:Type}{p:α->Bool}{l:List α}{q:Nat}(a:q<l.length)(h:p l[q]=true):l.any p=true:=List.any_eq_true.2 ⟨_,V7 a,h⟩
def dH(s:aI)(rs:List Rp):aI:=rs.foldl (λs r=>(bO s r).1) s
theorem UL(s:aI)(rs:List Rp)(r:Rp):dH s (rs++[r])=(bO (dH s rs) r).1:=by unfold dH;rw[WF];rfl
section
variable {F L:List aE}{H H0:aD}{K KP:KE}{Q Q':aE}{sb:Nat}{s:aI}
theorem Mg{name:Fa}{labs:List bS}{a:KQ}{c:Nat}(h:aA H F)(y:∀H,aA H F->aP H a (flat df labs))(A:labs.length<=maxLen)(k:∀m,aA m F->K (.bool (grS name labs)) m) :
  CF 186 #[.agg #[.string name,.slice a labs.length c]] H K:=by
 refine cN 186 0x1d21562139925b4c [[(3,sI)]] ?_;unfold grS at k;refine h.al λb _ h=>⟨_,_,_,h.r 0,_,λ_=>h.r 0,λe=>?_,λe=>?_⟩
 .rw [e,Bool.true_or]at k;exact k _ h.tl
 rw[e,WQ]at k;rw[VB,V0]at e;refine⟨λi m=>∃j:Nat,i=j/\j<=labs.length/\(∀q (t:q<labs.length),q<j->grL labs[q]=false)/\aA m (cellsA b [.string name,.slice a labs.length c] 79::F),λi _=>labs.length-i.toNat,⟨0,rfl,by omega,λq _ h=>by omega,h⟩,?_⟩
 rintro i m ⟨j,rfl,B,t,h⟩;refine⟨_,_,_,h.r 0,λe=>?_,λe=>?_⟩
 .have d:j<labs.length:=by have:=Vw e;omega
  have n:=y m h.tl;have e1:=n.el0 iU d (v:=.string labs[j].name) rfl;have e2:=n.el iU d 1 (v:=.string labs[j].value) rfl;refine⟨_,_,_,h.r 0,by omega,_,_,n.some iU (by omega) d,_,e1,_,_,_,λ_=>h.r 0,λ_=>by omega,_,_,λ_=>n.some iU (by omega) d,_,λ_=>e2,λs=>?_,λs=>?_⟩
  .rw [B5 d s]at k;exact k _ h.tl
  .conv=>whnf
   rw[aK (by omega) (by unfold maxLen at *;omega)];refine⟨⟨j+1,by omega,d,λq f w=>?_,h⟩,by dsimp only;omega⟩
   rcases VO q j with u|u
   .exact t q f u
   .obtain rfl:q=j:=by omega
    exact s
 .have x:labs.length<=j:=by have:=Vx e;omega
  rw[B4 λq f=>t q f (by omega)]at k
  exact k _ h.tl
theorem UM{evs:List Ev}{a:KQ}{c:Nat}(h:aA H F)(E:∀H,aA H F->aP H a (flat cw evs))(hb:∀e∈evs,(∀H,aA H F->aP H e.la (flat df e.labs))/\e.labs.length<=maxLen)(k:∀s,aA s F->K (.bool (grE evs)) s) :
  CF 85 #[.agg #[aC 0,aC 0,aC 0,aC 0,aC 0,aC 0,aC 0,aC 0,aC 0,aC 0,.slice a evs.length c,.string ⟨#[]⟩,.slice none 0 0,.slice none 0 0]] H K:=by
 refine cN 85 0x12283c921562139925b4c [[(3,sI)],[(18,sB)]] ?_;unfold grE at k;refine h.al λb _ h=>?_
 intro I y;refine⟨_,_,_,h.r 0,_,_,_,λ_=>h.r 0,_,_,_,_,λ_=>h.q 0,λm=>?_,λm=>?_⟩
 .have f:decide (100<(evs.length:Int))=false:=(VB.1 m).1;rw[f,WQ]at k;refine Mg (labs:=[]) h (λH _=>iv H _) (by simp) λC h=>⟨_,rfl,y _ _ ?_⟩
  refine⟨λu=>Vu u (by decide),λ_=>?_⟩
  rw[V0]at f;refine⟨λi s=>∃j:Nat,i=j/\j<=evs.length/\(∀q (x:q<evs.length),q<j->grS evs[q].name evs[q].labs=false)/\aA s (cellsA b [aC 0,aC 0,aC 0,aC 0,aC 0,aC 0,aC 0,aC 0,aC 0,aC 0,.slice a evs.length c,.string ⟨#[]⟩,.slice none 0 0,.slice none 0 0] 81::F),λi _=>evs.length-i.toNat,⟨0,rfl,by omega,λq _ h=>by omega,h⟩,?_⟩
  rintro i s ⟨j,rfl,G,x,h⟩;refine⟨_,_,_,h.r 0,λm=>?_,λm=>?_⟩
  .have d:j<evs.length:=by have:=Vw m;omega
   have t:=E s h.tl;have e1:=t.el fH d 2 (v:=.string evs[j].name) rfl;have e2:=t.el fH d 3 (v:=.slice evs[j].la evs[j].labs.length evs[j].lc) rfl;obtain⟨g1,g2⟩:=hb _ (V7 d);refine⟨_,_,_,h.r 0,by omega,_,_,t.some fH (by omega) d,_,_,_,_,⟨e1,e2⟩,?_⟩;refine Mg (name:=evs[j].name) (labs:=evs[j].labs) h (λH h=>g1 H h.tl) g2 λC h=>⟨_,rfl,λw=>?_,λw=>?_⟩
   .rw [B5 (p:=λe=>grS e.name e.labs) d w]at k
    exact k _ h.tl
   .conv=>whnf
    rw[aK];refine⟨⟨j+1,by omega,d,λq n B=>?_,h⟩,by dsimp only;omega⟩
    rcases VO q j with A|A
    .exact x q n A
    .obtain rfl:q=j:=by omega
     exact w
  .have D:evs.length<=j:=by have:=Vx m;omega
   rw[B4 (p:=λe=>grS e.name e.labs) λq n=>x q n (by omega)]at k
   exact k _ h.tl
 .have f:decide (100<(evs.length:Int))=true:=by
   rw[VB]at m
   cases e:decide (100<(evs.length:Int)) with
   | true=>rfl
   | false=>exact Vu ⟨e,by simp⟩ m
  rw[f,Bool.true_or]at k;refine y _ _ ?_;exact⟨λ_=>k _ h.tl,λu=>Vu u (by decide)⟩
theorem UN{cf:bD}{a:KQ}{c:Nat}{xs:List Rx}(h:aA H (Q::F))(t:XsK Q a xs)(k:∀s,aA s (Q::F)->K (.bool (grR cf xs)) s) :
  CF 36 #[.agg ⟨oz cf⟩,.slice a xs.length c] H K:=by
 refine cN 36 0x1d21562139925b4c [[(5,sI)]] ?_;unfold grR grC at k;refine h.al λb _ h=>⟨_,λ_=>h.r 0,_,λ_=>h.r 0,λm=>?_,λm=>?_⟩
 .rw [m,Bool.true_or]at k;exact k _ h.tl
 rw[m,WQ]at k;refine⟨λi s=>∃j:Nat,i=j/\j<=xs.length/\(∀q (w:q<xs.length),q<j->grE xs[q].evs=false)/\aA s (cellsA b (oz cf) 23::Q::F),λi _=>xs.length-i.toNat,⟨0,rfl,by omega,λq _ h=>by omega,h⟩,?_⟩
 rintro i s ⟨j,rfl,G,w,h⟩;refine⟨λm=>?_,λm=>?_⟩
 .have d:j<xs.length:=by have:=Vw m;omega
  have y:=t.rd.at h 1 rfl;have e1:=y.el Mf d 11 (v:=.slice xs[j].ea xs[j].evs.length xs[j].ec) rfl;refine⟨by omega,_,_,y.some Mf (by omega) d,_,_,_,e1,?_⟩;have n:=t.rx _ (V7 d);refine UM (evs:=xs[j].evs) h (λH h=>n.rd.at h 1 rfl) (λe A=>⟨λH h=>(n.labs e A).at h 1 rfl,n.ll e A⟩) λE h=>⟨_,rfl,λu=>?_,λu=>?_⟩
  .rw [B5 (p:=λx=>grE x.evs) d u]at k
   exact k _ h.tl
  .conv=>whnf
   rw[aK (by omega) (by have:=t.ll;unfold maxLen at *;omega)];refine⟨⟨j+1,by omega,d,λq f C=>?_,h⟩,by dsimp only;omega⟩
   rcases VO q j with B|B
   .exact w q f B
   .obtain rfl:q=j:=by omega
    exact u
 .have D:xs.length<=j:=by have:=Vx m;omega
  rw[B4 (p:=λx=>grE x.evs) λq f=>w q f (by omega)]at k
  exact k _ h.tl
end
section
variable {H:Type}{enc:TypeId×Value->H}{W:World}
theorem okWide_agg{P:Program}{w:World}{r:Reach}{a:Nat}{t:TypeId}{v:Value}{fs:Array Field}(b:P.underlying t=some (.struct fs))(h:Value.okWide P w r a t v):∃cs,v=.agg cs:=by
 simp only[Value.okWide,b]at h;obtain⟨cs,h,_⟩:=h;exact⟨cs,h⟩
theorem UO{cs:Os}(h:kQ enc Tryz.prog W 23 cs):∃cf:bD,cs=oz cf:=by
 obtain⟨b,c⟩:=yJ Tryz.underlying23 h;have c2:Tryz.prog.cellsOf 2=1:=by kernel_rfl
 have c3:Tryz.prog.cellsOf 3=1:=by kernel_rfl
 have a:Tryz.prog.cellsOf 23=9:=by kernel_rfl
 rw[a]at b;simp only[V9,W1,or_false,forall_eq_or_imp,forall_eq,c2,c3]at c;obtain⟨f1,f2,f3,f4,f5,f6,f7,f8,f9⟩:=c
 match cs,b with
 | [x1,x2,x3,x4,x5,x6,x7,x8,x9],_=>
  simp only[List.drop_zero,WA,WU,Yy]at f1 f2 f3 f4 f5 f6 f7 f8 f9;obtain⟨n1,e1,_,_⟩:=iw Tryz.underlying2 f1;obtain⟨n2,e2,_,_⟩:=iw Tryz.underlying3 f2;obtain⟨n3,e3,_,_⟩:=iw Tryz.underlying2 f3;obtain⟨n4,e4,_,_⟩:=iw Tryz.underlying2 f4;obtain⟨n5,e5,_,_⟩:=iw Tryz.underlying2 f5;obtain⟨n6,e6,_,_⟩:=iw Tryz.underlying3 f6;obtain⟨n7,e7,_,_⟩:=iw Tryz.underlying3 f7;obtain⟨n8,e8,_,_⟩:=iw Tryz.underlying3 f8;obtain⟨n9,e9,_,_⟩:=iw Tryz.underlying3 f9;simp only[List.cons.injEq,and_true]at e1 e2 e3 e4 e5 e6 e7 e8 e9;subst e1 e2 e3 e4 e5 e6 e7 e8 e9;exact⟨⟨n1,n2,n3,n4,n5,n6,n7,n8,n9⟩,rfl⟩
theorem reads_bs{cs:Os}(h:kQ enc Tryz.prog W 43 cs):∃a c bs,cs=[.slice a (List.length bs) c]/\bs.length<=maxLen/\aP W.heap a (bs.map U8)/\aH bs:=by
 obtain⟨a,c,xs,k,j,f,m⟩:=Es (ec:=λx:Int=>[U8 x]) (Q:=λx=>0<=x/\x<256) Tryz.underlying43 (by kernel_rfl) (by decide) h (λs i _=>by
  obtain⟨n,e,b,d⟩:=iw Tryz.underlying5 i;have b:0<=n:=b;have d:n<=255:=d;exact⟨n,e,b,by omega⟩) (λ_=>rfl)
 have e:∀l:List Int,flat (λx=>[U8 x]) l=l.map U8:=λl=>by
  induction l with
  | nil=>rfl
  | cons x r ih=>rw[lB,ih];rfl
 rw[e]at f;exact⟨a,c,xs,k,j,f,m⟩
end
theorem B6{f:Nat->Int}{is:List Nat}(h:∀i∈is,aF (f i))(r:List Int):∀j,j<=is.length->ja j ⟨0,(is.flatMap λi=>aO [f i])++r⟩=.ok ((is.take j).map f,⟨0,((is.drop j).flatMap λi=>aO [f i])++r⟩)
 | 0,_=>rfl
 | j+1,hj=>by
  have a:j<is.length:=by omega
  unfold ja;rw[B6 h r j (by omega)];dsimp only;rw[Wm a,VU,V5,kI (h _ (V7 a))];dsimp only;rw[W4,List.getElem?_eq_getElem a,VJ];rfl
theorem Mh{l:List Pv}(h:∀e∈l,gS e=true/\aF e.value)(r:List Int):∀j,j<=l.length->kZ j ⟨0,l.flatMap evB++r⟩=.ok (l.take j,⟨0,(l.drop j).flatMap evB++r⟩)
 | 0,_=>rfl
 | j+1,hj=>by
  have a:j<l.length:=by omega
  have hm:=h _ (V7 a);unfold kZ;rw[Mh h r j (by omega)];dsimp only;rw[Wm a,VU,V5,L2 hm.1 hm.2];dsimp only;rw[W4,List.getElem?_eq_getElem a];rfl
theorem atV_map{k:Int}{f:Nat->Int}{i:Nat}:atV k ((cu k).map f) i=if i∈cu k then f i else 0:=by
 unfold atV
 split
 .rename_i h;have a:=List.idxOf_lt_length_iff.2 h;rw[Yd,List.getElem?_map,List.getElem?_eq_getElem a,List.getElem_idxOf a];rfl
 .rfl
theorem nums_wf{r:Rp}(a:RLim r)(i:Nat):aF (r.nums i):=by
 have d:=a.ag;have h:=a.ep;have e:=a.bt;have f:=a.nx;have c:=a.st;have j:=a.nw;have b:=a.sm.wf;unfold bQ.wf at b;unfold isT at *;unfold Rp.nums
 split <;> first|exact b.1|exact b.2.1|exact b.2.2.1|exact b.2.2.2|(unfold aF;omega)
theorem rec_back{r:Rp}(a:r.right=true)(u:∀e∈r.evs,aF e.value):recR r.bytes=.ok r:=by
 have k:=iF a;have f:=U7 a;have w:=k.kind;have d:(r.kind=4->r.evs.length<=64/\∀e∈r.evs,gS e=true/\aF e.value)/\(¬r.kind=4->r.evs=[]):=by
  refine⟨λc=>?_,λc=>?_⟩
  .have hb:=k.evs c;unfold gT at hb;simp only[Vz,Vy,Wg]at hb;exact⟨hb.2.1.1.2,λe n=>⟨hb.2.2 e n,u e n⟩⟩
  .unfold Rp.right at a;rw[Vs c]at a;simp only[Vz,Vy]at a;exact W6.1 a.1.2
 have e:r.bytes=aO [r.kind]++(((cu r.kind).flatMap λi=>aO [r.nums i])++((if r.kind=4 then aO [((r.evs.length:Nat):Int)] else [])++(r.evs.flatMap evB++[]))):=by
  unfold Rp.bytes;rw[Vt a];simp only[V5,VT]
 have b:ld r.kind ((cu r.kind).map r.nums) r.evs=r:=by
  unfold Rp.zeros at f;simp only[Vz,Vy]at f;have key:∀i x,r.nums i=x->zrK r.kind i x=0->atV r.kind ((cu r.kind).map r.nums) i=x:=by
   intro i x t j;rw[atV_map];unfold zrK at j
   split
   .exact t
   .rename_i h;rw[Vs h]at j;exact j.symm
  unfold ld;obtain⟨⟨⟨⟨⟨⟨z1,z2⟩,z3⟩,z4⟩,z5⟩,z6⟩,⟨⟨z7,z8⟩,z9⟩,m⟩:=f;rw[key 1 r.ag rfl z1,key 2 r.ep rfl z2,key 3 r.bt rfl z3,key 4 r.nx rfl z4,key 5 r.st rfl z5,key 6 r.nw rfl z6,key 7 r.sm.asked rfl z7,key 8 r.sm.got rfl z8,key 9 r.sm.sent rfl z9,key 10 r.sm.came rfl m]
 unfold recR;rw[e,uD (by omega) (by omega)];dsimp only;rw[nO,B6 (λi _=>nums_wf k i) _ _ (V2 _),VW,Wu]
 dsimp only;have fin:evsR r.kind ⟨0,([]:List Nat).flatMap (λi=>aO [r.nums i])++((if r.kind=4 then aO [((r.evs.length:Nat):Int)] else [])++(r.evs.flatMap evB++[]))⟩=.ok (r.evs,⟨0,[]⟩):=by
  unfold evsR
  split
  .rename_i c;obtain⟨v,s⟩:=d.1 c;have ec:dO 64 ⟨0,([]:List Nat).flatMap (λi=>aO [r.nums i])++(aO [((r.evs.length:Nat):Int)]++(r.evs.flatMap evB++[]))⟩=.ok (((r.evs.length:Nat):Int),⟨0,r.evs.flatMap evB++[]⟩):=uF (by omega) (by omega) _
   rw[ec];dsimp only;rw[V4,Mh s _ _ (V2 _),VW,Wu];rfl
  .rename_i c;rw[d.2 c];rfl
 rw[fin];dsimp only;rw[show (dF ⟨0,[]⟩).e=0 from rfl,Vs (by simp),b,a,Vt rfl]
namespace Al
def c0:bD:=⟨10,0,1000,100,100,2,4,40,8⟩
def r1:Rp:=⟨2,3,0,1,0,0,0,bQ.z,[]⟩
def r2:Rp:=⟨3,3,1,0,0,0,0,⟨0,0,0,2⟩,[]⟩
def e0:Pv:=⟨5,7,⟨#[109]⟩,[]⟩
def r3:Rp:=⟨4,3,1,0,0,0,9,bQ.z,[e0]⟩
def r4:Rp:=⟨6,0,0,0,0,0,200,bQ.z,[]⟩
def r5:Rp:=⟨6,0,0,0,0,0,199,bQ.z,[]⟩
def r6:Rp:=⟨7,0,0,0,1,0,0,bQ.z,[]⟩
def r7:Rp:=⟨1,0,0,0,0,0,0,bQ.z,[]⟩
def A1:=bO (bU c0) r1
def A2:=bO A1.1 r2
def A3:=bO A2.1 r3
def A4:=bO A3.1 r4
def A5:=bO A4.1 r5
def A6:=bO A5.1 r6
theorem ok0:jC c0:=uA (by kernel_rfl)
theorem nov{r:Rp}(h:r.evs=[]):∀e∈r.evs,aF e.value:=λe a=>by rw[h]at a;cases a
theorem R1:Rch A1.1:=uP (Me ok0) (nov rfl)
end Al
section
variable {F L:List aE}{H H0:aD}{K KP:KE}{Q Q':aE}{sb:Nat}{s:aI}
theorem UP(h:aA H F)(k:∀a,aA a F->K (.agg ⟨oz Al.c0⟩) a):CF 81 #[] H K:=by
 refine cM 81 28 ?_;refine h.al λb _ h=>?_
 refine h.st 0 rfl rfl ?_;intro c h;exact⟨_,_,_,_,_,_,_,_,_,h.q 0,k _ h.tl⟩
theorem Mi(ok:cR s)(ser:qO s)(c:s.kept.length<=50000):(stB s).length<=1000000000:=by
 have k:=KY (s:=s);have i:=oC (f:=dR s) (l:=aR 0 s.rows) (B:=345000) λp _=>xz ok p
 have b:=xh ok.rows;have n:=oC (f:=ceB) (l:=bA s.cm) (B:=10100) λo a=>by
  obtain⟨q,d,e⟩:=Bn a;exact xA (xu ok.sh _ a) (by rw[<-e];exact ser.cm q d)
 have h:=oC (f:=ceB) (l:=s.kept) (B:=10100) λo a=>xA (ok.kept o a) (ser.kept o a)
 have j:=uj s.cm;have t:=ok.sh.len;have m:=ok.sh.m2;have q1:=dK [(s.cm.length:Int)];have q2:=dK [(s.kept.length:Int)];have m1:345000*(aR 0 s.rows).length<=345000*64:=WV _ b;have m2:10100*(bA s.cm).length<=10100*1024:=WV _ (by omega);have m3:10100*s.kept.length<=10100*50000:=WV _ c;unfold stB lj jq;simp only[Vv,V1,VN]at *;omega
end
theorem UQ{s:aI}{r:Rp}(ok:cR s):(iq s r).cfg=s.cfg/\(iq s r).kept.length<=s.kept.length+s.cfg.cells.toNat:=by
 unfold iq;have a:s.cfg=s.cfg/\s.kept.length<=s.kept.length+s.cfg.cells.toNat:=⟨rfl,by omega⟩;refine oF (P:=λx=>x.1.cfg=s.cfg/\x.1.kept.length<=s.kept.length+s.cfg.cells.toNat) (λ_=>a) (λ_ _=>a) (λ_ _ _=>a) (λ_ _ _=>?_) (λ_ _ _=>?_) (λ_ _ _=>?_) (λ_ _ _=>?_) (λ_ _ _=>?_) (λ_ _ _=>?_)
 .unfold fC;split
  .exact a
  .split <;> exact a
 .dsimp only;unfold mS;split <;> exact a
 .dsimp only;unfold gD;split <;> exact a
 .dsimp only;unfold lS
  split
  .split
   .exact a
   .split <;> exact a
  .exact a
 .dsimp only;unfold kH dt;have b:(iC s.cm (fO s.cfg.gd (s.ms.tick r.nw).1.value)).length<=(bA s.cm).length:=by unfold iC;exact (List.takeWhile_sublist _).length_le
  have d:(bA s.cm).length=s.cm.length:=by unfold bA;rw[V8,ui];simp[aG]
  have c:=ok.sh.len;dsimp only;rw[Vv];exact⟨rfl,by omega⟩
 .dsimp only;unfold mT
  split
  .dsimp only;rw[VH];exact⟨rfl,by omega⟩
  .exact a
theorem Mj{c:bD}{now a ep first:Int}{evs:List Pv}{x:JS}:∀n,(dh c now a ep first evs x n).2.length=n
 | 0=>rfl
 | n+1=>by
  show ((dh c now a ep first evs x n).2++[_]).length=_;rw[Vv,Mj n];rfl
theorem Mk{c:bD}{st:br}(a:lR c st):st.hs.rows.length<=256:=by
 have d:=a.hs.rows.length;have b:=a.hs.most2;omega
theorem B7{s:aI}{r:Rp}(ok:cR s)(h:r.evs.length<=100):(dG s r).length<=2000:=by
 unfold dG;refine oF (P:=λx=>x.2.1.length<=2000) (λ_=>by simp) (λ_ _=>by simp) (λ_ _ _=>by simp) (λ_ _ _=>?_) (λ_ _ _=>by simp) (λ_ _ _=>?_) (λ_ _ _=>by simp) (λ_ _ _=>?_) (λ_ _ _=>by simp)
 .unfold fC
  split
  .simp
  split
  .have:(jo s r.ag).length<=256:=by
    unfold jo
    split
    .rename_i st a;have hm:some st∈s.sts:=by
      unfold dL at a
      split at a
      .cases a
      .cases hq:s.sts[r.ag.toNat]? with
       | none=>rw[hq]at a;cases a
       | some o=>
        rw[hq]at a
        cases o with
        | none=>cases a
        | some st'=>cases a;exact VY hq
     have:=Mk (ok.sts st hm);simpa[aG] using this
    .simp
   dsimp only;rw[Vv,Wi];omega
  .simp
 .dsimp only;unfold gD
  split
  .rename_i st e;have c:=Mk (ok.sts st (VY e));have d:=Jx (s:=st.hs) (first:=r.nx) (items:=r.evs);have b:(kG s r st).2.length=(st.hs.offer r.nx r.evs).2.1.length:=by unfold kG;exact Mj _
   dsimp only;rw[Vv,Wi,b];omega
  .simp
 .dsimp only;unfold kH;dsimp only;rw[nV];unfold dt;have c:(iC s.cm (fO s.cfg.gd (s.ms.tick r.nw).1.value)).length<=(bA s.cm).length:=by unfold iC;exact (List.takeWhile_sublist _).length_le
  have d:(bA s.cm).length=s.cm.length:=by unfold bA;rw[V8,ui];simp[aG]
  have b:=ok.sh.len;have f:=ok.sh.m2;omega
structure RunR(s:aI)(c:bD)(n:Nat):Prop where
 R:Rch s
 cfg:s.cfg=c
 kept:s.kept.length<=c.cells.toNat*n
theorem runR_new{c:bD}(h:jC c):RunR (bU c) c 0:=⟨Me h,rfl,by simp[bU]⟩
theorem RunR.step{s:aI}{c:bD}{n:Nat}{r:Rp}(h:RunR s c n)(f:∀e∈r.evs,aF e.value):RunR (bO s r).1 c (n+1):=by
 have b:=UQ (r:=r) h.R.ok;refine⟨uP h.R f,b.1.trans h.cfg,?_⟩;have d:=h.kept;have a:=b.2;rw[h.cfg]at a;rw[Nat.mul_add,Wr];exact VI a (Nat.add_le_add_right d _)
theorem RunR.run{s:aI}{c:bD}{n:Nat}(h:RunR s c n):∀{rs:List Rp},(∀r∈rs,∀e∈r.evs,aF e.value)->RunR (dH s rs) c (n+rs.length):=by
 intro rs
 induction rs generalizing s n with
 | nil=>intro _;exact h
 | cons r rs ih=>
  intro a;have:=ih (h.step (r:=r) (a r (VA ..))) λx b=>a x (VD _ b)
  rw[V1,show n+(rs.length+1)=n+1+rs.length by omega];exact this
theorem US{c:bD}{xs:List Rx}(a:fD c=true)(b:grR c xs=false):c.cells.toNat<=200:=by
 have d:=(uA a);have e:1<=c.cells/\c.cells<=1024:=by
  unfold fD at a;simp only[Vz,Vy]at a;exact a.1.2
 unfold grR grC at b;simp only[VB,Wc,V0]at b;omega
theorem RunR.few{s:aI}{c:bD}{n:Nat}(h:RunR s c n)(b:c.cells.toNat<=200)(a:n<=200):s.kept.length<=40000:=by
 have:=h.kept;have d:c.cells.toNat*n<=200*200:=Nat.mul_le_mul b a;omega
theorem B8{H0 H:aD}{Q:aE}{F:List aE}(hs:aM (old H0) Q)(h:aA H (Q::F)):dB H0 H:=(KG.old H0).sub hs H F h
structure Gg where
 o:Opt
 s:aI
 p:Pb
 pend:List Ou
 recs:Int
 saved:Bool
 num:Int
 seg:Int
 rl:RL
 rows:DR
 syn:Nat
def cG(g:Gg)(r:Rp):Gg×Int:=
 if (bO g.s r).2.2≠0 then (g,(bO g.s r).2.2) else
 ({ g with s:=(bO g.s r).1,pend:=g.pend++(bO g.s r).2.1.flatMap cI,recs:=g.recs+1,rl:=dp g.rows g.rl ⟨r.kind,r.bytes⟩,rows:=fY g.rows g.rl ⟨r.kind,r.bytes⟩ },0)
structure GgOk(g:Gg):Prop where
 R:Rch g.s
 kept:g.s.kept.length<=40000
 rl:g.rl.ok
 rows:g.rows.length<=549755813888
 seg:g.rl.seg<2147483647
 recs:0<=g.recs/\g.recs<=1000000000
 pend:g.pend.length<=1000000000
 prb:jF g.p
structure GA where
 x:GAd
 pb:Nat
 ys:List Oy
def gateA(Q:aE)(gb db:Nat)(g:Gg):aE:=exS λy:GA=>star [pur (y.x.pv=PA y.pb 0/\y.ys.map Oy.o=g.pend/\∀z∈y.ys,fI Q z),cellsA gb (li g.o y.x y.ys.length g.recs) 110,stA Q y.x.sb g.s,
 slA 91 11 y.x.pa y.ys.length y.x.pc (flat bH y.ys),bookA y.x.bb y.x.rb g.saved g.num g.seg,reelA y.x.rb db g.rl,diskX db g.rows g.syn,prbA y.pb g.p]
section
variable {F L:List aE}{H:aD}{K:KE}{Q:aE}{gb db:Nat}{g:Gg}
theorem gm:aA H (gateA Q gb db g::F)↔∃(x:GAd) (pb:Nat) (ys:List Oy),x.pv=PA pb 0/\ys.map Oy.o=g.pend/\(∀z∈ys,fI Q z)/\
  aA H (cellsA gb (li g.o x ys.length g.recs) 110::stA Q x.sb g.s::slA 91 11 x.pa ys.length x.pc (flat bH ys)::bookA x.bb x.rb g.saved g.num g.seg::reelA x.rb db g.rl::diskX db g.rows g.syn::prbA pb g.p::F):=by
 unfold gateA;rw[cK]
 constructor
 .rintro⟨y,h⟩;obtain⟨a,h⟩:=vG.1 (aA.open h);exact⟨y.x,y.pb,y.ys,a.1,a.2.1,a.2.2,h⟩
 .rintro⟨x,pb,ys,h1,h2,h3,h⟩;exact⟨⟨x,pb,ys⟩,aA.shut [_,_,_,_,_,_,_,_] (h.pur ⟨h1,h2,h3⟩)⟩
theorem kL{A B:aE}(h:aA H (B::A::F)):aA H (A::B::F):=h.o [1,0] 2
theorem B9{s:aI}{r:Rp}(R:Rch s)(j:∀e∈r.evs,aF e.value):(∀e∈(bO s r).2.1,e.kind=4->WC e.out.2/\e.out.1.ser.size<=1000000)/\(bO s r).2.1.length<=1000000:=by
 constructor
 .refine oF (P:=λq=>∀e∈q.2.1,e.kind=4->WC e.out.2/\e.out.1.ser.size<=1000000) (λ_ e a=>Vu a (by simp)) (λ_ _ e a=>Vu a (by simp)) (λ_ _ _ e a=>Vu a (by simp)) (λ_ _ _ e a f=>?_) (λ_ _ _ e a=>Vu a (by simp)) (λ_ _ _ e a f=>?_) (λ_ _ _ e a=>Vu a (by simp)) (λ_ _ _ e a f=>?_) (λ_ _ _ e a=>Vu a (by simp))
  .have:=LH e a;omega
  .have:=LE e a;omega
  .obtain⟨q,c,rfl⟩:=Wn a;have c:q<(dQ s.next (dt s r.nw) (dt s r.nw).length).length:=c;have b:q<(dt s r.nw).length:=by rw[nV]at c;exact c
   have i:(dQ s.next (dt s r.nw) (dt s r.nw).length)[q].out=(dt s r.nw)[q]:=by
    rw[xI];dsimp only;rw[Yd,List.getElem?_eq_getElem b];rfl
   have hm:(dt s r.nw)[q]∈s.cm:=B3 (AX (V7 b));have d:=R.cm _ hm;show WC (dQ s.next (dt s r.nw) (dt s r.nw).length)[q].out.2/\(dQ s.next (dt s r.nw) (dt s r.nw).length)[q].out.1.ser.size<=1000000;rw[i];have:=d.size;exact⟨d.wc,by omega⟩
 .cases hR:r.right with
  | false=>
   have:(bO s r).2.1=[]:=by unfold bO;rw[Vt hR]
   rw[this];simp
  | true=>
   have h:=Rp.right_len hR;have:(bO s r).2.1.length<=2000:=B7 R.ok (by omega);omega
theorem BA{r:Rp}{a:KQ}{c:Nat}{evs:List Ev}(ok:GgOk g)(b:oA Q F r a evs)(h:aA H (Q::gateA Q gb db g::F))
  (k:∀Q' d,aM Q Q'->aA d (Q'::gateA Q' gb db (cG g r).1::F)->K (aC (cG g r).2) d):CF 47 #[PA gb 0,.agg ⟨dg r a c⟩] H K:=by
 obtain⟨x,pb,ys,e1,e2,e3,h⟩:=gm.1 (h.o [1,0] 2);have s:ys.length=g.pend.length:=by rw[<-e2,V8]
 have j:=B9 (r:=r) ok.R b.vals;have e:oA Q (prbA pb g.p::F) r a evs:=⟨b.eq,λH h=>b.rd H h.tl,b.labs,b.len,b.vals⟩
 have h:=h.o [7,0,1,2,3,4,5,6] 8;refine K7 ok.R.ok (by have:=ok.R.sunk;omega) (by have:=ok.kept;omega) e j.1 j.2 ok.rl ok.rows ok.seg ok.recs (by have:=ok.pend;omega) e3 h (λf Q' d hs h=>?_) λf Q' m pa pc d hs hm i h=>?_
 .unfold cG at k;rw[Vt f]at k;refine k Q' _ hs ?_;have h:=h.o [1,2,3,4,5,6,7,0] 8;exact kL (gm.2 ⟨x,pb,ys,e1,e2,λz n=>(e3 z n).sub hs,h⟩)
 .unfold cG at k;rw[Vs (by rw[f];decide)]at k;refine k Q' _ hs ?_;have h:=h.o [1,2,3,4,5,6,7,0] 8;exact kL (gm.2 ⟨{ x with pa:=pa,pc:=pc },pb,m,e1,by rw[hm,e2],i,h⟩)
def sL(next:Int):Rp:=⟨7,0,0,0,next,0,0,bQ.z,[]⟩
def fp(now:Int):Rp:=⟨6,0,0,0,0,0,now,bQ.z,[]⟩
theorem recN{r:Rp}(h:r.evs=[]):oA Q F r none []:=⟨by rw[h];rfl,λH _=>iv H none,λe a=>Vu a (by simp),by simp,λe a=>by rw[h]at a;cases a⟩
theorem Ml{next:Int}(ok:GgOk g)(h:aA H (Q::gateA Q gb db g::F))
  (k:∀Q' a,aM Q Q'->aA a (Q'::gateA Q' gb db (cG g (sL next)).1::F)->K (aC (cG g (sL next)).2) a):CF 25 #[PA gb 0,aC next] H K:=by
 refine cM 25 28 ?_;exact BA (r:=sL next) ok (recN rfl) h λQ' a hs h=>⟨_,rfl,k Q' _ hs h⟩
theorem Mm(ok:GgOk g)(h:aA H (gateA Q gb db g::F))(k:∀sb a,aA a (stA Q sb g.s::gateA Q gb db g::F)->K (PA sb 0) a):CF 12 #[PA gb 0] H K:=by
 obtain⟨x,pb,ys,e1,e2,e3,h⟩:=gm.1 h;refine cM 12 28 ⟨some ⟨x.sb,0,none⟩,h.r 0,?_⟩;have h:=h.o [1,0,2,3,4,5,6] 7;refine TT (by have:=ok.kept;omega) ok.R.ok h λsb b h=>⟨_,rfl,k sb _ ?_⟩
 have h:=h.o [2,1,3,4,5,6,7,0] 8;exact kL (gm.2 ⟨x,pb,ys,e1,e2,e3,h⟩)
theorem xN(h:aA H (gateA Q gb db g::F)):bX Tryz.prog 26 #[PA gb 0] H (aC (g.pend.length:Nat)):=by
 obtain⟨x,pb,ys,e1,e2,e3,h⟩:=gm.1 h;unfold bX;refine cM 26 28 ⟨_,_,_,h.r 0,?_,rfl⟩;rw[<-e2,V8];rfl
def jd(f:Fq)(agent now asked:Int):Rp:=
 if f.kind=1 then ⟨2,agent,f.ep,f.bt,0,0,now,bQ.z,[]⟩ else
 if f.kind=4 then ⟨3,agent,f.ep,0,0,0,0,⟨asked,f.got,f.sent,now⟩,[]⟩ else
 if f.kind=5 then ⟨4,agent,f.ep,0,f.next,0,now,bQ.z,f.evs⟩ else ⟨5,agent,f.ep,0,f.next,f.stamp,now,bQ.z,[]⟩
def lV(g:Gg)(f:Fq)(agent now:Int):Gg×Int:=
 if ¬(f.kind=1\/f.kind=4\/f.kind=5\/f.kind=7) then (g,16) else
 if f.ag≠agent then (g,10) else
 if f.kind=4 then
  if (fF g.p agent f.ep f.bt f.ct).2.1≠0 then ({ g with p:=(fF g.p agent f.ep f.bt f.ct).2.2 },(fF g.p agent f.ep f.bt f.ct).2.1)
  else cG { g with p:=(fF g.p agent f.ep f.bt f.ct).2.2 } (jd f agent now (fF g.p agent f.ep f.bt f.ct).1)
 else cG g (jd f agent now 0)
def jt(g:Gg)(agent now:Int)(bs:List Int):Gg×Int:=match fE bs with
 | .error e=>(g,e)
 | .ok f=>lV g f agent now
theorem BB{p:Pb}(h:jF p)(ag ep n0 n1:Int):jF (fF p ag ep n0 n1).2.2:=by
 unfold fF
 split
 .exact h
 .split
  .exact h
  .split
   .exact h
   .split
    .exact h
    .refine⟨h.count,h.most,?_,h.last,h.boot⟩;have:=h.out;simp only[Vv,VM,VH];omega
theorem sM{Q':aE}(hs:aM Q Q')(h:aA H (gateA Q gb db g::F)):aA H (gateA Q' gb db g::F):=by
 obtain⟨x,pb,ys,e1,e2,e3,h⟩:=gm.1 h;have h:=sC hs (h.o [1,0,2,3,4,5,6] 7);exact gm.2 ⟨x,pb,ys,e1,e2,λz a=>(e3 z a).sub hs,h.o [1,0,2,3,4,5,6] 7⟩
theorem Mn:∀{n:Nat} {s c:RS} {l:List Pv},jA n s=.ok (l,c)->∀e∈l,aF e.value
 | 0,s,c,l,h=>by cases h;simp
 | n+1,s,c,l,h=>by
  unfold jA at h
  split at h
  .cases h
  .rename_i f s1 d
   split at h
   .cases h
   .rename_i v s2 b
    cases h
    intro e a
    rcases VK.1 a with a|a
    .exact Mn d e a
    .rw [V6]at a;subst a;unfold evQ okR at b
     split at b
     .cases b
     .cases b
      exact rP _
theorem UT{bs:List Int}{f:Fq}(h:fE bs=.ok f):fe f=true:=by
 unfold fE at h
 split at h
 .cases h
 split at h
 .cases h
 unfold nS at h
 split at h
 .cases h
 split at h
 .cases h
 unfold endQ at h
 split at h
 .cases h
 split at h
 .cases h
 split at h
 .rename_i a
  cases h
  exact a
 .cases h
theorem Mo{bs:List Int}{f:Fq}(h:fE bs=.ok f):∀e∈f.evs,aF e.value:=by
 unfold fE at h
 split at h
 .cases h
 split at h
 .cases h
 unfold nS at h
 split at h
 .cases h
 split at h
 .cases h
 rename_i d s1 k x2 i s2 j;unfold endQ at h
 split at h
 .cases h
 rename_i m s3 a
 split at h
 .cases h
 split at h
 .cases h
  obtain⟨a1,a2,a3,a4,a5⟩:=xd (aV d) i { kind:=d };unfold mN at a
  split at a
  .split at a
   .cases a
   .rename_i l s4 c
    cases a
    unfold mM at c
    split at c
    .cases c
    .exact Mn c
  split at a
  .split at a
   .cases a
   .unfold okR at a
    split at a
    .cases a
    .cases a
     intro e b;dsimp only at b;rw[a2]at b
     cases b
  .cases a
   intro e b;rw[a2]at b
   cases b
 .cases h
theorem sO{agent now:Int}{a:KQ}{c:Nat}{bs:List Int}(ok:GgOk g)(h:aA H (Q::gateA Q gb db g::F))(ha:∀H,aA H F->aP H a (bs.map U8))(hb:aH bs)(j:bs.length<=c)
  (k:∀Q' A,aM Q Q'->aA A (Q'::gateA Q' gb db (jt g agent now bs).1::F)->K (aC (jt g agent now bs).2) A) :
  CF 21 #[PA gb 0,aC agent,aC now,.slice a bs.length c] H K:=by
 refine cN 21 0x11d1215174174174134cd2171d49c [[],[],[],[]] ?_;refine AZ h (λH h=>ha H h.tl.tl) hb j ?_
 unfold jt at k
 cases hd:fE bs with
 | error e=>
  rw[hd]at k;intro Q' H1 m hs h;refine⟨_,_,_,_,_,_,_,_,_,_,_,_,_,_,_,_,_,_,_,_,_,rfl,h.al λb _ h=>?_⟩
  refine h.st 0 rfl rfl λH2 h=>⟨λ_=>?_,λj=>Vu (by simpa using j) m⟩
  exact k Q' _ hs (kL (sM hs (kL h.tl)))
 | ok f=>
  rw[hd]at k;dsimp only at k;have G:=Mo hd;intro Q' x evs H1 hs M h8 h0 h;refine⟨_,_,_,_,_,_,_,_,_,_,_,_,_,_,_,_,_,_,_,_,_,rfl,h.al λb _ h=>?_⟩
  refine h.st 0 rfl rfl λH2 h=>⟨λj=>Vu j (by simp),λ_=>⟨_,h.r 0,?_⟩⟩
  refine h.al λb1 _ h=>h.st 0 rfl rfl λH3 h=>⟨_,h.r 1,?_⟩
  have h:aA H3 (cellsA b1 (dg ⟨0,agent,f.ep,0,0,0,now,bQ.z,[]⟩ none 0) 61::cellsA b (cF f x) 81::Q'::slA 99 4 x.ea evs.length x.ec (flat cw evs)::gateA Q gb db g::F):=h;have h:=sM hs (h.o [4,0,1,2,3] 5);have h:=h.o [1,2,3,4,0] 5;have V:f.evs.length=evs.length:=by rw[M,V8]
  have N:evs.length<=1000000:=by
   by_cases t:f.kind=5
   .have:=J6 (UT hd) t;omega
   .have:=(h0.ev t).1;rw[this]at V;simp at V;omega
  intro Jn hJ;have Y:∀(g':Gg) (r:Rp) (v:KQ) (rc:Nat) (w:List Ev) A,GgOk g'->lV g f agent now=cG g' r->r.evs=w.map Ev.p->(w=[]/\v=none\/w=evs/\v=x.ea)->(∀e∈r.evs,aF e.value)->
    aA A (cellsA b1 (dg r v rc) 61::cellsA b (cF f x) 81::Q'::slA 99 4 x.ea evs.length x.ec (flat cw evs)::gateA Q' gb db g'::F)->
    ∃f0 f1 f2 f3 f4 f5 f6 f7 f8 f9 O U h6 P,bE A b1 0 [aC f0,aC f1,aC f2,aC f3,aC f4,aC f5,aC f6,aC f7,aC f8,aC f9,aC O,.slice U h6 P]/\
     CF 47 #[PA gb 0,.agg #[aC f0,aC f1,aC f2,aC f3,aC f4,aC f5,aC f6,aC f7,aC f8,aC f9,aC O,.slice U h6 P]] A λu H2=>∃T,u=aC T/\K (aC T) H2:=by
   intro g' r v rc w A j2 s m i hv h;refine⟨_,_,_,_,_,_,_,_,_,_,_,_,_,_,h.q 0,?_⟩;have h:=h.o [2,4,0,1,3] 5;have hr:oA Q' (cellsA b1 (dg r v rc) 61::cellsA b (cF f x) 81::slA 99 4 x.ea evs.length x.ec (flat cw evs)::F) r v w:=by
    rcases i with ⟨rfl,rfl⟩|⟨rfl,rfl⟩
    .exact⟨m,λH h=>iv H none,λe m=>Vu m (by simp),by simp,hv⟩
    .exact⟨m,λH h=>h.sl_rd 2 rfl,h8,N,hv⟩
   refine BA j2 hr h λQ2 H2 h9 h=>⟨_,rfl,?_⟩
   rw[s]at k;exact k Q2 _ (hs.trans h9) (h.o [0,1] 5)
  have D:f.kind=1\/f.kind=4\/f.kind=5\/f.kind=7->f.ag=agent->f.kind≠4->lV g f agent now=cG g (jd f agent now 0):=by
   intro B h2 h3;unfold lV;rw[Vs (λC=>C B),Vs (λC=>C h2),Vs h3]
  have rest:∀(r:Rp) (v:KQ) (rc:Nat) (w:List Ev) A,(f.kind=1\/f.kind=4\/f.kind=5\/f.kind=7)->(f.kind≠4->r=jd f agent now 0)->(f.kind=4->r=⟨3,agent,f.ep,0,0,0,0,bQ.z,[]⟩)->r.evs=w.map Ev.p->(w=[]/\v=none\/w=evs/\v=x.ea)->(∀e∈r.evs,aF e.value)->
    aA A (cellsA b1 (dg r v rc) 61::cellsA b (cF f x) 81::Q'::slA 99 4 x.ea evs.length x.ec (flat cw evs)::gateA Q' gb db g::F)->Jn A:=by
   intro r v rc w A hk j3 n m i hv h;refine hJ _ ⟨_,h.r 1,λj=>?_,λj=>?_⟩
   .have s:lV g f agent now=(g,10):=by unfold lV;rw[Vs (λC=>C hk),Vt (by simpa using j)]
    rw[s]at k;exact k Q' _ hs (h.o [2,4] 5)
   have W:f.ag=agent:=by simpa using j
   refine⟨_,h.r 1,?_⟩;intro l0 L;refine⟨λd=>?_,λd=>L _ ?_⟩
   .have d:=Vw d;have hr:=n d;subst hr;have S:w=[]:=by simpa using m.symm
    have j1:v=none:=by
     rcases i with ⟨_,e⟩|⟨e1,e2⟩
     .exact e
     .rw [e2];exact (h0.ev (by omega)).2.1
    subst S j1;obtain⟨y,pb,ys,e1,e2,e3,h⟩:=gm.1 (h.o [4,0,1,2,3] 5);refine⟨some ⟨pb,0,none⟩,(h.r 0).trans (by show some y.pv=_;rw[e1]),_,h.r 8,_,h.r 8,_,h.r 8,?_⟩;have h:=h.o [6,0,1,2,3,4,5,7,8,9,10] 11;have s:lV g f agent now=if (fF g.p agent f.ep f.bt f.ct).2.1≠0 then ({ g with p:=(fF g.p agent f.ep f.bt f.ct).2.2 },(fF g.p agent f.ep f.bt f.ct).2.1) else cG { g with p:=(fF g.p agent f.ep f.bt f.ct).2.2 } (jd f agent now (fF g.p agent f.ep f.bt f.ct).1):=by
     unfold lV;rw[Vs (λC=>C hk),Vs (λC=>C W),Vt d]
    refine TS ok.prb h λH4 h=>⟨_,_,rfl,λj=>?_,λj=>?_⟩
    .have j:(fF g.p agent f.ep f.bt f.ct).2.1≠0:=by simpa using j
     rw[Vt j]at s;rw[s]at k;refine k Q' _ hs (kL ((gm (g:={ g with p:=(fF g.p agent f.ep f.bt f.ct).2.2 })).2 ⟨y,pb,ys,e1,e2,e3,h.o [1,2,3,4,5,6,0,9] 11⟩))
    have j:(fF g.p agent f.ep f.bt f.ct).2.1=0:=by simpa using j
    rw[Vs (by rw[j];decide)]at s;refine⟨_,h.r 8,_,h.r 8,h.st 7 rfl rfl λH5 h=>⟨h.r 8,h.r 8,?_⟩⟩
    refine h.st 7 rfl rfl λH6 h=>⟨h.r 8,h.st 7 rfl rfl λH7 h=>?_⟩
    refine h.st 7 rfl rfl λH8 h=>L _ ?_
    have hg:=(gm (g:={ g with p:=(fF g.p agent f.ep f.bt f.ct).2.2 })).2 ⟨y,pb,ys,e1,e2,e3,h.o [1,2,3,4,5,6,0,7,8,9,10] 11⟩;have eR:jd f agent now (fF g.p agent f.ep f.bt f.ct).1=⟨3,agent,f.ep,0,0,0,0,⟨(fF g.p agent f.ep f.bt f.ct).1,f.got,f.sent,now⟩,[]⟩:=by
     unfold jd;rw[nO,Vt d]
    rw[eR]at s;exact Y { g with p:=(fF g.p agent f.ep f.bt f.ct).2.2 } _ none rc [] _ ⟨ok.R,ok.kept,ok.rl,ok.rows,ok.seg,ok.recs,ok.pend,BB ok.prb _ _ _ _⟩ s rfl (.inl ⟨rfl,rfl⟩) (λe m=>Vu m (by simp)) (hg.o [1,2,3,4,0] 5)
   .have d:=Vx d;have s:=D hk W d;rw[<-j3 d]at s;exact Y g r v rc w _ ok s m i hv h
  refine⟨λB=>?_,λB=>?_⟩
  .have B:=Vw B;refine⟨_,h.r 1,h.st 0 rfl rfl λH4 h=>⟨h.r 1,?_⟩⟩
   refine h.st 0 rfl rfl λH5 h=>rest ⟨2,agent,f.ep,f.bt,0,0,now,bQ.z,[]⟩ none 0 [] _ (.inl B) (λ_=>by unfold jd;rw[Vt B]) (λn=>by omega) rfl (.inl ⟨rfl,rfl⟩) (λe m=>Vu m (by simp)) h
  have B:=Vx B;intro l6 I;refine⟨λn=>?_,λn=>?_⟩
  .have n:=Vw n;refine h.st 0 rfl rfl λH4 h=>h.st 0 rfl rfl λH5 h=>I _ ?_
   exact rest ⟨3,agent,f.ep,0,0,0,0,bQ.z,[]⟩ none 0 [] _ (.inr (.inl n)) (λC=>Vu n C) (λ_=>rfl) rfl (.inl ⟨rfl,rfl⟩) (λe m=>Vu m (by simp)) h
  have n:=Vx n;intro l5 Z;refine⟨λt=>?_,λt=>⟨λJ=>?_,λJ=>?_⟩⟩
  .have t:=Vw t;refine⟨_,h.r 1,_,_,_,h.r 1,h.st 0 rfl rfl λH4 h=>⟨h.r 1,h.r 1,?_⟩⟩
   refine h.st 0 rfl rfl λH5 h=>⟨h.r 1,h.st 0 rfl rfl λH6 h=>Z _ (I _ ?_)⟩
   exact rest ⟨4,agent,f.ep,0,f.next,0,now,bQ.z,f.evs⟩ x.ea x.ec evs _ (.inr (.inr (.inl t))) (λ_=>by unfold jd;rw[Vs B,Vs n,Vt t]) (λE=>Vu E n) M (.inr ⟨rfl,rfl⟩) G h
  .have J:=Vw J;have t:=Vx t;refine⟨_,h.r 1,_,h.r 1,h.st 0 rfl rfl λH4 h=>⟨h.r 1,h.r 1,?_⟩⟩
   refine h.st 0 rfl rfl λH5 h=>⟨h.r 1,h.st 0 rfl rfl λH6 h=>Z _ (I _ ?_)⟩
   exact rest ⟨5,agent,f.ep,0,f.next,f.stamp,now,bQ.z,[]⟩ none 0 [] _ (.inr (.inr (.inr J))) (λ_=>by unfold jd;rw[Vs B,Vs n,Vs t]) (λE=>Vu E n) rfl (.inl ⟨rfl,rfl⟩) (λe m=>Vu m (by simp)) h
  .have t:=Vx t;have J:=Vx J;have s:lV g f agent now=(g,16):=by unfold lV;rw[pO]
   rw[s]at k;exact k Q' _ hs (h.o [2,4] 5)
end
def gq(g:Gg):DR:=if g.saved=true/\¬((g.rl.next:Int)<=g.num) then iB g.seg g.rows else g.rows
def je(g:Gg):Gg:=
 if g.o.save<=g.recs/\(stB g.s).length<=262144 then
  { g with pend:=[],recs:=0,saved:=true,num:=g.rl.next,seg:=g.rl.seg+1,rl:={ g.rl with syn:=g.rl.next,seg:=g.rl.seg+1,next:=g.rl.next+1 },rows:=gq g++(bN ⟨0,stB g.s⟩).map λb=>(g.rl.seg+1,b),syn:=(gq g).length }
 else { g with pend:=[],rl:={ g.rl with syn:=g.rl.next },rows:=gq g,syn:=(gq g).length }
theorem UU(g:Gg):∀r∈gq g,r∈g.rows:=by
 unfold gq
 split
 .intro r a;exact (Wv.1 a).1
 .intro r a;exact a
theorem UV(g:Gg):(gq g).length<=g.rows.length:=by
 unfold gq
 split
 .exact Ys _ _
 .exact V2 _
section
variable {F L:List aE}{H:aD}{K:KE}{Q:aE}{gb db:Nat}{g:Gg}
theorem UW{bb b n c m:Nat}{a:KQ}(h:aA H F)(i:Nat)(f:aW i F=cellsA b [.slice a n c] 43)(t:262144<n)(j:n<=1099511627776)(k:K (.tuple #[aC (-1),aC 17]) H) :
  CF 42 #[PA bb 0,.slice (some ⟨b,0,none⟩) 1 m] H K:=by
 refine cN 42 0x112156123992511b421b1d1c [[(6,sI),(15,sI)]] ?_;refine⟨λsize i e=>size=0/\i=0/\e=H,λ_ _ _=>0,⟨rfl,rfl,rfl⟩,?_⟩
 rintro size i e ⟨rfl,rfl,rfl⟩;refine⟨λ_=>?_,λs=>Vu s (by decide)⟩
 refine⟨by decide,_,_,rfl,_,_,_,h.rd i f _,λd=>?_,λd=>?_⟩
 .exact k
 .have d:=Vx d;rw[aK]at d;omega
theorem BTrimAny{bb rb:Nat}{saved:Bool}{num seg:Int}{s:RL}{rows:DR}(i:rows.length<=1099511627776)(h:aA H (bookA bb rb saved num seg::reelA rb db s::diskX db rows rows.length::F))
  (k:∀e c R,R=(if saved=true/\¬((s.syn:Int)<=num) then iB seg rows else rows)->aA c (bookA bb rb saved num seg::reelA rb db s::diskX db R R.length::F)->K (aC e) c):CF 41 #[PA bb 0] H K:=by
 refine QI i (V2 _) h (λa=>k 19 H rows ?_ h) (λa b=>k 21 H rows ?_ h) (λa b d=>Vu d (by omega)) λa b d c h=>k 0 c (iB seg rows) ?_ h
 .rw [Vs (by rw[a];simp)]
 .rw [Vs (λf=>f.2 b)]
 .rw [Vt ⟨a,b⟩]
theorem BC(ok:GgOk g)(J:∀r∈g.rows,r.1<=g.rl.seg)(h:aA H (Q::gateA Q gb db g::F))
  (k:∀ys a c G,ys.map Oy.o=g.pend->(∀y∈ys,fI Q y)->aA G (Q::slA 91 11 a ys.length c (flat bH ys)::gateA Q gb db (je g)::F)->K (.slice a ys.length c) G) :
  CF 13 #[PA gb 0] H K:=by
 obtain⟨x,pb,ys,e1,e2,e3,h⟩:=gm.1 (kL h);refine cN 13 76861503970953628 [[],[]] ⟨some ⟨x.bb,0,none⟩,h.r 0,some ⟨x.rb,0,none⟩,h.r 3,?_⟩;have h:=h.o [4,5,0,1,2,3,6,7] 8;refine GD h λN h=>⟨rfl,some ⟨x.bb,0,none⟩,h.r 2,?_⟩
 have h:=h.o [5,0,1,2,3,4,6,7] 8;have I:=UV g;refine BTrimAny (by have:=ok.rows;omega) h λe S R A h=>⟨_,rfl,?_⟩
 have A:R=gq g:=A;subst A;refine⟨_,_,_,h.r 3,?_⟩;refine h.st 3 rfl rfl λM h=>⟨_,h.r 3,_,h.r 3,?_⟩
 have h:aA M (bookA x.bb x.rb g.saved g.num g.seg::reelA x.rb db { g.rl with syn:=g.rl.next }::diskX db (gq g) (gq g).length::cellsA gb (li g.o { x with pa:=none,pc:=0 } 0 g.recs) 110::stA Q x.sb g.s::slA 91 11 x.pa ys.length x.pc (flat bH ys)::prbA pb g.p::Q::F):=h;have f:=λ{H:aD} {F:List aE} (h:aA H F)=>h.sl_nil 91 11
 intro U v;refine⟨λm=>?_,λm=>v _ ?_⟩
 .have m:=Vw m;refine⟨some ⟨x.bb,0,none⟩,h.r 3,some ⟨x.sb,0,none⟩,h.r 3,?_⟩;have h:=h.o [7,4,0,1,2,3,5,6] 8;refine KZ ok.R.ok ok.R.ser (by have:=ok.kept;omega) h λba bc T h=>⟨_,_,_,rfl,h.r 6,?_⟩
  refine h.al λb1 _ h=>⟨h.r 7,?_⟩
  by_cases hl:(stB g.s).length<=262144
  .have h:=h.o [4,5,6,0,1,2,3,7,8,9] 10;have d:([(⟨ba,bc,stB g.s⟩:Fy)]:List Fy).flatMap Fy.bs=stB g.s:=by simp
   have w:({ g.rl with syn:=g.rl.next }:RL).ok:=⟨ok.rl.seg,ok.rl.most,ok.rl.next,ok.rl.next⟩;refine Qz (parts:=[⟨ba,bc,stB g.s⟩]) w ok.seg (λr L=>J r (UU g r L)) (by have:=ok.rows;omega) h (λH h=>h.ce_rd 0 rfl) (λH h y D=>by rw[V6]at D;subst D;exact h.sl_rd 1 rfl) (by rw[d];exact xE _) (by simp) (by rw[d];exact hl) λO h=>⟨_,_,rfl,?_⟩
   rw[d]at h;intro u j;refine⟨λ_=>?_,λC=>Vu C (by simp)⟩
   refine h.st 7 rfl rfl λP h=>j _ (v _ ?_)
   have i:je g={ g with pend:=[],recs:=0,saved:=true,num:=g.rl.next,seg:=g.rl.seg+1,rl:={ g.rl with syn:=g.rl.next,seg:=g.rl.seg+1,next:=g.rl.next+1 },rows:=gq g++(bN ⟨0,stB g.s⟩).map λb=>(g.rl.seg+1,b),syn:=(gq g).length }:=by
    unfold je;rw[Vt ⟨m,hl⟩]
   have h:=(f (h.o [7,6,0,1,2,9,5,8] 10)).o [1,2,0,3,4,5,6,7,8] 9;have t:=(gm (Q:=Q) (g:=je g)).2 ⟨{ x with pa:=none,pc:=0 },pb,[],e1,by rw[i];rfl,λz n=>Vu n (by simp),by rw[i];exact h⟩
   exact k ys _ _ _ e2 e3 (t.o [1,2,0] 3)
  .have E:=Mi ok.R.ok ok.R.ser (by have:=ok.kept;omega);refine UW h 0 rfl (by omega) (by omega) ⟨_,_,rfl,?_⟩;intro u j;refine⟨λC=>Vu C (by decide),λ_=>j _ (v _ ?_)⟩
   have i:je g={ g with pend:=[],rl:={ g.rl with syn:=g.rl.next },rows:=gq g,syn:=(gq g).length }:=by
    unfold je;rw[Vs (λB=>hl B.2)]
   have h:=(f (h.o [7,3,4,5,6,9,2,8] 10)).o [1,2,0,3,4,5,6,7,8] 9;have t:=(gm (Q:=Q) (g:=je g)).2 ⟨{ x with pa:=none,pc:=0 },pb,[],e1,by rw[i];rfl,λz n=>Vu n (by simp),by rw[i];exact h⟩
   exact k ys _ _ _ e2 e3 (t.o [1,2,0] 3)
 .have m:=Vx m;have i:je g={ g with pend:=[],rl:={ g.rl with syn:=g.rl.next },rows:=gq g,syn:=(gq g).length }:=by
   unfold je;rw[Vs (λB=>m B.1)]
  have h:=(f (h.o [3,4,0,1,2,6,7,5] 8)).o [1,2,0,3,4,5,6,7,8] 9;have t:=(gm (Q:=Q) (g:=je g)).2 ⟨{ x with pa:=none,pc:=0 },pb,[],e1,by rw[i];rfl,λz n=>Vu n (by simp),by rw[i];exact h⟩
  exact k ys _ _ _ e2 e3 (t.o [1,2,0] 3)
end
def dI(s:aI)(now period:Int)(p:Pb):Nat->Pb×List Ou
 | 0=>(p,[])
 | n+1=>if (lh s (n:Nat)).2=true/\dueP (dI s now period p n).1 (n:Nat) now period=true then
   (sndP (dI s now period p n).1 (n:Nat) (lh s (n:Nat)).1.en.epoch now,(dI s now period p n).2++[gX (dU (n:Nat) (dI s now period p n).1.boot (dI s now period p n).1.count)])
  else dI s now period p n
def dV(g:Gg)(now:Int):Gg×List Ou×Int:=
 if (cG g (fp now)).2≠0 then ((cG g (fp now)).1,[],(cG g (fp now)).2) else
 ({ (cG g (fp now)).1 with p:=(dI (cG g (fp now)).1.s now g.o.period g.p 64).1 },(dI (cG g (fp now)).1.s now g.o.period g.p 64).2,0)
theorem mem_mset{k v:Int}{m:List (Int×Int)}{x:Int×Int}(h:x∈mset k v m):x=(k,v)\/x∈m:=by
 unfold mset at h
 rcases V9.1 h with h|h
 .exact .inl h
 .exact .inr (Wv.1 h).1
theorem sndP_ok{p:Pb}(h:jF p)(e:p.count<1000000000000){ag ep now:Int}(c:0<=now/\now<=4611686018427387903):jF (sndP p ag ep now):=by
 have d:=h.count;have i:=h.out;have f:=h.most;refine⟨?_,h.most,?_,λx b=>?_,h.boot⟩
 .show 0<=p.count+1/\p.count+1<=1000000000000;omega
 .unfold sndP;dsimp only
  split
  .rename_i a;simp only[VH,Vv,V1,VN]at a ⊢;omega
  .rename_i a;simp only[Vv,V1,VN]at a ⊢;omega
 .rcases mem_mset b with rfl|b
  .exact c
  .exact h.last x b
theorem BE{s:aI}{now period:Int}{p:Pb}(h:jF p)(b:p.count+64<=1000000000000)(a:0<=now/\now<=4611686018427387903):∀n,n<=64->jF (dI s now period p n).1/\(dI s now period p n).1.count<=p.count+n/\(dI s now period p n).2.length<=n
 | 0,_=>⟨h,by show p.count<=p.count+((0:Nat):Int);omega,V2 _⟩
 | n+1,hl=>by
  obtain⟨a1,a2,a3⟩:=BE h b a n (by omega);unfold dI
  split
  .refine⟨sndP_ok a1 (by omega) a,?_,?_⟩
   .show (dI s now period p n).1.count+1<=_;omega
   .simp only[Vv,V1,VN];omega
  .exact⟨a1,by omega,by omega⟩
section
variable {F L:List aE}{H:aD}{K:KE}{Q:aE}{gb db:Nat}{g:Gg}
theorem UX{now:Int}(ok:GgOk g)(T:GgOk (cG g (fp now)).1)(hc:g.p.count+64<=1000000000000)(O:(cG g (fp now)).2=0->0<=now/\now<=4611686018427387903)
  (Y:∀a:Nat,a<64->(lh (cG g (fp now)).1.s a).2=true->1<=(lh (cG g (fp now)).1.s a).1.en.epoch/\(lh (cG g (fp now)).1.s a).1.en.epoch<=1099511627776)
  (h:aA H (Q::gateA Q gb db g::F))
  (k:∀Q' ys a c n,aM Q Q'->ys.map Oy.o=(dV g now).2.1->(∀y∈ys,fI Q' y)->aA n (Q'::slA 91 11 a ys.length c (flat bH ys)::gateA Q' gb db (dV g now).1::F)->K (.tuple #[.slice a ys.length c,aC (dV g now).2.2]) n) :
  CF 23 #[PA gb 0,aC now] H K:=by
 refine cN 23 0x121b12156123992a11213992821399144c [[(11,sA),(12,sI)],[(7,sS)],[(7,sS),(21,sI)]] ?_;refine BA (r:=fp now) ok (recN rfl) h λQ1 H1 S h=>⟨_,rfl,λw=>?_,λw=>?_⟩
 .have he:(cG g (fp now)).2≠0:=by simpa using w
  unfold dV at k;rw[Vt he]at k;exact k Q1 [] none 0 _ S rfl (λy hy=>Vu hy (by simp)) ((h.sl_nil 91 11).o [1,0,2] 3)
 have he:(cG g (fp now)).2=0:=by simpa using w
 have hn:=O he;have ep:(cG g (fp now)).1.p=g.p:=by unfold cG;split <;> rfl
 have eo:(cG g (fp now)).1.o=g.o:=by unfold cG;split <;> rfl
 unfold dV at k;rw[Vs (by rw[he];decide)]at k;obtain⟨g1,h4⟩:∃g1,(cG g (fp now)).1=g1:=⟨_,rfl⟩;rw[h4]at k h T Y ep eo;have h3:jF g.p:=ok.prb;refine⟨λla ln lc i n=>∃(j:Nat) (ys:List Oy) (Q':aE),i=j/\j<=64/\ln=ys.length/\aM Q Q'/\ys.map Oy.o=(dI g1.s now g.o.period g.p j).2/\(∀y∈ys,fI Q' y)/\
   aA n (Q'::slA 91 11 la ys.length lc (flat bH ys)::gateA Q' gb db { g1 with p:=(dI g1.s now g.o.period g.p j).1 }::F),
  λ_ _ _ i _=>64-i.toNat,⟨0,[],Q1,rfl,by omega,rfl,S,rfl,λy hy=>Vu hy (by simp),?_⟩,?_⟩
 .have e:({ g1 with p:=(dI g1.s now g.o.period g.p 0).1 }:Gg)=g1:=by
   show ({ g1 with p:=g.p }:Gg)=g1;rw[<-ep]
  rw[e];exact (h.sl_nil 91 11).o [1,0,2] 3
 rintro la ln lc i H2 ⟨j,ys,d,rfl,hj,rfl,L,hm,N,h⟩;obtain⟨po,pc,pl⟩:=BE (s:=g1.s) (period:=g.o.period) h3 hc hn j hj;have h7:ys.length<=64:=by
  have:=congrArg List.length hm;rw[V8]at this;omega
 refine⟨λf=>?_,λf=>?_⟩
 .have f:j<64:=by have:=Vw f;omega
  have hw:i64.wrap ((j:Int)+1)=((j+1:Nat):Int):=by rw[aK];omega
  intro Jn hJ;obtain⟨p,hp⟩:∃p,(dI g1.s now g.o.period g.p j).1=p:=⟨_,rfl⟩;rw[hp]at h po pc;obtain⟨x,pb,t,e1,e2,e3,h⟩:=gm.1 (h.o [2,0,1] 3);refine⟨some ⟨x.sb,0,none⟩,h.r 0,?_⟩;have h:=h.o [1,0,2,3,4,5,6,7,8] 9;refine TF (s:=g1.s) T.R.ok h λH3 h=>⟨_,_,_,_,_,_,_,_,_,_,_,_,rfl,?_⟩
  have Z:=Y j f;obtain⟨A,hA⟩:∃A,lh g1.s (j:Nat)=A:=⟨_,rfl⟩;have v:dI g1.s now g.o.period g.p (j+1)=if A.2=true/\dueP p (j:Nat) now g.o.period=true then (sndP p (j:Nat) A.1.en.epoch now,(dI g1.s now g.o.period g.p j).2++[gX (dU (j:Nat) p.boot p.count)]) else dI g1.s now g.o.period g.p j:=by
   rw[dI,hp,hA]
  rw[hA]at Z ⊢;refine h.al λb _ h=>?_
  refine h.st 0 rfl rfl λH4 h=>?_
  have skip:¬(A.2=true/\dueP p (j:Nat) now g.o.period=true)->∀n,aA n (stA d x.sb g1.s::cellsA gb (li g1.o x t.length g1.recs) 110::slA 91 11 x.pa t.length x.pc (flat bH t)::bookA x.bb x.rb g1.saved g1.num g1.seg::reelA x.rb db g1.rl::diskX db g1.rows g1.syn::prbA pb p::d::slA 91 11 la ys.length lc (flat bH ys)::F)->Jn la ys.length lc n:=by
   intro C n h;rw[Vs C]at v;refine hJ _ _ _ _ ⟨⟨j+1,ys,d,hw,f,rfl,L,by rw[v];exact hm,N,?_⟩,by rw[hw];dsimp only;omega⟩;rw[v,hp];have hg:=(gm (g:={ g1 with p:=p })).2 ⟨x,pb,t,e1,e2,e3,h.o [1,0,2,3,4,5,6,7,8] 9⟩;exact hg.o [1,2,0] 3
  have J:∀{n},aA n (cellsA b (encA A.1) 187::stA d x.sb g1.s::cellsA gb (li g1.o x t.length g1.recs) 110::slA 91 11 x.pa t.length x.pc (flat bH t)::bookA x.bb x.rb g1.saved g1.num g1.seg::reelA x.rb db g1.rl::diskX db g1.rows g1.syn::prbA pb p::d::slA 91 11 la ys.length lc (flat bH ys)::F)->aL n gb (0+15)=some (PA pb 0):=λh=>(h.r 2).trans (by show some x.pv=_;rw[e1])
  have W:g1.o.period=g.o.period:=by rw[eo]
  have h:aA H4 (cellsA b (encA A.1) 187::stA d x.sb g1.s::cellsA gb (li g1.o x t.length g1.recs) 110::slA 91 11 x.pa t.length x.pc (flat bH t)::bookA x.bb x.rb g1.saved g1.num g1.seg::reelA x.rb db g1.rl::diskX db g1.rows g1.syn::prbA pb p::d::slA 91 11 la ys.length lc (flat bH ys)::F):=h;have E:=TM (ag:=(j:Nat)) (now:=now) (period:=g.o.period) po (h.o [7,0,1,2,3,4,5,6,8,9] 10);refine⟨λ_=>trivial,some ⟨pb,0,none⟩,λ_=>J h,λ_=>trivial,_,λ_=>h.r 2,dueP p (j:Nat) now g.o.period,λ_=>by rw[<-W]at E ⊢;exact E,λw=>?_,λw=>?_⟩
  .refine skip (λC=>?_) _ h.tl
   rw[C.1,C.2]at w;exact Vu w (by decide)
  have I:A.2=true/\dueP p (j:Nat) now g.o.period=true:=by
   simp only[VB,Wd]at w;exact w
  rw[Vt I]at v;have h5:=Z I.1;have V:sndOk (j:Nat) A.1.en.epoch now=true:=by
   unfold sndOk tmB;simp only[Vz,Vy];omega
  intro h1 h0;have P:∀(nb:Nat) (R:aE) n,aA n (cellsA nb [aC p.boot,aC p.count] 101::cellsA b (encA A.1) 187::stA d x.sb g1.s::cellsA gb (li g1.o x t.length g1.recs) 110::slA 91 11 x.pa t.length x.pc (flat bH t)::bookA x.bb x.rb g1.saved g1.num g1.seg::reelA x.rb db g1.rl::diskX db g1.rows g1.syn::prbA pb (sndP p (j:Nat) A.1.en.epoch now)::d::slA 91 11 la ys.length lc (flat bH ys)::F)->h1 nb 0 0 n:=by
   intro nb R n h;refine h0 _ _ _ _ ⟨λhc=>Vu hc (by decide),λ_=>?_⟩
   refine h.al λb1 _ h=>?_
   refine h.st 0 rfl rfl λH8 h=>⟨_,_,_,h.q 0,_,h.r 1,_,h.r 1,?_⟩
   refine Bd (TJ (j:Nat) p.boot p.count) h λD B H9 h=>⟨_,_,_,_,_,_,_,_,_,_,_,_,_,rfl,?_⟩
   refine h.al λb2 _ h=>?_
   refine h.append (m:=1) (ws:=bH ⟨gX (dU (j:Nat) p.boot p.count),D,B⟩) slOy 13 rfl (h.ce_rd 0 rfl) rfl (pC _) (by omega) (by omega) λa5 c5 h6 h=>⟨_,_,_,rfl,?_⟩
   have f1:flat bH ys++bH ⟨gX (dU (j:Nat) p.boot p.count),D,B⟩=flat bH (ys++[⟨gX (dU (j:Nat) p.boot p.count),D,B⟩]):=by rw[dS];simp[flat]
   have f2:ys.length+1=(ys++[(⟨gX (dU (j:Nat) p.boot p.count),D,B⟩:Oy)]).length:=by simp
   have h:=h.o [1,12,13,6,5,7,8,9,10,11] 14;rw[f1,f2]at h;rw[f2];have U:fI (slA 5 1 D (cA (dU (j:Nat) p.boot p.count)).length B ((cA (dU (j:Nat) p.boot p.count)).map U8)*d) ⟨gX (dU (j:Nat) p.boot p.count),D,B⟩:=⟨KIn.sl (c:=B),h.sl_nc 0 rfl⟩;have h:=pE.2 h;generalize slA 5 1 D (cA (dU (j:Nat) p.boot p.count)).length B ((cA (dU (j:Nat) p.boot p.count)).map U8)=M at h U;have u:aM d (M*d):=aM.add M d;have h:=sC u (h.o [3,2,4,5,6,7,8,0,1] 9);have hg:=(gm (Q:=M*d) (g:={ g1 with p:=sndP p (j:Nat) A.1.en.epoch now })).2 ⟨x,pb,t,e1,e2,λz G=>(e3 z G).sub u,h.o [1,0,2,3,4,5,6,7,8] 9⟩
   refine hJ _ _ _ _ ⟨⟨j+1,ys++[⟨gX (dU (j:Nat) p.boot p.count),D,B⟩],M*d,hw,f,rfl,L.trans u,by rw[v,VJ,hm];rfl,λz G=>?_,?_⟩,by rw[hw];dsimp only;omega⟩
   .rcases VK.1 G with G|G
    .exact (N z G).sub u
    .rw [V6]at G;rw[G];exact U
   .rw [v];exact hg.o [1,2,0] 3
  refine⟨some ⟨pb,0,none⟩,J h,_,h.r 0,?_,?_⟩
  .have h:=h.o [7,0,1,2,3,4,5,6,8,9] 10;refine K5 po V h λH6 h=>⟨_,_,_,rfl,?_⟩
   refine h.al λb3 _ h=>?_
   refine h.st 0 rfl rfl λH7 h=>?_
   exact P b3 emp _ (h.o [0,2,3,4,5,6,7,8,1,9,10] 11)
  .refine h.al λb4 _ h=>⟨h.r 1,J h.tl,?_⟩
   have h:=h.o [8,0,1,2,3,4,5,6,7,9,10] 11;refine K5 po V h λH6 h=>⟨_,_,_,rfl,?_⟩
   refine h.st 1 rfl rfl λH7 h=>?_
   exact P b4 emp _ (h.o [1,2,3,4,5,6,7,8,0,9,10] 11)
 .have h2:j=64:=by have:=Vx f;omega
  subst h2;exact k d ys _ _ _ L hm N h
end
end Go.Proofs.YtaaieblnikcndaaGreatDoor
