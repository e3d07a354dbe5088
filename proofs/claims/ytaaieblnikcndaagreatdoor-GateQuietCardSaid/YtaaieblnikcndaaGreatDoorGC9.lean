/-
  Lemmas for GateQuiet: part 9 of what it rests on. Conditions: none.
-/
import Derived.Test.YtaaieblnikcndaaGreatDoorGC8
set_option linter.unusedVariables false
set_option linter.unusedSimpArgs false
set_option maxRecDepth 100000
set_option maxHeartbeats 16000000
open Go.IntKind (i64 u64 i8 u8 i32 u32 i16 u16)
namespace Go.Proofs.YtaaieblnikcndaaGreatDoor
open Go
theorem uRes_lt2{s:RS}(hb:aH s.bs)(h:(bK s).2.e=0):(bK s).2.bs.length+1<=s.bs.length:=by
 unfold bK at h ⊢
 split at h
 .rename_i h0;exact UY h h0
 .rename_i h0;rw[UW h0]
  split at h
  .rename_i u n e;have:=qi hb e;simp only[e];rw[Vt];omega
  .simp at h
  .simp at h
theorem KV{s a:RS}{o:Ot}(hb:aH s.bs)(h:jb s=.ok (o,a)):a.bs.length+1<=s.bs.length:=by
 unfold jb at h
 cases e:ge s with
 | error e'=>rw[e]at h;cases h
 | ok q=>
  obtain⟨v,s1⟩:=q;rw[e]at h;dsimp only at h;have h0:=il e;have c:s1.bs.length+1<=s.bs.length:=by
   rw[h0.1];exact uRes_lt2 hb h0.2.2
  have b:=(mr s1 s1.bs.length).1;have d:=(mr (aZ s1.bs.length s1).2 (aZ s1.bs.length s1).2.bs.length).1
  split at h
  .cases h
  split at h
  .cases h
  split at h
  .cases h
  .cases h;omega
theorem KW:∀{n:Nat} {r a:RS} {l:List Ot},aH r.bs->eF n r=.ok (l,a)->l.length=n/\n+a.bs.length<=r.bs.length
 | 0,r,a,l,hb,h=>by
  cases h
  exact⟨rfl,by omega⟩
 | n+1,r,a,l,hb,h=>by
  unfold eF at h
  cases h1:eF n r with
  | error e=>rw[h1]at h;cases h
  | ok q=>
  obtain⟨l1,r1⟩:=q;rw[h1]at h;dsimp only at h;have c:=KW hb h1;have b:=(xu hb h1).2
  cases h2:jb r1 with
  | error e=>rw[h2]at h;cases h
  | ok q=>
  obtain⟨o,r2⟩:=q;rw[h2]at h
  cases h
  have:=KV b h2;rw[UZ];simp only[Vf,Vy];omega
theorem KX{s:RS}{e:Int}:∀{n j:Nat},eF j s=.error e->j<=n->eF n s=.error e
 | 0,j,h,hj=>by
  obtain rfl:j=0:=by omega
  exact h
 | n+1,j,h,hj=>by
  rcases V0 n j with a|a
  .obtain rfl:j=n+1:=by omega
   exact h
  .unfold eF;rw[KX h a]
section
variable {F L:List aE}{H:aC}{K KP:KE}{Q Q':aE}{sb:Nat}{s:aI}
def mS(Q:aE)(F:List aE)(K:KE):Except Int aI->Prop
 | .ok s=>∀Q' sb H',aM Q Q'->aA H' (Q'::stA Q' sb s::F)->K (.tuple #[PA sb 0,aD 0]) H'
 | .error e=>∀Q' H',aM Q Q'->aA H' (Q'::F)->K (.tuple #[.pointer none,aD e]) H'
theorem mT{b1 b2:Nat}{e v1:Int}{v:KQ}(f:mS Q F K (.error 10))(i:e≠0)(hs:aM Q Q')(h:aA H (cellsA b1 [.pointer v] 40::cellsA b2 [aD v1] 50::Q'::F)) :
  bI 196 X.calls=true/\cB Tryz.prog 196 [(PA b1 0),(PA b2 0)] (bi (pnV e) false) H λd b=>d=bi (pnV e) true/\
   ∃c,aK b b1 0=some (.pointer c)/\∃a,aK b b2 0=some (aD a)/\K (.tuple #[(.pointer c),(aD a)]) b:=
 ⟨rfl,TX i h λj h=>⟨rfl,_,h.r 0,_,h.r 1,f Q' _ hs h.tl.tl⟩⟩
theorem KY(k:Ky)(c:Cl):aH (cbB k c):=dE (tL _) (OV _)
theorem TZ(a:Int)(e:En)(fl:Fl)(st:br):aH (agB a e fl st):=
 dE (dE (dE (dE (dE (iB _) (tL _)) (iB _)) (jx λ_ _=>iB _)) (iB _)) (jx λ_ _=>dE (iB _) (wM _))
theorem Ua(s:aI)(p:Int×En):aH (dS s p):=by
 unfold dS
 split
 .exact TZ _ _ _ _
 .exact λx a=>by cases a
theorem xv(s:aI):aH (stB s):=
 dE (dE (dE (dE (dE (dE (dE (iB _) (tL _)) (iB _)) (jx λ_ _=>Ua _ _)) (iB _)) (jx λ_ _=>KY _ _)) (iB _)) (jx λ_ _=>KY _ _)
theorem strB_inj{xs ys:List Int}(f:aH xs)(d:aH ys)(h:(bF xs).toList=(bF ys).toList):xs=ys:=by
 have a:xs.map (λn=>UInt8.ofNat n.toNat)=ys.map (λn=>UInt8.ofNat n.toNat):=by
  rw[<-strOfNums_data xs,<-strOfNums_data ys];have e:∀b:Fa,b.data.toList=b.toList:=λb=>Eq.symm (ByteArray.toList_eq b)
  rw[e,e];exact h
 have j:=congrArg (List.map λb:UInt8=>(b.toNat:Int)) a
 have e:∀l:List Int,aH l->(l.map λn=>UInt8.ofNat n.toNat).map (λb:UInt8=>(b.toNat:Int))=l:=by
  intro l c;apply Wa (by simp);intro i k a;simp only[VV];exact qj c i a
 rwa[e _ f,e _ d]at j
theorem Ub{rb b1 b2 b3:Nat}{s1:aI}{bs:List Int}{ba:KQ}{bc:Nat}{kn:Int}{r:RS}{x:aE}(f:aM Q x)
  (hA:∀H,aA H F->aP H ba (bs.map U8)) (I:ba=none\/∃k o,ba=some ⟨k,o,none⟩) (M:0<=kn/\kn<18446744073709551616) (hb:aH r.bs) (hl:r.bs.length<=1000000000) (J:aH bs)
  (y:∀l d,eF kn.toNat r=.ok (l,d)->(dG d).e=0->cQ { s1 with kept:=l }/\qG { s1 with kept:=l }/\l.length<=50000)
  (O:(∀l d,eF kn.toNat r=.ok (l,d)->(dG d).e=0->stB { s1 with kept:=l }=bs->False)->mS Q F K (.error 10))
  (P:∀l d,eF kn.toNat r=.ok (l,d)->(dG d).e=0->stB { s1 with kept:=l }=bs->mS Q F K (.ok { s1 with kept:=l }))
  (h:aA H (crdA rb r::x::stA x sb { s1 with kept:=[] }::cellsA b1 [PA sb 0] 40::cellsA b2 [aD 0] 50::cellsA b3 [PA rb 0] 388::F)) :
  ∃(i:Int->aC->Prop) (D:Int->aC->Nat),i kn H/\
   ∀(n:Int),∀v:aC,i n v->mo.l2 ba bs.length bc K b1 b2 b3 i D n v:=by
 refine⟨λn T=>∃(j:Nat) (l:List Ot) (d:RS),n=kn-j/\(j:Int)<=kn/\eF j r=.ok (l,d)/\
  aA T (crdA rb d::x::stA x sb { s1 with kept:=l }::cellsA b1 [PA sb 0] 40::cellsA b2 [aD 0] 50::cellsA b3 [PA rb 0] 388::F),
  λn _=>n.toNat,⟨0,[],r,by omega,M.1,rfl,h⟩,?_⟩
 rintro n H1 ⟨j,l,d,rfl,hj,w,h⟩;have U:=KW hb w;have N:=xu hb w;unfold mo.l2;refine⟨λs=>?_,λs=>?_⟩
 .have s:=Va s;refine⟨_,h.q 5,?_⟩;refine KK h N.2 (by omega) ?_;have t:eF (j+1) r=match jb d with|.error e=>.error e|.ok (o,r2)=>.ok (l++[o],r2):=by
   rw[eF,w] <;> rfl
  cases hr:jb d with
  | error e=>
   rw[hr]at t;exact λT A h=>mT (O λl r1 u _ _=>by rw[KX t (by omega)]at u;cases u) A f (h.o [2,3,0] 5)
  | ok q=>
  obtain⟨o,r2⟩:=q;rw[hr]at t;intro Z V h5 h0 h;refine⟨_,_,_,_,_,_,_,_,_,_,rfl,?_⟩;refine h.al λb7 _ h=>?_
  refine h.al λb8 _ h=>?_
  refine h.st 1 rfl rfl ?_;intro W h;refine h.sta 0 rfl rfl λH4 h=>?_
  have h:=h.o [4,0,1,2,3,5,6,7] 8;obtain⟨p,h⟩:=cW.1 h;refine⟨_,h.r 13,_,h.r 13,cY ⟨_,_,_,h.r 0,_,_,h.q 10,_,_,_,_,_,_,_,_,h.rda 9 rfl,?_⟩⟩;refine h.al λb9 _ h=>⟨h.r 1,h.r 14,h.r 14,?_⟩
  refine h.append (m:=1) (ws:=cI o) sl86 9 rfl (h.ce_rd 0 rfl) rfl (rS _) (by show (l.length+1)*600<=_;omega) (by show l.length+1<=_;omega) λa6 c6 H5 h=>⟨_,_,_,rfl,h.r 14,cY ?_⟩
  refine h.st 1 rfl rfl ?_;intro S h;have hw:u64.wrap (kn-(j:Int)-1)=kn-((j+1:Nat):Int):=by rw[dd];omega
  rw[hw];refine⟨⟨j+1,l++[o],r2,rfl,by omega,t,?_⟩,by dsimp only;omega⟩;have e4:flat cI (l++[o])=flat cI l++cI o:=by rw[dT];simp[flat]
  have h:=h.o [1,2,3,4,5,6,7,8,9,12,13,14,15,16] 17;have h:aA S (stA x sb { s1 with kept:=l++[o] }::_):=cW.2 ⟨{ p with ka:=a6,kc:=c6 },by
   simp only[dq,UZ,VN,e4];exact h⟩
  exact h.o [1,2,0,3,4,5] 6
 .have h4:=Vb s;have R:j=kn.toNat:=by omega
  subst R;refine⟨_,h.r 5,?_⟩;refine wi h λZ h=>⟨_,rfl,?_⟩
  refine j5 (λA=>⟨rfl,_,h.r 3,?_⟩) λA=>mT (O λl2 r2 u B _=>by rw[w]at u;cases u;exact A B) A f (h.o [3,4,1] 6)
  obtain⟨E,C,gk⟩:=y l d w A;have h:=h.o [1,2,3,4,5] 6;refine Bi E C gk h λa c W h=>⟨_,_,_,rfl,?_⟩
  have L:a=none\/∃k o,a=some ⟨k,o,none⟩:=by
   rcases (kr (F:=star _) h).2 with ⟨B,_⟩|⟨b,pre,post,e',fr,B,_⟩
   .exact .inl B
   .exact .inr ⟨_,_,B⟩
  refine Aq L I (h.sl_rd 0 rfl) (hA _ (h.o [] 6)) ⟨_,rfl,?_⟩;intro Jn Y;refine⟨λs=>?_,λs=>?_⟩
  .refine mT (e:=10) (O λl2 r2 u B h3=>?_) (by decide) f (h.o [3,4,1] 6)
   rw[w]at u;cases u;rw[h3]at s;simp at s
  .refine Y _ ?_;have G:stB { s1 with kept:=l }=bs:=strB_inj (xv _) J (by simpa using s);refine⟨_,h.r 3,?_⟩;refine h.st 3 rfl rfl ?_;intro H4 h;refine h.st 4 rfl rfl ?_;intro H5 h;refine⟨rfl,TY (h.o [3,4,1,2] 6) λS h=>⟨rfl,_,h.r 0,_,h.r 1,P l d w A G x sb _ f h.tl.tl⟩⟩
end
theorem dig(x m:Nat)(hm:0<m):x/(m*256)*256+x/m%256=x/m:=by
 rw[<-Nat.div_div_eq_div_mul];have:=Nat.div_add_mod (x/m) 256;omega
theorem acc_dig{l:List Int}{x m:Nat}(hm:0<m)(a:x<18446744073709551616)(h:jX l=x/(m*256)):jX (l++[((x/m%256:Nat):Int)])=x/m:=by
 rw[wC,h,Vi];have e:=dig x m hm;have:x/m<=x:=Nat.div_le_self _ _;rw[Wj (by omega),e]
theorem KZ{x:Nat}(b:x<18446744073709551616):jX ((List.range 8).map λp=>((x/2^(8*(7-p))%256:Nat):Int))=x:=by
 have key:∀k,k<=8->jX ((List.range k).map λp=>((x/2^(8*(7-p))%256:Nat):Int))=x/2^(8*(8-k)):=by
  intro k
  induction k with
  | zero=>
   intro _;show 0=_;rw[Nat.div_eq_of_lt (by simpa using b)]
  | succ k a=>
   intro c;have a:=a (by omega);rw[List.range_succ,Vv];have e:2^(8*(8-k))=2^(8*(7-k))*256:=by
    have:8*(8-k)=8*(7-k)+8:=by omega
    rw[this,VZ]
   rw[e]at a;have:=acc_dig (Wz _) b a;have e2:8-(k+1)=7-k:=by omega
   rw[e2];exact this
 have:=key 8 (Vg _);simpa using this
theorem Uc{z:Int}(h:fW z):jm (dO z)=z:=by
 have e1:(dO z).take 8=(List.range 8).map λp=>(((cx z%B64).toNat/2^(8*(7-p))%256:Nat):Int):=by
  apply Wa
  .simp [dO]
  .intro i d a;have hi:i<8:=by simpa using a
   simp only[dO,List.getElem_take,VV,Yj];unfold wNat
   rw[UX hi]
 have e2:(dO z).drop 8=(List.range 8).map λp=>(((wlo z).toNat/2^(8*(7-p))%256:Nat):Int):=by
  apply Wa
  .simp [dO]
  .intro i d a;have hi:i<8:=by simpa using a
   simp only[dO,List.getElem_drop,VV,Yj];unfold wNat
   rw[nO];have:15-(8+i)=7-i:=by omega
   rw[this]
 have b:=oX z;have c:0<=cx z%B64/\cx z%B64<B64:=⟨Int.emod_nonneg _ (by decide),Int.emod_lt_of_pos _ (by decide)⟩;unfold jm;simp only[cx,wlo,B64]at b c e1 e2 ⊢;rw[e1,e2,KZ (by omega),KZ (by omega)];unfold fW at h;rw[jI];omega
def jB(h:Nat->Int):Nat->Nat->List (Nat×Nat)
 | _,0=>[]
 | a,n+1=>(if h a=0 then [] else [(a,(h a).toNat)])++jB h (a+1) n
def flP(l:List (Nat×Nat)):List Nat:=l.flatMap λp=>[p.1,p.2]
theorem Ud(a b:List (Nat×Nat)):flP (a++b)=flP a++flP b:=by simp[flP]
theorem flP_len(l:List (Nat×Nat)):(flP l).length=2*l.length:=by
 induction l with
 | nil=>rfl
 | cons p r ih=>
  show (p.1::p.2::flP r).length=_;simp only[Vf,ih];omega
theorem La(h:Nat->Int):∀n a,flP (jB h a n)=(List.range' a n).flatMap λi=>if h i=0 then [] else [i,(h i).toNat]
 | 0,a=>rfl
 | n+1,a=>by
  rw[List.range'_succ,V6,<-La h n (a+1)];show flP ((if h a=0 then [] else [(a,(h a).toNat)])++jB h (a+1) n)=_
  rw[Ud];congr 1
  split <;> rfl
theorem fullP_eq(h:Nat->Int)(n:Nat):gN h n=flP (jB h 0 n):=by
 rw[La,<-List.range_eq_range'];rfl
theorem Lb(h:Nat->Int):∀n a,(jB h a n).length<=n
 | 0,a=>Vg _
 | n+1,a=>by
  have:=Lb h n (a+1);unfold jB;rw[UZ]
  split <;> simp <;> omega
theorem Lc{h:Nat->Int}:∀{n a:Nat} {p:Nat×Nat},p∈jB h a n->a<=p.1/\p.1<a+n/\h p.1≠0/\p.2=(h p.1).toNat
 | 0,a,p,b=>by cases b
 | n+1,a,p,b=>by
  unfold jB at b
  rcases Vz.1 b with b|b
  .split at b
   .cases b
   .rename_i h0;rw[Vo]at b;subst b;exact⟨Vg _,by omega,h0,rfl⟩
  .have:=Lc b;exact⟨by omega,by omega,this.2.2.1,this.2.2.2⟩
theorem Bn{h:Nat->Int}(f:∀i,i<65->0<=h i/\h i<=9223372036854775807):∀{n a:Nat} {c:Option Nat} {g:Nat->Int},a+n<=65->(∀x,c=some x->x<a)->
  mK (jB h a n) c g=some λi=>if a<=i/\i<a+n/\h i≠0 then h i else g i
 | 0,a,c,g,hn,hp=>by
  show some g=_;congr 1;funext i;rw[nO]
 | n+1,a,c,g,hn,hp=>by
  unfold jB
  split
  .rename_i h0;rw[VB,Bn f (by omega) λx d=>by have:=hp x d;omega]
   congr 1;funext i
   by_cases hi:i=a
   .subst hi;rw[nO,UW (by simp[h0])]
   .by_cases b:a<=i/\i<a+(n+1)/\h i≠0
    .rw [UX ⟨by omega,by omega,b.2.2⟩,UX b]
    .rw [UW (λe=>b ⟨by omega,by omega,e.2.2⟩),UW b]
  .rename_i h0;have hb:=f a (by omega);show mK ((a,(h a).toNat)::jB h (a+1) n) c g=_;unfold mK;rw[UW (by
    intro b
    rcases b with b|b
    .unfold pj at b
     split at b
     .rename_i x;have:=hp x rfl;have:=Va b;omega
     .cases b
    .omega),nO,Bn f (by omega) λx d=>by cases d;omega]
   congr 1;funext i
   by_cases hi:i=a
   .subst hi;rw[nO,UX ⟨by omega,by omega,h0⟩];unfold eW;rw[UX rfl];omega
   .by_cases b:a<=i/\i<a+(n+1)/\h i≠0
    .rw [UX ⟨by omega,by omega,b.2.2⟩,UX b]
    .rw [UW (λe=>b ⟨by omega,by omega,e.2.2⟩),UW b]
     unfold eW;rw[UW hi]
theorem Ld(r:List Int):∀{l:List (Nat×Nat)},(∀p∈l,p.1<18446744073709551616/\p.2<18446744073709551616)->mJ l.length ⟨0,eJ (flP l)++r⟩=(l,⟨0,r⟩)
 | [],_=>rfl
 | p::l,h=>by
  have a:=h p (Vn ..);have b:=Ld r (l:=l) λq c=>h q (Vq _ c)
  have e:eJ (flP (p::l))++r=bQ p.1++(bQ p.2++(eJ (flP l)++r)):=by
   show eJ (p.1::p.2::flP l)++r=_;simp[eJ]
  show mJ (l.length+1) _=_;unfold mJ;rw[e,oo a.1];dsimp only;rw[oo a.2];dsimp only;rw[b]
def CH(c:Cl):Prop:=∀i,65<=i->c.h i=0
theorem Ue{c:Cl}(wc:WC c)(d:fX c=true)(u:CH c):kg (dh c)=(c,0):=by
 obtain⟨p1,p2,p3,p4⟩:=Ad d;have B:=wc.n;have f:=wc.cer;have j:=wc.pos;unfold aF at B f j;have s:∀i,i<65->0<=c.h i/\c.h i<=9223372036854775807:=λi hi=>⟨p4 i hi,(wc.h i hi).2⟩
 have A:=Lb c.h 65 0;have k:∀p∈jB c.h 0 65,p.1<18446744073709551616/\p.2<18446744073709551616:=by
  intro p C;obtain⟨a1,a2,a3,a4⟩:=Lc C;have:=s p.1 (by omega);exact⟨by omega,by omega⟩
 have e:dh c=bQ c.n.toNat++(bQ c.cer.toNat++(bQ c.pos.toNat++(cX [c.mn]++(cX [c.mx]++(cZ (bF (dO c.sum))++(bQ (jB c.h 0 65).length++(eJ (flP (jB c.h 0 65))++[]))))))):=by
  unfold dh;rw[UX d,fullP_eq,flP_len];have:2*(jB c.h 0 65).length/2=(jB c.h 0 65).length:=by omega
  rw[this];simp[eJ,cX]
 have D:(bF (dO c.sum)).size=16:=by rw[nI,rX]
 have b:fe (bF (dO c.sum))=dO c.sum:=by
  unfold fe;rw[show (bF (dO c.sum)).data.toList=(dO c.sum).map λn=>UInt8.ofNat n.toNat from strOfNums_data _,VM]
  apply Wa (by simp);intro i E w;simp only[VV,Function.comp];exact qj (RA c.sum) i w
 have s1:=λr=>uw wc.mn r
 have a:∀{v:Int} (h:aF v) (r:List Int),dF ⟨0,cX [v]++r⟩=(v,⟨0,r⟩):=by
  intro v h r;unfold dF;rw[intsB1,oo (tK v),Kz h]
 rw[e];unfold kg;dsimp only;rw[oo (by omega)];dsimp only;rw[oo (by omega)];dsimp only;rw[oo (by omega)];dsimp only;rw[a wc.mn];dsimp only;rw[a wc.mx];dsimp only;rw[uz (m:=16) (by omega) (by omega)];dsimp only;rw[Bd (m:=65) (by omega) (by omega)];dsimp only;rw[Vi,Ld [] k];dsimp only;rw[show (dG ⟨0,[]⟩).e=0 from rfl,UW (by simp)];unfold si;rw[nO,b,UW (by rw[rX];simp),Bn s (by omega) (λx t=>by cases t)]
 dsimp only;have y:(λi=>if 0<=i/\i<0+65/\c.h i≠0 then c.h i else Z0 i)=c.h:=by
  funext i
  by_cases h65:i<65
  .by_cases h0:c.h i=0
   .rw [UW (by simp[h0]),h0]
   .rw [UX ⟨by omega,by omega,h0⟩]
  .rw [nO,u i (by omega)]
 rw[y,Uc wc.sum,WT p1,WT p2,WT p3];rw[UX d]
theorem Le{most:Int}(h0:ee most []):∀{n:Nat} {r a:RS} {m:CM},aH r.bs->fi most n r=.ok (m,a)->n+a.bs.length<=r.bs.length
 | 0,r,a,m,hb,h=>by
  cases h
  omega
 | n+1,r,a,m,hb,h=>by
  unfold fi at h
  cases h1:fi most n r with
  | error e=>rw[h1]at h;cases h
  | ok q=>
  obtain⟨m1,r1⟩:=q;rw[h1]at h;dsimp only at h;have c:=Le h0 hb h1;have b:=(xt h0 hb h1).2
  cases h2:jb r1 with
  | error e=>rw[h2]at h;cases h
  | ok q=>
  obtain⟨o,r2⟩:=q;rw[h2]at h;dsimp only at h;have:=KV b h2
  split at h
  .cases h
  .cases h
   omega
theorem Bo{most:Int}{s:RS}{e:Int}:∀{n j:Nat},fi most j s=.error e->j<=n->fi most n s=.error e
 | 0,j,h,hj=>by
  obtain rfl:j=0:=by omega
  exact h
 | n+1,j,h,hj=>by
  rcases V0 n j with a|a
  .obtain rfl:j=n+1:=by omega
   exact h
  .unfold fi;rw[Bo h a]
section
variable {F L:List aE}{H:aC}{K KP:KE}{Q Q':aE}{sb:Nat}{s:aI}
theorem Uf{rb b1 b2 b3:Nat}{s1:aI}{bs:List Int}{ba:KQ}{bc:Nat}{n:Int}{r:RS}{A:aE}(i:aM Q A)
  (hA:∀H,aA H F->aP H ba (bs.map U8)) (I:ba=none\/∃k o,ba=some ⟨k,o,none⟩) (N:0<=n/\n<=1024) (h0:ee s1.cfg.cells []) (hb:aH r.bs) (hl:r.bs.length<=1000000000) (L:aH bs)
  (y:∀m f k a l c,fi s1.cfg.cells n.toNat r=.ok (m,f)->eA f=.ok (k,a)->eF k.toNat a=.ok (l,c)->(dG c).e=0->
   cQ { s1 with cm:=m,kept:=l }/\qG { s1 with cm:=m,kept:=l }/\l.length<=50000)
  (E:(∀m f k a l c,fi s1.cfg.cells n.toNat r=.ok (m,f)->eA f=.ok (k,a)->eF k.toNat a=.ok (l,c)->(dG c).e=0->stB { s1 with cm:=m,kept:=l }=bs->False)->mS Q F K (.error 10))
  (O:∀m f k a l c,fi s1.cfg.cells n.toNat r=.ok (m,f)->eA f=.ok (k,a)->eF k.toNat a=.ok (l,c)->(dG c).e=0->stB { s1 with cm:=m,kept:=l }=bs->
   mS Q F K (.ok { s1 with cm:=m,kept:=l }))
  (h:aA H (crdA rb r::A::stA A sb { s1 with cm:=[],kept:=[] }::cellsA b1 [PA sb 0] 40::cellsA b2 [aD 0] 50::cellsA b3 [PA rb 0] 388::F)) :
  ∃(s:Int->aC->Prop) (P:Int->aC->Nat),s 0 H/\
   ∀(t:Int),∀B:aC,s t B->mo.l3 ba bs.length bc K b1 b2 b3 n s P t B:=by
 refine⟨λt B=>∃(j:Nat) (m:CM) (c:RS),t=j/\(j:Int)<=n/\fi s1.cfg.cells j r=.ok (m,c)/\
  aA B (crdA rb c::A::stA A sb { s1 with cm:=m,kept:=[] }::cellsA b1 [PA sb 0] 40::cellsA b2 [aD 0] 50::cellsA b3 [PA rb 0] 388::F),
  λt _=>(n-t).toNat,⟨0,[],r,rfl,N.1,rfl,h⟩,?_⟩
 rintro t H1 ⟨j,m,c,rfl,hj,x,h⟩;have U:=Le h0 hb x;have u:=xt h0 hb x;unfold mo.l3;refine⟨λD=>?_,λD=>?_⟩
 .have D:=Va D;refine⟨_,h.q 5,?_⟩;refine KK h u.2 (by omega) ?_;have b:fi s1.cfg.cells (j+1) r=match jb c with
    | .error e=>.error e
    | .ok (o,r2)=>if (jU s1.cfg.cells m o.1 o.2).2≠0 then .error (jU s1.cfg.cells m o.1 o.2).2 else .ok ((jU s1.cfg.cells m o.1 o.2).1,r2):=by
   rw[fi,x] <;> rfl
  cases hr:jb c with
  | error e=>
   rw[hr]at b;exact λB w h=>mT (E λm f k a l r1 d _ _ _ _=>by rw[Bo b (by omega)]at d;cases d) w i (h.o [2,3,0] 5)
  | ok q=>
  obtain⟨o,r2⟩:=q;rw[hr]at b;dsimp only at b;have J:=Bm u.2 hr;intro Z G C M h;refine⟨_,_,_,_,_,_,_,_,_,_,rfl,?_⟩;refine h.al λb7 _ h=>?_
  refine h.al λb8 _ h=>?_
  refine h.st 1 rfl rfl ?_;intro H3 h;refine h.sta 0 rfl rfl λH4 h=>?_
  have h:=h.o [4,0,1,2,3,5,6,7] 8;obtain⟨p,h⟩:=cW.1 h;refine⟨_,h.r 13,cY ⟨_,h.r 0,_,_,h.q 10,_,_,_,_,_,_,_,_,h.rda 9 rfl,?_⟩⟩;refine Rf u.1.1 J.1 (h.o [5,6,0,1,2,3,4,7,8,11,12,13,14,15] 16) λH5 h=>⟨_,rfl,?_⟩
  refine j5 (λw=>⟨rfl,?_⟩) λw=>mT (E λm2 f k a l r1 d _ _ _ _=>by
   rw[UX w]at b;rw[Bo b (by omega)]at d;cases d) w i (h.o [11,12,10] 14)
  rw[UW (by simpa using w)]at b;have hw:i64.wrap ((j:Int)+1)=((j+1:Nat):Int):=by rw[aJ];omega
  rw[hw];refine⟨⟨j+1,_,r2,rfl,by omega,b,?_⟩,by dsimp only;omega⟩;have h:=h.o [2,3,4,5,6,0,1,7,8,9,10,11,12,13] 14;have h:aA H5 (stA A sb { s1 with cm:=(jU s1.cfg.cells m o.1 o.2).1,kept:=[] }::_):=cW.2 ⟨p,h⟩;exact h.o [1,2,0,3,4,5] 6
 .have h6:=Vb D;have S:j=n.toNat:=by omega
  subst S;refine⟨_,h.q 5,?_⟩;refine ug h u.2 (by omega) ?_
  cases hr:eA c with
  | error e=>
   exact λB w h=>mT (E λm2 f k a l r1 d v _ _ _=>by rw[x]at d;cases d;rw[hr]at v;cases v) w i (h.o [2,3,0] 5)
  | ok q=>
  obtain⟨k,a⟩:=q;intro Z G C M h;have Y:a.bs.length<=c.bs.length:=uB hr;have R:0<=k/\k<18446744073709551616:=by
   rw[(il hr).2.1];have:=we u.2;omega
  refine⟨_,rfl,?_⟩;exact Ub (s1:={ s1 with cm:=m }) i hA I R C (by omega) L (λl f d v=>y _ _ _ _ _ _ x hr d v) (λN=>E λm2 f k2 V l r1 d v T h4 W=>by
   rw[x]at d;cases d;rw[hr]at v;cases v;exact N _ _ T h4 W) (λl f d v T=>O _ _ _ _ _ _ x hr d v T) h
end
theorem okR_len{α:Type}{s a:RS}{x y:α}(h:okR s x=.ok (y,a)):a.bs.length=s.bs.length:=by rw[(il h).1]
theorem Ug{s c:RS}{x:Pv}(h:iX s=.ok (x,c)):c.bs.length<=s.bs.length:=by
 unfold iX at h
 cases h1:cG s with
 | error e'=>rw[h1]at h;cases h
 | ok q=>
  obtain⟨a,s1⟩:=q;rw[h1]at h;dsimp only at h
  cases h2:ge s1 with
  | error e'=>rw[h2]at h;cases h
  | ok q=>
   obtain⟨b,s2⟩:=q;rw[h2]at h;dsimp only at h;have d:=okR_len h;have f:=gi h1;have i:=uA h2;have e:=Ak s2;dsimp only at d;omega
theorem Lf{hs:HS Pv}{s c:RS}{x:HS Pv}(h:ld hs s=.ok (x,c)):c.bs.length<=s.bs.length:=by
 unfold ld at h
 (repeat' split at h) <;> first|(cases h;done)|(cases h;rename_i a b;exact Vu (Ug ‹_›) (gi ‹_›))
theorem Lg{s a:RS}{x:bP}(h:smpR s=.ok (x,a)):a.bs.length<=s.bs.length:=by
 unfold smpR at h
 (repeat' split at h) <;> first|(cases h;done)|(cases h;exact Vu (gi ‹_›) (Vu (gi ‹_›) (Vu (gi ‹_›) (gi ‹_›))))|exact Vu (gi ‹_›) (Vu (gi ‹_›) (Vu (gi ‹_›) (gi ‹_›)))
theorem xw:∀{n:Nat} {s a:RS} {x:List bP},jp n s=.ok (x,a)->a.bs.length<=s.bs.length
 | 0,s,a,x,h=>by cases h;exact Vg _
 | n+1,s,a,x,h=>by
  unfold jp at h
  (repeat' split at h) <;> first|(cases h;done)|(cases h;exact Vu (Lg ‹_›) (xw ‹_›))|exact Vu (Lg ‹_›) (xw ‹_›)
theorem xx{hs:HS Pv}:∀{n:Nat} {s a:RS} {x:HS Pv},iD hs n s=.ok (x,a)->a.bs.length<=s.bs.length
 | 0,s,a,x,h=>by cases h;exact Vg _
 | n+1,s,a,x,h=>by
  unfold iD at h
  (repeat' split at h) <;> first|(cases h;done)|(cases h;exact Vu (Lf ‹_›) (xx ‹_›))|exact Vu (Lf ‹_›) (xx ‹_›)
theorem Lh{c:bG}{a b:Int}{d:Bool}{l:List bP}{s e:RS}{x:br}(h:ot c a d b l s=.ok (x,e)):e.bs.length<=s.bs.length:=by
 unfold ot at h
 (repeat' split at h) <;> first|(cases h;done)|(cases h;exact Vu (xx ‹_›) (Vu (sy ‹_›) (gi ‹_›)))|exact Vu (xx ‹_›) (Vu (sy ‹_›) (gi ‹_›))
theorem Li{c:bG}{a:Int}{s b:RS}{x:br}(h:nP c a s=.ok (x,b)):b.bs.length<=s.bs.length:=by
 unfold nP at h
 (repeat' split at h) <;> first|(cases h;done)|(cases h;exact Vu (Lh ‹_›) (Vu (xw ‹_›) (Vu (sy ‹_›) (Vu (gi ‹_›) (uB ‹_›)))))|exact Vu (Lh ‹_›) (Vu (xw ‹_›) (Vu (sy ‹_›) (Vu (gi ‹_›) (uB ‹_›))))
theorem Lj{c:bG}{s a:RS}{x:br}(h:mR c s=.ok (x,a)):a.bs.length<=s.bs.length:=by
 unfold mR at h
 (repeat' split at h) <;> first|(cases h;done)|(cases h;exact Vu (Li ‹_›) (uA ‹_›))|exact Vu (Li ‹_›) (uA ‹_›)
theorem Lk{c:bG}{t:Int}{s a:RS}{x:Fl×br}(h:flR c t s=.ok (x,a)):a.bs.length<=s.bs.length:=by
 unfold flR at h
 (repeat' split at h) <;> first|(cases h;done)|(cases h;exact Vu (Lj ‹_›) (uB ‹_›))|exact Vu (Lj ‹_›) (uB ‹_›)
theorem Ll{s0:aI}{a:Int}{s b:RS}{x:List En×Fl×br}(h:kD s0 a s=.ok (x,b)):b.bs.length<=s.bs.length:=by
 unfold kD at h
 (repeat' split at h) <;> first|(cases h;done)|(cases h;exact Vu (Lk ‹_›) (Vu (sC ‹_›) (Vu (gi ‹_›) (Vu (gi ‹_›) (gi ‹_›)))))|exact Vu (Lk ‹_›) (Vu (sC ‹_›) (Vu (gi ‹_›) (Vu (gi ‹_›) (gi ‹_›))))
theorem Bp{s0:aI}:∀{n:Nat} {r a:RS} {x:PAg},fh s0 n r=.ok (x,a)->a.bs.length<=r.bs.length
 | 0,s,s',x,h=>by cases h;exact Vg _
 | n+1,s,s',x,h=>by
  unfold fh at h
  (repeat' split at h) <;> first|(cases h;done)|(cases h;exact Vu (Ll ‹_›) (Vu (gi ‹_›) (Bp ‹_›)))|exact Vu (Ll ‹_›) (Vu (gi ‹_›) (Bp ‹_›))
theorem Bq{s0:aI}{s:RS}{e:Int}:∀{n j:Nat},fh s0 j s=.error e->j<=n->fh s0 n s=.error e
 | 0,j,h,hj=>by
  obtain rfl:j=0:=by omega
  exact h
 | n+1,j,h,hj=>by
  rcases V0 n j with a|a
  .obtain rfl:j=n+1:=by omega
   exact h
  .unfold fh;rw[Bq h a]
section
variable {F L:List aE}{H:aC}{K KP:KE}{Q Q':aE}{sb:Nat}{s:aI}
theorem Uh{rb b1 b2 b3 b4:Nat}{s0:aI}{bs:List Int}{ba:KQ}{bc:Nat}{n b value:Int}{r:RS}{B:aE}(d:aM Q B)
  (hA:∀H,aA H F->aP H ba (bs.map U8)) (U:ba=none\/∃k o,ba=some ⟨k,o,none⟩) (ok:cQ s0) (N:s0.cm=[]) (l0:s0.kept=[]) (hn:0<=n/\n<=64) (E:1<=s0.ms.lag/\s0.ms.lag<=1099511627776) (hm:isT b) (hb:aH r.bs) (hl:r.bs.length<=1000000000) (W:aH bs)
  (M:∀x r7 m u cm i k c l f,fh s0 n.toNat r=.ok (x,r7)->(b-s0.ms.lag<=value/\value<=b)->dP 1024 r7=.ok (m,u)->fi s0.cfg.cells m.toNat u=.ok (cm,i)->eA i=.ok (k,c)->eF k.toNat c=.ok (l,f)->(dG f).e=0->
   cQ { s0 with rows:=x.rows,sts:=x.sts,ms:=⟨s0.ms.lag,b,value,x.fls⟩,cm:=cm,kept:=l }/\qG { s0 with rows:=x.rows,sts:=x.sts,ms:=⟨s0.ms.lag,b,value,x.fls⟩,cm:=cm,kept:=l }/\l.length<=50000)
  (O:(∀x r7 m u cm i k c l f,fh s0 n.toNat r=.ok (x,r7)->(b-s0.ms.lag<=value/\value<=b)->dP 1024 r7=.ok (m,u)->fi s0.cfg.cells m.toNat u=.ok (cm,i)->eA i=.ok (k,c)->eF k.toNat c=.ok (l,f)->(dG f).e=0->
   stB { s0 with rows:=x.rows,sts:=x.sts,ms:=⟨s0.ms.lag,b,value,x.fls⟩,cm:=cm,kept:=l }=bs->False)->mS Q F K (.error 10))
  (j2:∀x r7 m u cm i k c l f,fh s0 n.toNat r=.ok (x,r7)->(b-s0.ms.lag<=value/\value<=b)->dP 1024 r7=.ok (m,u)->fi s0.cfg.cells m.toNat u=.ok (cm,i)->eA i=.ok (k,c)->eF k.toNat c=.ok (l,f)->(dG f).e=0->
   stB { s0 with rows:=x.rows,sts:=x.sts,ms:=⟨s0.ms.lag,b,value,x.fls⟩,cm:=cm,kept:=l }=bs->
   mS Q F K (.ok { s0 with rows:=x.rows,sts:=x.sts,ms:=⟨s0.ms.lag,b,value,x.fls⟩,cm:=cm,kept:=l }))
  (h:aA H (crdA rb r::B::stA B sb s0::Ma.mapF b4 []::cellsA b1 [PA sb 0] 40::cellsA b2 [aD 0] 50::cellsA b3 [PA rb 0] 388::F)) :
  ∃(Inv:Int->aC->Prop) (mu:Int->aC->Nat),Inv 0 H/\
   ∀(t:Int),∀L:aC,Inv t L->mo.l4 ba bs.length bc K b1 b2 b3 b value b4 n Inv mu t L:=by
 refine⟨λt L=>∃(j:Nat) (x:PAg) (f:RS) (B:aE) (p:SAd),t=j/\(j:Int)<=n/\fh s0 j r=.ok (x,f)/\aH f.bs/\aM Q B/\
  aA L (crdA rb f::B::cellsA sb (dq s0 p) 145::Ro.rollC p.rb p.rm s0.cfg.agents::Ro.mapE p.rm x.rows::strmA B p.tm x.sts::Ma.markC p.mb p.mm s0.ms::Ma.mapF p.mm s0.ms.m::shC p.hb p.hm s0.cfg.cells::cz p.hm s0.cm::slA 164 74 p.ka s0.kept.length p.kc (flat cI s0.kept)::
   Ma.mapF b4 x.fls::cellsA b1 [PA sb 0] 40::cellsA b2 [aD 0] 50::cellsA b3 [PA rb 0] 388::F),
  λt _=>(n-t).toNat,?_,?_⟩
 .have h:=h.o [2,0,1,3,4,5,6] 7;obtain⟨p,h⟩:=cW.1 h;exact⟨0,⟨s0.rows,s0.sts,[]⟩,r,B,p,rfl,hn.1,rfl,hb,d,h.o [9,10,0,1,2,7,3,4,5,6,8,11,12,13,14] 15⟩
 rintro t H1 ⟨j,x,f,B,p,rfl,hj,D,J,d,h⟩;have l5:=Bp D;have S:=Bl ok D;unfold mo.l4;refine⟨λR=>?_,λR=>?_⟩
 .have R:=Va R;refine⟨_,h.q 14,?_⟩;refine jY h J (by omega) ?_
  cases hr:cG f with
  | error e=>
   have h0:fh s0 (j+1) r=.error e:=by
    rw[fh,D];dsimp only;rw[hr]
   exact λL A h=>mT (O λx2 r7 m u cm i k c l r1 w _ _ _ _ _ _ _=>by rw[Bq h0 (by omega)]at w;cases w) A d (h.o [11,12,0] 14)
  | ok q=>
  obtain⟨a,r2⟩:=q;intro H2 l6 j1 h9 h;refine⟨_,rfl,_,h.q 14,_,h.r 12,?_⟩;refine TW (s:={ s0 with rows:=x.rows,sts:=x.sts }) (a:=a) ok.cfg S.rows S.len j1 h9 ?_ h;have C:fh s0 (j+1) r=match kD { s0 with rows:=x.rows,sts:=x.sts } a r2 with
    | .error e=>.error e
    | .ok (y,r3)=>.ok (⟨y.1,x.sts.set a.toNat (some y.2.2),mset a y.2.1 x.fls⟩,r3):=by
   rw[fh,D];dsimp only;rw[hr] <;> rfl
  cases hq:kD { s0 with rows:=x.rows,sts:=x.sts } a r2 with
  | error e=>
   rw[hq]at C;exact λQ2 L A hs h=>mT (O λx2 r7 m u cm i k c l r1 w _ _ _ _ _ _ _=>by rw[Bq C (by omega)]at w;cases w) A (d.trans hs) (h.o [7,8,0] 10)
  | ok q=>
  obtain⟨y,r3⟩:=q;rw[hq]at C;intro Q2 H3 hs V I T h;refine⟨_,_,_,_,rfl,?_⟩;refine h.mp_update (α:=Fl) (v:=y.2.1) Ma.mt45 Ma.ko2 11 rfl λH4 h=>?_
  have hw:i64.wrap ((j:Int)+1)=((j+1:Nat):Int):=by rw[aJ];omega
  rw[hw];refine⟨⟨j+1,_,r3,Q2,p,rfl,by omega,C,I,d.trans hs,?_⟩,by dsimp only;omega⟩;exact h.o [1,0,2,4,5,3,6,7,8,9,10,11,12,13,14] 15
 .have u8:=Vb R;have j3:j=n.toNat:=by omega
  subst j3;refine⟨_,h.r 12,cY ⟨_,h.r 2,?_⟩⟩
  by_cases hv:b-s0.ms.lag<=value/\value<=b
  .refine Ma.Set_spec hm E hv (λp hp=>⟨(S.fls p hp).1,(S.fls p hp).2.1⟩) (h.o [6,7,11,0,1,2,3,4,5,8,9,10,12,13,14] 15) λY H2 h=>⟨_,rfl,?_⟩
   refine j5 (λA=>⟨rfl,_,h.q 14,?_⟩) λA=>UY rfl A
   refine ui (by decide) (h.o [3,4,5,6,7,8,0,1,9,10,11,12,13,14] 15) J (by omega) ?_
   cases hr:dP 1024 f with
   | error e=>
    exact λL A h=>mT (O λx2 r7 m u cm i k c l r1 w _ P _ _ _ _ _=>by rw[D]at w;cases w;rw[hr]at P;cases P) A d (h.o [10,11,0] 13)
   | ok q=>
   obtain⟨m,u⟩:=q;intro H3 V I T h;have r0:=sy hr;have Z:0<=m/\m<=1024:=by rw[(il hr).2.1];exact AK J (by decide)
   refine⟨_,rfl,?_⟩;have h:=h.o [2,3,4,6,7,8,9,5,10,0,1,11,12,13] 14;have h:aA H3 (stA B sb { s0 with rows:=x.rows,sts:=x.sts,ms:=⟨s0.ms.lag,b,value,x.fls⟩,cm:=s0.cm,kept:=s0.kept }::_):=cW.2 ⟨{ p with mm:=Y },h⟩;rw[N,l0]at h;exact Uf (s1:={ s0 with rows:=x.rows,sts:=x.sts,ms:=⟨s0.ms.lag,b,value,x.fls⟩ }) d hA U Z (by have:=ok.sh;rwa[N]at this) I (by omega) W
    (λcm i k c l G=>M x f m u cm i k c l G D hv hr) (λhn=>O λx2 r7 m u cm i k c l r1 w _ P h4 h5 h6 h7 h8=>by
     rw[D]at w;cases w;rw[hr]at P;cases P;exact hn _ _ _ _ _ _ h4 h5 h6 h7 h8) (λcm i k c l G=>j2 x f m u cm i k c l G D hv hr) (h.o [1,2,0,3,4,5] 6)
  .refine MSet_err hm E hv (h.o [6,0,1,2,3,4,5,7,8,9,10,11,12,13,14] 15) ⟨_,rfl,?_⟩;refine j5 (λA=>UY A (by decide)) λA=>mT (O λx2 r7 m u cm i k c l r1 w h2 _ _ _ _ _ _=>hv h2) A d (h.o [12,13,1] 15)
end
theorem Br{s a:RS}{x:Int}(hb:aH s.bs)(h:eA s=.ok (x,a)):aH a.bs:=by rw[(il h).1];exact gH hb
theorem lf{s a:RS}{x:Int}(hb:aH s.bs)(h:cG s=.ok (x,a)):aH a.bs:=by rw[(il h).1];exact gH hb
theorem Bs{s a:RS}{x:Int}(hb:aH s.bs)(h:ge s=.ok (x,a)):aH a.bs:=by rw[(il h).1];exact gH hb
theorem xy{s a:RS}{m x:Int}(hb:aH s.bs)(h:dP m s=.ok (x,a)):aH a.bs:=by rw[(il h).1];exact rK hb
theorem uC{s b:RS}{m x:Int}(hb:aH s.bs)(h:upR m s=.ok (x,b)):aH b.bs:=by
 unfold upR at h
 cases h1:cG s with
 | error e=>rw[h1]at h;cases h
 | ok q=>
  obtain⟨a,s1⟩:=q;rw[h1]at h;dsimp only at h
  split at h
  .cases h;exact lf hb h1
  .cases h
theorem Ui{s c:RS}{x:Pv}(hb:aH s.bs)(h:iX s=.ok (x,c)):aH c.bs:=by
 unfold iX at h
 cases h1:cG s with
 | error e'=>rw[h1]at h;cases h
 | ok q=>
  obtain⟨a,s1⟩:=q;rw[h1]at h;dsimp only at h
  cases h2:ge s1 with
  | error e'=>rw[h2]at h;cases h
  | ok q=>
   obtain⟨b,s2⟩:=q;rw[h2]at h;dsimp only at h;rw[(il h).1];exact Aj (Bs (lf hb h1) h2)
theorem waitR_by{hs:HS Pv}{s a:RS}{x:HS Pv}(hb:aH s.bs)(h:ld hs s=.ok (x,a)):aH a.bs:=by
 unfold ld at h
 (repeat' split at h) <;> first|(cases h;done)|(cases h;exact Ui (lf hb ‹_›) ‹_›)
theorem smpR_by{s a:RS}{x:bP}(hb:aH s.bs)(h:smpR s=.ok (x,a)):aH a.bs:=by
 unfold smpR at h
 (repeat' split at h) <;> first|(cases h;done)|(cases h;exact lf (lf (lf (lf hb ‹_›) ‹_›) ‹_›) ‹_›)
theorem Lm:∀{n:Nat} {s a:RS} {x:List bP},aH s.bs->jp n s=.ok (x,a)->aH a.bs
 | 0,s,a,x,hb,h=>by cases h;exact hb
 | n+1,s,a,x,hb,h=>by
  unfold jp at h
  (repeat' split at h) <;> first|(cases h;done)|(cases h;exact smpR_by (Lm hb ‹_›) ‹_›)
theorem Ln{hs:HS Pv}:∀{n:Nat} {s a:RS} {x:HS Pv},aH s.bs->iD hs n s=.ok (x,a)->aH a.bs
 | 0,s,a,x,hb,h=>by cases h;exact hb
 | n+1,s,a,x,hb,h=>by
  unfold iD at h
  (repeat' split at h) <;> first|(cases h;done)|exact waitR_by (Ln hb ‹_›) h
theorem strR3_by{c:bG}{a b:Int}{d:Bool}{l:List bP}{s e:RS}{x:br}(hb:aH s.bs)(h:ot c a d b l s=.ok (x,e)):aH e.bs:=by
 unfold ot at h
 (repeat' split at h) <;> first|(cases h;done)|(cases h;exact Ln (xy (lf hb ‹_›) ‹_›) ‹_›)
theorem strR2_by{c:bG}{a:Int}{s b:RS}{x:br}(hb:aH s.bs)(h:nP c a s=.ok (x,b)):aH b.bs:=by
 unfold nP at h
 (repeat' split at h) <;> first|(cases h;done)|exact strR3_by (Lm (xy (lf (Br hb ‹_›) ‹_›) ‹_›) ‹_›) h
theorem strR_by{c:bG}{s a:RS}{x:br}(hb:aH s.bs)(h:mR c s=.ok (x,a)):aH a.bs:=by
 unfold mR at h
 (repeat' split at h) <;> first|(cases h;done)|exact strR2_by (Bs hb ‹_›) h
theorem flR_by{c:bG}{t:Int}{s a:RS}{x:Fl×br}(hb:aH s.bs)(h:flR c t s=.ok (x,a)):aH a.bs:=by
 unfold flR at h
 (repeat' split at h) <;> first|(cases h;done)|(cases h;exact strR_by (Br hb ‹_›) ‹_›)
theorem agtR_by{s0:aI}{a:Int}{s b:RS}{x:List En×Fl×br}(hb:aH s.bs)(h:kD s0 a s=.ok (x,b)):aH b.bs:=by
 unfold kD at h
 (repeat' split at h) <;> first|(cases h;done)|(cases h;exact flR_by (uC (lf (lf (lf hb ‹_›) ‹_›) ‹_›) ‹_›) ‹_›)
theorem Lo{s0:aI}:∀{n:Nat} {r a:RS} {x:PAg},aH r.bs->fh s0 n r=.ok (x,a)->aH a.bs
 | 0,s,s',x,hb,h=>by cases h;exact hb
 | n+1,s,s',x,hb,h=>by
  unfold fh at h
  (repeat' split at h) <;> first|(cases h;done)|(cases h;exact agtR_by (lf (Lo hb ‹_›) ‹_›) ‹_›)
theorem Uj{c:bG}{bs:List Int}{s:aI}(hb:aH bs)(a:j9 c)(h:kE c bs=.ok s):cQ s:=by
 unfold kE at h
 cases h1:upR 4611686018427387903 ⟨0,bs⟩ with
 | error e=>rw[h1]at h;cases h
 | ok q=>
 obtain⟨now,r1⟩:=q;have b1:=uC hb h1;rw[h1]at h;dsimp only at h
 cases h2:upR 1099511627776 r1 with
 | error e=>rw[h2]at h;cases h
 | ok q=>
 obtain⟨boots,r2⟩:=q;have b2:=uC b1 h2;rw[h2]at h;dsimp only at h
 cases h3:upR 1099511627776 r2 with
 | error e=>rw[h3]at h;cases h
 | ok q=>
 obtain⟨sunk,r3⟩:=q;have b3:=uC b2 h3;rw[h3]at h;dsimp only at h
 cases h4:upR now r3 with
 | error e=>rw[h4]at h;cases h
 | ok q=>
 obtain⟨b,r4⟩:=q;have b4:=uC b3 h4;rw[h4]at h;dsimp only at h
 cases h5:ge r4 with
 | error e=>rw[h5]at h;cases h
 | ok q=>
 obtain⟨value,r5⟩:=q;have b5:=Bs b4 h5;rw[h5]at h;dsimp only at h
 cases h6:dP 64 r5 with
 | error e=>rw[h6]at h;cases h
 | ok q=>
 obtain⟨n,r6⟩:=q;have b6:=xy b5 h6;rw[h6]at h;dsimp only at h;have i1:=ou h1;have i2:=ou h2;have i3:=ou h3;have i4:=ou h4;have ok0:cQ { bS c with now:=now,boots:=boots,sunk:=sunk }:=(qE a).upd (now:=now) (ms:=(bS c).ms) (cm:=(bS c).cm) (kept:=(bS c).kept) (sunk:=sunk) (boots:=boots) i1 (qE a).ms rfl (qE a).sh (qE a).kept i3.1 i2
 cases h7:fh { bS c with now:=now,boots:=boots,sunk:=sunk } n.toNat r6 with
 | error e=>rw[h7]at h;cases h
 | ok q=>
 obtain⟨x,r7⟩:=q;have b7:=Lo b6 h7;have d:=Bl ok0 h7;rw[h7]at h;dsimp only at h
 split at h
 .cases h
 rename_i v;have v:=Decidable.not_not.1 v
 cases h8:dP 1024 r7 with
 | error e=>rw[h8]at h;cases h
 | ok q=>
 obtain⟨m,w⟩:=q;have b8:=xy b7 h8;rw[h8]at h;dsimp only at h
 cases h9:fi c.cells m.toNat w with
 | error e=>rw[h9]at h;cases h
 | ok q=>
 obtain⟨cm,A⟩:=q;have g9:=xt (qE a).sh b8 h9;rw[h9]at h;dsimp only at h
 cases h10:eA A with
 | error e=>rw[h10]at h;cases h
 | ok q=>
 obtain⟨k,i⟩:=q;have f:=Br g9.2 h10;rw[h10]at h;dsimp only at h
 cases h11:eF k.toNat i with
 | error e=>rw[h11]at h;cases h
 | ok q=>
 obtain⟨kept,y⟩:=q;have j:=xu f h11;rw[h11]at h;dsimp only at h
 split at h
 .cases h
 cases h
 have t:=a.lag;have hm:isT b:=⟨i4.1,by show b<=_;omega⟩;exact⟨a,i1,i2,i3.1,d.rows,⟨t.1,t.2,hm,by show -c.lag<=value;omega,by show value<=_;omega,d.nd,λp u=>⟨(d.fls p u).1,(d.fls p u).2.1⟩⟩,rfl,g9.1.sh,d.len,d.sts,d.reg,j.1⟩
section
variable {F L:List aE}{H:aC}{K KP:KE}{Q Q':aE}{sb:Nat}{s:aI}
theorem Uk{c:bG}{bs:List Int}{ba:KQ}{bc:Nat}(h:aA H (Q::F))
  (Y:∀H,aA H F->aP H ba (bs.map U8)) (O:ba=none\/∃k o,ba=some ⟨k,o,none⟩) (E:aH bs) (hl:bs.length<=1000000000)
  (I:fC c=true->∀s,kE c bs=.ok s->qG s/\s.kept.length<=50000)
  (k1:fC c=false->∀C,aA C (Q::F)->K (.tuple #[.pointer none,aD 11]) C)
  (k2:fC c=true->∀e,pA c bs=.error e->mS Q F K (.error 10))
  (k3:fC c=true->∀s,pA c bs=.ok s->mS Q F K (.ok s)) :
  CF 103 #[.agg ⟨ol c⟩,.slice ba bs.length bc] H K:=by
 refine O0 ?_;refine h.al λb0 _ h=>?_
 refine h.al λb1 _ h=>?_
 refine h.al λb2 _ h=>?_
 refine⟨_,_,_,_,_,_,_,_,_,h.q 2,?_⟩;refine Kk (Q:=Q) (c:=c) h (λB H1 h=>?_) λB sb H1 h=>?_
 .refine⟨_,_,rfl,?_⟩;refine h.st 1 rfl rfl ?_;intro H2 h;refine h.st 0 rfl rfl ?_;intro H3 h;refine⟨_,h.r 0,λ_=>?_,λP=>UY P (by simp)⟩
  refine⟨_,h.r 0,?_⟩;refine h.st 1 rfl rfl ?_;intro H4 h;refine⟨h.r 0,?_⟩;refine h.st 0 rfl rfl ?_;intro H5 h;exact⟨_,h.r 1,_,h.r 0,k1 B _ (h.o [3] 4)⟩
 have D:=ur B;have ok0:=qE D;refine⟨_,_,rfl,?_⟩;refine h.st 2 rfl rfl ?_;intro H2 h;refine h.st 1 rfl rfl ?_;intro H3 h;refine⟨_,h.r 1,λP=>UY P (by simp),λ_=>?_⟩
 refine rG h (λH h=>Y H (h.o [] 5)) (by omega) λrb H4 h=>⟨_,rfl,?_⟩
 refine h.al λb3 _ h=>?_
 refine h.st 0 rfl rfl ?_;intro H5 h;refine⟨_,h.r 4,_,h.r 4,_,h.r 4,_,h.q 0,_,h.q 0,_,h.q 0,?_⟩;have h:=h.o [1,0,2,3,4,6] 7;have f:=λe (u:kE c bs=.error e)=>k2 B 10 (by unfold pA;rw[UW (by simp[B]),u])
 have pan:∀{e:Int} {H:aC} {sv:aI} {b1 b2 b3 rb:Nat} {v1:Int} {v:KQ},mS Q F K (.error 10)->e≠0->aA H (cellsA b3 [PA rb 0] 388::stA Q sb sv::cellsA b2 [aD v1] 50::cellsA b1 [.pointer v] 40::Q::F)->
   bI 196 X.calls=true/\cB Tryz.prog 196 [(PA b1 0),(PA b2 0)] (bi (pnV e) false) H λT y=>T=bi (pnV e) true/\
   ∃w,aK y b1 0=some (.pointer w)/\∃A,aK y b2 0=some (aD A)/\K (.tuple #[(.pointer w),(aD A)]) y:=
  λS u h=>mT S u (aM.refl Q) (h.o [3,2,4] 5)
 unfold kE at f;refine se h E (by show bs.length<=_;omega) ?_
 cases h1:upR 4611686018427387903 ⟨0,bs⟩ with
 | error e=>rw[h1]at f;exact λC u h=>pan (f _ rfl) u h
 | ok q=>
 obtain⟨now,r1⟩:=q;rw[h1]at f;dsimp only at f;intro H6 e1 U l1 h;refine⟨_,rfl,h.q 1,h.q 1,h.r 4,h.r 4,h.r 4,?_⟩;refine se h U l1 ?_
 cases h2:upR 1099511627776 r1 with
 | error e=>rw[h2]at f;exact λC u h=>pan (f _ rfl) u h
 | ok q=>
 obtain⟨boots,r2⟩:=q;rw[h2]at f;dsimp only at f;intro H7 e2 V l2 h;refine⟨_,rfl,h.q 1,h.r 4,h.r 4,h.r 4,?_⟩;refine se h V l2 ?_
 cases h3:upR 1099511627776 r2 with
 | error e=>rw[h3]at f;exact λC u h=>pan (f _ rfl) u h
 | ok q=>
 obtain⟨sunk,r3⟩:=q;rw[h3]at f;dsimp only at f;intro H8 e3 L l3 h;have i1:=ou h1;have i2:=ou h2;have i3:=ou h3;have okN:cQ { bS c with now:=now,boots:=boots,sunk:=sunk }:=ok0.upd (now:=now) (ms:=(bS c).ms) (cm:=(bS c).cm) (kept:=(bS c).kept) (sunk:=sunk) (boots:=boots) i1 ok0.ms rfl ok0.sh ok0.kept i3.1 i2;refine⟨_,rfl,h.r 4,h.r 4,h.r 4,cY ?_⟩;have h:=h.o [2,0,1,3,4,5] 6;obtain⟨p,h⟩:=cW.1 h;refine h.st 0 rfl rfl ?_;intro H9 h;refine⟨h.r 12,h.r 12,cY ?_⟩;refine h.st 0 rfl rfl ?_;intro h7 h;refine⟨h.r 12,cY ?_⟩;refine h.st 0 rfl rfl ?_;intro R h;refine⟨_,h.q 10,_,h.r 12,cY ⟨_,h.r 0,_,h.q 10,?_⟩⟩;have h:aA R (stA Q sb { bS c with now:=now,boots:=boots,sunk:=sunk }::_):=cW.2 ⟨p,h⟩;have h:=h.o [1,2,0,3,4,5] 6;refine se h L l3 ?_
 cases h4:upR now r3 with
 | error e=>rw[h4]at f;exact λC u h=>pan (f _ rfl) u h
 | ok q=>
 obtain⟨a,r4⟩:=q;rw[h4]at f;dsimp only at f;intro h8 e4 N l4 h;refine⟨_,rfl,h.q 1,?_⟩;refine uh h N l4 ?_
 cases h5:ge r4 with
 | error e=>rw[h5]at f;exact λC u h=>pan (f _ rfl) u h
 | ok q=>
 obtain⟨value,r5⟩:=q;rw[h5]at f;dsimp only at f;intro Z e5 J l5 h;refine⟨_,rfl,?_⟩;refine h.alm aD mI λb4 _ h=>?_
 refine⟨_,h.q 2,?_⟩;have h:=h.o [1,2,3,4,5,6,0] 7;refine ui (by decide) h J l5 ?_
 cases h6:dP 64 r5 with
 | error e=>rw[h6]at f;exact λC u h=>pan (f _ rfl) u (h.o [0,1,2,3,4] 6)
 | ok q=>
 obtain⟨n,r6⟩:=q;rw[h6]at f;dsimp only at f;intro h0 e6 M l6 h;have i4:=ou h4;have G:0<=n/\n<=64:=by rw[(il h6).2.1];exact AK J (by decide)
 have t1:=sC h1;have t2:=sC h2;have t3:=sC h3;have t4:=sC h4;have t5:=uA h5;have t6:=sy h6;dsimp only at t1;refine⟨_,rfl,?_⟩;have W:∀x r7 m j cm i k d l t,fh { bS c with now:=now,boots:=boots,sunk:=sunk } n.toNat r6=.ok (x,r7)->(a-c.lag<=value/\value<=a)->dP 1024 r7=.ok (m,j)->fi c.cells m.toNat j=.ok (cm,i)->eA i=.ok (k,d)->eF k.toNat d=.ok (l,t)->(dG t).e=0->
   kE c bs=.ok ⟨c,now,boots,sunk,x.rows,⟨c.lag,a,value,x.fls⟩,cm,x.sts,l⟩:=by
  intro x r7 m j cm i k d l t a1 a2 a3 a4 a5 a6 a7;unfold kE;rw[h1];dsimp only;rw[h2];dsimp only;rw[h3];dsimp only;rw[h4];dsimp only;rw[h5];dsimp only;rw[h6];dsimp only;rw[a1];dsimp only;rw[UW (λG=>G a2),a3];dsimp only
  rw[a4];dsimp only;rw[a5];dsimp only;rw[a6];dsimp only;rw[UW (λG=>G a7)]
 have P2:∀s,kE c bs=.ok s->∃x r7 m j cm i k d l t,fh { bS c with now:=now,boots:=boots,sunk:=sunk } n.toNat r6=.ok (x,r7)/\(a-c.lag<=value/\value<=a)/\dP 1024 r7=.ok (m,j)/\fi c.cells m.toNat j=.ok (cm,i)/\eA i=.ok (k,d)/\eF k.toNat d=.ok (l,t)/\(dG t).e=0/\
   s=⟨c,now,boots,sunk,x.rows,⟨c.lag,a,value,x.fls⟩,cm,x.sts,l⟩:=by
  intro s b;unfold kE at b;rw[h1]at b;dsimp only at b;rw[h2]at b;dsimp only at b;rw[h3]at b;dsimp only at b;rw[h4]at b;dsimp only at b;rw[h5]at b;dsimp only at b;rw[h6]at b;dsimp only at b
  cases a1:fh { bS c with now:=now,boots:=boots,sunk:=sunk } n.toNat r6 with
  | error e=>rw[a1]at b;cases b
  | ok q=>
  obtain⟨x,r7⟩:=q;rw[a1]at b;dsimp only at b
  split at b
  .cases b
  rename_i a2;have a2:=Decidable.not_not.1 a2
  cases a3:dP 1024 r7 with
  | error e=>rw[a3]at b;cases b
  | ok q=>
  obtain⟨m,j⟩:=q;rw[a3]at b;dsimp only at b
  cases a4:fi c.cells m.toNat j with
  | error e=>rw[a4]at b;cases b
  | ok q=>
  obtain⟨cm,i⟩:=q;rw[a4]at b;dsimp only at b
  cases a5:eA i with
  | error e=>rw[a5]at b;cases b
  | ok q=>
  obtain⟨k,d⟩:=q;rw[a5]at b;dsimp only at b
  cases a6:eF k.toNat d with
  | error e=>rw[a6]at b;cases b
  | ok q=>
  obtain⟨l,t⟩:=q;rw[a6]at b;dsimp only at b
  split at b
  .cases b
  rename_i a7
  cases b
  exact⟨x,r7,m,j,cm,i,k,d,l,t,rfl,a2,a3,a4,a5,a6,Decidable.not_not.1 a7,rfl⟩
 have S:(∀x r7 m j cm i k d l t,fh { bS c with now:=now,boots:=boots,sunk:=sunk } n.toNat r6=.ok (x,r7)->(a-c.lag<=value/\value<=a)->dP 1024 r7=.ok (m,j)->fi c.cells m.toNat j=.ok (cm,i)->eA i=.ok (k,d)->eF k.toNat d=.ok (l,t)->(dG t).e=0->
   stB ⟨c,now,boots,sunk,x.rows,⟨c.lag,a,value,x.fls⟩,cm,x.sts,l⟩=bs->False)->mS Q F K (.error 10):=by
  intro G
  cases b:pA c bs with
  | error e=>exact k2 B e b
  | ok s=>
   exfalso;unfold pA at b;rw[UW (by simp[B])]at b
   cases hq:kE c bs with
   | error e=>rw[hq]at b;cases b
   | ok s1=>
   rw[hq]at b;dsimp only at b
   split at b
   .rename_i u
    cases b
    obtain⟨x,r7,m,j,cm,i,k,d,l,t,a1,a2,a3,a4,a5,a6,a7,rfl⟩:=P2 _ hq;exact G x r7 m j cm i k d l t a1 a2 a3 a4 a5 a6 a7 u
   .cases b
 refine Uh (s0:={ bS c with now:=now,boots:=boots,sunk:=sunk }) (aM.refl Q) Y O okN rfl rfl G D.lag ⟨i4.1,by omega⟩ M (by omega) E ?_ S ?_ (h.o [0,5,2,6,4,3,1] 7)
 .intro x r7 m j cm i k d l t a1 a2 a3 a4 a5 a6 a7;have:=W x r7 m j cm i k d l t a1 a2 a3 a4 a5 a6 a7;exact⟨Uj E D this,I B _ this⟩
 .intro x r7 m j cm i k d l t a1 a2 a3 a4 a5 a6 a7 a8;have:=W x r7 m j cm i k d l t a1 a2 a3 a4 a5 a6 a7;refine k3 B _ ?_;unfold pA;rw[UW (by simp[B]),this];dsimp only;exact UX a8
end
theorem Lp{e:Pv}(h:gP e=true):(0<=e.stamp/\e.stamp<=4611686018427387903)/\fu e.name e.labs=true:=by
 unfold gP at h;simp only[Vd,Vc]at h;exact h
theorem Lq{e:Pv}(h:gP e=true)(a:aF e.value)(r:List Int):iX ⟨0,evB e++r⟩=.ok (e,⟨0,r⟩):=by
 obtain⟨c,b⟩:=Lp h;have e1:evB e++r=aN [e.stamp]++(cX [e.value]++(iV e.name e.labs++r)):=by unfold evB;simp
 unfold iX;rw[e1,kC (by unfold aF;omega)];dsimp only;rw[uw a];dsimp only;rw[TJ b];rfl
theorem smpR_enc{x:bP}(h:x.ok)(r:List Int):smpR ⟨0,smB x++r⟩=.ok (x,⟨0,r⟩):=by
 have a:=h.wf;unfold bP.wf at a;have e1:smB x++r=aN [x.asked]++(aN [x.got]++(aN [x.sent]++(aN [x.came]++r))):=by simp[smB,aN]
 unfold smpR;rw[e1,kC a.1];dsimp only;rw[kC a.2.1];dsimp only;rw[kC a.2.2.1];dsimp only;rw[kC a.2.2.2]
theorem Lr{l:List bP}(h:∀x∈l,x.ok)(r:List Int):∀j,j<=l.length->jp j ⟨0,l.flatMap smB++r⟩=.ok (l.take j,⟨0,(l.drop j).flatMap smB++r⟩)
 | 0,_=>rfl
 | j+1,hj=>by
  have a:j<l.length:=by omega
  unfold jp;rw[Lr h r j (by omega)];dsimp only;rw[VP a,V6,Vj,smpR_enc (h _ (Vk a))];dsimp only;rw[Wi,List.getElem?_eq_getElem a];rfl
theorem Ls{α:Type}{n:Int}{v:α}:∀{l:cy α},(∀p∈l,p.1<n)->ins n v l=l++[(n,v)]
 | [],_=>rfl
 | (a,b)::r,h=>by
  have c:=h _ (Vn ..);dsimp only at c;unfold ins;rw[nO,Ls λp d=>h p (Vq _ d)];rfl
theorem pop_none{α:Type}{next:Int}:∀{l:cy α},(∀p∈l,next+1<=p.1)->pop next l=([],next,l)
 | [],_=>rfl
 | (n,v)::r,h=>by
  have a:=h _ (Vn ..);dsimp only at a;unfold pop;rw[nO]
theorem Ul{next most n:Int}{l:cy Pv}{e:Pv}(h0:0<=next)(hb:∀p∈l,next+1<=p.1/\p.1<n)(i:next+1<=n)(hm:n<next+most)(f:n<1099511627776)(d:gP e=true)(j:aF e.value)(r:List Int) :
  ld ⟨next,most,l⟩ ⟨0,rwB (n,e)++r⟩=.ok (⟨next,most,l++[(n,e)]⟩,⟨0,r⟩):=by
 have e1:rwB (n,e)++r=aN [n]++(evB e++r):=by simp[rwB]
 have c:aL n l=none:=fp.2 λh=>by
  obtain⟨p,a,d⟩:=Vh.1 h;have:=hb p a;omega
 have k:(⟨next,most,l⟩:HS Pv).offer n [e]=(⟨next,most,l++[(n,e)]⟩,[],0):=by
  unfold HS.offer;rw[nO];have e2:ff next most n [e] (l,0)=(l++[(n,e)],0):=by
   show eB next most n e (l,0)=_;unfold eB;dsimp only;rw[c,UW (by simp;omega),nO,Ls λp a=>(hb p a).2]
  have e3:pop next (l++[(n,e)])=([],next,l++[(n,e)]):=pop_none λp a=>by
   rcases Vz.1 a with a|a
   .exact (hb p a).1
   .rw [Vo]at a;subst a;exact i
  dsimp only;rw[e2];dsimp only;rw[e3]
 unfold ld;rw[e1,kC (by unfold aF;omega)];dsimp only;rw[Lq d j];dsimp only;have b:gQ n [e]=true:=by
  unfold gQ;simp[d];omega
 rw[b,UW (by simp),k,UW (by simp)]
theorem Lt{next most:Int}{l:cy Pv}(h0:0<=next)(f:jH (next+1) next most l)(h:∀p∈l,p.1<1099511627776/\gP p.2=true/\aF p.2.value)(r:List Int):∀j,j<=l.length->
  iD ⟨next,most,[]⟩ j ⟨0,l.flatMap rwB++r⟩=.ok (⟨next,most,l.take j⟩,⟨0,(l.drop j).flatMap rwB++r⟩)
 | 0,_=>rfl
 | j+1,hj=>by
  have c:j<l.length:=by omega
  unfold iD;rw[Lt h0 f h r j (by omega)];dsimp only;have hm:=Vk c;have hi:=f.inb _ hm;have d:=h _ hm;rw[VP c,V6,Vj];have a:∀p∈l.take j,p.1<l[j].1:=by
   intro p b;obtain⟨q,i,rfl⟩:=VU b;rw[Vx]at i;rw[List.getElem_take];exact Yi.1 f.rising q j (by omega) c (by omega)
  have:=Ul (next:=next) (most:=most) (n:=l[j].1) (l:=l.take j) (e:=l[j].2) h0 (λp b=>⟨(f.inb p (VR b)).1,a p b⟩) hi.1 hi.2 d.1 d.2.1 d.2.2 ((l.drop (j+1)).flatMap rwB++r)
  rw[Wi,List.getElem?_eq_getElem c];exact this
theorem flN1(b:Bool):flN [b] 1=if b then 1 else 0:=by cases b <;> rfl
def sD(st:br):List Int:=((aN [flN [st.ck.held] 1,st.ck.streak,(st.ck.smps.length:Int)]++st.ck.smps.flatMap smB)++aN [st.hs.next,(st.hs.rows.length:Int)])++st.hs.rows.flatMap rwB
theorem strR_enc{c:bG}{st:br}(ok:lM c st)(r:List Int):mR c ⟨0,cX [st.last]++(sD st++r)⟩=.ok (st,⟨0,r⟩):=by
 have n:=ok.last;have b:=ok.ck;have e:st.ck.smps.length<=8:=b.len;have f:=b.st;have d:=ok.hs.next0;have j:=ok.next;have m:=ok.hs.most2;have k:=ok.hs.rows.length;have e1:sD st++r=aN [flN [st.ck.held] 1]++(aN [st.ck.streak]++(aN [((st.ck.smps.length:Nat):Int)]++(st.ck.smps.flatMap smB++(aN [st.hs.next]++(aN [((st.hs.rows.length:Nat):Int)]++(st.hs.rows.flatMap rwB++r)))))):=by
  unfold sD;rw[mQ (flN [st.ck.held] 1),mQ st.ck.streak,mQ st.hs.next];simp only[Vj]
 unfold mR;rw[uw (by unfold aF;omega)];dsimp only;rw[UW (by simp[inM];omega),e1];unfold nP;have h:=xo [st.ck.held] 1 (by decide);rw[uv h.1 (by have:=h.2;omega)];dsimp only;rw[kC (by unfold aF;omega)];dsimp only;rw[ux (by omega) (by omega)];dsimp only;rw[Vi,Lr b.ok _ _ (Vg _),V8,VY];dsimp only;unfold ot;rw[UW (λi=>i ⟨e,f.1,b.ok⟩)]
 have e2:([]:List bP).flatMap smB++(aN [st.hs.next]++(aN [((st.hs.rows.length:Nat):Int)]++(st.hs.rows.flatMap rwB++r)))=aN [st.hs.next]++(aN [((st.hs.rows.length:Nat):Int)]++(st.hs.rows.flatMap rwB++r)):=rfl;rw[e2,kC (by unfold aF;omega)];dsimp only;rw[nO,ux (by omega) (by omega)];dsimp only;have a:=ok.hs.rows;rw[ok.most]at a;rw[Vi,Lt d a ok.rows _ _ (Vg _),V8,VY];dsimp only;have e3:decide (flN [st.ck.held] 1=1)=st.ck.held:=by rw[flN1];cases st.ck.held <;> rfl
 rw[e3,<-ok.rho,<-ok.least,<-ok.most];rfl
theorem bits3(a b c:Bool):bitF (flN [a,b,c] 3) 1=a/\bitF (flN [a,b,c] 3) 2=b/\bitF (flN [a,b,c] 3) 4=c:=by
 cases a <;> cases b <;> cases c <;> decide
theorem flR_enc{c:bG}{fl:Fl}{st:br}(ok:lM c st)(r:List Int):flR c fl.t ⟨0,aN [flN [fl.out,fl.was,fl.held] 3]++(cX [st.last]++(sD st++r))⟩=.ok ((fl,st),⟨0,r⟩):=by
 have a:=xo [fl.out,fl.was,fl.held] 3 (by decide);unfold flR;rw[uv a.1 (by have:=a.2;omega)];dsimp only;rw[strR_enc ok];dsimp only;obtain⟨b1,b2,b3⟩:=bits3 fl.out fl.was fl.held;rw[b1,b2,b3]
theorem agtR_enc{s0:aI}{a:Int}{e:En}{fl:Fl}{st:br}(ok:lM s0.cfg st)(b:aF e.epoch/\aF e.boot/\aF e.time)(hs:gy s0.cfg.agents s0.rows a e=(s0.rows.set a.toNat e,0))(d:0<=fl.t/\fl.t<=s0.now)(c:aF fl.t)(r:List Int) :
  ∃rest,agB a e fl st++r=aN [a]++rest/\kD s0 a ⟨0,rest⟩=.ok ((s0.rows.set a.toNat e,fl,st),⟨0,r⟩):=by
 refine⟨aN [e.epoch]++(aN [e.boot]++(aN [e.time]++(aN [fl.t]++(aN [flN [fl.out,fl.was,fl.held] 3]++(cX [st.last]++(sD st++r)))))),?_,?_⟩
 .unfold agB agB1 sD;rw[mQ a,mQ e.epoch,mQ e.boot,mQ e.time,mQ fl.t];simp only[Vj]
 .unfold kD;rw[kC b.1];dsimp only;rw[kC b.2.1];dsimp only;rw[kC b.2.2];dsimp only;have e1:(⟨e.epoch,e.boot,e.time⟩:En)=e:=rfl;rw[e1,hs,UW (by simp),uy d c];dsimp only;rw[flR_enc ok]
structure mU(o:Ot):Prop where
 wc:WC o.2
 rt:fX o.2=true
 ch:CH o.2
 win:0<=o.1.win/\o.1.win<=4611686018427387903
 ser:(ij o.1.ser).2.2=true
 size:o.1.ser.size<=5000
theorem Lu{o:Ot}(h:mU o)(r:List Int):jb ⟨0,ceB o++r⟩=.ok (o,⟨0,r⟩):=by
 have e:=ud h.wc;have d:(bF (dh o.2)).size=(dh o.2).length:=nI _;have hs:=h.size;have e1:ceB o++r=cX [o.1.win]++(cZ o.1.ser++(cZ (bF (dh o.2))++r)):=by
  show cbB o.1 o.2++r=_;unfold cbB;simp[dD]
 have a:fe (bF (dh o.2))=dh o.2:=by
  unfold fe;rw[show (bF (dh o.2)).data.toList=(dh o.2).map λn=>UInt8.ofNat n.toNat from strOfNums_data _,VM]
  apply Wa (by simp);intro i j c;simp only[VV,Function.comp];exact qj (RP o.2) i c
 have t1:∀x:Fa,∀r:List Int,x.size<18446744073709551616->aZ (cZ x++r).length ⟨0,cZ x++r⟩=(fe x,⟨0,r⟩):=λx r b=>by
  refine uz ?_ b r;unfold cZ;simp only[UZ];have:=tt x;omega
 unfold jb;have f:=h.win;rw[e1,uw (by unfold aF;omega)];dsimp only;rw[t1 _ _ (by omega)];dsimp only;rw[t1 _ _ (by omega)];dsimp only;rw[UW (by simp),xm,h.ser,UW (by simp[inM];omega),a,Ue h.wc h.rt h.ch];dsimp only;rw[UW (by simp)]
theorem Lv{l:List Ot}(h:∀o∈l,mU o)(r:List Int):∀j,j<=l.length->eF j ⟨0,l.flatMap ceB++r⟩=.ok (l.take j,⟨0,(l.drop j).flatMap ceB++r⟩)
 | 0,_=>rfl
 | j+1,hj=>by
  have a:j<l.length:=by omega
  unfold eF;rw[Lv h r j (by omega)];dsimp only;rw[VP a,V6,Vj,Lu (h _ (Vk a))];dsimp only;rw[Wi,List.getElem?_eq_getElem a];rfl
theorem Lw{κ α:Type}[DecidableEq κ]{k:κ}{v:α}{m:List (κ×α)}(h:aL k m=none):mset k v m=(k,v)::m:=by
 unfold mset;rw[kG h]
theorem Lx{most:Int}{l:List Ot}(f:(aG l).Nodup)(h:∀o∈l,mU o)(hm:(l.length:Int)<=most)(r:List Int):∀j,j<=l.length->fi most j ⟨0,l.flatMap ceB++r⟩=.ok ((l.take j).reverse,⟨0,(l.drop j).flatMap ceB++r⟩)
 | 0,_=>rfl
 | j+1,hj=>by
  have c:j<l.length:=by omega
  have a:=Vk c;have b:aL l[j].1 (l.take j).reverse=none:=fp.2 λk=>by
   obtain⟨p,e,d⟩:=Vh.1 k;rw[List.mem_reverse]at e;obtain⟨q,m,rfl⟩:=VU e;rw[Vx]at m;rw[List.getElem_take]at d;have i:=Yi.1 f q j (by simp[aG];omega) (by simp[aG];omega) (by omega);simp only[aG,VV]at i;exact i d
  unfold fi;rw[Lx f h hm r j (by omega)];dsimp only;rw[VP c,V6,Vj,Lu (h _ a)];dsimp only;have hs:jU most (l.take j).reverse l[j].1 l[j].2=((l.take (j+1)).reverse,0):=by
   unfold jU;rw[b,UW (by simp),(h _ a).rt,UW (by simp),UW (by rw[List.length_reverse,Vx];omega),Lw b,Wi,List.getElem?_eq_getElem c,List.reverse_append];rfl
  rw[hs,UW (by simp)]
abbrev iE(s:aI)(r:Rp):aI:=(bN s r).1
abbrev dH(s:aI)(r:Rp):List cu:=(bN s r).2.1
def emO(l:List cu):List Ot:=(l.filter λe=>decide (e.kind=4)).map cu.out
theorem uD(a b:List cu):emO (a++b)=emO a++emO b:=by simp[emO]
theorem emO_none{l:List cu}(h:∀e∈l,e.kind≠4):emO l=[]:=by
 unfold emO;rw[Wq.2 λe a=>by simp[h e a]]
 rfl
structure NumI(s:aI)(all:List Ot):Prop where
 len:s.sunk+(s.kept.length:Int)=all.length
 kept:s.kept=all.drop s.sunk.toNat
theorem Bt{c:bG}{now a ep first:Int}{evs:List Pv}{x:JS}:∀n,∀e∈(dg c now a ep first evs x n).2,e.kind=3
 | 0,e,h=>by cases h
 | n+1,e,h=>by
  rcases Vz.1 h with h|h
  .exact Bt n e h
  .rw [Vo]at h;rw[h];rfl
theorem Ly{s:aI}{r:Rp}:∀e∈(gz s r).2,e.kind=3\/e.kind=2:=by
 unfold gz
 split
 .intro e a
  rcases Vz.1 a with h|h
  .exact .inl (Bt _ e h)
  .rw [Vo]at h;rw[h];exact .inr rfl
 .intro e a;cases a
theorem Lz{s:aI}{a:Int}:∀e∈jn s a,e.kind=3:=by
 unfold jn
 split
 .intro e b;obtain⟨n,_,rfl⟩:=Vh.1 b;rfl
 .intro e b;cases b
theorem L2{s:aI}{r:Rp}:∀e∈(fB s r).2.1,e.kind=3\/e.kind=1:=by
 unfold fB
 split
 .intro e a;cases a
 split
 .intro e a
  rcases Vz.1 a with h|h
  .exact .inl (Lz e h)
  .rw [Vo]at h;rw[h];exact .inr rfl
 .intro e a;rw[Vo]at a;rw[a];exact .inr rfl
theorem ov{s:aI}{r:Rp}{P:aI×List cu×Int->Prop}(h0:r.right=false->P (s,[],10))(d:r.right=true->fA s r≠0->P (s,[],fA s r))
  (k1:r.right=true->fA s r=0->r.kind=1->P ({ s with boots:=s.boots+1 },[],0))
  (k2:r.right=true->fA s r=0->r.kind=2->P (fB s r))
  (k3:r.right=true->fA s r=0->r.kind=3->P (mM s r,[],0))
  (k4:r.right=true->fA s r=0->r.kind=4->P ((gz s r).1,(gz s r).2,0))
  (k5:r.right=true->fA s r=0->r.kind=5->P (lN s r,[],0))
  (k6:r.right=true->fA s r=0->r.kind=6->P ((kB s r.nw).1,(kB s r.nw).2,0))
  (k7:r.right=true->fA s r=0->r.kind=7->P (mN s r,[],0)):P (bN s r):=by
 unfold bN
 split
 .rename_i h;exact h0 h
 rename_i a;have a:r.right=true:=by simpa using a
 have c:=iC a
 split
 .rename_i h;exact d a h
 rename_i b;have b:fA s r=0:=by simpa using b
 split
 .rename_i h;exact k1 a b h
 split
 .rename_i h;exact k2 a b h
 split
 .rename_i h;exact k3 a b h
 split
 .rename_i h;exact k4 a b h
 split
 .rename_i h;exact k5 a b h
 split
 .rename_i h;exact k6 a b h
 .rename_i q1 q2 q3 q4 q5 q6;exact k7 a b (by have:=c.kind;omega)
theorem Um{s:aI}{r:Rp}(a:r.kind=7)(h:fA s r=0):r.nx<=s.next:=by
 unfold fA at h;rw[nO,UX a]at h
 split at h
 .simp at h
 .omega
theorem uE{s:aI}{r:Rp}(a:r.kind≠1)(b:r.kind≠7)(h:fA s r=0):s.now<=(if r.kind=3 then r.sm.came else r.nw):=by
 unfold fA at h;rw[UW a,UW b]at h;generalize (if r.kind=3 then r.sm.came else r.nw)=n at *
 unfold sr at h
 split at h
 .simp at h
 split at h
 .simp at h
 .omega
theorem xz{first:Int}{a:List Ot}:∀{n k:Nat} (b:k<(dR first a n).length),(dR first a n)[k]={ kind:=4,number:=first+k,out:=a.getD k Ot.z }
 | 0,k,b=>by simp[dR]at b
 | n+1,k,b=>by
  simp only[dR];rw[List.getElem_append]
  split
  .rename_i h;exact xz h
  .rename_i h;rw[nN]at h;have c:k<n+1:=by simpa[dR,nN] using b
   have:k=n:=by omega
   subst this;simp[nN]
theorem xA{first:Int}{a:List Ot}:∀n,n<=a.length->emO (dR first a n)=a.take n
 | 0,_=>rfl
 | n+1,h=>by
  simp only[dR];rw[uD,xA n (by omega),Wi,List.getElem?_eq_getElem (by omega)];congr 1;show [a.getD n Ot.z]=_;rw[WN,List.getElem?_eq_getElem (by omega)];rfl
theorem L3{first:Int}{a:List Ot}:∀{n k:Nat},k<=n->(dR first a n).take k=dR first a k
 | 0,k,h=>by
  obtain rfl:k=0:=by omega
  rfl
 | n+1,k,h=>by
  rcases V0 n k with b|b
  .obtain rfl:k=n+1:=by omega
   exact V2 (by rw[nN];omega)
  .simp only[dR];rw[WL (by rw[nN];omega),L3 b]
theorem num_step{s:aI}{r:Rp}{all:List Ot}(h0:0<=s.sunk)(I:NumI s all) :
  (∀k (a:k<(dH s r).length),(dH s r)[k].kind=4->(dH s r)[k].number=all.length+((emO ((dH s r).take k)).length:Nat))/\NumI (iE s r) (all++emO (dH s r))/\0<=(iE s r).sunk:=by
 unfold dH iE;have quiet:∀l:List cu,(∀e∈l,e.kind≠4)->∀b:aI,NumI b all->0<=b.sunk->∀e:Int,
   (∀k (a:k<(b,l,e).2.1.length),(b,l,e).2.1[k].kind=4->(b,l,e).2.1[k].number=all.length+((emO ((b,l,e).2.1.take k)).length:Nat))/\NumI (b,l,e).1 (all++emO (b,l,e).2.1)/\0<=(b,l,e).1.sunk:=by
  intro l f b n d e;refine⟨λk a i=>UY i (f _ (Vk a)),?_,d⟩
  show NumI b (all++emO l);rw[emO_none f,V4];exact n
 have nil:∀e∈([]:List cu),e.kind≠4:=λe t=>by cases t
 refine ov (P:=λq=>(∀k (a:k<q.2.1.length),q.2.1[k].kind=4->q.2.1[k].number=all.length+((emO (q.2.1.take k)).length:Nat))/\NumI q.1 (all++emO q.2.1)/\0<=q.1.sunk) (λ_=>quiet [] nil s I h0 _) (λ_ _=>quiet [] nil s I h0 _) (λ_ _ _=>quiet [] nil { s with boots:=s.boots+1 } ⟨I.len,I.kept⟩ h0 0) (λ_ _ _=>?_) (λ_ _ _=>?_) (λ_ _ _=>?_) (λ_ _ _=>?_) (λ_ _ _=>?_) λw m a=>?_
 .have a:=L2 (s:=s) (r:=r);have e:fB s r=((fB s r).1,(fB s r).2.1,(fB s r).2.2):=rfl;rw[e];refine quiet _ (λx c=>by have:=a x c;omega) _ ?_ ?_ _
  .unfold fB;split
   .exact I
   .split <;> exact⟨I.len,I.kept⟩
  .unfold fB;split
   .exact h0
   .split <;> exact h0
 .refine quiet [] nil _ ?_ ?_ _
  .unfold mM;split <;> exact⟨I.len,I.kept⟩
  .unfold mM;split <;> exact h0
 .have a:=Ly (s:=s) (r:=r);refine quiet _ (λx c=>by have:=a x c;omega) _ ?_ ?_ _
  .unfold gz;split <;> exact⟨I.len,I.kept⟩
  .unfold gz;split <;> exact h0
 .refine quiet [] nil _ ?_ ?_ _
  .unfold lN;split
   .split
    .exact⟨I.len,I.kept⟩
    .split <;> exact⟨I.len,I.kept⟩
   .exact I
  .unfold lN;split
   .split
    .exact h0
    .split <;> exact h0
   .exact h0
 .have u:s.next=all.length:=I.len;refine⟨λk a i=>?_,⟨?_,?_⟩,h0⟩
  .have a:k<(dR s.next (dr s r.nw) (dr s r.nw).length).length:=a;show (dR s.next (dr s r.nw) (dr s r.nw).length)[k].number=all.length+((emO ((dR s.next (dr s r.nw) (dr s r.nw).length).take k)).length:Nat);have j:k<(dr s r.nw).length:=by simpa[nN] using a
   rw[xz,L3 (by omega),xA _ (by omega),Vx,u];dsimp only;omega
  .show s.sunk+((s.kept++dr s r.nw).length:Int)=((all++emO (dR s.next (dr s r.nw) (dr s r.nw).length)).length:Nat);rw[xA _ (Vg _),V8,UZ,UZ];have:=I.len;omega
  .show s.kept++dr s r.nw=(all++emO (dR s.next (dr s r.nw) (dr s r.nw).length)).drop s.sunk.toNat
   have:=I.len;rw[xA _ (Vg _),V8,List.drop_append_of_le_length (by omega),<-I.kept]
 .have h:=Um a m;have f:=I.len;refine quiet [] nil _ ?_ ?_ _
  .unfold mN
   split
   .rename_i v;refine⟨?_,?_⟩
    .dsimp only;rw[Vt];unfold aI.next at h;omega
    .dsimp only;rw[I.kept,WM];congr 1;omega
   .exact I
  .unfold mN;split
   .dsimp only;omega
   .exact h0
theorem L4{α:Type}{p:α->Bool}:∀{l:List α},l.Pairwise (λx y=>p y=true->p x=true)->l.takeWhile p=l.filter p
 | [],_=>rfl
 | a::r,h=>by
  rw[VX]at h;rw[List.takeWhile_cons,VD]
  split
  .rw [L4 h.2]
  .rename_i d;exact (Wq.2 λx b c=>d (h.1 x b c)).symm
theorem L5{p:Ky×Cl}:∀{l:List Ot} {m:CM},p∈lI m l↔p∈m/\∀o∈l,o.1≠p.1
 | [],m=>by simp[lI]
 | o::r,m=>by
  have a:=L5 (p:=p) (l:=r) (m:=bT o.1 m);show p∈lI (bT o.1 m) r↔_;rw[a,rj];simp only[Vm,forall_eq_or_imp]
  constructor
  .rintro⟨⟨h1,h2⟩,h3⟩;exact⟨h1,λe=>h2 e.symm,h3⟩
  .rintro⟨h1,h2,h3⟩;exact⟨⟨h1,λe=>h2 e.symm⟩,h3⟩
open  Go.Sort
theorem Bu(x y:Ky):ie x y=!(ltOf j4) y x:=by rw[ltKy];rfl
theorem Un(ks:List Ky):(ei ks).Pairwise λx y=>ie x y=true:=by
 unfold ei;refine List.pairwise_mergeSort (le:=ie) (λx y z b a=>?_) (λx y=>?_) ks
 .rw [Bu]at *;simp only[V1]at *;exact swoKy.ntrans z y x a b
 .rw [Bu,Bu]
  cases b:ltOf j4 y x with
  | false=>rfl
  | true=>
   cases a:ltOf j4 x y with
   | false=>rfl
   | true=>have:=swoKy.trans _ _ _ b a;rw[swoKy.irrefl]at this;cases this
theorem Bv{x y:Ky}(h:ie x y=true):x.win<=y.win:=by
 unfold ie at h;simp only[V1,Vp,Ve]at h;omega
theorem L6(m:CM)(b:Int):iz m b=(bA m).filter λo=>decide (o.1.win<b):=by
 unfold iz;refine L4 ?_;unfold bA;rw[WR];refine (Un _).imp λh a=>?_
 have:=Bv h;simp only[Vc]at *;omega
theorem Uo{m:CM}{k:Ky}:(∃o∈bA m,o.1=k)↔k∈aG m:=by
 unfold bA
 constructor
 .rintro⟨o,ho,rfl⟩;obtain⟨b,a,rfl⟩:=Vh.1 ho;exact (kP _).mem_iff.1 a
 .intro h;exact⟨_,Vh.2 ⟨k,(kP _).mem_iff.2 h,rfl⟩,rfl⟩
theorem Up{m:CM}{b:Int}{p:Ky×Cl}:p∈nH m b↔p∈m/\b<=p.1.win:=by
 unfold nH;rw[L5]
 constructor
 .rintro⟨h1,h2⟩;refine⟨h1,?_⟩;obtain⟨o,a,c⟩:=(Uo (m:=m) (k:=p.1)).2 (Vh.2 ⟨p,h1,rfl⟩)
  rcases Int.lt_or_le p.1.win b with e|d
  .exact UY c (h2 o (by rw[L6];exact Wd.2 ⟨a,by rw[c];exact Vs e⟩))
  .exact d
 .rintro⟨h1,h2⟩;refine⟨h1,λo a c=>?_⟩
  rw[L6]at a;have:=Va (Wd.1 a).2;rw[c]at this;omega
theorem Uq{r:Rp}(h:r.right=true):r.zeros=true:=by
 unfold Rp.right at h;simp only[Vd]at h;exact h.1.1.2
theorem Bw{rows:List En}{a:Int}{e:En}(h0:0<=a)(b:a.toNat<rows.length):bg (rows.set a.toNat e) a=e:=by
 unfold bg;rw[nO,List.getElem?_set_self b];rfl
abbrev isV(t:Int):Prop:=-4611686018427387904<=t/\t<=4611686018427387903
theorem L7{g:Gd}(a:g.ok){t:Int}(b:isV t):fM g t=t/g.width:=by
 have c:1<=g.width:=a.1;have hb:isV (t/g.width):=by
  constructor
  .rw [Int.le_ediv_iff_mul_le (by omega)];omega
  .rcases Int.lt_or_le t 0 with h|h
   .have:t/g.width<0:=Int.ediv_neg_of_neg_of_pos h (by omega);omega
   .have:=Int.ediv_le_self g.width h;omega
 unfold fM;rw[UX a,Int.tdiv_eq_ediv,Int.tmod_eq_emod];have h0:=Int.emod_nonneg t (show g.width≠0 by omega);have d:=Int.emod_lt_of_pos t (show 0<g.width by omega)
 by_cases hc:0<=t\/g.width ∣ t
 .rw [UX hc,UX hc,nO,aJ];omega
 .rw [UW hc,UW hc,pO,Int.sign_eq_one_of_pos (by omega),aJ (x:=t/g.width+1),aJ];omega
theorem meet2_of{x:Gp}{f n:Int}(h:(kK [x,⟨f,n⟩]).2=0):(kK [x,⟨f,n⟩]).1.lo<=(kK [x,⟨f,n⟩]).1.hi/\(kK [x,⟨f,n⟩]).1.hi<=n/\f<=(kK [x,⟨f,n⟩]).1.lo:=by
 unfold kK mt at h ⊢
 split at h
 .rename_i b;rw[UX b];unfold mt at h ⊢
  split at h
  .rename_i c;rw[UX c];unfold mt at h ⊢
   split at h
   .rename_i a;rw[UX a];refine⟨a,?_,?_⟩
    .unfold meet2;dsimp only;split <;> omega
    .unfold meet2;dsimp only;split <;> omega
   .simp at h
  .simp at h
 .simp at h
theorem L8{ck:Ck}{fl:Fl}{now stamp:Int}(h:(cO ck fl now stamp).2=0):(cO ck fl now stamp).1.lo<=(cO ck fl now stamp).1.hi/\(cO ck fl now stamp).1.hi<=now/\fl.t<=(cO ck fl now stamp).1.lo:=by
 unfold cO at h ⊢
 split at h
 .rename_i a;exact UY h a
 rename_i a;rw[UW a]
 split at h
 .simp at h
 rename_i b;rw[UW b];exact meet2_of (Decidable.not_not.1 b)
theorem L9{p:Ky×Cl}:∀{l m:CM},p∈lH l m->p∈l\/p∈m
 | [],m,h=>.inr h
 | q::r,m,h=>by
  rcases L9 (l:=r) (m:=mset q.1 q.2 m) h with h|h
  .exact .inl (Vq _ h)
  .rcases nM h with rfl|h
   .exact .inl (Vn ..)
   .exact .inr h
structure CelI(lo hi B:Int)(m:CM):Prop where
 win:∀p∈m,lo<=p.1.win/\p.1.win<=hi
 cnt:∀p∈m,1<=p.2.cer+p.2.pos/\p.2.cer+p.2.pos<=B
theorem Ur(ms:MS)(a t:Int):(ms.raise a t).1.value=ms.value/\(ms.raise a t).1.now=ms.now:=by
 unfold MS.raise
 split
 .exact⟨rfl,rfl⟩
 .split <;> exact⟨rfl,rfl⟩
theorem raise_fl{ms:MS}{a t n:Int}(h:∀p∈ms.m,p.2.t<=n)(d:t<=n):∀p∈(ms.raise a t).1.m,p.2.t<=n:=by
 unfold MS.raise
 split
 .exact h
 rename_i x c
 split
 .exact h
 intro p b
 rcases nM b with rfl|b
 .have:=h _ (gY c);dsimp only at this ⊢
  split <;> omega
 .exact h p b
theorem Us{g:Gd}{x:Gp}(h:(dN g x).1≠0\/True)(b:g.ok)(a:x.ok):dN g x=(fM g x.lo,fM g x.hi,0):=by
 unfold dN;rw[UX b,UX a]
structure OpenI(s:aI)(B:Int):Prop where
 b0:0<=B
 val:s.ms.value<=s.now
 cel:CelI (fM s.cfg.gd s.ms.value) (fM s.cfg.gd s.now) B s.cm
 fl:∀p∈s.ms.m,p.2.t<=s.now
 en:∀a,(bg s.rows a).time<=s.now
 ag:s.rows.countP (λe=>decide (0<e.epoch))<=s.cfg.agents
theorem uF:∀{l:List En} {i:Nat},(aR i l).length=l.countP λe=>decide (0<e.epoch)
 | [],i=>rfl
 | e::r,i=>by
  unfold aR;rw[List.countP_cons]
  split
  .rename_i h;rw[Vf,uF (l:=r),UX (by simpa using h)]
  .rename_i h;rw[uF (l:=r),UW (by simpa using h)];rfl
theorem LE{p:En->Bool}{x:En}:∀{l:List En} {k:Nat} (b:k<l.length),(l.set k x).countP p<=l.countP p+(if p l[k] then 0 else 1)
 | a::r,0,_=>by
  simp only[WI,List.getElem_cons_zero];rw[List.countP_cons,List.countP_cons]
  by_cases h1:p x=true <;> by_cases h2:p a=true <;> simp[h1,h2]
 | a::r,k+1,h=>by
  have c:=LE (p:=p) (x:=x) (l:=r) (k:=k) (by simpa using h);simp only[Yc,List.getElem_cons_succ];rw[List.countP_cons,List.countP_cons];omega
theorem open_ag{s:aI}{a:Int}{x:En}{rows':List En}(ok:cQ s)(k:s.rows.countP (λe=>decide (0<e.epoch))<=s.cfg.agents)(m:0<=a/\a<=63)(j:¬((bg s.rows a).epoch=0/\full s.cfg.agents s.rows))(g2:rows'=s.rows.set a.toNat x) :
  rows'.countP (λe=>decide (0<e.epoch))<=s.cfg.agents:=by
 have b:a.toNat<s.rows.length:=by rw[ok.rows.len];omega
 rw[g2];have d:=LE (p:=λe=>decide (0<e.epoch)) (x:=x) b
 have f:bg s.rows a=s.rows[a.toNat]:=by
  unfold bg;rw[nO,List.getElem?_eq_getElem b];rfl
 by_cases h4:0<s.rows[a.toNat].epoch
 .rw [UX (by simpa using h4)]at d;omega
 .rw [UW (by simpa using h4)]at d;have i:=(ok.rows.at a).1;rw[f]at i;have c:¬full s.cfg.agents s.rows:=λh=>j ⟨by rw[f];omega,h⟩
  unfold full at c;rw[uF]at c;omega
theorem LF{lim n:Int}{m:FM}(hm:∀p∈m,p.2.t<=n)(a:0<=n):∀(ks:List Int) (s:Int×Bool),s.1<=n->(j8 lim m ks s).1<=n
 | [],s,h=>h
 | k::r,s,h=>by
  refine LF hm a r _ ?_;unfold nL
  split
  .cases hk:aL k m with
   | none=>simp only[Option.getD_none,Fl.z];exact a
   | some x=>simp only[Option.getD_some];exact hm _ (gY hk)
  .exact h
theorem open_new{c:bG}(ok:j9 c):OpenI (bS c) 0 where
 b0:=V7 _
 val:=by have:=ok.lag;show -c.lag<=0;omega
 cel:=⟨λp b=>UY b (by simp[bS]),λp b=>UY b (by simp[bS])⟩
 fl:=λp b=>UY b (by simp[bS,MS.new])
 en:=λa=>by
  unfold bg bS;dsimp only
  split
  .exact V7 _
  .rw [List.getElem?_replicate]
   split <;> exact V7 _
 ag:=by
  have:=ok.ag;unfold bS;dsimp only;rw[List.countP_replicate];simp[En.z];omega
structure Rch(s:aI):Prop where
 ok:cQ s
 sunk:s.sunk<=1099511627776
 mnow:0<=s.ms.now/\s.ms.now<=s.now
 val:s.ms.now-s.cfg.lag<=s.ms.value/\s.ms.value<=s.ms.now
 keys:∀a,(aL a s.ms.m).isSome=decide (0<(bg s.rows a).epoch)
 fl:∀p∈s.ms.m,p.2.t<=s.now
 rows:∀a,0<(bg s.rows a).epoch->(1<=(bg s.rows a).boot/\(bg s.rows a).boot<=1099511627776)/\0<=(bg s.rows a).time/\(bg s.rows a).time<=4611686018427387903
 ag:s.rows.countP (λe=>decide (0<e.epoch))<=s.cfg.agents
 cm:∀p∈s.cm,mU p
 kept:∀o∈s.kept,mU o
theorem xB(e:En)(r:List En)(i:Nat):aR i (e::r)=(if 0<e.epoch then [((i:Int),e)] else [])++aR (i+1) r:=by
 conv=>lhs;unfold aR
 split <;> rfl
theorem xC:∀(a b:List En) (i:Nat),aR i (a++b)=aR i a++aR (i+a.length) b
 | [],b,i=>rfl
 | e::r,b,i=>by
  have c:=xC r b (i+1);have e1:i+1+r.length=i+(e::r).length:=by simp only[Vf];omega
  rw[e1]at c;rw[Wf,xB,xB,c,Vj]
theorem LH:∀(n i:Nat),aR i (List.replicate n En.z)=[]
 | 0,i=>rfl
 | n+1,i=>by
  rw[Yf];unfold aR;rw[UW (by simp[En.z]),LH n (i+1)]
theorem LI{rows:List En}{k:Nat}(a:k<rows.length):aR k (rows.drop k)=(if 0<rows[k].epoch then [((k:Int),rows[k])] else [])++aR (k+1) (rows.drop (k+1)):=by
 rw[VP a,xB]
theorem Bx{rows:List En}{k:Nat}(a:k<rows.length):aR 0 (rows.take (k+1))=aR 0 (rows.take k)++(if 0<rows[k].epoch then [((k:Int),rows[k])] else []):=by
 rw[Wi,List.getElem?_eq_getElem a,xC];congr 1;rw[Vx,Ww (by omega),Vw];show aR k [rows[k]]=_;rw[xB];exact V4 _
def lg(rows:List En)(k:Nat):List En:=rows.take k++List.replicate (64-k) En.z
def cutT(sts:List (Option br))(k:Nat):List (Option br):=sts.take k++List.replicate (64-k) none
def jC(s:aI)(k:Nat):FM:=((aR 0 (s.rows.take k)).map λp=>(p.1,bE s.ms p.1)).reverse
theorem LJ{α:Type}{l:List α}{z:α}{k:Nat}(a:l.length=64)(b:k<64):(l.take k++List.replicate (64-k) z).set k (l[k]'(by omega))=l.take (k+1)++List.replicate (64-(k+1)) z:=by
 have e:List.replicate (64-k) z=z::List.replicate (64-(k+1)) z:=by
  rw[<-Yf];congr 1;omega
 rw[e,List.set_append_right _ _ (by rw[Vx];omega),Vx,Ww (by omega),Nat.sub_self,WI,Wi,List.getElem?_eq_getElem (by omega),Vj];rfl
theorem LK{α:Type}{l:List α}{z:α}{k:Nat}(a:l.length=64)(b:k<64)(h:l[k]'(by omega)=z):l.take (k+1)++List.replicate (64-(k+1)) z=l.take k++List.replicate (64-k) z:=by
 have e:List.replicate (64-k) z=z::List.replicate (64-(k+1)) z:=by
  rw[<-Yf];congr 1;omega
 rw[e,Wi,List.getElem?_eq_getElem (by omega)];simp[h]
theorem xD{rows:List En}{k:Nat}(a:k<rows.length):bg rows (k:Int)=rows[k]:=by
 unfold bg;rw[nO,Vi,List.getElem?_eq_getElem a];rfl
theorem rowE_cut{rows:List En}{k:Nat}(b:rows.length=64)(a:k<64):bg (lg rows k) (k:Int)=En.z:=by
 unfold bg lg;rw[nO,Vi,List.getElem?_append_right (by rw[Vx];omega),List.getElem?_replicate]
 split <;> rfl
theorem Rch.count{s:aI}(R:Rch s):((aR 0 s.rows).length:Int)<=s.cfg.agents:=by rw[uF];exact R.ag
theorem Ut{s:aI}(k:Nat):(aR 0 (s.rows.take k)).length+(aR k (s.rows.drop k)).length=(aR 0 s.rows).length:=by
 rcases V0 k s.rows.length with h|h
 .have:=xC (s.rows.take k) (s.rows.drop k) 0;rw[VO,Vx,Ww (by omega),Vw]at this;rw[this,UZ]
 .rw [V2 h,Yb h];rfl
theorem flsK_new{s:aI}(k:Nat):aL (k:Int) (jC s k)=none:=fp.2 λhm=>by
 obtain⟨p,a,b⟩:=Vh.1 hm;unfold jC at a;rw[List.mem_reverse]at a;obtain⟨q,c,rfl⟩:=Vh.1 a;have:=(pi c).2.1;rw[Vx]at this;dsimp only at b;omega
theorem Rch.str{s:aI}(R:Rch s){k:Nat}(b:k<64)(h:0<(s.rows[k]'(by rw[R.ok.rows.len];exact b)).epoch):∃st,s.sts[k]?=some (some st)/\dM s (k:Int)=some st:=by
 obtain⟨st,a⟩:=(R.ok.reg k).2 ⟨_,List.getElem?_eq_getElem (by rw[R.ok.rows.len];exact b),h⟩;refine⟨st,a,?_⟩;unfold dM;rw[nO,Vi,a];rfl
theorem Rch.nostr{s:aI}(R:Rch s){k:Nat}(a:k<64)(h:¬0<(s.rows[k]'(by rw[R.ok.rows.len];exact a)).epoch):s.sts[k]'(by rw[R.ok.len];exact a)=none:=by
 have b:k<s.sts.length:=by rw[R.ok.len];exact a
 cases e:s.sts[k] with
 | none=>rfl
 | some st=>
  obtain⟨f,c,d⟩:=(R.ok.reg k).1 ⟨st,by rw[List.getElem?_eq_getElem b,e]⟩;rw[List.getElem?_eq_getElem (by rw[R.ok.rows.len];exact a)]at c
  cases c
  exact UY d h
theorem Rch.flat{s:aI}(R:Rch s)(a:Int):isT (bE s.ms a).t/\(bE s.ms a).t<=s.now:=by
 have h0:=R.ok.now;unfold bE
 cases h:aL a s.ms.m with
 | none=>exact⟨by show isT 0;decide,by show (0:Int)<=_;exact h0.1⟩
 | some x=>
  have:=gY h;exact⟨(R.ok.ms.rows _ this).2,R.fl _ this⟩
theorem LM{s s0:aI}(R:Rch s)(h0:s0.cfg=s.cfg)(y:s0.now=s.now)(v:s0.rows=List.replicate 64 En.z)(w:s0.sts=List.replicate 64 none)(r:List Int):∀k,k<=64->
  fh s0 (aR 0 (s.rows.take k)).length ⟨0,(aR 0 s.rows).flatMap (dS s)++r⟩=.ok (⟨lg s.rows k,cutT s.sts k,jC s k⟩,⟨0,(aR k (s.rows.drop k)).flatMap (dS s)++r⟩)
 | 0,_=>by
  show Except.ok _=_;rw[v,w];rfl
 | k+1,hk=>by
  have t:=R.ok.rows.len;have h:=R.ok.len;have b:k<s.rows.length:=by omega
  have c:=LM R h0 y v w r k (by omega);rw[Bx b];rw[LI b]at c
  by_cases he:0<s.rows[k].epoch
  .rw [UX he]at c ⊢;rw[UZ,VN];obtain⟨st,f,n⟩:=R.str (by omega) he;have j:=R.ok.sts st (VA f);have m:=R.rows (k:Int) (by rw[xD b];exact he);rw[xD b]at m;have u:=R.ok.rows.at (k:Int);rw[xD b]at u;have d:=R.flat (k:Int);have x:(aR 0 (s.rows.take k)).length<(aR 0 s.rows).length:=by
    have:=Ut (s:=s) k;rw[LI b,UX he,UZ,VN]at this;omega
   have A:=R.count;have i:gy s.cfg.agents (lg s.rows k) (k:Int) s.rows[k]=((lg s.rows k).set ((k:Int)).toNat s.rows[k],0):=by
    unfold gy;rw[UW (by unfold bad;omega),rowE_cut t (by omega),UW (by simp[En.z]),UW];unfold full lg;rw[xC,LH,V4];omega
   obtain⟨rest,e1,e2⟩:=agtR_enc (s0:={ s0 with rows:=lg s.rows k,sts:=cutT s.sts k }) (a:=(k:Int)) (e:=s.rows[k]) (fl:=bE s.ms (k:Int)) (st:=st) (by rw[h0];exact j) ⟨by unfold aF;omega,by unfold aF;omega,by unfold aF;omega⟩ (by rw[h0];exact i) (by rw[y];exact⟨d.1.1,d.2⟩) (by have:=d.1;unfold aF;omega) ((aR (k+1) (s.rows.drop (k+1))).flatMap (dS s)++r);have e3:([((k:Int),s.rows[k])]++aR (k+1) (s.rows.drop (k+1))).flatMap (dS s)++r=aN [(k:Int)]++rest:=by
    rw[VW,<-e1,Vj];congr 1;show dS s ((k:Int),s.rows[k])++[]=_;unfold dS;dsimp only;rw[n,V4]
   rw[e3]at c;unfold fh;rw[c];dsimp only;rw[kC (by unfold aF;omega)];dsimp only;rw[e2];dsimp only;rw[Vi,Lw (flsK_new k)];have c1:(lg s.rows k).set k s.rows[k]=lg s.rows (k+1):=LJ t (by omega);have c2:(cutT s.sts k).set k (some st)=cutT s.sts (k+1):=by
    have:=LJ (z:=none) h (show k<64 by omega);have e4:s.sts[k]'(by omega)=some st:=by
     rw[List.getElem?_eq_getElem (by omega)]at f;exact Option.some.inj f
    rw[e4]at this;exact this
   have c3:((k:Int),bE s.ms (k:Int))::jC s k=jC s (k+1):=by
    unfold jC;rw[Bx b,UX he,Vv,List.reverse_append];rfl
   rw[c1,c2,c3]
  .rw [UW he]at c ⊢;rw[V4];rw[VB]at c;rw[c];have c1:lg s.rows (k+1)=lg s.rows k:=LK t (by omega) (R.ok.rows.zero _ (Vk b) he);have c2:cutT s.sts (k+1)=cutT s.sts k:=LK h (by omega) (R.nostr (by omega) he);have c3:jC s (k+1)=jC s k:=by
    unfold jC;rw[Bx b,UW he,V4]
   rw[c1,c2,c3]
theorem Rch.nStE{s:aI}(R:Rch s):nStr s=(aR 0 s.rows).length:=by
 have hm:s.sts.map Option.isSome=s.rows.map λe=>decide (0<e.epoch):=by
  apply Wa
  .simp [R.ok.len,R.ok.rows.len]
  .intro k c d;have b:k<64:=by rw[Vl,R.ok.len]at c;exact c
   simp only[VV]
   by_cases he:0<(s.rows[k]'(by rw[R.ok.rows.len];exact b)).epoch
   .obtain⟨st,a,_⟩:=R.str b he;rw[List.getElem?_eq_getElem (by rw[R.ok.len];exact b)]at a;rw[Option.some.inj a];simp[he]
   .rw [R.nostr b he];simp[he]
 unfold nStr;rw[uF,<-List.countP_eq_length_filter];have c:s.sts.countP Option.isSome=(s.sts.map Option.isSome).countP id:=by rw[List.countP_map];rfl
 have d:s.rows.countP (λe=>decide (0<e.epoch))=(s.rows.map λe=>decide (0<e.epoch)).countP id:=by rw[List.countP_map];rfl
 rw[c,d,hm]
def jD(s:aI):aI:={ s with ms:={ s.ms with m:=jC s 64 },cm:=(bA s.cm).reverse }
theorem LN(m:CM):aG (bA m)=ei (aG m):=by
 unfold bA aG;rw[VM];have:((λx:Ky×Cl=>x.1)∘λk=>(k,fN m k))=id:=rfl
 rw[this,List.map_id]
theorem By{m:CM}{o:Ot}(h:o∈bA m):o∈m:=by
 unfold bA at h;obtain⟨k,a,rfl⟩:=Vh.1 h;have a:=(kP _).mem_iff.1 a;unfold fN
 cases e:aL k m with
 | none=>exact UY a (fp.1 e)
 | some c=>exact gY e
theorem outsL_nd{m:CM}(h:(aG m).Nodup):(aG (bA m)).Nodup:=by
 rw[LN];exact (kP _).nodup_iff.2 h
theorem Uu{s:aI}(R:Rch s)(i:s.kept.length<=1000000000):kE s.cfg (stB s)=.ok (jD s):=by
 have d:=R.ok.now;have a:=R.ok.boots;have c:=R.sunk;have b:=R.ok.sunk;have k:=R.mnow;have B:=R.val;have w:=R.ok.cfg.lag;have h:=R.ok.sh.len;have t:=R.ok.sh.m2;have A:=R.count;have m:=R.ok.cfg.ag;have f:(bA s.cm).length=s.cm.length:=ub s.cm;have j:∀o∈bA s.cm,mU o:=λo D=>R.cm o (By D)
 have e:stB s=aN [s.now]++(aN [s.boots]++(aN [s.sunk]++(aN [s.ms.now]++(cX [s.ms.value]++(aN [(((aR 0 s.rows).length:Nat):Int)]++((aR 0 s.rows).flatMap (dS s)++(aN [((s.cm.length:Nat):Int)]++((bA s.cm).flatMap ceB++(aN [((s.kept.length:Nat):Int)]++(s.kept.flatMap ceB++[])))))))))):=by
  unfold stB kZ jo kh;rw[R.nStE,mQ s.now,mQ s.boots,mQ s.sunk];simp only[Vj,V4]
 unfold kE;rw[e,uy d (by unfold aF;omega)];dsimp only;rw[uy a (by unfold aF;omega)];dsimp only;rw[uy ⟨b,c⟩ (by unfold aF;omega)];dsimp only;rw[uy k (by unfold aF;omega)];dsimp only;rw[uw (by unfold aF;omega)];dsimp only;rw[ux (by omega) (by omega)];dsimp only;have u:=LM (s0:={ bS s.cfg with now:=s.now,boots:=s.boots,sunk:=s.sunk }) R rfl rfl rfl rfl (aN [((s.cm.length:Nat):Int)]++((bA s.cm).flatMap ceB++(aN [((s.kept.length:Nat):Int)]++(s.kept.flatMap ceB++[])))) 64 (Vg _);rw[V2 (by rw[R.ok.rows.len];omega),Yb (by rw[R.ok.rows.len];omega)]at u;rw[Vi,u];dsimp only;rw[UW (λx=>x B)]
 have e2:(aR 64 ([]:List En)).flatMap (dS s)++(aN [((s.cm.length:Nat):Int)]++((bA s.cm).flatMap ceB++(aN [((s.kept.length:Nat):Int)]++(s.kept.flatMap ceB++[]))))=aN [((s.cm.length:Nat):Int)]++((bA s.cm).flatMap ceB++(aN [((s.kept.length:Nat):Int)]++(s.kept.flatMap ceB++[]))):=rfl;rw[e2,ux (by omega) (by omega)];dsimp only;have n:=Lx (most:=s.cfg.cells) (outsL_nd R.ok.sh.nd) j (by rw[f];exact h) (aN [((s.kept.length:Nat):Int)]++(s.kept.flatMap ceB++[])) (bA s.cm).length (Vg _);rw[V8,VY]at n;rw[Vi,<-f,n];dsimp only;have e3:([]:List Ot).flatMap ceB++(aN [((s.kept.length:Nat):Int)]++(s.kept.flatMap ceB++[]))=aN [((s.kept.length:Nat):Int)]++(s.kept.flatMap ceB++[]):=rfl;rw[e3,uv (by omega) (by omega)];dsimp only;have v:=Lv R.kept [] s.kept.length (Vg _);rw[V8,VY]at v;rw[Vi,v];dsimp only;rw[show (dG ⟨0,([]:List Ot).flatMap ceB++[]⟩).e=0 from rfl,UW (by simp)];have C:lg s.rows 64=s.rows:=by
  unfold lg;rw[V2 (by rw[R.ok.rows.len];omega)];simp
 have y:cutT s.sts 64=s.sts:=by
  unfold cutT;rw[V2 (by rw[R.ok.len];omega)];simp
 rw[C,y,<-R.ok.lag];rfl
theorem Uv{ks ls:List Ky}(h:ks.Perm ls):ei ks=ei ls:=by
 refine List.Perm.eq_of_pairwise (le:=λx y=>ie x y=true) (λa b _ _ e c=>?_) (wy ks) (wy ls) ((kP ks).trans (h.trans (kP ls).symm))
 have w1:=Bv e;have w2:=Bv c;have d:a.win=b.win:=by omega
 unfold ie at e c;simp only[V1,Vp,VF,Ve]at e c;have s1:=e.2.resolve_left (λf=>f d.symm)
 have s2:=c.2.resolve_left (λf=>f d)
 rw[Go.Proofs.bytesLess_eq,Ve]at s1 s2;have:a.ser.toList=b.ser.toList:=List.le_antisymm s1 s2;obtain⟨aw,i⟩:=a;obtain⟨bw,sb⟩:=b;dsimp only at d this;rw[ByteArray.toList_eq,ByteArray.toList_eq]at this;have hs:i=sb:=sw this;rw[d,hs]
theorem Uw{m m':CM}(a:(aG m).Nodup)(h:m.Perm m'):bA m=bA m':=by
 unfold bA;rw[Uv (h.map Prod.fst:(aG m).Perm (aG m'))];apply Wp;intro k _;unfold fN;rw[qb a h]
theorem Ux{m:CM}(a:(aG m).Nodup):(bA m).Perm m:=by
 have d:(aG (bA m)).Perm (aG m):=by rw[LN];exact kP _
 have b:bA m=(ei (aG m)).map λk=>(k,fN m k):=rfl
 rw[b];refine ((kP (aG m)).map _).trans ?_;have:(aG m).map (λk=>(k,fN m k))=m:=by
  unfold aG;rw[VM]
  conv=>rhs;rw[<-List.map_id m]
  apply Wp;intro p c;show (p.1,fN m p.1)=p;unfold fN;rw[md a c];rfl
 rw[this]
theorem Uy{s:aI}(R:Rch s)(a:Int):aL a (jC s 64)=if 0<(bg s.rows a).epoch then some (bE s.ms a) else none:=by
 have c:=R.ok.rows.len;have b:((aR 0 s.rows).map λp=>(p.1,bE s.ms p.1)).Perm (jC s 64):=by
  unfold jC;rw[V2 (by omega)];exact (List.reverse_perm _).symm
 have d:aG ((aR 0 s.rows).map λp=>(p.1,bE s.ms p.1))=aG (aR 0 s.rows):=by simp[aG,Function.comp_def]
 rw[<-qb (by rw[d];exact wV) b];have:=wY (f:=λ(k:Int) (_:En)=>bE s.ms k) (k:=a) (m:=aR 0 s.rows)
 rw[this,AI]
 split <;> rfl
theorem flsK_nd(s:aI)(k:Nat):(aG (jC s k)).Nodup:=by
 unfold jC;have:aG (((aR 0 (s.rows.take k)).map λp=>(p.1,bE s.ms p.1)).reverse)=(aG (aR 0 (s.rows.take k))).reverse:=by simp[aG,Function.comp_def]
 rw[this];exact List.pairwise_reverse.2 (wV.imp λh=>h.symm)
theorem LO{κ α:Type}{m:List (κ×α)}(h:(aG m).Nodup):m.Nodup:=List.Pairwise.of_map Prod.fst (λa b c e=>c (by rw[e])) h
theorem Uz{κ α:Type}[DecidableEq κ][DecidableEq α]{m m':List (κ×α)}(h:(aG m).Nodup)(c:(aG m').Nodup)(b:∀k,aL k m=aL k m'):m.Perm m':=by
 refine (List.perm_ext_iff_of_nodup (LO h) (LO c)).2 λp=>⟨λa=>?_,λa=>?_⟩
 .have:=md h a;rw[b]at this;exact gY this
 .have:=md c a;rw[<-b]at this;exact gY this
theorem uG{s:aI}(R:Rch s):s.ms.m.Perm (jD s).ms.m/\s.cm.Perm (jD s).cm:=by
 refine⟨Uz R.ok.ms.nd (flsK_nd s 64) λa=>?_,?_⟩
 .show aL a s.ms.m=aL a (jC s 64);rw[Uy R];have b:=R.keys a;unfold bE
  cases h:aL a s.ms.m with
  | none=>
   rw[h]at b;rw[UW (by intro c;rw[Vs c]at b;simp at b)]
  | some x=>
   rw[h]at b;rw[UX (by
    by_cases c:0<(bg s.rows a).epoch
    .exact c
    .rw [VK c]at b;simp at b)]
   rfl
 .exact ((Ux R.ok.sh.nd).symm.trans (List.reverse_perm _).symm)
theorem U0{s:aI}(R:Rch s)(a:Int):bE (jD s).ms a=bE s.ms a:=by
 have:=qb (x:=a) R.ok.ms.nd (uG R).1;unfold bE;rw[<-this]
theorem norm_cm{s:aI}(R:Rch s):bA (jD s).cm=bA s.cm:=(Uw R.ok.sh.nd (uG R).2).symm
theorem U1{s:aI}(R:Rch s):stB (jD s)=stB s:=by
 have a:∀p,dS (jD s) p=dS s p:=by
  intro p;unfold dS;have:dM (jD s) p.1=dM s p.1:=rfl;rw[this]
  cases dM s p.1 with
  | none=>rfl
  | some st=>dsimp only;rw[U0 R]
 have b:(jD s).cm.length=s.cm.length:=(uG R).2.length_eq.symm;unfold stB kZ jo kh;rw[norm_cm R,b];have c:(aR 0 (jD s).rows).flatMap (dS (jD s))=(aR 0 s.rows).flatMap (dS s):=by
  show (aR 0 s.rows).flatMap _=_;congr 1;funext p;exact a p
 rw[c];rfl
structure lh(o:Ot):Prop where
 ch:CH o.2
 win:0<=o.1.win/\o.1.win<=4611686018427387903
 ser:(ij o.1.ser).2.2=true
 size:o.1.ser.size<=5000
theorem mU.l{o:Ot}(h:mU o):lh o:=⟨h.ch,h.win,h.ser,h.size⟩
theorem lh.g{o:Ot}(h:lh o)(wc:WC o.2)(rt:fX o.2=true):mU o:=⟨wc,rt,h.ch,h.win,h.ser,h.size⟩
theorem CH.z:CH Cl.z:=λi _=>rfl
theorem CH.note{c:Cl}(h:CH c)(b:Bool):CH (gM c b).1:=by
 unfold gM
 split
 .exact CH.z
 split
 .split
  .exact CH.z
  .exact h
 .split
  .exact CH.z
  .exact h
theorem CH.add{c:Cl}(h:CH c){v:Int}(b:aF v):CH (jR c v).1:=by
 unfold jR
 split
 .exact CH.z
 split
 .exact CH.z
 split
 .exact CH.z
 split
 .exact CH.z
 rename_i h0;intro i hi;dsimp only;have h0:(jl c.h v).2=0:=Decidable.not_not.1 h0;unfold jl at h0 ⊢
 split at h0
 .simp at h0
 rename_i d;rw[UW d]
 split at h0
 .simp at h0
 rename_i a;rw[UW a];have:=oY b;dsimp only;unfold eW;rw[nO];exact h i hi
theorem LP{B:Nat}:∀{ps:List (List UInt8)},(∀p∈ps,p.length<=B)->(Go.Lib.join ps [44]).length<=(B+1)*ps.length
 | [],_=>by simp[Go.Lib.join_nil]
 | [p],h=>by rw[Go.Lib.join_one];have:=h p (Vn ..);simp;omega
 | p::q::r,h=>by
  have b:=LP (ps:=q::r) λx a=>h x (Vq _ a)
  have:=h p (Vn ..);rw[join2,UZ,Vf];simp only[Vf,Nat.mul_succ]at *;omega
theorem U2{name:Fa}{labs:List bR}(h:fu name labs=true):(fY name labs).size<=5000:=by
 have c:=mC h;have j:=rV c.named;unfold fY;rw[UX h]
 split
 .omega
 .have e:=LP (ps:=(labs.map fw).map aX) (B:=129) (by
   intro p a;obtain⟨b,hb,rfl⟩:=Vh.1 a;obtain⟨l,d,rfl⟩:=Vh.1 hb;have:=rW (c.val l d);rw[xn,UZ,Vf,kQ,kQ];omega)
  rw[Vl,Vl]at e;have i:=c.len;rw[<-kQ,pz,pz,pz];have f:aX (jW labs)=Go.Lib.join ((labs.map fw).map aX) [44]:=qF _;simp only[UZ,f];rw[kQ];have e1:(aX (⟨#[123]⟩:Fa)).length=1:=rfl;have e2:(aX (⟨#[125]⟩:Fa)).length=1:=rfl;rw[e1,e2];omega
structure SerG(ser:Fa):Prop where
 ok:(ij ser).2.2=true
 size:ser.size<=5000
theorem serG_of{e:Pv}(h:gP e=true):SerG (fY e.name e.labs):=by
 obtain⟨_,a⟩:=Lp h;exact⟨by rw[TH a],U2 a⟩
theorem note_L{most first last:Int}{m:CM}{ser:Fa}(h:∀p∈m,lh p)(hs:SerG ser)(j:0<=first)(f:last<=4611686018427387903):∀p∈(jT most m first last ser).1,lh p:=by
 unfold jT
 split
 .exact h
 split
 .exact h
 split
 .exact h
 intro p b
 rcases L9 b with b|b
 .obtain⟨w,d,e1,e2,e3⟩:=AO b;unfold cq at d;obtain⟨i,a,rfl⟩:=Vh.1 d;have a:=Wg.1 a;have e:CH (fN m ⟨first+(i:Int),ser⟩):=by
   unfold fN
   cases hm:aL (⟨first+(i:Int),ser⟩:Ky) m with
   | none=>exact CH.z
   | some c=>exact (h _ (gY hm)).ch
  exact⟨by rw[e2];exact e.note _,by rw[e1];dsimp only;omega,by rw[e1];exact hs.ok,by rw[e1];exact hs.size⟩
 .exact h p b
theorem count_L{m:CM}{k:Ky}{v:Int}(h:∀p∈m,lh p)(d:aF v):∀p∈(mB m k v).1,lh p:=by
 unfold mB
 split
 .exact h
 rename_i c b
 split
 .exact h
 intro p a
 rcases nM a with rfl|a
 .have:=h (k,c) (gY b);exact⟨this.ch.add d,this.win,this.ser,this.size⟩
 .exact h p a
structure MsJ(lim:Int)(ms ms':MS):Prop where
 now:ms'.now=ms.now
 value:ms'.value=ms.value
 keys:∀a,(aL a ms'.m).isSome=(aL a ms.m).isSome
 fl:∀p∈ms'.m,p.2.t<=lim
theorem LQ{now:Int}{ms:MS}{a t:Int}(h:∀p∈ms.m,p.2.t<=now)(c:t<=now):MsJ now ms (ms.raise a t).1:=by
 have r1:=Ur ms a t;refine⟨r1.2,r1.1,λb=>?_,raise_fl h c⟩
 unfold MS.raise
 split
 .rfl
 rename_i x d
 split
 .rfl
 dsimp only;rw[oG]
 split
 .rename_i e;rw[e,d];rfl
 .rfl
theorem MsJ.trans{now:Int}{a b c:MS}(h:MsJ now a b)(d:MsJ now b c):MsJ now a c:=⟨d.now.trans h.now,d.value.trans h.value,λk=>(d.keys k).trans (h.keys k),d.fl⟩
theorem flOf_lo{ms:MS}(h:MOk ms)(a:Int):0<=(bE ms a).t:=by
 unfold bE
 cases e:aL a ms.m with
 | none=>exact V7 _
 | some x=>exact (h.rows _ (gY e)).2.1
theorem judgeS_J{c:bG}{now a:Int}{st:br}{ms:MS}{cm:CM}{e:Pv}(d:c.gd.ok)(j:isT now)(hm:MOk ms)(k:gP e=true)(n:aF e.value)(h:∀p∈ms.m,p.2.t<=now)(b:∀p∈cm,lh p) :
  MsJ now ms (eE c now a st ms cm e).ms/\∀p∈(eE c now a st ms cm e).cm,lh p:=by
 have same:MsJ now ms ms:=⟨rfl,rfl,λ_=>rfl,h⟩
 unfold eE
 split
 .exact⟨same,b⟩
 split
 .exact⟨same,b⟩
 rename_i s f;have f:(cO st.ck (bE ms a) now e.stamp).2=0:=Decidable.not_not.1 (not_or.1 f).1;obtain⟨t1,t2,t3⟩:=L8 f;have i:=flOf_lo hm a;generalize cO st.ck (bE ms a) now e.stamp=T at *;have r:=LQ (a:=a) (t:=T.1.lo) h (by omega)
 split
 .exact⟨r,b⟩
 have w:=Us (g:=c.gd) (x:=T.1) (.inr trivial) d t1;rw[w];dsimp only;have w0:0<=fM c.gd T.1.lo:=by
  rw[L7 d (by unfold isV isT at *;omega)];exact Int.ediv_nonneg (by omega) (by have:=d.1;omega)
 have w1:fM c.gd T.1.hi<=4611686018427387903:=by
  rw[L7 d (by unfold isV isT at *;omega)];have:=Int.ediv_le_self (a:=T.1.hi) c.gd.width (by omega);unfold isT at j;omega
 have N:=note_L (most:=c.cells) (ser:=fY e.name e.labs) b (serG_of k) w0 w1
 split
 .exact⟨r,N⟩
 split
 .exact⟨r,N⟩
 .exact⟨r,count_L N n⟩
theorem LR{c:bG}{now a ep first:Int}{evs:List Pv}{x:JS}(i:c.gd.ok)(j:isT now)(hm:MOk x.ms)(k:∀e∈evs,gP e=true/\aF e.value)(f:∀p∈x.ms.m,p.2.t<=now)(d:∀p∈x.cm,lh p):∀n,n<=evs.length->
  MOk (dg c now a ep first evs x n).1.ms/\MsJ now x.ms (dg c now a ep first evs x n).1.ms/\∀p∈(dg c now a ep first evs x n).1.cm,lh p
 | 0,_=>⟨hm,⟨rfl,rfl,λ_=>rfl,f⟩,d⟩
 | n+1,hl=>by
  obtain⟨i1,i2,i3⟩:=LR (ep:=ep) (first:=first) (a:=a) i j hm k f d n (by omega);have b:=k (evs.getD n Pv.z) (by rw[og _ (by omega)];exact Vk _);have h:=judgeS_J (a:=a) (st:=(dg c now a ep first evs x n).1.st) (e:=evs.getD n Pv.z) i j i1 b.1 b.2 i2.fl i3;have hm:=Ki (c:=c) (now:=now) (a:=a) (st:=(dg c now a ep first evs x n).1.st) (cm:=(dg c now a ep first evs x n).1.cm) (e:=evs.getD n Pv.z) i1;exact⟨hm.1,i2.trans h.1,h.2⟩
theorem LS{lim:Int}{m:FM}:∀(ks:List Int) (s:Int×Bool),lim<=s.1->lim<=(j8 lim m ks s).1
 | [],s,h=>h
 | k::r,s,h=>by
  refine LS r _ ?_;unfold nL
  split
  .rename_i a;dsimp only;omega
  .exact h
theorem cmG{s:aI}(ok:cQ s)(h:∀p∈s.cm,lh p):∀p∈s.cm,mU p:=λp a=>(h p a).g (ok.sh.wc p a) (ok.sh.rt p a)
theorem Rch.cl{s:aI}(R:Rch s):∀p∈s.cm,lh p:=λp a=>(R.cm p a).l
theorem LT{c:bG}(ok:j9 c):Rch (bS c) where
 ok:=qE ok
 sunk:=by show (0:Int)<=_;decide
 mnow:=⟨V7 _,V7 _⟩
 val:=by have:=ok.lag;show (0:Int)-c.lag<=-c.lag/\-c.lag<=0;omega
 keys:=λa=>by
  have:bg (bS c).rows a=En.z:=by
   unfold bg bS;dsimp only
   split
   .rfl
   .rw [List.getElem?_replicate];split <;> rfl
  rw[this];rfl
 fl:=λp b=>UY b (by simp[bS,MS.new])
 rows:=λa h=>by
  exfalso;have:bg (bS c).rows a=En.z:=by
   unfold bg bS;dsimp only
   split
   .rfl
   .rw [List.getElem?_replicate];split <;> rfl
  rw[this]at h;simp[En.z]at h
 ag:=(open_new ok).ag
 cm:=λp b=>UY b (by simp[bS])
 kept:=λp b=>UY b (by simp[bS])
theorem uH{s:aI}{r:Rp}(R:Rch s)(W:∀e∈r.evs,aF e.value):Rch (iE s r):=by
 have d:cQ (iE s r):=apply_ok R.ok W;have ok:=R.ok;have l5:=R.mnow;have U:=R.val;unfold iE at *;revert d;have u:∀{n:Int},s.now<=n->(0<=s.ms.now/\s.ms.now<=n)/\∀p∈s.ms.m,p.2.t<=n:=λh=>⟨by omega,λp A=>by have:=R.fl p A;omega⟩
 refine ov (P:=λq=>cQ q.1->Rch q.1) (λ_ _=>R) (λ_ _ _=>R) (λ_ _ _ d=>⟨d,R.sunk,R.mnow,R.val,R.keys,R.fl,R.rows,R.ag,R.cm,R.kept⟩) (λE j w d=>?_) (λE j w d=>?_) (λE j w d=>?_) (λE j w d=>?_) (λE j w d=>?_) λE j w d=>?_
 .have v:=iC E;have i:=uE (by omega) (by omega) j;rw[nO]at i;obtain⟨u1,u2⟩:=u i;have V:=xk (most:=s.cfg.agents) ok.rows r.ag r.bt r.nw;revert d;unfold fB
  split
  .exact λ_=>R
  rename_i D;have D:=Decidable.not_not.1 D;have hb:¬bad r.ag r.bt r.nw:=by
   intro hb;unfold grant at D;rw[UX hb]at D;simp at D
  split
  .rename_i j;intro d
   rcases V with ⟨-,g2,g3,g4,g5⟩|⟨g1,_⟩
   .have I:r.ag.toNat<s.rows.length:=by rw[ok.rows.len];have:=v.ag;omega
    have y:¬((bg s.rows r.ag).epoch=0/\full s.cfg.agents s.rows)/\(grant s.cfg.agents s.rows r.ag r.bt r.nw).2.1.time=r.nw/\(grant s.cfg.agents s.rows r.ag r.bt r.nw).2.1.boot=r.bt:=by
     unfold grant at j D ⊢;rw[UW hb]at j D ⊢;dsimp only at j D ⊢
     split at j
     .cases j
     rename_i q1;rw[UW q1]at D ⊢
     split at j
     .cases j
     rename_i q2;rw[UW q2]at D ⊢
     split at j
     .cases j
     rename_i q3;rw[UW q3]at D ⊢
     split at j
     .cases j
     rename_i q4;rw[UW q4];exact⟨q4,rfl,rfl⟩
    have Q:=(open_ag (s:=s) ok R.ag v.ag y.1 g2);generalize (grant s.cfg.agents s.rows r.ag r.bt r.nw)=G at *;have H:∀a,bg G.1 a=if a=r.ag then G.2.1 else bg s.rows a:=by
     intro a;rw[g2]
     by_cases e:a=r.ag
     .rw [UX e,e,Bw v.ag.1 I]
     .rw [UW e];unfold bg
      by_cases h0:a<0
      .rw [UX h0,UX h0]
      .rw [UW h0,UW h0,List.getElem?_set_ne (by have:=v.ag;omega)]
    have hold:(gT s r.ag).now=s.ms.now/\(gT s r.ag).value=s.ms.value/\(∀p∈(gT s r.ag).m,p.2.t<=r.nw)/\aL r.ag (gT s r.ag).m=none/\∀a,a≠r.ag->aL a (gT s r.ag).m=aL a s.ms.m:=by
     unfold gT
     cases hs:dM s r.ag with
     | none=>
      dsimp only;refine⟨rfl,rfl,u2,?_,λ_ _=>rfl⟩
      have w:=R.keys r.ag;have h0:¬0<(bg s.rows r.ag).epoch:=by
       intro h;have T:r.ag.toNat<64:=by have:=v.ag;omega
       have e1:((r.ag.toNat:Nat):Int)=r.ag:=by have:=v.ag;omega
       have e2:bg s.rows r.ag=s.rows[r.ag.toNat]:=by rw[<-xD I,e1]
       obtain⟨st,_,F⟩:=R.str T (by rw[<-e2];exact h);rw[e1,hs]at F
       cases F
      rw[VK h0]at w
      cases h:aL r.ag s.ms.m with
      | none=>rfl
      | some x=>rw[h]at w;simp at w
     | some st=>
      dsimp only;unfold MS.leave
      split
      .rename_i h;exact⟨rfl,rfl,u2,h,λ_ _=>rfl⟩
      .refine⟨rfl,rfl,λp A=>u2 p (rj.1 A).1,?_,λa ha=>?_⟩
       .dsimp only;rw[vD,UX rfl]
       .dsimp only;rw[vD,UW ha]
    obtain⟨o1,o2,o3,o4,o5⟩:=hold;have N:(gT s r.ag).join r.ag r.nw=({ gT s r.ag with m:=mset r.ag ⟨r.nw,false,false,false⟩ (gT s r.ag).m },0):=by
     unfold MS.join;have L:=v.ag;have F:=v.nw;rw[UW (by unfold isAg isT;unfold isT at F;omega),o4]
    rw[N]at d ⊢;refine⟨d,R.sunk,by dsimp only;omega,by dsimp only;omega,λa=>?_,λp A=>?_,λa h=>?_,Q,R.cm,R.kept⟩
    .dsimp only;rw[H,oG]
     by_cases e:a=r.ag
     .rw [UX e,UX e,Vs g3];rfl
     .rw [UW e,UW e,o5 a e];exact R.keys a
    .rcases nM A with rfl|A
     .exact V7 _
     .exact o3 p A
    .dsimp only at h ⊢;rw[H]at h ⊢
     by_cases e:a=r.ag
     .rw [UX e,y.2.1,y.2.2];have L:=v.bt;have F:=v.nw;exact⟨⟨L.1 w,L.2.2⟩,F.1,F.2⟩
     .rw [UW e]at h ⊢;exact R.rows a h
   .rw [g1]at j;cases j
  .rename_i j;intro d
   rcases V with ⟨g1,_⟩|⟨-,g2,_⟩
   .exact UY g1 j
   .rw [g2]at d ⊢;exact⟨d,R.sunk,u1,R.val,R.keys,u2,R.rows,R.ag,R.cm,R.kept⟩
 .have v:=iC E;have i:=uE (by omega) (by omega) j;rw[UX w]at i;obtain⟨u1,u2⟩:=u i;obtain⟨st,C⟩:=kV ok v j (.inl w);revert d;unfold mM;rw[C];intro d;have hh:∀b,(s.ms.hold r.ag b).1.now=s.ms.now/\(s.ms.hold r.ag b).1.value=s.ms.value/\(∀a,(aL a (s.ms.hold r.ag b).1.m).isSome=(aL a s.ms.m).isSome)/\∀p∈(s.ms.hold r.ag b).1.m,p.2.t<=r.sm.came:=by
   intro b;unfold MS.hold
   split
   .exact⟨rfl,rfl,λ_=>rfl,u2⟩
   .rename_i x Y;refine⟨rfl,rfl,λa=>?_,λp A=>?_⟩
    .dsimp only;rw[oG]
     split
     .rename_i e;rw[e,Y];rfl
     .rfl
    .rcases nM A with rfl|A
     .have:=u2 (r.ag,x) (gY Y);exact this
     .exact u2 p A
  obtain⟨L,F,h3,h4⟩:=hh (kM st.ck r.sm).1.held;refine⟨d,R.sunk,?_,?_,λa=>?_,h4,R.rows,R.ag,R.cm,R.kept⟩
  .dsimp only;rw[L];exact u1
  .dsimp only;rw[L,F];exact R.val
  .dsimp only;rw[h3];exact R.keys a
 .have v:=iC E;have i:=uE (by omega) (by omega) j;rw[nO]at i;obtain⟨u1,u2⟩:=u i;obtain⟨st,C⟩:=kV ok v j (.inr (.inl w));have M:=ok.sts st (VA C);have hb:=v.evs w;unfold gQ at hb;simp only[Vd,Vc,VL]at hb;obtain⟨⟨h7,l0⟩,⟨⟨h6,h9⟩,h5⟩,O⟩:=hb;have hm:=ue (s:=st.hs) (first:=r.nx) (items:=r.evs);have good:∀e∈(st.hs.offer r.nx r.evs).2.1,gP e=true/\aF e.value:=by
   intro e he
   rcases hm.1 e he with h|⟨q,h,rfl⟩
   .exact⟨O e h,W e h⟩
   .exact (M.rows q h).2
  have N:=LR (c:=s.cfg) (now:=r.nw) (a:=r.ag) (ep:=r.ep) (first:=st.hs.next) (evs:=(st.hs.offer r.nx r.evs).2.1) (x:=⟨{ st with hs:=(st.hs.offer r.nx r.evs).1 },s.ms,s.cm⟩) ok.cfg.gd v.nw ok.ms good u2 R.cl _ (Vg _);revert d;unfold gz;rw[C];dsimp only;unfold kA;generalize dg s.cfg r.nw r.ag r.ep st.hs.next (st.hs.offer r.nx r.evs).2.1 ⟨{ st with hs:=(st.hs.offer r.nx r.evs).1 },s.ms,s.cm⟩ (st.hs.offer r.nx r.evs).2.1.length=G at *;intro d;obtain⟨j1,B,j3⟩:=N;refine⟨d,R.sunk,?_,?_,λa=>?_,B.fl,R.rows,R.ag,cmG d j3,R.kept⟩
  .dsimp only at B ⊢;rw[B.now];exact u1
  .dsimp only at B ⊢;rw[B.now,B.value];exact R.val
  .dsimp only at B ⊢;rw[B.keys];exact R.keys a
 .have v:=iC E;have i:=uE (by omega) (by omega) j;rw[nO]at i;obtain⟨u1,u2⟩:=u i;obtain⟨st,C⟩:=kV ok v j (.inr (.inr w));revert d;unfold lN;rw[C];dsimp only
  split
  .exact λd=>⟨d,R.sunk,u1,R.val,R.keys,u2,R.rows,R.ag,R.cm,R.kept⟩
  split
  .exact λd=>⟨d,R.sunk,u1,R.val,R.keys,u2,R.rows,R.ag,R.cm,R.kept⟩
  .rename_i hT;intro d;obtain⟨t1,t2,t3⟩:=L8 (Decidable.not_not.1 hT);have B:=LQ (a:=r.ag) (t:=(cO st.ck (bE s.ms r.ag) r.nw r.st).1.lo) u2 (by omega);refine⟨d,R.sunk,?_,?_,λa=>?_,B.fl,R.rows,R.ag,R.cm,R.kept⟩
   .dsimp only;rw[B.now];exact u1
   .dsimp only;rw[B.now,B.value];exact R.val
   .dsimp only;rw[B.keys];exact R.keys a
 .have v:=iC E;have i:=uE (by omega) (by omega) j;rw[nO]at i;obtain⟨u1,u2⟩:=u i;have J:=v.nw;have Z:=ok.ms.l1;have h8:=ok.lag;have ht:s.ms.tick r.nw=({ s.ms with now:=r.nw,value:=maxI s.ms.value (j8 (r.nw-s.ms.lag) s.ms.m (sortI (aG s.ms.m)) (r.nw-s.ms.lag,false)).1,m:=s.ms.m.map λp=>(p.1,jZ (r.nw-s.ms.lag) p.2) },0):=by
   unfold MS.tick;rw[UW (by intro h;rcases h with h|h;exact h J;omega)]
  have f1:=LF (lim:=r.nw-s.ms.lag) u2 J.1 (sortI (aG s.ms.m)) (r.nw-s.ms.lag,false) (by dsimp only;omega);have f2:=LS (lim:=r.nw-s.ms.lag) (m:=s.ms.m) (sortI (aG s.ms.m)) (r.nw-s.ms.lag,false) (V7 _);revert d;unfold kB dr;rw[ht];intro d;have S:∀p∈nH s.cm (fM s.cfg.gd (maxI s.ms.value (j8 (r.nw-s.ms.lag) s.ms.m (sortI (aG s.ms.m)) (r.nw-s.ms.lag,false)).1)),mU p:=λp A=>R.cm p (Up.1 A).1
  refine⟨d,R.sunk,⟨J.1,V7 _⟩,?_,λa=>?_,λp A=>?_,R.rows,R.ag,S,λo K=>?_⟩
  .dsimp only;unfold maxI
   split <;> omega
  .dsimp only;have:=wY (f:=λ(_:Int)=>jZ (r.nw-s.ms.lag)) (k:=a) (m:=s.ms.m)
   rw[this,<-R.keys a]
   cases aL a s.ms.m <;> rfl
  .obtain⟨q,hq,rfl⟩:=Vh.1 A;exact u2 q hq
  .rcases Vz.1 K with K|K
   .exact R.kept o K
   .exact R.cm o (By (AS K))
 .revert d;unfold mN
  split
  .intro d;have v:=iC E;exact⟨d,by have:=v.nx;exact this.2,R.mnow,R.val,R.keys,R.fl,R.rows,R.ag,R.cm,λo K=>R.kept o (Wh K)⟩
  .exact λ_=>R
theorem Rch.ser{s:aI}(R:Rch s):qG s:=⟨λp b=>(R.cm p b).size,λo a=>(R.kept o a).size⟩
structure Rx where
 kind:Int
 ag:Int
 ep:Int
 bt:Int
 nx:Int
 st:Int
 nw:Int
 sm:bP
 ea:KQ
 ec:Nat
 evs:List Ev
abbrev encX(x:Rx):Os:=[aB x.kind,aB x.ag,aB x.ep,aB x.bt,aB x.nx,aB x.st,aB x.nw,aB x.sm.asked,aB x.sm.got,aB x.sm.sent,aB x.sm.came,.slice x.ea x.evs.length x.ec]
theorem LU(x:Rx):(encX x).length=12:=rfl
structure RxK(Q:aE)(x:Rx):Prop where
 rd:KIn Q x.ea (flat cw x.evs)
 labs:∀e∈x.evs,ik Q e
 val:∀e∈x.evs,aF e.value
 ll:∀e∈x.evs,e.labs.length<=maxLen
structure XsK(Q:aE)(a:KQ)(xs:List Rx):Prop where
 rd:KIn Q a (flat encX xs)
 rx:∀x∈xs,RxK Q x
 ll:xs.length<=maxLen
def grL(l:bR):Bool:=decide (300<(l.name.size:Int))||decide (300<(l.value.size:Int))
def grS(name:Fa)(labs:List bR):Bool:=decide (100<(labs.length:Int))||decide (300<(name.size:Int))||labs.any grL
def grE(evs:List Ev):Bool:=decide (100<(evs.length:Int))||evs.any λe=>grS e.name e.labs
def grC(c:bG)(n:Nat):Bool:=decide (80<(n:Int))||(decide (200<c.cells)&&decide (c.cells<=1024))
def grR(c:bG)(xs:List Rx):Bool:=grC c xs.length||xs.any λx=>grE x.evs
theorem Bz{α:Type}{p:α->Bool}{l:List α}(h:∀q (a:q<l.length),p l[q]=false):l.any p=false:=by
 rw[List.any_eq_false];intro x b;obtain⟨q,a,rfl⟩:=VU b;rw[h q a];simp
theorem B0{α:Type}{p:α->Bool}{l:List α}{q:Nat}(a:q<l.length)(h:p l[q]=true):l.any p=true:=List.any_eq_true.2 ⟨_,Vk a,h⟩
def dI(s:aI)(rs:List Rp):aI:=rs.foldl (λs r=>(bN s r).1) s
theorem U3(s:aI)(rs:List Rp)(r:Rp):dI s (rs++[r])=(bN (dI s rs) r).1:=by unfold dI;rw[Wr];rfl
section
variable {F L:List aE}{H H0:aC}{K KP:KE}{Q Q':aE}{sb:Nat}{s:aI}
theorem LV{name:Fa}{labs:List bR}{a:KQ}{c:Nat}(h:aA H F)(w:∀H,aA H F->aP H a (flat de labs))(A:labs.length<=maxLen)(k:∀m,aA m F->K (.bool (grS name labs)) m) :
  CF 186 #[.agg #[.string name,.slice a labs.length c]] H K:=by
 refine cN 186 0x1d21562139925b4c [[(3,sI)]] ?_;unfold grS at k;refine h.al λb _ h=>⟨_,_,_,h.r 0,_,λ_=>h.r 0,λe=>?_,λe=>?_⟩
 .rw [e,Bool.true_or]at k;exact k _ h.tl
 rw[e,W1]at k;rw[Vp,Ve]at e;refine⟨λi m=>∃j:Nat,i=j/\j<=labs.length/\(∀q (s:q<labs.length),q<j->grL labs[q]=false)/\aA m (cellsA b [.string name,.slice a labs.length c] 79::F),λi _=>labs.length-i.toNat,⟨0,rfl,by omega,λq _ h=>by omega,h⟩,?_⟩
 rintro i m ⟨j,rfl,B,s,h⟩;refine⟨_,_,_,h.r 0,λe=>?_,λe=>?_⟩
 .have d:j<labs.length:=by have:=Va e;omega
  have n:=w m h.tl;have e1:=n.el0 iS d (v:=.string labs[j].name) rfl;have e2:=n.el iS d 1 (v:=.string labs[j].value) rfl;refine⟨_,_,_,h.r 0,by omega,_,_,n.some iS (by omega) d,_,e1,_,_,_,λ_=>h.r 0,λ_=>by omega,_,_,λ_=>n.some iS (by omega) d,_,λ_=>e2,λt=>?_,λt=>?_⟩
  .rw [B0 d t]at k;exact k _ h.tl
  .conv=>whnf
   rw[aJ (by omega) (by unfold maxLen at *;omega)];refine⟨⟨j+1,by omega,d,λq f x=>?_,h⟩,by dsimp only;omega⟩
   rcases V0 q j with u|u
   .exact s q f u
   .obtain rfl:q=j:=by omega
    exact t
 .have y:labs.length<=j:=by have:=Vb e;omega
  rw[Bz λq f=>s q f (by omega)]at k
  exact k _ h.tl
theorem U4{evs:List Ev}{a:KQ}{c:Nat}(h:aA H F)(B:∀H,aA H F->aP H a (flat cw evs))(hb:∀e∈evs,(∀H,aA H F->aP H e.la (flat de e.labs))/\e.labs.length<=maxLen)(k:∀s,aA s F->K (.bool (grE evs)) s) :
  CF 85 #[.agg #[aD 0,aD 0,aD 0,aD 0,aD 0,aD 0,aD 0,aD 0,aD 0,aD 0,.slice a evs.length c,.string ⟨#[]⟩,.slice none 0 0,.slice none 0 0]] H K:=by
 refine cN 85 0x12283c921562139925b4c [[(3,sI)],[(18,sB)]] ?_;unfold grE at k;refine h.al λb _ h=>?_
 intro I y;refine⟨_,_,_,h.r 0,_,_,_,λ_=>h.r 0,_,_,_,_,λ_=>h.q 0,λm=>?_,λm=>?_⟩
 .have f:decide (100<(evs.length:Int))=false:=(Vp.1 m).1;rw[f,W1]at k;refine LV (labs:=[]) h (λH _=>ip H _) (by simp) λC h=>⟨_,rfl,y _ _ ?_⟩
  refine⟨λt=>UY t (by decide),λ_=>?_⟩
  rw[Ve]at f;refine⟨λi s=>∃j:Nat,i=j/\j<=evs.length/\(∀q (x:q<evs.length),q<j->grS evs[q].name evs[q].labs=false)/\aA s (cellsA b [aD 0,aD 0,aD 0,aD 0,aD 0,aD 0,aD 0,aD 0,aD 0,aD 0,.slice a evs.length c,.string ⟨#[]⟩,.slice none 0 0,.slice none 0 0] 81::F),λi _=>evs.length-i.toNat,⟨0,rfl,by omega,λq _ h=>by omega,h⟩,?_⟩
  rintro i s ⟨j,rfl,G,x,h⟩;refine⟨_,_,_,h.r 0,λm=>?_,λm=>?_⟩
  .have d:j<evs.length:=by have:=Va m;omega
   have u:=B s h.tl;have e1:=u.el fH d 2 (v:=.string evs[j].name) rfl;have e2:=u.el fH d 3 (v:=.slice evs[j].la evs[j].labs.length evs[j].lc) rfl;obtain⟨g1,g2⟩:=hb _ (Vk d);refine⟨_,_,_,h.r 0,by omega,_,_,u.some fH (by omega) d,_,_,_,_,⟨e1,e2⟩,?_⟩;refine LV (name:=evs[j].name) (labs:=evs[j].labs) h (λH h=>g1 H h.tl) g2 λC h=>⟨_,rfl,λw=>?_,λw=>?_⟩
   .rw [B0 (p:=λe=>grS e.name e.labs) d w]at k
    exact k _ h.tl
   .conv=>whnf
    rw[aJ];refine⟨⟨j+1,by omega,d,λq n D=>?_,h⟩,by dsimp only;omega⟩
    rcases V0 q j with A|A
    .exact x q n A
    .obtain rfl:q=j:=by omega
     exact w
  .have E:evs.length<=j:=by have:=Vb m;omega
   rw[Bz (p:=λe=>grS e.name e.labs) λq n=>x q n (by omega)]at k
   exact k _ h.tl
 .have f:decide (100<(evs.length:Int))=true:=by
   rw[Vp]at m
   cases e:decide (100<(evs.length:Int)) with
   | true=>rfl
   | false=>exact UY ⟨e,by simp⟩ m
  rw[f,Bool.true_or]at k;refine y _ _ ?_;exact⟨λ_=>k _ h.tl,λt=>UY t (by decide)⟩
theorem U5{cf:bG}{a:KQ}{c:Nat}{xs:List Rx}(h:aA H (Q::F))(t:XsK Q a xs)(k:∀s,aA s (Q::F)->K (.bool (grR cf xs)) s) :
  CF 36 #[.agg ⟨ol cf⟩,.slice a xs.length c] H K:=by
 refine cN 36 0x1d21562139925b4c [[(5,sI)]] ?_;unfold grR grC at k;refine h.al λb _ h=>⟨_,λ_=>h.r 0,_,λ_=>h.r 0,λf=>?_,λf=>?_⟩
 .rw [f,Bool.true_or]at k;exact k _ h.tl
 rw[f,W1]at k;refine⟨λi s=>∃j:Nat,i=j/\j<=xs.length/\(∀q (u:q<xs.length),q<j->grE xs[q].evs=false)/\aA s (cellsA b (ol cf) 23::Q::F),λi _=>xs.length-i.toNat,⟨0,rfl,by omega,λq _ h=>by omega,h⟩,?_⟩
 rintro i s ⟨j,rfl,G,u,h⟩;refine⟨λf=>?_,λf=>?_⟩
 .have d:j<xs.length:=by have:=Va f;omega
  have B:=t.rd.at h 1 rfl;have e1:=B.el LU d 11 (v:=.slice xs[j].ea xs[j].evs.length xs[j].ec) rfl;refine⟨by omega,_,_,B.some LU (by omega) d,_,_,_,e1,?_⟩;have n:=t.rx _ (Vk d);refine U4 (evs:=xs[j].evs) h (λH h=>n.rd.at h 1 rfl) (λe y=>⟨λH h=>(n.labs e y).at h 1 rfl,n.ll e y⟩) λE h=>⟨_,rfl,λw=>?_,λw=>?_⟩
  .rw [B0 (p:=λx=>grE x.evs) d w]at k
   exact k _ h.tl
  .conv=>whnf
   rw[aJ (by omega) (by have:=t.ll;unfold maxLen at *;omega)];refine⟨⟨j+1,by omega,d,λq m C=>?_,h⟩,by dsimp only;omega⟩
   rcases V0 q j with A|A
   .exact u q m A
   .obtain rfl:q=j:=by omega
    exact w
 .have D:xs.length<=j:=by have:=Vb f;omega
  rw[Bz (p:=λx=>grE x.evs) λq m=>u q m (by omega)]at k
  exact k _ h.tl
end
section
variable {H:Type}{enc:TypeId×Value->H}{W:World}
theorem okWide_agg{P:Program}{w:World}{r:Reach}{a:Nat}{t:TypeId}{v:Value}{fs:Array Field}(b:P.underlying t=some (.struct fs))(h:Value.okWide P w r a t v):∃cs,v=.agg cs:=by
 simp only[Value.okWide,b]at h;obtain⟨cs,h,_⟩:=h;exact⟨cs,h⟩
theorem U6{cs:Os}(h:kI enc Tryz.prog W 23 cs):∃cf:bG,cs=ol cf:=by
 obtain⟨c,b⟩:=yD Tryz.underlying23 h;have c2:Tryz.prog.cellsOf 2=1:=by kernel_rfl
 have c3:Tryz.prog.cellsOf 3=1:=by kernel_rfl
 have a:Tryz.prog.cellsOf 23=9:=by kernel_rfl
 rw[a]at c;simp only[Vm,We,or_false,forall_eq_or_imp,forall_eq,c2,c3]at b;obtain⟨f1,f2,f3,f4,f5,f6,f7,f8,f9⟩:=b
 match cs,c with
 | [x1,x2,x3,x4,x5,x6,x7,x8,x9],_=>
  simp only[List.drop_zero,Wo,W4,Ya]at f1 f2 f3 f4 f5 f6 f7 f8 f9;obtain⟨n1,e1,_,_⟩:=iq Tryz.underlying2 f1;obtain⟨n2,e2,_,_⟩:=iq Tryz.underlying3 f2;obtain⟨n3,e3,_,_⟩:=iq Tryz.underlying2 f3;obtain⟨n4,e4,_,_⟩:=iq Tryz.underlying2 f4;obtain⟨n5,e5,_,_⟩:=iq Tryz.underlying2 f5;obtain⟨n6,e6,_,_⟩:=iq Tryz.underlying3 f6;obtain⟨n7,e7,_,_⟩:=iq Tryz.underlying3 f7;obtain⟨n8,e8,_,_⟩:=iq Tryz.underlying3 f8;obtain⟨n9,e9,_,_⟩:=iq Tryz.underlying3 f9;simp only[List.cons.injEq,and_true]at e1 e2 e3 e4 e5 e6 e7 e8 e9;subst e1 e2 e3 e4 e5 e6 e7 e8 e9;exact⟨⟨n1,n2,n3,n4,n5,n6,n7,n8,n9⟩,rfl⟩
theorem reads_bs{cs:Os}(h:kI enc Tryz.prog W 43 cs):∃a c bs,cs=[.slice a (List.length bs) c]/\bs.length<=maxLen/\aP W.heap a (bs.map U8)/\aH bs:=by
 obtain⟨a,c,xs,k,i,f,m⟩:=Ei (ec:=λx:Int=>[U8 x]) (Q:=λx=>0<=x/\x<256) Tryz.underlying43 (by kernel_rfl) (by decide) h (λs j _=>by
  obtain⟨n,e,b,d⟩:=iq Tryz.underlying5 j;have b:0<=n:=b;have d:n<=255:=d;exact⟨n,e,b,by omega⟩) (λ_=>rfl)
 have e:∀l:List Int,flat (λx=>[U8 x]) l=l.map U8:=λl=>by
  induction l with
  | nil=>rfl
  | cons x r ih=>rw[l7,ih];rfl
 rw[e]at f;exact⟨a,c,xs,k,i,f,m⟩
end
theorem B1{f:Nat->Int}{is:List Nat}(h:∀i∈is,aF (f i))(r:List Int):∀j,j<=is.length->iY j ⟨0,(is.flatMap λi=>aN [f i])++r⟩=.ok ((is.take j).map f,⟨0,((is.drop j).flatMap λi=>aN [f i])++r⟩)
 | 0,_=>rfl
 | j+1,hj=>by
  have a:j<is.length:=by omega
  unfold iY;rw[B1 h r j (by omega)];dsimp only;rw[VP a,V6,Vj,kC (h _ (Vk a))];dsimp only;rw[Wi,List.getElem?_eq_getElem a,Vv];rfl
theorem LW{l:List Pv}(h:∀e∈l,gP e=true/\aF e.value)(r:List Int):∀j,j<=l.length->kS j ⟨0,l.flatMap evB++r⟩=.ok (l.take j,⟨0,(l.drop j).flatMap evB++r⟩)
 | 0,_=>rfl
 | j+1,hj=>by
  have a:j<l.length:=by omega
  have hm:=h _ (Vk a);unfold kS;rw[LW h r j (by omega)];dsimp only;rw[VP a,V6,Vj,Lq hm.1 hm.2];dsimp only;rw[Wi,List.getElem?_eq_getElem a];rfl
theorem atV_map{k:Int}{f:Nat->Int}{i:Nat}:atV k ((cr k).map f) i=if i∈cr k then f i else 0:=by
 unfold atV
 split
 .rename_i h;have a:=List.idxOf_lt_length_iff.2 h;rw[WN,List.getElem?_map,List.getElem?_eq_getElem a,List.getElem_idxOf a];rfl
 .rfl
theorem nums_wf{r:Rp}(a:RLim r)(i:Nat):aF (r.nums i):=by
 have e:=a.ag;have d:=a.ep;have j:=a.bt;have f:=a.nx;have h:=a.st;have c:=a.nw;have b:=a.sm.wf;unfold bP.wf at b;unfold isT at *;unfold Rp.nums
 split <;> first|exact b.1|exact b.2.1|exact b.2.2.1|exact b.2.2.2|(unfold aF;omega)
theorem rec_back{r:Rp}(a:r.right=true)(t:∀e∈r.evs,aF e.value):recR r.bytes=.ok r:=by
 have m:=iC a;have j:=Uq a;have w:=m.kind;have d:(r.kind=4->r.evs.length<=64/\∀e∈r.evs,gP e=true/\aF e.value)/\(¬r.kind=4->r.evs=[]):=by
  refine⟨λc=>?_,λc=>?_⟩
  .have hb:=m.evs c;unfold gQ at hb;simp only[Vd,Vc,VL]at hb;exact⟨hb.2.1.1.2,λe n=>⟨hb.2.2 e n,t e n⟩⟩
  .unfold Rp.right at a;rw[UW c]at a;simp only[Vd,Vc]at a;exact Wk.1 a.1.2
 have e:r.bytes=aN [r.kind]++(((cr r.kind).flatMap λi=>aN [r.nums i])++((if r.kind=4 then aN [((r.evs.length:Nat):Int)] else [])++(r.evs.flatMap evB++[]))):=by
  unfold Rp.bytes;rw[UX a];simp only[Vj,V4]
 have b:kT r.kind ((cr r.kind).map r.nums) r.evs=r:=by
  unfold Rp.zeros at j;simp only[Vd,Vc]at j;have key:∀i x,r.nums i=x->zrK r.kind i x=0->atV r.kind ((cr r.kind).map r.nums) i=x:=by
   intro i x u f;rw[atV_map];unfold zrK at f
   split
   .exact u
   .rename_i h;rw[UW h]at f;exact f.symm
  unfold kT;obtain⟨⟨⟨⟨⟨⟨z1,z2⟩,z3⟩,z4⟩,z5⟩,z6⟩,⟨⟨z7,z8⟩,z9⟩,k⟩:=j;rw[key 1 r.ag rfl z1,key 2 r.ep rfl z2,key 3 r.bt rfl z3,key 4 r.nx rfl z4,key 5 r.st rfl z5,key 6 r.nw rfl z6,key 7 r.sm.asked rfl z7,key 8 r.sm.got rfl z8,key 9 r.sm.sent rfl z9,key 10 r.sm.came rfl k]
 unfold recR;rw[e,uv (by omega) (by omega)];dsimp only;rw[nO,B1 (λi _=>nums_wf m i) _ _ (Vg _),V8,VY]
 dsimp only;have fin:evsR r.kind ⟨0,([]:List Nat).flatMap (λi=>aN [r.nums i])++((if r.kind=4 then aN [((r.evs.length:Nat):Int)] else [])++(r.evs.flatMap evB++[]))⟩=.ok (r.evs,⟨0,[]⟩):=by
  unfold evsR
  split
  .rename_i c;obtain⟨v,s⟩:=d.1 c;have ec:dP 64 ⟨0,([]:List Nat).flatMap (λi=>aN [r.nums i])++(aN [((r.evs.length:Nat):Int)]++(r.evs.flatMap evB++[]))⟩=.ok (((r.evs.length:Nat):Int),⟨0,r.evs.flatMap evB++[]⟩):=ux (by omega) (by omega) _
   rw[ec];dsimp only;rw[Vi,LW s _ _ (Vg _),V8,VY];rfl
  .rename_i c;rw[d.2 c];rfl
 rw[fin];dsimp only;rw[show (dG ⟨0,[]⟩).e=0 from rfl,UW (by simp),b,a,UX rfl]
namespace Al
def c0:bG:=⟨10,0,1000,100,100,2,4,40,8⟩
def r1:Rp:=⟨2,3,0,1,0,0,0,bP.z,[]⟩
def r2:Rp:=⟨3,3,1,0,0,0,0,⟨0,0,0,2⟩,[]⟩
def e0:Pv:=⟨5,7,⟨#[109]⟩,[]⟩
def r3:Rp:=⟨4,3,1,0,0,0,9,bP.z,[e0]⟩
def r4:Rp:=⟨6,0,0,0,0,0,200,bP.z,[]⟩
def r5:Rp:=⟨6,0,0,0,0,0,199,bP.z,[]⟩
def r6:Rp:=⟨7,0,0,0,1,0,0,bP.z,[]⟩
def r7:Rp:=⟨1,0,0,0,0,0,0,bP.z,[]⟩
def A1:=bN (bS c0) r1
def A2:=bN A1.1 r2
def A3:=bN A2.1 r3
def A4:=bN A3.1 r4
def A5:=bN A4.1 r5
def A6:=bN A5.1 r6
theorem ok0:j9 c0:=ur (by kernel_rfl)
theorem nov{r:Rp}(h:r.evs=[]):∀e∈r.evs,aF e.value:=λe a=>by rw[h]at a;cases a
theorem R1:Rch A1.1:=uH (LT ok0) (nov rfl)
end Al
section
variable {F L:List aE}{H H0:aC}{K KP:KE}{Q Q':aE}{sb:Nat}{s:aI}
theorem U7(h:aA H F)(k:∀a,aA a F->K (.agg ⟨ol Al.c0⟩) a):CF 81 #[] H K:=by
 refine cM 81 28 ?_;refine h.al λb _ h=>?_
 refine h.st 0 rfl rfl ?_;intro c h;exact⟨_,_,_,_,_,_,_,_,_,h.q 0,k _ h.tl⟩
theorem xE(ok:cQ s)(ser:qG s)(c:s.kept.length<=50000):(stB s).length<=1000000000:=by
 have n:=KJ (s:=s);have j:=oq (f:=dS s) (l:=aR 0 s.rows) (B:=345000) λp _=>xp ok p
 have d:=wX ok.rows;have t:=oq (f:=ceB) (l:=bA s.cm) (B:=10100) λo a=>by
  obtain⟨q,b,e⟩:=Bh a;exact xq (xj ok.sh _ a) (by rw[<-e];exact ser.cm q b)
 have k:=oq (f:=ceB) (l:=s.kept) (B:=10100) λo a=>xq (ok.kept o a) (ser.kept o a)
 have h:=ub s.cm;have m:=ok.sh.len;have i:=ok.sh.m2;have q1:=dL [(s.cm.length:Int)];have q2:=dL [(s.kept.length:Int)];have m1:345000*(aR 0 s.rows).length<=345000*64:=W5 _ d;have m2:10100*(bA s.cm).length<=10100*1024:=W5 _ (by omega);have m3:10100*s.kept.length<=10100*50000:=W5 _ c;unfold stB kZ jo;simp only[UZ,Vf,Vy]at *;omega
end
theorem U9{s:aI}{r:Rp}(ok:cQ s):(iE s r).cfg=s.cfg/\(iE s r).kept.length<=s.kept.length+s.cfg.cells.toNat:=by
 unfold iE;have a:s.cfg=s.cfg/\s.kept.length<=s.kept.length+s.cfg.cells.toNat:=⟨rfl,by omega⟩;refine ov (P:=λx=>x.1.cfg=s.cfg/\x.1.kept.length<=s.kept.length+s.cfg.cells.toNat) (λ_=>a) (λ_ _=>a) (λ_ _ _=>a) (λ_ _ _=>?_) (λ_ _ _=>?_) (λ_ _ _=>?_) (λ_ _ _=>?_) (λ_ _ _=>?_) (λ_ _ _=>?_)
 .unfold fB;split
  .exact a
  .split <;> exact a
 .dsimp only;unfold mM;split <;> exact a
 .dsimp only;unfold gz;split <;> exact a
 .dsimp only;unfold lN
  split
  .split
   .exact a
   .split <;> exact a
  .exact a
 .dsimp only;unfold kB dr;have c:(iz s.cm (fM s.cfg.gd (s.ms.tick r.nw).1.value)).length<=(bA s.cm).length:=by unfold iz;exact (List.takeWhile_sublist _).length_le
  have b:(bA s.cm).length=s.cm.length:=by unfold bA;rw[Vl,ua];simp[aG]
  have d:=ok.sh.len;dsimp only;rw[UZ];exact⟨rfl,by omega⟩
 .dsimp only;unfold mN
  split
  .dsimp only;rw[Vt];exact⟨rfl,by omega⟩
  .exact a
theorem LX{c:bG}{now a ep first:Int}{evs:List Pv}{x:JS}:∀n,(dg c now a ep first evs x n).2.length=n
 | 0=>rfl
 | n+1=>by
  show ((dg c now a ep first evs x n).2++[_]).length=_;rw[UZ,LX n];rfl
theorem LY{c:bG}{st:br}(a:lM c st):st.hs.rows.length<=256:=by
 have b:=a.hs.rows.length;have d:=a.hs.most2;omega
theorem B2{s:aI}{r:Rp}(ok:cQ s)(f:r.evs.length<=100):(dH s r).length<=2000:=by
 unfold dH;refine ov (P:=λx=>x.2.1.length<=2000) (λ_=>by simp) (λ_ _=>by simp) (λ_ _ _=>by simp) (λ_ _ _=>?_) (λ_ _ _=>by simp) (λ_ _ _=>?_) (λ_ _ _=>by simp) (λ_ _ _=>?_) (λ_ _ _=>by simp)
 .unfold fB
  split
  .simp
  split
  .have:(jn s r.ag).length<=256:=by
    unfold jn
    split
    .rename_i st a;have hm:some st∈s.sts:=by
      unfold dM at a
      split at a
      .cases a
      .cases hq:s.sts[r.ag.toNat]? with
       | none=>rw[hq]at a;cases a
       | some o=>
        rw[hq]at a
        cases o with
        | none=>cases a
        | some st'=>cases a;exact VA hq
     have:=LY (ok.sts st hm);simpa[aG] using this
    .simp
   dsimp only;rw[UZ,VN];omega
  .simp
 .dsimp only;unfold gz
  split
  .rename_i st d;have e:=LY (ok.sts st (VA d));have c:=Jo (s:=st.hs) (first:=r.nx) (items:=r.evs);have b:(kA s r st).2.length=(st.hs.offer r.nx r.evs).2.1.length:=by unfold kA;exact LX _
   dsimp only;rw[UZ,VN,b];omega
  .simp
 .dsimp only;unfold kB;dsimp only;rw[nN];unfold dr;have e:(iz s.cm (fM s.cfg.gd (s.ms.tick r.nw).1.value)).length<=(bA s.cm).length:=by unfold iz;exact (List.takeWhile_sublist _).length_le
  have c:(bA s.cm).length=s.cm.length:=by unfold bA;rw[Vl,ua];simp[aG]
  have b:=ok.sh.len;have h:=ok.sh.m2;omega
structure RunR(s:aI)(c:bG)(n:Nat):Prop where
 R:Rch s
 cfg:s.cfg=c
 kept:s.kept.length<=c.cells.toNat*n
theorem runR_new{c:bG}(h:j9 c):RunR (bS c) c 0:=⟨LT h,rfl,by simp[bS]⟩
theorem RunR.step{s:aI}{c:bG}{n:Nat}{r:Rp}(h:RunR s c n)(d:∀e∈r.evs,aF e.value):RunR (bN s r).1 c (n+1):=by
 have b:=U9 (r:=r) h.R.ok;refine⟨uH h.R d,b.1.trans h.cfg,?_⟩;have f:=h.kept;have a:=b.2;rw[h.cfg]at a;rw[Nat.mul_add,VT];exact Vu a (Nat.add_le_add_right f _)
theorem RunR.run{s:aI}{c:bG}{n:Nat}(h:RunR s c n):∀{rs:List Rp},(∀r∈rs,∀e∈r.evs,aF e.value)->RunR (dI s rs) c (n+rs.length):=by
 intro rs
 induction rs generalizing s n with
 | nil=>intro _;exact h
 | cons r rs ih=>
  intro a;have:=ih (h.step (r:=r) (a r (Vn ..))) λx b=>a x (Vq _ b)
  rw[Vf,show n+(rs.length+1)=n+1+rs.length by omega];exact this
theorem UA{c:bG}{xs:List Rx}(a:fC c=true)(b:grR c xs=false):c.cells.toNat<=200:=by
 have d:=(ur a);have e:1<=c.cells/\c.cells<=1024:=by
  unfold fC at a;simp only[Vd,Vc]at a;exact a.1.2
 unfold grR grC at b;simp only[Vp,VF,Ve]at b;omega
theorem RunR.few{s:aI}{c:bG}{n:Nat}(h:RunR s c n)(a:c.cells.toNat<=200)(b:n<=200):s.kept.length<=40000:=by
 have:=h.kept;have d:c.cells.toNat*n<=200*200:=Nat.mul_le_mul a b;omega
theorem B3{H0 H:aC}{Q:aE}{F:List aE}(hs:aM (old H0) Q)(h:aA H (Q::F)):dC H0 H:=(KG.old H0).sub hs H F h
structure Gg where
 o:Opt
 s:aI
 p:Pb
 pend:List Ou
 recs:Int
 saved:Bool
 num:Int
 seg:Int
 rl:RL
 rows:DR
 syn:Nat
def cF(g:Gg)(r:Rp):Gg×Int:=
 if (bN g.s r).2.2≠0 then (g,(bN g.s r).2.2) else
 ({ g with s:=(bN g.s r).1,pend:=g.pend++(bN g.s r).2.1.flatMap di,recs:=g.recs+1,rl:=dm g.rows g.rl ⟨r.kind,r.bytes⟩,rows:=fV g.rows g.rl ⟨r.kind,r.bytes⟩ },0)
structure GgOk(g:Gg):Prop where
 R:Rch g.s
 kept:g.s.kept.length<=40000
 rl:g.rl.ok
 rows:g.rows.length<=549755813888
 seg:g.rl.seg<2147483647
 recs:0<=g.recs/\g.recs<=1000000000
 pend:g.pend.length<=1000000000
 prb:jA g.p
structure GA where
 x:GAd
 pb:Nat
 ys:List Oy
def gateA(Q:aE)(gb db:Nat)(g:Gg):aE:=exS λy:GA=>star [pur (y.x.pv=PA y.pb 0/\y.ys.map Oy.o=g.pend/\∀z∈y.ys,gh Q z),cellsA gb (kY g.o y.x y.ys.length g.recs) 110,stA Q y.x.sb g.s,
 slA 91 11 y.x.pa y.ys.length y.x.pc (flat bH y.ys),bookA y.x.bb y.x.rb g.saved g.num g.seg,reelA y.x.rb db g.rl,diskX db g.rows g.syn,prbA y.pb g.p]
section
variable {F L:List aE}{H:aC}{K:KE}{Q:aE}{gb db:Nat}{g:Gg}
theorem fP:aA H (gateA Q gb db g::F)↔∃(x:GAd) (pb:Nat) (ys:List Oy),x.pv=PA pb 0/\ys.map Oy.o=g.pend/\(∀z∈ys,gh Q z)/\
  aA H (cellsA gb (kY g.o x ys.length g.recs) 110::stA Q x.sb g.s::slA 91 11 x.pa ys.length x.pc (flat bH ys)::bookA x.bb x.rb g.saved g.num g.seg::reelA x.rb db g.rl::diskX db g.rows g.syn::prbA pb g.p::F):=by
 unfold gateA;rw[cJ]
 constructor
 .rintro⟨y,h⟩;obtain⟨a,h⟩:=yx.1 (aA.open h);exact⟨y.x,y.pb,y.ys,a.1,a.2.1,a.2.2,h⟩
 .rintro⟨x,pb,ys,h1,h2,h3,h⟩;exact⟨⟨x,pb,ys⟩,aA.shut [_,_,_,_,_,_,_,_] (h.pur ⟨h1,h2,h3⟩)⟩
theorem mV{A B:aE}(h:aA H (B::A::F)):aA H (A::B::F):=h.o [1,0] 2
theorem B4{s:aI}{r:Rp}(R:Rch s)(j:∀e∈r.evs,aF e.value):(∀e∈(bN s r).2.1,e.kind=4->WC e.out.2/\e.out.1.ser.size<=1000000)/\(bN s r).2.1.length<=1000000:=by
 constructor
 .refine ov (P:=λq=>∀e∈q.2.1,e.kind=4->WC e.out.2/\e.out.1.ser.size<=1000000) (λ_ e a=>UY a (by simp)) (λ_ _ e a=>UY a (by simp)) (λ_ _ _ e a=>UY a (by simp)) (λ_ _ _ e a f=>?_) (λ_ _ _ e a=>UY a (by simp)) (λ_ _ _ e a f=>?_) (λ_ _ _ e a=>UY a (by simp)) (λ_ _ _ e a f=>?_) (λ_ _ _ e a=>UY a (by simp))
  .have:=L2 e a;omega
  .have:=Ly e a;omega
  .obtain⟨q,c,rfl⟩:=VU a;have c:q<(dR s.next (dr s r.nw) (dr s r.nw).length).length:=c;have b:q<(dr s r.nw).length:=by rw[nN]at c;exact c
   have h:(dR s.next (dr s r.nw) (dr s r.nw).length)[q].out=(dr s r.nw)[q]:=by
    rw[xz];dsimp only;rw[WN,List.getElem?_eq_getElem b];rfl
   have hm:(dr s r.nw)[q]∈s.cm:=By (AS (Vk b));have d:=R.cm _ hm;show WC (dR s.next (dr s r.nw) (dr s r.nw).length)[q].out.2/\(dR s.next (dr s r.nw) (dr s r.nw).length)[q].out.1.ser.size<=1000000;rw[h];have:=d.size;exact⟨d.wc,by omega⟩
 .cases hR:r.right with
  | false=>
   have:(bN s r).2.1=[]:=by unfold bN;rw[UX hR]
   rw[this];simp
  | true=>
   have i:=Rp.right_len hR;have:(bN s r).2.1.length<=2000:=B2 R.ok (by omega);omega
theorem B5{r:Rp}{a:KQ}{c:Nat}{evs:List Ev}(ok:GgOk g)(b:om Q F r a evs)(h:aA H (Q::gateA Q gb db g::F))
  (k:∀Q' d,aM Q Q'->aA d (Q'::gateA Q' gb db (cF g r).1::F)->K (aD (cF g r).2) d):CF 47 #[PA gb 0,.agg ⟨df r a c⟩] H K:=by
 obtain⟨x,pb,ys,e1,e2,e3,h⟩:=fP.1 (h.o [1,0] 2);have m:ys.length=g.pend.length:=by rw[<-e2,Vl]
 have j:=B4 (r:=r) ok.R b.vals;have i:om Q (prbA pb g.p::F) r a evs:=⟨b.eq,λH h=>b.rd H h.tl,b.labs,b.len,b.vals⟩
 have h:=h.o [7,0,1,2,3,4,5,6] 8;refine Kw ok.R.ok (by have:=ok.R.sunk;omega) (by have:=ok.kept;omega) i j.1 j.2 ok.rl ok.rows ok.seg ok.recs (by have:=ok.pend;omega) e3 h (λf Q' d hs h=>?_) λf Q' s pa pc d hs hm e h=>?_
 .unfold cF at k;rw[UX f]at k;refine k Q' _ hs ?_;have h:=h.o [1,2,3,4,5,6,7,0] 8;exact mV (fP.2 ⟨x,pb,ys,e1,e2,λz n=>(e3 z n).sub hs,h⟩)
 .unfold cF at k;rw[UW (by rw[f];decide)]at k;refine k Q' _ hs ?_;have h:=h.o [1,2,3,4,5,6,7,0] 8;exact mV (fP.2 ⟨{ x with pa:=pa,pc:=pc },pb,s,e1,by rw[hm,e2],e,h⟩)
def qI(next:Int):Rp:=⟨7,0,0,0,next,0,0,bP.z,[]⟩
def fj(now:Int):Rp:=⟨6,0,0,0,0,0,now,bP.z,[]⟩
theorem recN{r:Rp}(h:r.evs=[]):om Q F r none []:=⟨by rw[h];rfl,λH _=>ip H none,λe a=>UY a (by simp),by simp,λe a=>by rw[h]at a;cases a⟩
theorem LZ{next:Int}(ok:GgOk g)(h:aA H (Q::gateA Q gb db g::F))
  (k:∀Q' a,aM Q Q'->aA a (Q'::gateA Q' gb db (cF g (qI next)).1::F)->K (aD (cF g (qI next)).2) a):CF 25 #[PA gb 0,aD next] H K:=by
 refine cM 25 28 ?_;exact B5 (r:=qI next) ok (recN rfl) h λQ' a hs h=>⟨_,rfl,k Q' _ hs h⟩
theorem uI(ok:GgOk g)(h:aA H (gateA Q gb db g::F))(k:∀sb a,aA a (stA Q sb g.s::gateA Q gb db g::F)->K (PA sb 0) a):CF 12 #[PA gb 0] H K:=by
 obtain⟨x,pb,ys,e1,e2,e3,h⟩:=fP.1 h;refine cM 12 28 ⟨some ⟨x.sb,0,none⟩,h.r 0,?_⟩;have h:=h.o [1,0,2,3,4,5,6] 7;refine T6 (by have:=ok.kept;omega) ok.R.ok h λsb b h=>⟨_,rfl,k sb _ ?_⟩
 have h:=h.o [2,1,3,4,5,6,7,0] 8;exact mV (fP.2 ⟨x,pb,ys,e1,e2,e3,h⟩)
theorem xF(h:aA H (gateA Q gb db g::F)):bU Tryz.prog 26 #[PA gb 0] H (aD (g.pend.length:Nat)):=by
 obtain⟨x,pb,ys,e1,e2,e3,h⟩:=fP.1 h;unfold bU;refine cM 26 28 ⟨_,_,_,h.r 0,?_,rfl⟩;rw[<-e2,Vl];rfl
def jc(f:Fq)(agent now asked:Int):Rp:=
 if f.kind=1 then ⟨2,agent,f.ep,f.bt,0,0,now,bP.z,[]⟩ else
 if f.kind=4 then ⟨3,agent,f.ep,0,0,0,0,⟨asked,f.got,f.sent,now⟩,[]⟩ else
 if f.kind=5 then ⟨4,agent,f.ep,0,f.next,0,now,bP.z,f.evs⟩ else ⟨5,agent,f.ep,0,f.next,f.stamp,now,bP.z,[]⟩
def lR(g:Gg)(f:Fq)(agent now:Int):Gg×Int:=
 if ¬(f.kind=1\/f.kind=4\/f.kind=5\/f.kind=7) then (g,16) else
 if f.ag≠agent then (g,10) else
 if f.kind=4 then
  if (fD g.p agent f.ep f.bt f.ct).2.1≠0 then ({ g with p:=(fD g.p agent f.ep f.bt f.ct).2.2 },(fD g.p agent f.ep f.bt f.ct).2.1)
  else cF { g with p:=(fD g.p agent f.ep f.bt f.ct).2.2 } (jc f agent now (fD g.p agent f.ep f.bt f.ct).1)
 else cF g (jc f agent now 0)
def jd(g:Gg)(agent now:Int)(bs:List Int):Gg×Int:=match gA bs with
 | .error e=>(g,e)
 | .ok f=>lR g f agent now
theorem B6{p:Pb}(h:jA p)(ag ep n0 n1:Int):jA (fD p ag ep n0 n1).2.2:=by
 unfold fD
 split
 .exact h
 .split
  .exact h
  .split
   .exact h
   .split
    .exact h
    .refine⟨h.count,h.most,?_,h.last,h.boot⟩;have:=h.out;simp only[UZ,Vx,Vt];omega
theorem xG{Q':aE}(hs:aM Q Q')(h:aA H (gateA Q gb db g::F)):aA H (gateA Q' gb db g::F):=by
 obtain⟨x,pb,ys,e1,e2,e3,h⟩:=fP.1 h;have h:=sq hs (h.o [1,0,2,3,4,5,6] 7);exact fP.2 ⟨x,pb,ys,e1,e2,λz a=>(e3 z a).sub hs,h.o [1,0,2,3,4,5,6] 7⟩
theorem Mb:∀{n:Nat} {s c:RS} {l:List Pv},j7 n s=.ok (l,c)->∀e∈l,aF e.value
 | 0,s,c,l,h=>by cases h;simp
 | n+1,s,c,l,h=>by
  unfold j7 at h
  split at h
  .cases h
  .rename_i f s1 d
   split at h
   .cases h
   .rename_i v s2 b
    cases h
    intro e a
    rcases Vz.1 a with a|a
    .exact Mb d e a
    .rw [Vo]at a;subst a;unfold evQ okR at b
     split at b
     .cases b
     .cases b
      exact rJ _
theorem UB{bs:List Int}{f:Fq}(h:gA bs=.ok f):fx f=true:=by
 unfold gA at h
 split at h
 .cases h
 split at h
 .cases h
 unfold nK at h
 split at h
 .cases h
 split at h
 .cases h
 unfold endQ at h
 split at h
 .cases h
 split at h
 .cases h
 split at h
 .rename_i a
  cases h
  exact a
 .cases h
theorem Mc{bs:List Int}{f:Fq}(h:gA bs=.ok f):∀e∈f.evs,aF e.value:=by
 unfold gA at h
 split at h
 .cases h
 split at h
 .cases h
 unfold nK at h
 split at h
 .cases h
 split at h
 .cases h
 rename_i d s1 k x2 i s2 j;unfold endQ at h
 split at h
 .cases h
 rename_i m s3 a
 split at h
 .cases h
 split at h
 .cases h
  obtain⟨a1,a2,a3,a4,a5⟩:=wT (aU d) i { kind:=d };unfold mH at a
  split at a
  .split at a
   .cases a
   .rename_i l s4 c
    cases a
    unfold mG at c
    split at c
    .cases c
    .exact Mb c
  split at a
  .split at a
   .cases a
   .unfold okR at a
    split at a
    .cases a
    .cases a
     intro e b;dsimp only at b;rw[a2]at b
     cases b
  .cases a
   intro e b;rw[a2]at b
   cases b
 .cases h
theorem sE{agent now:Int}{a:KQ}{c:Nat}{bs:List Int}(ok:GgOk g)(h:aA H (Q::gateA Q gb db g::F))(ha:∀H,aA H F->aP H a (bs.map U8))(hb:aH bs)(j:bs.length<=c)
  (k:∀Q' C,aM Q Q'->aA C (Q'::gateA Q' gb db (jd g agent now bs).1::F)->K (aD (jd g agent now bs).2) C) :
  CF 21 #[PA gb 0,aD agent,aD now,.slice a bs.length c] H K:=by
 refine cN 21 0x11d1215174174174134cd2171d49c [[],[],[],[]] ?_;refine AU h (λH h=>ha H h.tl.tl) hb j ?_
 unfold jd at k
 cases hd:gA bs with
 | error e=>
  rw[hd]at k;intro Q' H1 m hs h;refine⟨_,_,_,_,_,_,_,_,_,_,_,_,_,_,_,_,_,_,_,_,_,rfl,h.al λb _ h=>?_⟩
  refine h.st 0 rfl rfl λH2 h=>⟨λ_=>?_,λj=>UY (by simpa using j) m⟩
  exact k Q' _ hs (mV (xG hs (mV h.tl)))
 | ok f=>
  rw[hd]at k;dsimp only at k;have I:=Mc hd;intro Q' x evs H1 hs S j1 U h;refine⟨_,_,_,_,_,_,_,_,_,_,_,_,_,_,_,_,_,_,_,_,_,rfl,h.al λb _ h=>?_⟩
  refine h.st 0 rfl rfl λH2 h=>⟨λj=>UY j (by simp),λ_=>⟨_,h.r 0,?_⟩⟩
  refine h.al λb1 _ h=>h.st 0 rfl rfl λH3 h=>⟨_,h.r 1,?_⟩
  have h:aA H3 (cellsA b1 (df ⟨0,agent,f.ep,0,0,0,now,bP.z,[]⟩ none 0) 61::cellsA b (cH f x) 81::Q'::slA 99 4 x.ea evs.length x.ec (flat cw evs)::gateA Q gb db g::F):=h;have h:=xG hs (h.o [4,0,1,2,3] 5);have h:=h.o [1,2,3,4,0] 5;have L:f.evs.length=evs.length:=by rw[S,Vl]
  have Z:evs.length<=1000000:=by
   by_cases t:f.kind=5
   .have:=Jx (UB hd) t;omega
   .have:=(U.ev t).1;rw[this]at L;simp at L;omega
  intro Jn hJ;have Y:∀(g':Gg) (r:Rp) (v:KQ) (rc:Nat) (w:List Ev) C,GgOk g'->lR g f agent now=cF g' r->r.evs=w.map Ev.p->(w=[]/\v=none\/w=evs/\v=x.ea)->(∀e∈r.evs,aF e.value)->
    aA C (cellsA b1 (df r v rc) 61::cellsA b (cH f x) 81::Q'::slA 99 4 x.ea evs.length x.ec (flat cw evs)::gateA Q' gb db g'::F)->
    ∃f0 f1 f2 f3 f4 f5 f6 f7 f8 f9 N T W M,bD C b1 0 [aD f0,aD f1,aD f2,aD f3,aD f4,aD f5,aD f6,aD f7,aD f8,aD f9,aD N,.slice T W M]/\
     CF 47 #[PA gb 0,.agg #[aD f0,aD f1,aD f2,aD f3,aD f4,aD f5,aD f6,aD f7,aD f8,aD f9,aD N,.slice T W M]] C λu H2=>∃V,u=aD V/\K (aD V) H2:=by
   intro g' r v rc w C j3 n m i hv h;refine⟨_,_,_,_,_,_,_,_,_,_,_,_,_,_,h.q 0,?_⟩;have h:=h.o [2,4,0,1,3] 5;have hr:om Q' (cellsA b1 (df r v rc) 61::cellsA b (cH f x) 81::slA 99 4 x.ea evs.length x.ec (flat cw evs)::F) r v w:=by
    rcases i with ⟨rfl,rfl⟩|⟨rfl,rfl⟩
    .exact⟨m,λH h=>ip H none,λe m=>UY m (by simp),by simp,hv⟩
    .exact⟨m,λH h=>h.sl_rd 2 rfl,j1,Z,hv⟩
   refine B5 j3 hr h λQ2 H2 j2 h=>⟨_,rfl,?_⟩
   rw[n]at k;exact k Q2 _ (hs.trans j2) (h.o [0,1] 5)
  have G:f.kind=1\/f.kind=4\/f.kind=5\/f.kind=7->f.ag=agent->f.kind≠4->lR g f agent now=cF g (jc f agent now 0):=by
   intro B h2 h3;unfold lR;rw[UW (λA=>A B),UW (λA=>A h2),UW h3]
  have rest:∀(r:Rp) (v:KQ) (rc:Nat) (w:List Ev) C,(f.kind=1\/f.kind=4\/f.kind=5\/f.kind=7)->(f.kind≠4->r=jc f agent now 0)->(f.kind=4->r=⟨3,agent,f.ep,0,0,0,0,bP.z,[]⟩)->r.evs=w.map Ev.p->(w=[]/\v=none\/w=evs/\v=x.ea)->(∀e∈r.evs,aF e.value)->
    aA C (cellsA b1 (df r v rc) 61::cellsA b (cH f x) 81::Q'::slA 99 4 x.ea evs.length x.ec (flat cw evs)::gateA Q' gb db g::F)->Jn C:=by
   intro r v rc w C hk h9 s m i hv h;refine hJ _ ⟨_,h.r 1,λj=>?_,λj=>?_⟩
   .have n:lR g f agent now=(g,10):=by unfold lR;rw[UW (λA=>A hk),UX (by simpa using j)]
    rw[n]at k;exact k Q' _ hs (h.o [2,4] 5)
   have h0:f.ag=agent:=by simpa using j
   refine⟨_,h.r 1,?_⟩;intro l6 h6;refine⟨λd=>?_,λd=>h6 _ ?_⟩
   .have d:=Va d;have hr:=s d;subst hr;have P:w=[]:=by simpa using m.symm
    have h8:v=none:=by
     rcases i with ⟨_,e⟩|⟨e1,e2⟩
     .exact e
     .rw [e2];exact (U.ev (by omega)).2.1
    subst P h8;obtain⟨y,pb,ys,e1,e2,e3,h⟩:=fP.1 (h.o [4,0,1,2,3] 5);refine⟨some ⟨pb,0,none⟩,(h.r 0).trans (by show some y.pv=_;rw[e1]),_,h.r 8,_,h.r 8,_,h.r 8,?_⟩;have h:=h.o [6,0,1,2,3,4,5,7,8,9,10] 11;have n:lR g f agent now=if (fD g.p agent f.ep f.bt f.ct).2.1≠0 then ({ g with p:=(fD g.p agent f.ep f.bt f.ct).2.2 },(fD g.p agent f.ep f.bt f.ct).2.1) else cF { g with p:=(fD g.p agent f.ep f.bt f.ct).2.2 } (jc f agent now (fD g.p agent f.ep f.bt f.ct).1):=by
     unfold lR;rw[UW (λA=>A hk),UW (λA=>A h0),UX d]
    refine T5 ok.prb h λH4 h=>⟨_,_,rfl,λj=>?_,λj=>?_⟩
    .have j:(fD g.p agent f.ep f.bt f.ct).2.1≠0:=by simpa using j
     rw[UX j]at n;rw[n]at k;refine k Q' _ hs (mV ((fP (g:={ g with p:=(fD g.p agent f.ep f.bt f.ct).2.2 })).2 ⟨y,pb,ys,e1,e2,e3,h.o [1,2,3,4,5,6,0,9] 11⟩))
    have j:(fD g.p agent f.ep f.bt f.ct).2.1=0:=by simpa using j
    rw[UW (by rw[j];decide)]at n;refine⟨_,h.r 8,_,h.r 8,h.st 7 rfl rfl λH5 h=>⟨h.r 8,h.r 8,?_⟩⟩
    refine h.st 7 rfl rfl λH6 h=>⟨h.r 8,h.st 7 rfl rfl λH7 h=>?_⟩
    refine h.st 7 rfl rfl λH8 h=>h6 _ ?_
    have hg:=(fP (g:={ g with p:=(fD g.p agent f.ep f.bt f.ct).2.2 })).2 ⟨y,pb,ys,e1,e2,e3,h.o [1,2,3,4,5,6,0,7,8,9,10] 11⟩;have eR:jc f agent now (fD g.p agent f.ep f.bt f.ct).1=⟨3,agent,f.ep,0,0,0,0,⟨(fD g.p agent f.ep f.bt f.ct).1,f.got,f.sent,now⟩,[]⟩:=by
     unfold jc;rw[nO,UX d]
    rw[eR]at n;exact Y { g with p:=(fD g.p agent f.ep f.bt f.ct).2.2 } _ none rc [] _ ⟨ok.R,ok.kept,ok.rl,ok.rows,ok.seg,ok.recs,ok.pend,B6 ok.prb _ _ _ _⟩ n rfl (.inl ⟨rfl,rfl⟩) (λe m=>UY m (by simp)) (hg.o [1,2,3,4,0] 5)
   .have d:=Vb d;have n:=G hk h0 d;rw[<-h9 d]at n;exact Y g r v rc w _ ok n m i hv h
  refine⟨λB=>?_,λB=>?_⟩
  .have B:=Va B;refine⟨_,h.r 1,h.st 0 rfl rfl λH4 h=>⟨h.r 1,?_⟩⟩
   refine h.st 0 rfl rfl λH5 h=>rest ⟨2,agent,f.ep,f.bt,0,0,now,bP.z,[]⟩ none 0 [] _ (.inl B) (λ_=>by unfold jc;rw[UX B]) (λs=>by omega) rfl (.inl ⟨rfl,rfl⟩) (λe m=>UY m (by simp)) h
  have B:=Vb B;intro l5 E;refine⟨λs=>?_,λs=>?_⟩
  .have s:=Va s;refine h.st 0 rfl rfl λH4 h=>h.st 0 rfl rfl λH5 h=>E _ ?_
   exact rest ⟨3,agent,f.ep,0,0,0,0,bP.z,[]⟩ none 0 [] _ (.inr (.inl s)) (λA=>UY s A) (λ_=>rfl) rfl (.inl ⟨rfl,rfl⟩) (λe m=>UY m (by simp)) h
  have s:=Vb s;intro l0 O;refine⟨λt=>?_,λt=>⟨λJ=>?_,λJ=>?_⟩⟩
  .have t:=Va t;refine⟨_,h.r 1,_,_,_,h.r 1,h.st 0 rfl rfl λH4 h=>⟨h.r 1,h.r 1,?_⟩⟩
   refine h.st 0 rfl rfl λH5 h=>⟨h.r 1,h.st 0 rfl rfl λH6 h=>O _ (E _ ?_)⟩
   exact rest ⟨4,agent,f.ep,0,f.next,0,now,bP.z,f.evs⟩ x.ea x.ec evs _ (.inr (.inr (.inl t))) (λ_=>by unfold jc;rw[UW B,UW s,UX t]) (λD=>UY D s) S (.inr ⟨rfl,rfl⟩) I h
  .have J:=Va J;have t:=Vb t;refine⟨_,h.r 1,_,h.r 1,h.st 0 rfl rfl λH4 h=>⟨h.r 1,h.r 1,?_⟩⟩
   refine h.st 0 rfl rfl λH5 h=>⟨h.r 1,h.st 0 rfl rfl λH6 h=>O _ (E _ ?_)⟩
   exact rest ⟨5,agent,f.ep,0,f.next,f.stamp,now,bP.z,[]⟩ none 0 [] _ (.inr (.inr (.inr J))) (λ_=>by unfold jc;rw[UW B,UW s,UW t]) (λD=>UY D s) rfl (.inl ⟨rfl,rfl⟩) (λe m=>UY m (by simp)) h
  .have t:=Vb t;have J:=Vb J;have n:lR g f agent now=(g,16):=by unfold lR;rw[pO]
   rw[n]at k;exact k Q' _ hs (h.o [2,4] 5)
end
def gj(g:Gg):DR:=if g.saved=true/\¬((g.rl.next:Int)<=g.num) then iy g.seg g.rows else g.rows
def je(g:Gg):Gg:=
 if g.o.save<=g.recs/\(stB g.s).length<=262144 then
  { g with pend:=[],recs:=0,saved:=true,num:=g.rl.next,seg:=g.rl.seg+1,rl:={ g.rl with syn:=g.rl.next,seg:=g.rl.seg+1,next:=g.rl.next+1 },rows:=gj g++(bM ⟨0,stB g.s⟩).map λb=>(g.rl.seg+1,b),syn:=(gj g).length }
 else { g with pend:=[],rl:={ g.rl with syn:=g.rl.next },rows:=gj g,syn:=(gj g).length }
theorem UC(g:Gg):∀r∈gj g,r∈g.rows:=by
 unfold gj
 split
 .intro r a;exact (Wd.1 a).1
 .intro r a;exact a
theorem UD(g:Gg):(gj g).length<=g.rows.length:=by
 unfold gj
 split
 .exact WV _ _
 .exact Vg _
section
variable {F L:List aE}{H:aC}{K:KE}{Q:aE}{gb db:Nat}{g:Gg}
theorem UE{bb b n c f:Nat}{a:KQ}(h:aA H F)(i:Nat)(s:aW i F=cellsA b [.slice a n c] 43)(t:262144<n)(m:n<=1099511627776)(k:K (.tuple #[aD (-1),aD 17]) H) :
  CF 42 #[PA bb 0,.slice (some ⟨b,0,none⟩) 1 f] H K:=by
 refine cN 42 0x112156123992511b421b1d1c [[(6,sI),(15,sI)]] ?_;refine⟨λsize i e=>size=0/\i=0/\e=H,λ_ _ _=>0,⟨rfl,rfl,rfl⟩,?_⟩
 rintro size i e ⟨rfl,rfl,rfl⟩;refine⟨λ_=>?_,λj=>UY j (by decide)⟩
 refine⟨by decide,_,_,rfl,_,_,_,h.rd i s _,λd=>?_,λd=>?_⟩
 .exact k
 .have d:=Vb d;rw[aJ]at d;omega
theorem BTrimAny{bb rb:Nat}{saved:Bool}{num seg:Int}{s:RL}{rows:DR}(i:rows.length<=1099511627776)(h:aA H (bookA bb rb saved num seg::reelA rb db s::diskX db rows rows.length::F))
  (k:∀e c R,R=(if saved=true/\¬((s.syn:Int)<=num) then iy seg rows else rows)->aA c (bookA bb rb saved num seg::reelA rb db s::diskX db R R.length::F)->K (aD e) c):CF 41 #[PA bb 0] H K:=by
 refine Qm i (Vg _) h (λa=>k 19 H rows ?_ h) (λa b=>k 21 H rows ?_ h) (λa b d=>UY d (by omega)) λa b d c h=>k 0 c (iy seg rows) ?_ h
 .rw [UW (by rw[a];simp)]
 .rw [UW (λf=>f.2 b)]
 .rw [UX ⟨a,b⟩]
theorem B7(ok:GgOk g)(I:∀r∈g.rows,r.1<=g.rl.seg)(h:aA H (Q::gateA Q gb db g::F))
  (k:∀ys a c D,ys.map Oy.o=g.pend->(∀y∈ys,gh Q y)->aA D (Q::slA 91 11 a ys.length c (flat bH ys)::gateA Q gb db (je g)::F)->K (.slice a ys.length c) D) :
  CF 13 #[PA gb 0] H K:=by
 obtain⟨x,pb,ys,e1,e2,e3,h⟩:=fP.1 (mV h);refine cN 13 76861503970953628 [[],[]] ⟨some ⟨x.bb,0,none⟩,h.r 0,some ⟨x.rb,0,none⟩,h.r 3,?_⟩;have h:=h.o [4,5,0,1,2,3,6,7] 8;refine G2 h λP h=>⟨rfl,some ⟨x.bb,0,none⟩,h.r 2,?_⟩
 have h:=h.o [5,0,1,2,3,4,6,7] 8;have L:=UD g;refine BTrimAny (by have:=ok.rows;omega) h λe O R B h=>⟨_,rfl,?_⟩
 have B:R=gj g:=B;subst B;refine⟨_,_,_,h.r 3,?_⟩;refine h.st 3 rfl rfl λJ h=>⟨_,h.r 3,_,h.r 3,?_⟩
 have h:aA J (bookA x.bb x.rb g.saved g.num g.seg::reelA x.rb db { g.rl with syn:=g.rl.next }::diskX db (gj g) (gj g).length::cellsA gb (kY g.o { x with pa:=none,pc:=0 } 0 g.recs) 110::stA Q x.sb g.s::slA 91 11 x.pa ys.length x.pc (flat bH ys)::prbA pb g.p::Q::F):=h;have d:=λ{H:aC} {F:List aE} (h:aA H F)=>h.sl_nil 91 11
 intro T C;refine⟨λj=>?_,λj=>C _ ?_⟩
 .have j:=Va j;refine⟨some ⟨x.bb,0,none⟩,h.r 3,some ⟨x.sb,0,none⟩,h.r 3,?_⟩;have h:=h.o [7,4,0,1,2,3,5,6] 8;refine Bi ok.R.ok ok.R.ser (by have:=ok.kept;omega) h λba bc S h=>⟨_,_,_,rfl,h.r 6,?_⟩
  refine h.al λb1 _ h=>⟨h.r 7,?_⟩
  by_cases hl:(stB g.s).length<=262144
  .have h:=h.o [4,5,6,0,1,2,3,7,8,9] 10;have f:([(⟨ba,bc,stB g.s⟩:Fy)]:List Fy).flatMap Fy.bs=stB g.s:=by simp
   have w:({ g.rl with syn:=g.rl.next }:RL).ok:=⟨ok.rl.seg,ok.rl.most,ok.rl.next,ok.rl.next⟩;refine Ql (parts:=[⟨ba,bc,stB g.s⟩]) w ok.seg (λr M=>I r (UC g r M)) (by have:=ok.rows;omega) h (λH h=>h.ce_rd 0 rfl) (λH h y E=>by rw[Vo]at E;subst E;exact h.sl_rd 1 rfl) (by rw[f];exact xv _) (by simp) (by rw[f];exact hl) λU h=>⟨_,_,rfl,?_⟩
   rw[f]at h;intro v m;refine⟨λ_=>?_,λA=>UY A (by simp)⟩
   refine h.st 7 rfl rfl λN h=>m _ (C _ ?_)
   have i:je g={ g with pend:=[],recs:=0,saved:=true,num:=g.rl.next,seg:=g.rl.seg+1,rl:={ g.rl with syn:=g.rl.next,seg:=g.rl.seg+1,next:=g.rl.next+1 },rows:=gj g++(bM ⟨0,stB g.s⟩).map λb=>(g.rl.seg+1,b),syn:=(gj g).length }:=by
    unfold je;rw[UX ⟨j,hl⟩]
   have h:=(d (h.o [7,6,0,1,2,9,5,8] 10)).o [1,2,0,3,4,5,6,7,8] 9;have n:=(fP (Q:=Q) (g:=je g)).2 ⟨{ x with pa:=none,pc:=0 },pb,[],e1,by rw[i];rfl,λz t=>UY t (by simp),by rw[i];exact h⟩
   exact k ys _ _ _ e2 e3 (n.o [1,2,0] 3)
  .have G:=xE ok.R.ok ok.R.ser (by have:=ok.kept;omega);refine UE h 0 rfl (by omega) (by omega) ⟨_,_,rfl,?_⟩;intro v m;refine⟨λA=>UY A (by decide),λ_=>m _ (C _ ?_)⟩
   have i:je g={ g with pend:=[],rl:={ g.rl with syn:=g.rl.next },rows:=gj g,syn:=(gj g).length }:=by
    unfold je;rw[UW (λu=>hl u.2)]
   have h:=(d (h.o [7,3,4,5,6,9,2,8] 10)).o [1,2,0,3,4,5,6,7,8] 9;have n:=(fP (Q:=Q) (g:=je g)).2 ⟨{ x with pa:=none,pc:=0 },pb,[],e1,by rw[i];rfl,λz t=>UY t (by simp),by rw[i];exact h⟩
   exact k ys _ _ _ e2 e3 (n.o [1,2,0] 3)
 .have j:=Vb j;have i:je g={ g with pend:=[],rl:={ g.rl with syn:=g.rl.next },rows:=gj g,syn:=(gj g).length }:=by
   unfold je;rw[UW (λu=>j u.1)]
  have h:=(d (h.o [3,4,0,1,2,6,7,5] 8)).o [1,2,0,3,4,5,6,7,8] 9;have n:=(fP (Q:=Q) (g:=je g)).2 ⟨{ x with pa:=none,pc:=0 },pb,[],e1,by rw[i];rfl,λz t=>UY t (by simp),by rw[i];exact h⟩
  exact k ys _ _ _ e2 e3 (n.o [1,2,0] 3)
end
def dJ(s:aI)(now period:Int)(p:Pb):Nat->Pb×List Ou
 | 0=>(p,[])
 | n+1=>if (kW s (n:Nat)).2=true/\dueP (dJ s now period p n).1 (n:Nat) now period=true then
   (sndP (dJ s now period p n).1 (n:Nat) (kW s (n:Nat)).1.en.epoch now,(dJ s now period p n).2++[gU (dV (n:Nat) (dJ s now period p n).1.boot (dJ s now period p n).1.count)])
  else dJ s now period p n
def dB(g:Gg)(now:Int):Gg×List Ou×Int:=
 if (cF g (fj now)).2≠0 then ((cF g (fj now)).1,[],(cF g (fj now)).2) else
 ({ (cF g (fj now)).1 with p:=(dJ (cF g (fj now)).1.s now g.o.period g.p 64).1 },(dJ (cF g (fj now)).1.s now g.o.period g.p 64).2,0)
theorem mem_mset{k v:Int}{m:List (Int×Int)}{x:Int×Int}(h:x∈mset k v m):x=(k,v)\/x∈m:=by
 unfold mset at h
 rcases Vm.1 h with h|h
 .exact .inl h
 .exact .inr (Wd.1 h).1
theorem sndP_ok{p:Pb}(h:jA p)(d:p.count<1000000000000){ag ep now:Int}(c:0<=now/\now<=4611686018427387903):jA (sndP p ag ep now):=by
 have f:=h.count;have e:=h.out;have i:=h.most;refine⟨?_,h.most,?_,λx b=>?_,h.boot⟩
 .show 0<=p.count+1/\p.count+1<=1000000000000;omega
 .unfold sndP;dsimp only
  split
  .rename_i a;simp only[Vt,UZ,Vf,Vy]at a ⊢;omega
  .rename_i a;simp only[UZ,Vf,Vy]at a ⊢;omega
 .rcases mem_mset b with rfl|b
  .exact c
  .exact h.last x b
theorem B8{s:aI}{now period:Int}{p:Pb}(h:jA p)(b:p.count+64<=1000000000000)(a:0<=now/\now<=4611686018427387903):∀n,n<=64->jA (dJ s now period p n).1/\(dJ s now period p n).1.count<=p.count+n/\(dJ s now period p n).2.length<=n
 | 0,_=>⟨h,by show p.count<=p.count+((0:Nat):Int);omega,Vg _⟩
 | n+1,hl=>by
  obtain⟨a1,a2,a3⟩:=B8 h b a n (by omega);unfold dJ
  split
  .refine⟨sndP_ok a1 (by omega) a,?_,?_⟩
   .show (dJ s now period p n).1.count+1<=_;omega
   .simp only[UZ,Vf,Vy];omega
  .exact⟨a1,by omega,by omega⟩
section
variable {F L:List aE}{H:aC}{K:KE}{Q:aE}{gb db:Nat}{g:Gg}
theorem UF{now:Int}(ok:GgOk g)(O:GgOk (cF g (fj now)).1)(hc:g.p.count+64<=1000000000000)(S:(cF g (fj now)).2=0->0<=now/\now<=4611686018427387903)
  (U:∀a:Nat,a<64->(kW (cF g (fj now)).1.s a).2=true->1<=(kW (cF g (fj now)).1.s a).1.en.epoch/\(kW (cF g (fj now)).1.s a).1.en.epoch<=1099511627776)
  (h:aA H (Q::gateA Q gb db g::F))
  (k:∀Q' ys a c f,aM Q Q'->ys.map Oy.o=(dB g now).2.1->(∀y∈ys,gh Q' y)->aA f (Q'::slA 91 11 a ys.length c (flat bH ys)::gateA Q' gb db (dB g now).1::F)->K (.tuple #[.slice a ys.length c,aD (dB g now).2.2]) f) :
  CF 23 #[PA gb 0,aD now] H K:=by
 refine cN 23 0x121b12156123992a11213992821399144c [[(11,sA),(12,sI)],[(7,sS)],[(7,sS),(21,sI)]] ?_;refine B5 (r:=fj now) ok (recN rfl) h λQ1 H1 W h=>⟨_,rfl,λw=>?_,λw=>?_⟩
 .have he:(cF g (fj now)).2≠0:=by simpa using w
  unfold dB at k;rw[UX he]at k;exact k Q1 [] none 0 _ W rfl (λy hy=>UY hy (by simp)) ((h.sl_nil 91 11).o [1,0,2] 3)
 have he:(cF g (fj now)).2=0:=by simpa using w
 have hn:=S he;have ep:(cF g (fj now)).1.p=g.p:=by unfold cF;split <;> rfl
 have eo:(cF g (fj now)).1.o=g.o:=by unfold cF;split <;> rfl
 unfold dB at k;rw[UW (by rw[he];decide)]at k;obtain⟨g1,h4⟩:∃g1,(cF g (fj now)).1=g1:=⟨_,rfl⟩;rw[h4]at k h O U ep eo;have h1:jA g.p:=ok.prb;refine⟨λla ln lc i f=>∃(j:Nat) (ys:List Oy) (Q':aE),i=j/\j<=64/\ln=ys.length/\aM Q Q'/\ys.map Oy.o=(dJ g1.s now g.o.period g.p j).2/\(∀y∈ys,gh Q' y)/\
   aA f (Q'::slA 91 11 la ys.length lc (flat bH ys)::gateA Q' gb db { g1 with p:=(dJ g1.s now g.o.period g.p j).1 }::F),
  λ_ _ _ i _=>64-i.toNat,⟨0,[],Q1,rfl,by omega,rfl,W,rfl,λy hy=>UY hy (by simp),?_⟩,?_⟩
 .have e:({ g1 with p:=(dJ g1.s now g.o.period g.p 0).1 }:Gg)=g1:=by
   show ({ g1 with p:=g.p }:Gg)=g1;rw[<-ep]
  rw[e];exact (h.sl_nil 91 11).o [1,0,2] 3
 rintro la ln lc i H2 ⟨j,ys,d,rfl,hj,rfl,J,hm,L,h⟩;obtain⟨po,pc,pl⟩:=B8 (s:=g1.s) (period:=g.o.period) h1 hc hn j hj;have h7:ys.length<=64:=by
  have:=congrArg List.length hm;rw[Vl]at this;omega
 refine⟨λn=>?_,λn=>?_⟩
 .have n:j<64:=by have:=Va n;omega
  have hw:i64.wrap ((j:Int)+1)=((j+1:Nat):Int):=by rw[aJ];omega
  intro Jn hJ;obtain⟨p,hp⟩:∃p,(dJ g1.s now g.o.period g.p j).1=p:=⟨_,rfl⟩;rw[hp]at h po pc;obtain⟨x,pb,t,e1,e2,e3,h⟩:=fP.1 (h.o [2,0,1] 3);refine⟨some ⟨x.sb,0,none⟩,h.r 0,?_⟩;have h:=h.o [1,0,2,3,4,5,6,7,8] 9;refine Tu (s:=g1.s) O.R.ok h λH3 h=>⟨_,_,_,_,_,_,_,_,_,_,_,_,rfl,?_⟩
  have Z:=U j n;obtain⟨A,hA⟩:∃A,kW g1.s (j:Nat)=A:=⟨_,rfl⟩;have v:dJ g1.s now g.o.period g.p (j+1)=if A.2=true/\dueP p (j:Nat) now g.o.period=true then (sndP p (j:Nat) A.1.en.epoch now,(dJ g1.s now g.o.period g.p j).2++[gU (dV (j:Nat) p.boot p.count)]) else dJ g1.s now g.o.period g.p j:=by
   rw[dJ,hp,hA]
  rw[hA]at Z ⊢;refine h.al λb _ h=>?_
  refine h.st 0 rfl rfl λH4 h=>?_
  have skip:¬(A.2=true/\dueP p (j:Nat) now g.o.period=true)->∀f,aA f (stA d x.sb g1.s::cellsA gb (kY g1.o x t.length g1.recs) 110::slA 91 11 x.pa t.length x.pc (flat bH t)::bookA x.bb x.rb g1.saved g1.num g1.seg::reelA x.rb db g1.rl::diskX db g1.rows g1.syn::prbA pb p::d::slA 91 11 la ys.length lc (flat bH ys)::F)->Jn la ys.length lc f:=by
   intro C f h;rw[UW C]at v;refine hJ _ _ _ _ ⟨⟨j+1,ys,d,hw,n,rfl,J,by rw[v];exact hm,L,?_⟩,by rw[hw];dsimp only;omega⟩;rw[v,hp];have hg:=(fP (g:={ g1 with p:=p })).2 ⟨x,pb,t,e1,e2,e3,h.o [1,0,2,3,4,5,6,7,8] 9⟩;exact hg.o [1,2,0] 3
  have N:∀{f},aA f (cellsA b (encA A.1) 187::stA d x.sb g1.s::cellsA gb (kY g1.o x t.length g1.recs) 110::slA 91 11 x.pa t.length x.pc (flat bH t)::bookA x.bb x.rb g1.saved g1.num g1.seg::reelA x.rb db g1.rl::diskX db g1.rows g1.syn::prbA pb p::d::slA 91 11 la ys.length lc (flat bH ys)::F)->aK f gb (0+15)=some (PA pb 0):=λh=>(h.r 2).trans (by show some x.pv=_;rw[e1])
  have T:g1.o.period=g.o.period:=by rw[eo]
  have h:aA H4 (cellsA b (encA A.1) 187::stA d x.sb g1.s::cellsA gb (kY g1.o x t.length g1.recs) 110::slA 91 11 x.pa t.length x.pc (flat bH t)::bookA x.bb x.rb g1.saved g1.num g1.seg::reelA x.rb db g1.rl::diskX db g1.rows g1.syn::prbA pb p::d::slA 91 11 la ys.length lc (flat bH ys)::F):=h;have D:=Tz (ag:=(j:Nat)) (now:=now) (period:=g.o.period) po (h.o [7,0,1,2,3,4,5,6,8,9] 10);refine⟨λ_=>trivial,some ⟨pb,0,none⟩,λ_=>N h,λ_=>trivial,_,λ_=>h.r 2,dueP p (j:Nat) now g.o.period,λ_=>by rw[<-T]at D ⊢;exact D,λw=>?_,λw=>?_⟩
  .refine skip (λC=>?_) _ h.tl
   rw[C.1,C.2]at w;exact UY w (by decide)
  have E:A.2=true/\dueP p (j:Nat) now g.o.period=true:=by
   simp only[Vp,VI]at w;exact w
  rw[UX E]at v;have h5:=Z E.1;have Y:sndOk (j:Nat) A.1.en.epoch now=true:=by
   unfold sndOk tmB;simp only[Vd,Vc];omega
  intro h2 h3;have P:∀(nb:Nat) (R:aE) f,aA f (cellsA nb [aD p.boot,aD p.count] 101::cellsA b (encA A.1) 187::stA d x.sb g1.s::cellsA gb (kY g1.o x t.length g1.recs) 110::slA 91 11 x.pa t.length x.pc (flat bH t)::bookA x.bb x.rb g1.saved g1.num g1.seg::reelA x.rb db g1.rl::diskX db g1.rows g1.syn::prbA pb (sndP p (j:Nat) A.1.en.epoch now)::d::slA 91 11 la ys.length lc (flat bH ys)::F)->h2 nb 0 0 f:=by
   intro nb R f h;refine h3 _ _ _ _ ⟨λhc=>UY hc (by decide),λ_=>?_⟩
   refine h.al λb1 _ h=>?_
   refine h.st 0 rfl rfl λH8 h=>⟨_,_,_,h.q 0,_,h.r 1,_,h.r 1,?_⟩
   refine AX (Tx (j:Nat) p.boot p.count) h λI B H9 h=>⟨_,_,_,_,_,_,_,_,_,_,_,_,_,rfl,?_⟩
   refine h.al λb2 _ h=>?_
   refine h.append (m:=1) (ws:=bH ⟨gU (dV (j:Nat) p.boot p.count),I,B⟩) slOy 13 rfl (h.ce_rd 0 rfl) rfl (pq _) (by omega) (by omega) λa5 c5 h6 h=>⟨_,_,_,rfl,?_⟩
   have f1:flat bH ys++bH ⟨gU (dV (j:Nat) p.boot p.count),I,B⟩=flat bH (ys++[⟨gU (dV (j:Nat) p.boot p.count),I,B⟩]):=by rw[dT];simp[flat]
   have f2:ys.length+1=(ys++[(⟨gU (dV (j:Nat) p.boot p.count),I,B⟩:Oy)]).length:=by simp
   have h:=h.o [1,12,13,6,5,7,8,9,10,11] 14;rw[f1,f2]at h;rw[f2];have V:gh (slA 5 1 I (cC (dV (j:Nat) p.boot p.count)).length B ((cC (dV (j:Nat) p.boot p.count)).map U8)*d) ⟨gU (dV (j:Nat) p.boot p.count),I,B⟩:=⟨KIn.sl (c:=B),h.sl_nc 0 rfl⟩;have h:=px.2 h;generalize slA 5 1 I (cC (dV (j:Nat) p.boot p.count)).length B ((cC (dV (j:Nat) p.boot p.count)).map U8)=M at h V;have u:aM d (M*d):=aM.add M d;have h:=sq u (h.o [3,2,4,5,6,7,8,0,1] 9);have hg:=(fP (Q:=M*d) (g:={ g1 with p:=sndP p (j:Nat) A.1.en.epoch now })).2 ⟨x,pb,t,e1,e2,λz G=>(e3 z G).sub u,h.o [1,0,2,3,4,5,6,7,8] 9⟩
   refine hJ _ _ _ _ ⟨⟨j+1,ys++[⟨gU (dV (j:Nat) p.boot p.count),I,B⟩],M*d,hw,n,rfl,J.trans u,by rw[v,Vv,hm];rfl,λz G=>?_,?_⟩,by rw[hw];dsimp only;omega⟩
   .rcases Vz.1 G with G|G
    .exact (L z G).sub u
    .rw [Vo]at G;rw[G];exact V
   .rw [v];exact hg.o [1,2,0] 3
  refine⟨some ⟨pb,0,none⟩,N h,_,h.r 0,?_,?_⟩
  .have h:=h.o [7,0,1,2,3,4,5,6,8,9] 10;refine Ku po Y h λH6 h=>⟨_,_,_,rfl,?_⟩
   refine h.al λb3 _ h=>?_
   refine h.st 0 rfl rfl λH7 h=>?_
   exact P b3 emp _ (h.o [0,2,3,4,5,6,7,8,1,9,10] 11)
  .refine h.al λb4 _ h=>⟨h.r 1,N h.tl,?_⟩
   have h:=h.o [8,0,1,2,3,4,5,6,7,9,10] 11;refine Ku po Y h λH6 h=>⟨_,_,_,rfl,?_⟩
   refine h.st 1 rfl rfl λH7 h=>?_
   exact P b4 emp _ (h.o [1,2,3,4,5,6,7,8,0,9,10] 11)
 .have h0:j=64:=by have:=Vb n;omega
  subst h0;exact k d ys _ _ _ J hm L h
end
end Go.Proofs.YtaaieblnikcndaaGreatDoor
