/-
  Lemmas for FleetRefuses: part 8 of what it rests on. Conditions: none.
-/
import Derived.Test.YtlmphkpeajnhjaaGreatDoorPR7
set_option linter.unusedVariables false
set_option linter.unusedSimpArgs false
set_option maxRecDepth 100000
set_option maxHeartbeats 16000000
open Go.IntKind (i64 u64 i8 u8 i32 u32 i16 u16)
namespace Go.Proofs.YtlmphkpeajnhjaaGreatDoor
open Go
def GX(bs:List Bool):Nat->Int
 | 0=>0
 | n+1=>GX bs n+if bs.getD n false then (2:Int)^n else 0
def cbB(k:Ky)(c:Cl):List Int:=dg [k.win]++fG [k.g_,bN (dY c)]
abbrev NF(x:bT):List Int:=aP [x.asked,x.CV,x.hY,x.came]
abbrev RB(p:Int×Pv):List Int:=aP [p.1]++E7 p.2
def afN(a:Int)(e:En)(fl:Fl)(st:bC):List Int:=
 (aP [a,e.epoch,e.boot,e.time,fl.t,GX [fl.out,fl.r_,fl.held] 3]++dg [st.last])++aP [GX [st.ck.held] 1,st.ck.streak,(st.ck.eb.length:Int)]
def agB(a:Int)(e:En)(fl:Fl)(st:bC):List Int:=
 ((afN a e fl st++st.ck.eb.flatMap NF)++aP [st.hs.next,(st.hs.rows.length:Int)])++st.hs.rows.flatMap RB
variable {s A:RS}{a n:Int}{c:bM}{H:aC}{F:List aF}{K:KE}{k b:Nat}{Q:aF}{m:CM}{x:bC}{o:Ot}{r:Rp}{e:En}{l:List bT}{p:Ky×Cl}{h:Nat->Int}{y:List En×Fl×bC}{v:KQ}{B:aL}{C:Type}{D:List En}{E:List Int}{G:HS Pv}{I:FrameMode->aC->Prop}{J:List (Option bC)}{L:List Ot}{M:Pv}{N:Fl}{O:cF Pv}{P:Ky}{R:Fl×bC}{S:bT}{T:Cl}
theorem yN(bs:List Bool):∀n,n<=3->0<=GX bs n/\GX bs n<(2:Int)^n
 | 0,_=>⟨F_ _,by show (0:Int)<1;decide⟩
 | n+1,h=>by have a:=yN bs n ez;grind [GX]
theorem MW{bs:List Bool}(y:bs.length<=3)(h:aA H F)(i:Nat)(s:aX i F=ax b (bs.map .bool) 4):bX Tryz.prog 137 #[.slice (some ⟨b,0,none⟩) bs.length bs.length] H (aD (GX bs bs.length)):=by
 refine cN 137 0x1121561239925117494c [[(3,sI)],[(3,sI),(8,sI)]] ⟨λsum i m=>m=H/\∃j:Nat,i=j/\j<=bs.length/\sum=GX bs j,λ_ i _=>bs.length-i.toNat,⟨rfl,0,rfl,ez,rfl⟩,?_⟩;rintro sum t v ⟨rfl,j,rfl,A,rfl⟩;refine⟨λu=>?_,λu=>?_⟩
 .have c:j<bs.length:=by grind
  have DH:=(h.ew i s).at c;refine⟨ez,_,_,DH.1,_,DH.2,?_⟩;have hb:=yN bs j ez;have w:(2:Int)^j<=4:=by rcases (ez:j=0\/j=1\/j=2) with rfl|rfl|rfl <;> decide
  have hs:GX bs (j+1)=GX bs j+if bs[j] then (2:Int)^j else 0:=by grind [GX]
  intro n k;have a:n (GX bs (j+1)) v:=by
   refine k _ _ ?_;conv=>whnf
   rw[aN (x:=(j:Int)+1)];grind
  refine⟨λf=>⟨ez,?_⟩,λf=>?_⟩
  .rw [hs,c_ f]at a;have e:i64.wrap (1*2^(min (Int.toNat (j:Int)) (i64.bits)))=(2:Int)^j:=by rcases (ez:j=0\/j=1\/j=2) with rfl|rfl|rfl <;> decide
   conv=>whnf
   rw[e,aN];exact a
  rw [hs,b_ (by grind),Int.add_zero]at a;exact a
 have d:j=bs.length:=by grind
 subst d;exact⟨rfl,rfl⟩
theorem MX(wc:WC T)(hs:P.g_.size<=5000):(cbB P T).length<=10100:=by have a:=nK [P.win];grind [nL,rM,nM,fG,cbB]
theorem MY{F:List aF}{key:Ky}{c:Cl}(wc:WC c)(hs:key.g_.size<=5000)(h:aA H F) (k:∀a m n,aA n (ay 5 1 a (cbB key c).length m ((cbB key c).map U8)::F)->K (.slice a (cbB key c).length m) n):CF 81 #[Hg key,Fv c] H K:=by
 have j:=MX wc hs;have x:=rM wc;have A:=nM (dY c);refine cM 81 28 (h.al λb _ h=>h.al λb1 _ h=>⟨_,h.r 1,_,h.r 1,_,_,_,_,_,_,_,_,h.u_ 0 rfl,h.al λb2 _ h=>⟨h.u_ 1 rfl,h.r 2,rO h 0 rfl λa1 c1 u h=>⟨_,_,_,rfl,h.u_ 2 rfl,h.r 3,Kf wc h λa2 c2 w h=>⟨_,_,_,rfl,h.r 4,?_⟩⟩⟩⟩);have d:=tE (c:=c2) (bs:=dY c) (by
  rcases (kw (F:=star _) h).2 with ⟨t,_⟩|⟨b,pre,post,B,fr,t,_⟩;.grind
  grind) (h.a_ 0 rfl);refine⟨_,d,h.al λb3 _ h=>?_⟩;have e:fG [key.g_,bN (dY c)]=dh key.g_++dh (bN (dY c)):=by simp[fG]
 have l1:=nL (s:=key.g_) ez;have l2:=nL (s:=bN (dY c)) ez;refine xV (ts:=[key.g_,bN (dY c)]) h (λH h=>h.ew 0 rfl) (λi=>?_) (by grind) eh λa3 c3 y h=>⟨_,_,_,rfl,?_⟩;.grind [fG,List.take_append_drop,List.length_append]
 have f:(dg [key.win]++fG [key.g_,bN (dY c)]).length<=10100:=j;rw[qa]at f;refine dw h (i:=3) rfl rfl rfl (h.a_ 0 rfl) ez λa4 c4 v h=>⟨_,_,_,rfl,k _ _ _ (h.o [3] 7)⟩
theorem MZ(l:List bT):(l.flatMap NF).length<=40*l.length:=by induction l with
  | nil=>simp
  | cons i l ih=>have:(NF i).length<=10*4:=dP [i.asked,i.CV,i.hY,i.came];grind
theorem Na(l:cF Pv):(l.flatMap RB).length<=1330*l.length:=by induction l with
  | nil=>simp
  | cons i l ih=>grind [dP,yk]
theorem Wp{a:Int}{e:En}{st:bC}(ok:cY B)(ha:0<=a)(w:B.sts[a.toNat]?=some (some st)){p:SAd}{A1 A2 A3 A4 A5:aF}(h:aA H (Q::ax k (dx B p) 165::A1::A2::Ma.eY p.mb p.mm B.ms::Ma.j_ p.mm B.ms.m::A3::A4::my Q p.tm B.sts::A5::F)) (sb:∀s A C,aA C (ay 5 1 s (agB a e (bJ B.ms a) st).length A ((agB a e (bJ B.ms a) st).map U8)::Q::ax k (dx B p) 165::A1::A2::Ma.eY p.mb p.mm B.ms::Ma.j_ p.mm B.ms.m::A3::A4::my Q p.tm B.sts::A5::F)->K (.slice s (agB a e (bJ B.ms a) st).length A) C) : CF 78 #[PA k 0,aD a,L1 e] H K:=by
 have E:((a.toNat:Nat):Int)=a:=ez;have d:=ok.sts st (KI w);have h9:=d.ck.len;have h6:=Cy d;refine RJ (h.al λb _ h=>?_);have h:=h.o [9,2,3,4,5,6,7,8,10,0,1] 11;let⟨M,bl,v,h⟩:=rX h w;have h:=h.o [1,0,2,3,4,5,6,7,8,9,10,11,12] 13;let⟨cb,hb,h⟩:=io.1 h;have u:=rY v h 3 rfl;rw[E]at u;refine⟨_,h.r 5,_,u,_,h.r 5,?_⟩;have h:=h.o [8,9,0,1,2,3,4,5,6,7,10,11,12,13,14] 15;refine Ma.Fj (a:=a) h λH1 h=>⟨_,_,_,_,_,rfl,h.al λb1 _ h=>h.st 0 rfl rfl ?_⟩;intro H2 h;refine⟨_,h.r 14,_,h.r 14,_,h.r 14,_,h.r 0,_,h.r 0,_,h.r 0,_,h.r 0,h.al λb2 _ h=>⟨h.r 1,h.r 15,h.r 15,h.r 15,_,MW (bs:=[(bJ B.ms a).out,(bJ B.ms a).r_,(bJ B.ms a).held]) eh h 0 rfl,h.al λb3 _ h=>qv (vs:=[a,e.epoch,e.boot,e.time,(bJ B.ms a).t,GX [(bJ B.ms a).out,(bJ B.ms a).r_,(bJ B.ms a).held] 3]) h (λH h=>h.ew 0 rfl) eh λa1 c1 H3 h=>⟨_,_,_,rfl,dj ⟨_,h.r 6,?_⟩⟩⟩⟩;have q1:=dP [a,e.epoch,e.boot,e.time,(bJ B.ms a).t,GX [(bJ B.ms a).out,(bJ B.ms a).r_,(bJ B.ms a).held] 3];have q2:=nK [st.last];have q3:=dP [GX [st.ck.held] 1,st.ck.streak,(st.ck.eb.length:Int)];have q4:=dP [st.hs.next,(st.hs.rows.length:Int)];simp only[CU,HE]at q1 q2 q3 q4;unfold agB afN at sb;generalize aP [a,e.epoch,e.boot,e.time,(bJ B.ms a).t,GX [(bJ B.ms a).out,(bJ B.ms a).r_,(bJ B.ms a).held] 3]=X1 at *;refine h.al λb4 _ h=>rO h 0 rfl λa2 c2 H4 h=>⟨_,_,_,rfl,?_⟩;generalize dg [st.last]=X2 at *;refine dw h (i:=2) rfl rfl rfl (h.a_ 0 rfl) ez λa3 c3 H5 h=>⟨_,_,_,rfl,?_⟩;have h:=h.o [9,2,6,7,8,10,11,12,13,14,15,16,17,18,20] 21;refine dj ⟨_,h.rd 4 rfl 0,Ba h ez λsa sc H6 h=>⟨_,_,_,rfl,dj ⟨_,h.rd 5 rfl 0,_,vh (h.o [1] 2),dj ⟨_,h.rd 5 rfl 0,h.al λb5 _ h=>⟨h.rd 6 rfl 0,_,MW (bs:=[st.ck.held]) eh h 0 rfl,_,Sz (h.o [2] 3),h.al λb6 _ h=>qv (vs:=[GX [st.ck.held] 1,st.ck.streak,(st.ck.eb.length:Int)]) h (λH h=>h.ew 0 rfl) eh λa4 c4 H7 h=>⟨_,_,_,rfl,?_⟩⟩⟩⟩⟩⟩;generalize aP [GX [st.ck.held] 1,st.ck.streak,(st.ck.eb.length:Int)]=X3 at *;refine dw h (i:=5) rfl rfl rfl (h.a_ 0 rfl) (by grind) λa5 c5 H8 h=>⟨_,_,_,rfl,?_⟩;have hO:((X1++X2)++X3).length<=100:=by grind
 generalize (X1++X2)++X3=O at *;refine⟨λs P A i C=>∃j:Nat,i=j/\j<=st.ck.eb.length/\P=(O++(st.ck.eb.take j).flatMap NF).length/\ aA C (ay 5 1 s (O++(st.ck.eb.take j).flatMap NF).length A ((O++(st.ck.eb.take j).flatMap NF).map U8)::ay 279 4 sa st.ck.eb.length sc (flat fo st.ck.eb)::FH cb st.ck::Ma.eY p.mb p.mm B.ms::Ma.j_ p.mm B.ms.m::ax M [PA cb 0,PA hb 0,aD st.last] 310::C1 Q hb st.hs::mapA aD KL p.tm (de 0 bl)::nV Q bl B.sts a.toNat:: ax k (dx B p) 165::A1::A2::A3::A4::A5::Q::F),λ_ _ _ i _=>st.ck.eb.length-i.toNat,⟨0,rfl,ez,eh,?_⟩,?_⟩;.rw [show O++(st.ck.eb.take 0).flatMap NF=O by simp];exact h.o [5,3,4,6,7,8,9,10,11,12,13,14,15,16,17,18] 19
 rintro a6 n6 c6 i H9 ⟨j,rfl,hj,rfl,h⟩;have D:=MZ (st.ck.eb.take j);have T:(st.ck.eb.take j).length<=st.ck.eb.length:=by grind
 refine⟨λc=>?_,λc=>?_⟩
 .have c:j<st.ck.eb.length:=by grind
  have U:=h.a_ 1 rfl;refine⟨ez,_,_,U.some lr ez c,_,_,_,_,U.E8 lr c,h.al λb8 _ h=>h.st 0 rfl rfl ?_⟩;intro S h;refine⟨_,h.r 0,_,h.r 0,_,h.r 0,_,h.r 0,h.al λb9 _ h=>qv (vs:=[st.ck.eb[j].asked,st.ck.eb[j].CV,st.ck.eb[j].hY,st.ck.eb[j].came]) h (λH h=>h.ew 0 rfl) eh λa7 c7 N h=>⟨_,_,_,rfl,?_⟩⟩;have q5:=dP [st.ck.eb[j].asked,st.ck.eb[j].CV,st.ck.eb[j].hY,st.ck.eb[j].came];simp only[CU,HE]at q5;refine dw h (i:=3) rfl rfl rfl (h.a_ 0 rfl) (by grind) λa8 c8 R h=>⟨_,_,_,rfl,?_⟩;rw[aN (x:=(j:Int)+1)];have e5:O++(st.ck.eb.take (j+1)).flatMap NF=(O++(st.ck.eb.take j).flatMap NF)++aP [st.ck.eb[j].asked,st.ck.eb[j].CV,st.ck.eb[j].hY,st.ck.eb[j].came]:=by rw[kM (f:=NF) c,Fw]
  rw[<-e5]at h ⊢;exact⟨⟨j+1,ez,c,rfl,h.o [3,4,5,6,7,8,9,10,11,12,13,14,15,16,17,18] 19⟩,by grind⟩
 have y:st.ck.eb.length<=j:=by grind
 rw[FL y]at h D ⊢;have h5:(O++st.ck.eb.flatMap NF).length<=500:=by grind
 generalize O++st.ck.eb.flatMap NF=O2 at *;refine dj ⟨_,h.r 5,dj ⟨_,h.r 5,?_⟩⟩;have h:=h.o [6,0,2,3,4,5,7,8,9,10,11,12,13,14,15] 16;refine Bz h d.hs.rows.rising (Cx d) ez λwa wc S h=>⟨_,_,_,rfl,h.r 6,?_⟩;have h:=h.o [1,0,2,3,4,5,6,7,8,9,10,11,12,13,14,15] 16;refine KJ h λV N h=>⟨_,rfl,Ub h d.hs.rows.rising (Cx d) ez λea ec evs R I L h=>⟨_,_,_,rfl,?_⟩⟩;have r8:evs.length=st.hs.rows.length:=by have:=congrArg List.length I;grind
 refine dj ⟨_,h.r 8,_,vx (h.o [2] 3),h.al λr9 _ h=>qv (vs:=[st.hs.next,(st.hs.rows.length:Int)]) h (λH h=>h.ew 0 rfl) eh λa7 c7 u8 h=>⟨_,_,_,rfl,?_⟩⟩;generalize aP [st.hs.next,(st.hs.rows.length:Int)]=X4 at *;refine dw h (i:=6) rfl rfl rfl (h.a_ 0 rfl) ez λa8 c8 l5 h=>⟨_,_,_,rfl,?_⟩;have W:(O2++X4).length<=600:=by grind
 generalize O2++X4=O3 at *;have h3:(aJ st.hs.rows).length=st.hs.rows.length:=by grind
 refine⟨λs P A i C=>∃j:Nat,i=j/\j<=st.hs.rows.length/\P=(O3++(st.hs.rows.take j).flatMap RB).length/\ aA C (ay 5 1 s (O3++(st.hs.rows.take j).flatMap RB).length A ((O3++(st.hs.rows.take j).flatMap RB).map U8)::ay 69 4 ea evs.length ec (flat bH evs)::ay 2 1 wa st.hs.rows.length wc ((aJ st.hs.rows).map aD)::C1 Q hb st.hs::FH cb st.ck::Ma.eY p.mb p.mm B.ms::Ma.j_ p.mm B.ms.m::ax M [PA cb 0,PA hb 0,aD st.last] 310::mapA aD KL p.tm (de 0 bl)::nV Q bl B.sts a.toNat:: ax k (dx B p) 165::A1::A2::A3::A4::A5::Q::F),λ_ _ _ i _=>st.hs.rows.length-i.toNat,⟨0,rfl,ez,eh,?_⟩,?_⟩;.rw [show O3++(st.hs.rows.take 0).flatMap RB=O3 by simp];exact h.o [6,2,5,4,7,8,9,10,11,12,13,14,15,16,17,18,19] 20
 rintro a9 n9 c9 i l6 ⟨j,rfl,hj,rfl,h⟩;have D:=Na (st.hs.rows.take j);have T:(st.hs.rows.take j).length<=st.hs.rows.length:=by grind
 refine⟨λc=>?_,λc=>?_⟩
 .have c:j<st.hs.rows.length:=by grind
  have J:j<(aJ st.hs.rows).length:=ez;have n:j<evs.length:=ez;have DH:=(h.a_ 2 rfl).at J;refine⟨ez,_,_,DH.1,_,DH.2,h.al λh2 _ h=>oU h 0 rfl λh8 Z h4 h=>⟨_,_,_,rfl,?_⟩⟩;have q5:=dP [(aJ st.hs.rows)[j]];simp only[CU,HE]at q5;refine dw h (i:=2) rfl rfl rfl (h.a_ 0 rfl) (by grind) λj2 r0 h0 h=>⟨_,_,_,rfl,?_⟩;have G:=h.a_ 3 rfl;refine⟨ez,_,_,G.some dU ez n,_,_,_,_,_,_,G.E8 dU n,KK (e:=evs[j]) h (λH h=>(L _ (s_ n)).at h 18 rfl) λj3 j1 Y h=>⟨_,_,_,rfl,?_⟩⟩;have q6:=yk evs[j].p;refine dw h (i:=3) rfl rfl rfl (h.a_ 0 rfl) (by grind) λh7 y2 l0 h=>⟨_,_,_,rfl,?_⟩;rw[aN (x:=(j:Int)+1)];have ek:(aJ st.hs.rows)[j]=st.hs.rows[j].1:=by grind
  have ep:evs[j].p=st.hs.rows[j].2:=by
   have h1:(evs.map Ev.p)[j]'(by grind)=(st.hs.rows.map (·.2))[j]'(by grind):=by grind
   grind
  have e5:O3++(st.hs.rows.take (j+1)).flatMap RB=((O3++(st.hs.rows.take j).flatMap RB)++aP [(aJ st.hs.rows)[j]])++E7 evs[j].p:=by rw[kM (f:=RB) c,ek,ep,Fw,Fw]
  rw[<-e5]at h ⊢;exact⟨⟨j+1,ez,c,rfl,h.o [3,4,5,6,7,8,9,10,11,12,13,14,15,16,17,18,19] 20⟩,by grind⟩
 have y:st.hs.rows.length<=j:=by grind
 rw[FL y]at h ⊢;refine sb _ _ _ ?_;have h:=h.o [7,4,3,8,9,10,11,12,5,6,13,14,15,0,16] 17;have h:=io.2 ⟨cb,hb,h⟩;have h:=h.o [1,0,2,3,4,5,6,7,8,9,10,11,12] 13;have h:=tX v h;rw[Mq w]at h;exact h.o [9,10,1,2,3,4,5,6,7,0,8] 11
def eL(s:aL)(p:Int×En):List Int:=match iO s p.1 with
 | some st=>agB p.1 p.2 (bJ s.ms p.1) st
 | none=>[]
def aap(s:aL):Nat:=(s.sts.filter Option.isSome).length
abbrev DU(o:Ot):List Int:=cbB o.1 o.2
def kZ(s:aL):List Int:=(aP [s.now,s.boots,s.sunk,s.ms.now]++dg [s.ms.value])++aP [(aap s:Int)]
def jM(s:aL):List Int:=(kZ s++(aW 0 s.rows).flatMap (eL s))++aP [(s.cm.length:Int)]
def lZ(s:aL):List Int:=(jM s++(bB s.cm).flatMap DU)++aP [(s.kept.length:Int)]
def Fs(s:aL):List Int:=lZ s++s.kept.flatMap DU
structure sj(s:aL):Prop where
 cm:∀p∈s.cm,p.1.g_.size<=5000
 kept:∀o∈s.kept,o.1.g_.size<=5000
theorem Db{α:Type}:∀{l:List (Option α)} {i:Nat},(de i l).length=(l.filter Option.isSome).length
 | [],i=>rfl
 | none::r,i=>Db (l:=r) (i:=i+1)
 | some b::r,i=>by show (_::de (i+1) r).length=_;rw[CU,Db (l:=r)];rfl
theorem Nb{α β:Type}:∀{l:List (Option α)} {m:List (Option β)},l.map Option.isSome=m.map Option.isSome->(l.filter Option.isSome).length=(m.filter Option.isSome).length
 | [],[],_=>rfl
 | x::r,y::m,h=>by
  simp only[Hy,List.cons.injEq]at h;have a:=Nb h.2;rw[q1x,q1x,h.1]
  split
  .rw [CU,CU,a]
  .exact a
 | [],y::m,h=>by simp at h
 | x::r,[],h=>by simp at h
theorem Dc(h:o∈bB m):∃p∈m,p.1=o.1:=by unfold bB at h;obtain⟨k,a,rfl⟩:=zb.1 h;grind [mH]
theorem afM(b:mN B.cfg x):(agB a e N x).length<=345000:=by have q1:=dP [a,e.epoch,e.boot,e.time,N.t,GX [N.out,N.r_,N.held] 3];have q2:=nK [x.last];have q3:=dP [GX [x.ck.held] 1,x.ck.streak,(x.ck.eb.length:Int)];have q4:=dP [x.hs.next,(x.hs.rows.length:Int)];have q5:=MZ x.ck.eb;have q6:=Na x.hs.rows;have c:=b.ck.len;grind [Cy,agB,afN,List.length_cons]
theorem yO(ok:cY B)(p:Int×En):(eL B p).length<=345000:=by
 unfold eL
 cases h:iO B p.1 with
 | none=>simp
 | some st=>exact afM (ok.sts st (KI (VH h).2))
theorem pQ{α:Type}{f:α->List Int}{B:Nat}:∀{l:List α},(∀x∈l,(f x).length<=B)->(l.flatMap f).length<=B*l.length
 | [],_=>eh
 | x::r,h=>by have b:=h x (DT ..);have c:=pQ (l:=r) λy a=>h y (DG _ a);grind [Nat.mul_succ]
theorem yP(wc:WC o.2)(hs:o.1.g_.size<=5000):(DU o).length<=10100:=MX wc hs
theorem Nc{s:aL}:(kZ s).length<=60:=by grind [dP,nK,kZ,List.length_cons]
theorem aa7(h:aA H (my Q k J::F)):dt Tryz.prog (Builtin.len_ #[162] 3 #[(.map (some k))]) H (.int .i64 ((J.filter Option.isSome).length:Nat)):=by let⟨bl,hm,h⟩:=lW.1 h;have:=h.F5 (ty:=3) rV 0 rfl;rw[Db,Nb hm]at this;exact this
theorem Nd{F:List aF}{sb:Nat}{s:aL}(ok:cY s)(g_:sj s)(hkl:s.kept.length<=900000)(h:aA H (Q::p_ Q sb s::F))
  (k:∀a c C,aA C (ay 5 1 a (Fs s).length c ((Fs s).map U8)::Q::p_ Q sb s::F)->K (.slice a (Fs s).length c) C) :
  CF 25 #[PA sb 0] H K:=by
 refine cL 25 (.r (.seq (.U_ [(3,sA)]) (.r (.r (.seq (.r (.E_ (.F1 [sI,.agg [.int .i64,.int .i64,.int .i64]] [none] (.r .CL) (.E_ .CL)))) (.r (.seq (.r (.E_ (.F1 [.agg [.int .i64,.str],.agg [.int .i64,.int .i64,.int .u64,.int .i64,.int .i64,.int .i64,.int .i64,.vec .i64 65]] [none] (.r .CL) (.E_ .CL)))) (.r (.seq (.r (.E_ (.loop [(95,sI)] (.r (.seq (.cond .no .no) (.seq (.E_ (.r .CL)) .CL)))))) (.r .no)))))))))) (h.al λb _ h=>?_)
 have h:=h.o [2,0,1] 3;obtain⟨p,h⟩:=di.1 h;intro Jn hJ;have hle:=yy ok.rows;have alF:((aW 0 s.rows).flatMap (eL s)).length<=345000*64:=by
  have:=pQ (f:=eL s) (l:=aW 0 s.rows) (B:=345000) λx _=>yO ok x
  grind
 have hol:=vm (m:=s.cm);have hcl:=ok.sh.len;have hcm:=ok.sh.m2;have hO:∀o∈bB s.cm,(DU o).length<=10100:=λo I=>by
  obtain⟨q,hq,e⟩:=Dc I;exact yP (yD ok.sh o I) (by rw[<-e];exact g_.cm q hq)
 have O:∀o∈s.kept,(DU o).length<=10100:=λo I=>yP (ok.kept o I) (g_.kept o I)
 have t:∀ob a c C,aA C (ax ob [.slice a (aP [s.now,s.boots,s.sunk,s.ms.now]).length c] 63::ay 5 1 a (aP [s.now,s.boots,s.sunk,s.ms.now]).length c ((aP [s.now,s.boots,s.sunk,s.ms.now]).map U8)::
   ax sb (dx s p) 165::Ro.mv p.rb p.rm s.cfg.agents::Ro.t_ p.rm s.rows::Ma.eY p.mb p.mm s.ms::Ma.j_ p.mm s.ms.m::DI p.hb p.hm s.cfg.cells::cG p.hm s.cm::my Q p.tm s.sts::ay 184 74 p.ka s.kept.length p.kc (flat cR s.kept)::ax b [PA sb 0] 74::Q::F)->Jn ob 0 C:=by
  intro ob a0 c0 H1 h;refine hJ _ _ _ ?_;have q1:=dP [s.now,s.boots,s.sunk,s.ms.now];have q2:=nK [s.ms.value];have q3:=dP [(aap s:Int)];have q4:=dP [(s.cm.length:Int)];have q5:=dP [(s.kept.length:Int)];simp only[CU,HE]at q1 q2 q3 q4 q5;have hS1:=Nc (s:=s);have j2:kZ s=(aP [s.now,s.boots,s.sunk,s.ms.now]++dg [s.ms.value])++aP [(aap s:Int)]:=rfl;have r0:jM s=(kZ s++(aW 0 s.rows).flatMap (eL s))++aP [(s.cm.length:Int)]:=rfl;have j3:lZ s=(jM s++(bB s.cm).flatMap DU)++aP [(s.kept.length:Int)]:=rfl;have hS2:(jM s).length<=22100000:=by grind
  have alD:((bB s.cm).flatMap DU).length<=10100*1024:=by
   have h1:=pQ (f:=DU) (l:=bB s.cm) (B:=10100) hO
   grind
  have hS3:(lZ s).length<=40000000:=by grind
  generalize aP [s.now,s.boots,s.sunk,s.ms.now]=X0 at *;refine⟨_,_,_,h.r 0,_,h.rd 11 rfl _,⟨_,h.r 2,_,Ma.F7 h 5 rfl,h.al λb1 _ h=>⟨h.r 1,rO h 0 rfl λa1 c1 H2 h=>⟨_,_,_,rfl,h.r 2,dw h (i:=3) rfl rfl rfl (h.a_ 0 rfl) ez λa2 c2 Z h=>⟨_,_,_,rfl,?_⟩⟩⟩⟩⟩
  generalize dg [s.ms.value]=X1 at *;refine h.st 2 rfl rfl ?_;intro H4 h;have h:=h.o [2,3,4,5,6,7,8,9,10,11,12,13,14] 15;refine⟨_,_,_,h.r 0,_,h.rd 11 rfl _,⟨_,h.r 2,_,aa7 (h.o [9] 10),h.al λb2 _ h=>⟨h.r 1,oU h 0 rfl λa3 c3 H5 h=>⟨_,_,_,rfl,h.r 2,dw h (i:=3) rfl rfl rfl (h.a_ 0 rfl) (by grind [aap]) λa4 c4 H6 h=>⟨_,_,_,rfl,?_⟩⟩⟩⟩⟩
  rw[show (X0++X1)++aP [((s.sts.filter Option.isSome).length:Int)]=kZ s from j2.symm]at h ⊢;refine h.st 2 rfl rfl ?_;intro H7 h;have h:=h.o [2,3,4,5,6,7,8,9,10,11,12,13,14] 15;refine⟨_,h.rd 11 rfl _,⟨_,h.r 2,Ro.HR h λh8 P h=>⟨_,_,rfl,rfl,λR h9 h3 hy=>?_⟩⟩⟩
  have h:=h.F1 R;refine Ro.Hl (rb:=p.rb) (mb:=p.rm) (most:=s.cfg.agents) (c0:=h8) ok.rows (λj=>F6 λq:KQ×Nat=>star [ax ob [.slice q.1 (kZ s++((aW 0 s.rows).take j).flatMap (eL s)).length q.2] 63,ay 5 1 q.1 (kZ s++((aW 0 s.rows).take j).flatMap (eL s)).length q.2 ((kZ s++((aW 0 s.rows).take j).flatMap (eL s)).map U8),
    ax sb (dx s p) 165,Ma.eY p.mb p.mm s.ms,Ma.j_ p.mm s.ms.m,my Q p.tm s.sts,ax b [PA sb 0] 74,Q,pt (P.size+1) (.loop R)]) (DB False)
   (F:=pt P.size (.deferred (some []))::DI p.hb p.hm s.cfg.cells::cG p.hm s.cm::ay 184 74 p.ka s.kept.length p.kc (flat cR s.kept)::F) ?_ ?_ ?_ ?_
  .refine cw.2 ⟨(a4,c4),aA.shut [_,_,_,_,_,_,_,_,_] ?_⟩;rw[show kZ s++((aW 0 s.rows).take 0).flatMap (eL s)=kZ s by simp];exact h.o [3,4,5,8,9,12,14,15,0,2,6,7,1,10,11,13] 16
  .intro j E G H9 K1 h kt _;obtain⟨⟨a5,c5⟩,h⟩:=cw.1 h;have h:=aA.open (A:=[_,_,_,_,_,_,_,_,_]) h;dsimp only at h;refine hy _ _ _ ⟨_,_,_,_,rfl,h.hN 8 rfl,h.al λb3 _ h=>h.st 0 rfl rfl ?_⟩;intro H10 h;refine⟨h.hN 9 rfl,h.FK 9 rfl λh5 h=>⟨_,_,_,h.r 1,_,h.r 7,_,_,_,h.q 0,?_⟩⟩
   have d:=s_ E;have htk:=qB d;have M:0<(bI s.rows (aW 0 s.rows)[j].1).epoch:=by
    have j1:=Cj (i:=0) (l:=s.rows) (k:=(aW 0 s.rows)[j].1.toNat);rw[CB,show (((aW 0 s.rows)[j].1.toNat:Nat):Int)=(aW 0 s.rows)[j].1 by omega]at j1;have h1:aK (aW 0 s.rows)[j].1 (aW 0 s.rows)=some (aW 0 s.rows)[j].2:=oG yw d;have h2:=vJ ok.rows (agent:=(aW 0 s.rows)[j].1)
    grind
   obtain⟨l5,st,h0⟩:=ok.str M;have S:eL s (aW 0 s.rows)[j]=agB (aW 0 s.rows)[j].1 (aW 0 s.rows)[j].2 (bJ s.ms (aW 0 s.rows)[j].1) st:=by
    grind [eL,yC]
   have alE:=yO ok (aW 0 s.rows)[j];have D:=pQ (f:=eL s) (l:=(aW 0 s.rows).take j) (B:=345000) λx _=>yO ok x
   have N:((aW 0 s.rows).take j).length<=(aW 0 s.rows).length:=by grind
   have L:345000*((aW 0 s.rows).take j).length<=345000*64:=q35 _ ez;have h:=l7 (l7 (l7 (l7 (l7 h))));have h:=h.o [13,8,0,1,9,10,2,3,11,4,5,6,7,12,14] 15;refine Wp (e:=(aW 0 s.rows)[j].2) ok l5 h0 h λa6 c6 l0 h=>⟨_,_,_,rfl,h.r 12,?_⟩
   rw[<-S]at h ⊢;refine dw h (i:=13) rfl rfl rfl (h.a_ 0 rfl) (by grind) λa7 c7 H13 h=>⟨_,_,_,rfl,h.st 12 rfl rfl ?_⟩;intro u h;refine⟨h.hN 15 rfl,kt _ ?_⟩;have h:=h.qc 15 rfl (.loop R);have e5:kZ s++((aW 0 s.rows).take (j+1)).flatMap (eL s)=(kZ s++((aW 0 s.rows).take j).flatMap (eL s))++eL s (aW 0 s.rows)[j]:=by
    grind [kM]
   refine cw.2 ⟨(a7,c7),aA.shut [_,_,_,_,_,_,_,_,_] ?_⟩;dsimp only;rw[e5];exact h.o [12,13,2,5,6,9,14,1,15] 16
  .intro H9 h;obtain⟨⟨a5,c5⟩,h⟩:=cw.1 h;have h:=aA.open (A:=[_,_,_,_,_,_,_,_,_]) h;dsimp only at h;rw[FE]at h;refine⟨.ready,none,ee,by rw[lp h9 h3];exact h.hN 8 rfl,h.FK 8 rfl λH10 h=>⟨rfl,⟨_,_,_,h.r 0,_,h.rd 6 rfl _,⟨_,h.r 2,_,SW h 13 14 rfl rfl,h.al λb4 _ h=>⟨h.r 1,oU h 0 rfl λa6 c6 h5 h=>⟨_,_,_,rfl,h.r 2,dw h (i:=3) rfl rfl rfl (h.a_ 0 rfl) (by grind) λa7 c7 l0 h=>⟨_,_,_,rfl,?_⟩⟩⟩⟩⟩⟩⟩
   rw[<-r0]at h ⊢;refine h.st 2 rfl rfl ?_;intro H13 h;have h:=h.o [2,3,4,5,6,7,8,9,12,13,14,15,16,17] 18;refine⟨_,h.rd 6 rfl _,⟨_,h.r 2,JP h λu8 u h=>⟨_,_,rfl,rfl,λR1 l6 r9 Y=>?_⟩⟩⟩
   have h:=h.F1 R1;refine JQ (sb:=p.hb) (mb:=p.hm) (most:=s.cfg.cells) (m:=s.cm) (c0:=u8) ez
    (λj=>F6 λq:KQ×Nat=>star [ax ob [.slice q.1 (jM s++((bB s.cm).take j).flatMap DU).length q.2] 63,ay 5 1 q.1 (jM s++((bB s.cm).take j).flatMap DU).length q.2 ((jM s++((bB s.cm).take j).flatMap DU).map U8),DI p.hb p.hm s.cfg.cells,cG p.hm s.cm,pt (u.size+1) (.loop R1)])
    (λ_=>DB False) (star [ax ob [.slice a7 (jM s).length c7] 63,ay 5 1 a7 (jM s).length c7 ((jM s).map U8),pt (u.size+1) (.loop R1)])
    (F:=pt u.size (.deferred (some []))::ax sb (dx s p) 165::Ma.eY p.mb p.mm s.ms::Ma.j_ p.mm s.ms.m::my Q p.tm s.sts::ax b [PA sb 0] 74::Q::Ro.mv p.rb p.rm s.cfg.agents::Ro.t_ p.rm s.rows::pt P.size (.deferred (some []))::ay 184 74 p.ka s.kept.length p.kc (flat cR s.kept)::F) ?_ ?_ ?_ ?_ ?_
   .have h:=h.o [3,4,0,2,14,15,1,5,6,7,8,9,10,11,12,13,16] 17;have h:=aA.shut [_,_,_] h;exact h.o [1,2,3,0] 4
   .intro G y h;have h:=h.o [2,0,1] 3;have h:=aA.open (A:=[_,_,_]) h;refine cw.2 ⟨(a7,c7),aA.shut [_,_,_,_,_] ?_⟩;rw[show jM s++((bB s.cm).take 0).flatMap DU=jM s by simp];exact h.o [0,1,3,4,2] 5
   .intro j E G y K1 h kt _;obtain⟨⟨a8,c8⟩,h⟩:=cw.1 h;have h:=aA.open (A:=[_,_,_,_,_]) h;dsimp only at h;refine Y _ _ _ ?_;have d:=s_ E;have T:=yD ok.sh _ d;have J:(bB s.cm)[j].1.g_.size<=5000:=by
     obtain⟨q,hq,e⟩:=Dc d;rw[<-e];exact g_.cm q hq
    have U:(cbB (bB s.cm)[j].1 (bB s.cm)[j].2).length<=10100:=hO _ d;have D:=pQ (f:=DU) (l:=(bB s.cm).take j) (B:=10100) λx hx=>hO x (RE hx)
    have N:((bB s.cm).take j).length<=(bB s.cm).length:=by grind
    have L:10100*((bB s.cm).take j).length<=10100*1024:=q35 _ ez;refine⟨_,_,_,_,_,_,_,_,_,_,rfl,h.hN 4 rfl,h.al λb5 _ h=>h.st 0 rfl rfl ?_⟩;intro h7 h;refine h.al λb6 _ h=>h.zy 0 rfl rfl λh4 h=>⟨h.hN 6 rfl,h.FK 6 rfl λV h=>⟨_,_,_,h.r 2,_,_,h.q 1,_,_,_,_,_,_,_,_,h.u_ 0 rfl,MY (key:=(bB s.cm)[j].1) (c:=(bB s.cm)[j].2) T J h λa9 c9 y2 h=>⟨_,_,_,rfl,h.r 3,dw h (i:=4) rfl rfl rfl (h.a_ 0 rfl) (by grind) λw v W h=>⟨_,_,_,rfl,h.st 3 rfl rfl ?_⟩⟩⟩⟩;intro h6 h;refine⟨h.hN 7 rfl,kt _ ?_⟩;have h:=h.qc 7 rfl (.loop R1);have e5:jM s++((bB s.cm).take (j+1)).flatMap DU=(jM s++((bB s.cm).take j).flatMap DU)++DU (bB s.cm)[j]:=by
     rw[kM (f:=DU) E,Fw]
    refine cw.2 ⟨(w,v),aA.shut [_,_,_,_,_] ?_⟩;dsimp only;rw[e5];exact h.o [3,4,5,6,7] 8
   .intro y h;obtain⟨⟨a8,c8⟩,h⟩:=cw.1 h;have h:=aA.open (A:=[_,_,_,_,_]) h;dsimp only at h;rw[FE]at h;refine⟨.ready,none,ee,by rw[lp l6 r9];exact h.hN 4 rfl,h.FK 4 rfl λh7 h=>⟨rfl,⟨_,_,_,h.r 0,_,h.rd 10 rfl _,⟨_,_,_,h.r 6,h.al λb7 _ h=>⟨h.r 1,oU h 0 rfl λa9 c9 h4 h=>⟨_,_,_,rfl,h.r 2,dw h (i:=3) rfl rfl rfl (h.a_ 0 rfl) (by grind) λw v V h=>⟨_,_,_,rfl,?_⟩⟩⟩⟩⟩⟩⟩
    rw[<-j3]at h ⊢;refine h.st 2 rfl rfl ?_;intro y2 h;refine⟨_,h.rd 12 rfl _,⟨_,_,_,h.r 8,⟨λi C=>∃(j:Nat) (a:KQ) (c:Nat),i=j/\j<=s.kept.length/\
     aA C (ax ob [.slice a (lZ s++(s.kept.take j).flatMap DU).length c] 63::ay 5 1 a (lZ s++(s.kept.take j).flatMap DU).length c ((lZ s++(s.kept.take j).flatMap DU).map U8)::pt u.size (.deferred (some []))::pt P.size (.deferred (some []))::
      Q::ax sb (dx s p) 165::Ro.mv p.rb p.rm s.cfg.agents::Ro.t_ p.rm s.rows::Ma.eY p.mb p.mm s.ms::Ma.j_ p.mm s.ms.m::DI p.hb p.hm s.cfg.cells::cG p.hm s.cm::my Q p.tm s.sts::ay 184 74 p.ka s.kept.length p.kc (flat cR s.kept)::F),
     λi _=>s.kept.length-i.toNat,⟨0,w,v,rfl,ez,?_⟩,?_⟩⟩⟩
    .rw [show lZ s++(s.kept.take 0).flatMap DU=lZ s by simp];exact h.o [2,3,7,16,13,8,14,15,9,10,4,5,11,17] 18
    rintro i W ⟨j,a,c,rfl,E,h⟩;refine⟨λn=>?_,λn=>?_⟩
    .have n:j<s.kept.length:=by grind
     have d:=s_ n;have U:(cbB s.kept[j].1 s.kept[j].2).length<=10100:=O _ d;have D:=pQ (f:=DU) (l:=s.kept.take j) (B:=10100) λx hx=>O x (RE hx)
     have N:(s.kept.take j).length<=s.kept.length:=by rw[q23];omega
     have L:10100*(s.kept.take j).length<=10100*900000:=q35 _ ez;have hr:=h.a_ 13 rfl;refine⟨ez,_,_,hr.some jx ez n,_,_,_,_,_,_,_,_,_,_,hr.E8 jx n,h.al λb9 _ h=>h.zy 0 rfl rfl λh6 h=>⟨_,_,_,h.r 1,_,_,h.q 0,_,_,_,_,_,_,_,_,h.rdt (l:=[_,_]) 0 rfl rfl,MY (key:=s.kept[j].1) (c:=s.kept[j].2) (ok.kept _ d) (g_.kept _ d) h λa9 c9 H22 h=>⟨_,_,_,rfl,h.r 2,dw h (i:=3) rfl rfl rfl (h.a_ 0 rfl) (by grind) λr8 y3 H23 h=>⟨_,_,_,rfl,h.st 2 rfl rfl ?_⟩⟩⟩⟩;intro H24 h
     conv=>whnf
     rw[aN (x:=(j:Int)+1)];have e5:lZ s++(s.kept.take (j+1)).flatMap DU=(lZ s++(s.kept.take j).flatMap DU)++DU s.kept[j]:=by
      rw[kM (f:=DU) n,Fw]
     refine⟨⟨j+1,r8,y3,ez,n,?_⟩,by grind⟩;rw[e5];exact h.o [2,3,4,5,6,7,8,9,10,11,12,13,14,15] 16
    .have hge:s.kept.length<=j:=by grind
     rw[FL hge]at h;refine⟨_,_,_,h.r 0,h.hN 2 rfl,?_⟩;have h:=h.qc 2 rfl (.deferred none);refine⟨h.hN 3 rfl,?_⟩;have h:=h.qc 3 rfl (.deferred none);refine k a c _ ?_;have h:=h.o [5,6,7,8,9,10,11,12,13,1,4] 14;have h:=di.2 ⟨p,h⟩;exact h.o [1,2,0] 3
   .intro j y _ h;exact cS (aA.B2 h).1 id
  .intro H9 h;exact cS (aA.B2 h).1 id
 refine⟨_,h.rd 9 rfl _,⟨_,h.r 0,_,h.rd 9 rfl _,⟨_,h.r 0,_,h.rd 9 rfl _,⟨_,h.r 0,_,h.rd 9 rfl _,⟨_,h.r 0,_,Ma.Xw h 3 rfl,?_,?_⟩⟩⟩⟩⟩
 .refine h.al λb10 _ h=>⟨?_,?_⟩
  .refine qv (vs:=[s.now,s.boots,s.sunk,s.ms.now]) h (λH h=>h.ew 0 rfl) eh λa1 c1 H2 h=>⟨_,_,_,rfl,h.al λb11 _ h=>h.st 0 rfl rfl ?_⟩;intro Z h;exact t _ _ _ _ (h.o [0,1,3,4,5,6,7,8,9,10,11,12,13] 14)
  .refine h.al λb12 _ h=>qv (vs:=[s.now,s.boots,s.sunk,s.ms.now]) h (λH h=>h.ew 1 rfl) eh λa1 c1 H2 h=>⟨_,_,_,rfl,h.st 1 rfl rfl ?_⟩;intro Z h;exact t _ _ _ _ (h.o [1,0,3,4,5,6,7,8,9,10,11,12,13] 14)
 .refine h.al λb13 _ h=>⟨Ma.Xw h 4 rfl,h.r 1,h.r 10,h.r 1,h.r 10,h.r 1,h.r 10,h.r 1,h.r 10,h.al λb14 _ h=>qv (vs:=[s.now,s.boots,s.sunk,s.ms.now]) h (λH h=>h.ew 0 rfl) eh λa1 c1 H2 h=>⟨_,_,_,rfl,h.st 2 rfl rfl ?_⟩⟩;intro Z h;exact t _ _ _ _ (h.o [2,0,3,4,5,6,7,8,9,10,11,12,13] 14)
def md(hs:HS Pv)(s:RS):Except Int (HS Pv×RS):=match cQ s with
 | .error e=>.error e
 | .ok (n,s1)=>match j0 s1 with
  | .error e=>.error e
  | .ok (ev,s2)=>if gy n [ev]=false then .error 10 else
   if 0<(hs.offer n [ev]).2.1.length\/0<(hs.offer n [ev]).2.2 then .error 10 else .ok ((hs.offer n [ev]).1,s2)
section
variable {F L:List aF}{H:aC}{K KP:KE}{Q Q':aF}{sb:Nat}{s:aL}
def agJ(rb hb:Nat)(Q:aF)(F:List aF)(K KP:KE):Except Int (HS Pv×RS)->Prop
 | .ok (hs,s)=>∀Q' H',aH Q Q'->s.e=0->aI s.bs->s.bs.length<=1099511627776->aA H' (Q'::kb rb s::C1 Q' hb hs::F)->K (.tuple #[]) H'
 | .error e=>∀Q' H',e≠0->aH Q Q'->aA H' (Q'::F)->KP (HF e) H'
theorem Wq{rb hb:Nat}{r:RS}{hs:HS Pv}(ok:hs.Ok)(W:hs.next<=1125899906842624)(h:aA H (Q::kb rb r::C1 Q hb hs::F))(hb0:aI r.bs)(E:r.bs.length<=1099511627776) (k:agJ rb hb Q F K KP (md hs r)):CP 389 #[.agg #[PA rb 0],PA hb 0] H K KP:=by
 refine cNP 389 5208530270361417 [[],[],[(4,sI),(5,sA)]] (h.al λb H0 h=>?_);intro S V;unfold md at k;have v:∀(n:Int) (i:aF) (ev:Ev) (s2:RS) P B,(match (if gy n [ev.p]=false then (.error 10:Except Int (HS Pv×RS)) else if 0<(hs.offer n [ev.p]).2.1.length\/0<(hs.offer n [ev.p]).2.2 then .error 10 else .ok ((hs.offer n [ev.p]).1,s2)) with|x=>agJ rb hb Q F K KP x)->aH Q i->ge i ev->s2.e=0->aI s2.bs->s2.bs.length<=1099511627776->aA B (ax P (bH ev) 69::i::kb rb s2::C1 Q hb hs::ax b [PA rb 0] 556::F)->S n P 0 B:=by
  intro n i ev s2 P B k d f j m t h;dsimp only at k;refine V _ _ _ _ ⟨_,_,_,_,_,_,h.q 0,h.al λb1 _ h=>h.al λb2 _ h=>h.st 0 rfl rfl ?_⟩;intro M h;refine⟨_,_,_,_,_,_,_,_,_,_,_,_,_,_,_,_,_,_,_,_,h.q 0,?_⟩;have D:flat bH [ev]=bH ev:=by simp[flat]
  refine K3 (evs:=[ev]) (a:=some ⟨b1,0,none⟩) (c:=1) h ⟨λH h=>by rw[D];exact h.ew 1 rfl,λe s H h=>by rw[CS]at s;subst s;exact f.at h 3 rfl⟩ eh λC h=>⟨_,rfl,?_⟩;rw[yh];show ∀O:aC->Prop,_;intro O L;refine⟨λT=>?_,λT=>L _ ?_⟩;.rw [c_ (by grind)]at k;exact k i _ ee d (h.o [3] 7)
  have R:gy n [ev.p]=true:=by grind
  rw[b_ (by grind)]at k;refine⟨_,_,_,_,_,_,h.q 2,h.al λb3 _ h=>?_⟩;have h:=h.o [6,0,4,5] 8;have h:=Bx d h;refine KH (items:=[ev]) h ok W (λH h=>by rw[D];exact h.ew 0 rfl) (λe s=>by rw[CS]at s;subst s;exact f) eh λa2 c2 ready H4 I hl h=>⟨_,_,_,_,rfl,?_⟩;have Y:(hs.offer n ([ev].map Ev.p)).2.1.length=ready.length:=by grind
  intro U N;refine⟨λG=>?_,λG=>N _ ?_⟩
  .have G:0<(hs.offer n [ev.p]).2.1.length\/0<(hs.offer n [ev.p]).2.2:=by grind
   rw[c_ G]at k;exact k i _ ee d (h.o [3] 5)
  have G:¬(0<(hs.offer n [ev.p]).2.1.length\/0<(hs.offer n [ev.p]).2.2):=by grind
  rw[b_ G]at k;exact k i _ d j m t (h.o [3,4,1] 5)
 refine⟨_,h.q 0,_,h.q 0,?_,?_⟩
 .have h:=h.o [2,1,0,3] 4;refine kP h hb0 E ?_;cases hr:cQ r with
   | error e=>rw[hr]at k;exact λB s h=>k _ _ s (aH.refl Q) (h.o [0] 3)
   | ok q=>
   let⟨n,s1⟩:=q;rw[hr]at k;dsimp only at k;intro Z J y A h;refine⟨_,rfl,h.q 2,?_,?_⟩;.have h:=h.o [1,0,2,3] 4;refine yl h y A ?_;cases GF:j0 s1 with
     | error e=>rw[GF]at k;exact λi B s w h=>k _ _ s w (h.o [0] 3)
     | ok q=>let⟨pv,s2⟩:=q;rw[GF]at k;dsimp only at k;intro i ev M d f u j m t h;subst u;refine⟨_,_,_,_,_,_,rfl,h.al λb4 _ h=>h.st 0 rfl rfl ?_⟩;intro C h;exact v n i ev s2 b4 C k d f j m t (h.o [0,1,2,4,3] 5)
   refine h.al λb5 _ h=>⟨h.q 3,?_⟩;have h:=h.o [2,1,0,3,4] 5;refine yl h y A ?_;cases GF:j0 s1 with
    | error e=>rw[GF]at k;exact λi B s w h=>k _ _ s w (h.o [0] 4)
    | ok q=>let⟨pv,s2⟩:=q;rw[GF]at k;dsimp only at k;intro i ev M d f u j m t h;subst u;refine⟨_,_,_,_,_,_,rfl,h.st 2 rfl rfl ?_⟩;intro C h;exact v n i ev s2 b5 C k d f j m t (h.o [2,0,1,4,3] 5)
 refine h.al λb6 _ h=>⟨h.q 1,h.q 1,?_⟩;have h:=h.o [3,2,0,1,4] 5;refine kP h hb0 E ?_;cases hr:cQ r with
  | error e=>rw[hr]at k;exact λB s h=>k _ _ s (aH.refl Q) (h.o [0] 4)
  | ok q=>let⟨n,s1⟩:=q;rw[hr]at k;dsimp only at k;intro Z J y A h;refine⟨_,rfl,h.q 3,?_⟩;have h:=h.o [1,0,2,3,4] 5;refine yl h y A ?_;cases GF:j0 s1 with
   | error e=>rw[GF]at k;exact λi B s w h=>k _ _ s w (h.o [0] 4)
   | ok q=>let⟨pv,s2⟩:=q;rw[GF]at k;dsimp only at k;intro i ev M d f u j m t h;subst u;refine⟨_,_,_,_,_,_,rfl,h.st 2 rfl rfl ?_⟩;intro C h;exact v n i ev s2 b6 C k d f j m t (h.o [2,0,1,4,3] 5)
end
def j8:Rd Ot:=λs=>match gz s with
 | .error e=>.error e
 | .ok (w,s1)=>
  if (bg (bg s1.bs.length s1).2.bs.length (bg s1.bs.length s1).2).2.e≠0 then .error (bg (bg s1.bs.length s1).2.bs.length (bg s1.bs.length s1).2).2.e else
  if (!(fp (bN (bg s1.bs.length s1).1)).2.2 || !Hp w 0 4611686018427387903)=true then .error 10 else
  if (kT (bg (bg s1.bs.length s1).2.bs.length (bg s1.bs.length s1).2).1).2≠0 then .error (kT (bg (bg s1.bs.length s1).2.bs.length (bg s1.bs.length s1).2).1).2 else
  .ok ((⟨w,bN (bg s1.bs.length s1).1⟩,(kT (bg (bg s1.bs.length s1).2.bs.length (bg s1.bs.length s1).2).1).1),(bg (bg s1.bs.length s1).2.bs.length (bg s1.bs.length s1).2).2)
theorem iS{x y:C}(h:FO s x=.ok (y,A)):A=s/\y=x/\s.e=0:=by unfold FO at h;grind
theorem vX(h:gz s=.ok (a,A)):A.bs.length<=s.bs.length:=by rw[(iS h).1];exact kN s
theorem gG(h:cQ s=.ok (a,A)):A.bs.length<=s.bs.length:=by rw[(iS h).1];exact kN s
theorem vY(h:eT s=.ok (a,A)):A.bs.length<=s.bs.length:=by rw[(iS h).1];exact kN s
theorem uh(h:dZ a s=.ok (n,A)):A.bs.length<=s.bs.length:=by rw[(iS h).1];grind [tO]
theorem ui(h:Hb a s=.ok (n,A)):A.bs.length<=s.bs.length:=by
 unfold Hb at h;cases e:cQ s with
  | error e'=>grind
  | ok q=>
  let⟨v,s1⟩:=q;rw[e]at h;dsimp only at h;split at h;.cases h;exact gG e
  cases h
theorem Nf{KP:KE}(h:aA H (kb k s::F))(hb0:aI s.bs)(M:s.bs.length<=10000000000) (rb:tQ k F (λo:Ot=>.tuple #[Hg o.1,Fv o.2]) K KP (j8 s)):CP 327 #[.agg #[PA k 0]] H K KP:=by
 refine cNP 327 5208464183038236 [[],[(4,sA)]] (h.al λb _ h=>h.al λb1 _ h=>h.al λb2 H0 h=>?_);intro G J;unfold j8 at rb;have d:∀(w:Int) (s1:RS) y t,gz s=.ok (w,s1)->aI s1.bs->s1.bs.length<=1099511627776->aA t (kb k (bg s1.bs.length s1).2::ax y [aD w,.string (bN (bg s1.bs.length s1).1)] 174::ax b2 (dF Cl.z) 181::ax b1 [aD 0,.string ⟨#[]⟩] 174::ax b [PA k 0] 556::F)->G y 0 t:=by
  intro w s1 y C n a c h;have O:=vX n;rw[n]at rb;dsimp only at rb;have r:=mJ (m:=s1.bs.length) a;have L:=pD s1 s1.bs.length;generalize bg s1.bs.length s1=T1 at *;refine J _ _ _ ⟨_,h.r 4,_,h.r 4,_,ql h,oQ (most:=T1.2.bs.length) h r.1 ez (by unfold aG;omega) λx h=>⟨_,rfl,_,h.r 4,_,nE h,?_⟩⟩;have i:=mJ (m:=T1.2.bs.length) r.1;have N:=pD T1.2 T1.2.bs.length;generalize bg T1.2.bs.length T1.2=T2 at *;refine jV (λf=>⟨rfl,_,h.r 1,?_⟩) λf=>?_
  .rw [b_ (by grind)]at rb;have E:=nM T1.1;refine Kv ez h λla lc j h=>⟨_,_,_,_,_,rfl,?_⟩;generalize (fp (bN T1.1))=P at *;refine h.al λb3 _ h=>h.st 0 rfl rfl ?_;intro Q h;refine⟨_,λ_=>h.r 3,_,λ_=>pE,?_⟩;intro I v;refine⟨λA=>?_,λA=>v _ ?_⟩;.rw [c_ A]at rb;exact rb _ ee (h.o [] 7)
   rw [b_ (by grind)]at rb;refine xF i.2 h λa3 c3 U h=>⟨_,_,_,rfl,Vr rfl i.2 h (λH h=>h.a_ 0 rfl) ez λV h=>⟨_,_,_,_,_,_,_,_,_,rfl,?_⟩⟩;have D:=kT T2.1;generalize kT T2.1=B at *;refine h.al λb4 _ h=>h.zy 0 rfl rfl λS h=>jV (λhb=>⟨rfl,?_⟩) λhb=>?_;.rw [b_ (by grind)]at rb;refine⟨_,_,h.q 5,_,_,_,_,_,_,_,_,h.u_ 0 rfl,h.st 7 rfl rfl ?_⟩;intro T h;refine⟨h.u_ 0 rfl,h.zy 6 rfl rfl λR h=>⟨_,_,h.q 7,_,_,_,_,_,_,_,_,h.u_ 6 rfl,rb _ f i.1 ez (h.o [4] 9)⟩⟩
   rw [c_ hb]at rb;exact rb _ hb (h.o [] 9)
  rw [c_ f]at rb;exact rb _ f (h.o [] 5)
 refine⟨_,h.q 2,_,h.r 2,_,h.r 2,?_,?_⟩
 .have h:=h.o [3,0,1,2] 4;refine vA h hb0 ez ?_;cases hr:gz s with
   | error e=>rw[hr]at rb;exact λt f h=>rb _ f (h.o [] 3)
   | ok q=>
   let⟨w,s1⟩:=q;intro C u a c h;refine⟨_,rfl,h.r 3,h.r 3,_,ql h,?_,?_⟩;.refine oQ (most:=s1.bs.length) h a c (by unfold aG;omega) λx h=>⟨_,rfl,h.al λb5 _ h=>h.st 0 rfl rfl ?_⟩;intro j h;exact d w s1 b5 j hr a c (h.o [1,0,2,3,4] 5)
   refine h.al λb6 _ h=>⟨ql (h.o [1] 2),h.r 4,h.r 4,?_⟩;have h:=h.o [1,0,2,3,4] 5;refine oQ (most:=s1.bs.length) h a c (by unfold aG;omega) λx h=>⟨_,rfl,h.st 1 rfl rfl ?_⟩;intro j h;exact d w s1 b6 j hr a c h
 refine h.al λb7 _ h=>⟨h.r 3,h.r 3,h.q 3,?_⟩;have h:=h.o [4,0,1,2,3] 5;refine vA h hb0 ez ?_;cases hr:gz s with
  | error e=>rw[hr]at rb;exact λt f h=>rb _ f (h.o [] 4)
  | ok q=>let⟨w,s1⟩:=q;intro C u a c h;refine⟨_,rfl,h.r 4,h.r 4,_,ql h,oQ (most:=s1.bs.length) h a c (by unfold aG;omega) λx h=>⟨_,rfl,h.st 1 rfl rfl ?_⟩⟩;intro j h;exact d w s1 b7 j hr a c h
def Jq:Rd bT:=λs=>match cQ s with
 | .error e=>.error e
 | .ok (a,s1)=>match cQ s1 with
  | .error e=>.error e
  | .ok (b,s2)=>match cQ s2 with
   | .error e=>.error e
   | .ok (c,s3)=>match cQ s3 with
    | .error e=>.error e
    | .ok (d,s4)=>.ok (⟨a,b,c,d⟩,s4)
def jN:Nat->Rd (List bT)
 | 0,s=>.ok ([],s)
 | n+1,s=>match jN n s with
  | .error e=>.error e
  | .ok (l,s1)=>match Jq s1 with
   | .error e=>.error e
   | .ok (x,s2)=>.ok (l++[x],s2)
def jj(hs:HS Pv):Nat->RS->Except Int (HS Pv×RS)
 | 0,s=>.ok (hs,s)
 | n+1,s=>match jj hs n s with
  | .error e=>.error e
  | .ok (h,s1)=>md h s1
theorem Ng:∀{n:Nat} {s:RS} {vs:List bT} {s':RS},jN n s=.ok (vs,s')->vs.length=n
 | 0,s,vs,s',h=>by cases h;rfl
 | n+1,s,vs,s',h=>by
  unfold jN at h
  split at h
  .cases h
  .rename_i b s1 a
   split at h
   .cases h
   .cases h
    rw[qa,Ng a];rfl
theorem Nh{s:RS}{e:Int}:∀{n j:Nat},jN j s=.error e->j<=n->jN n s=.error e
 | 0,j,h,hj=>by
  grind
 | n+1,j,h,hj=>by
  rcases HU n j with a|a
  .grind
  .unfold jN;rw[Nh h a]
theorem Ni{hs:HS Pv}{s:RS}{e:Int}:∀{n j:Nat},jj hs j s=.error e->j<=n->jj hs n s=.error e
 | 0,j,h,hj=>by
  grind
 | n+1,j,h,hj=>by
  rcases HU n j with a|a
  .grind
  .unfold jj;rw[Ni h a]
def pR(c:bM)(last:Int)(hd:Bool)(streak:Int)(l:List bT):Rd bC:=λs5=>
 if ¬(l.length<=8/\0<=streak/\∀x∈l,x.ok) then .error 10 else match cQ s5 with
  | .error e=>.error e
  | .ok (next,s6)=>if next<0\/1099511627776<next then .error 11 else match dZ 256 s6 with
   | .error e=>.error e
   | .ok (m,s7)=>match jj ⟨next,c.hold,[]⟩ m.toNat s7 with
    | .error e=>.error e
    | .ok (hs,s8)=>.ok (⟨⟨c.kl,c.za,hd,streak,l⟩,hs,last⟩,s8)
def oZ(c:bM)(last:Int):Rd bC:=λs1=>match eT s1 with
 | .error e=>.error e
 | .ok (hd,s2)=>match cQ s2 with
  | .error e=>.error e
  | .ok (streak,s3)=>match dZ 8 s3 with
   | .error e=>.error e
   | .ok (n,s4)=>match jN n.toNat s4 with
    | .error e=>.error e
    | .ok (l,s5)=>pR c last (decide (hd=1)) streak l s5
def og(c:bM):Rd bC:=λs=>match gz s with
 | .error e=>.error e
 | .ok (last,s1)=>if Hp last (-1) 4611686018427387903=false then .error 10 else oZ c last s1
theorem Ws(h:j0 s=.ok (M,A)):aG M.value:=by unfold j0 at h;cases h1:cQ s with
  | error e'=>rw[h1]at h;cases h
  | ok q=>let⟨a,s1⟩:=q;rw[h1]at h;dsimp only at h;cases h2:gz s1 with
   | error e'=>rw[h2]at h;cases h
   | ok q=>let⟨b,s2⟩:=q;rw[h2]at h;dsimp only at h;rw[(iS h).2.1];show aG b;rw[(iS h2).2.1];exact tM _
structure sr(m:Int)(hs:HS Pv):Prop where
 ok:hs.Ok
 most:hs.most=m
 next:hs.next<=1099511627776
 rows:∀p∈hs.rows,p.1<1099511627776/\gw p.2=true/\aG p.2.value
theorem Wt{m:HS Pv}{s:RS}(g:sr a G)(h:md G s=.ok (m,A)):sr a m:=by
 unfold md at h;cases h1:cQ s with
  | error e'=>rw[h1]at h;cases h
  | ok q=>
  let⟨n,s1⟩:=q;rw[h1]at h;dsimp only at h;cases h2:j0 s1 with
   | error e'=>rw[h2]at h;cases h
   | ok q=>
   let⟨ev,s2⟩:=q;rw[h2]at h;dsimp only at h;split at h;.cases h
   rename_i hb;split at h;.cases h
   cases h;have hb:gy n [ev]=true:=by grind
   unfold gy at hb;simp only[q_,v_,XQ,CU,HE]at hb;have d:=HS.Xd g.ok n [ev];have b:=Mj (s:=G) (first:=n) (B:=1099511627776) (items:=[ev]) g.next (λp c=>(g.rows p c).1) (by grind);refine⟨d.1,d.2.2.2.trans g.most,b.1,λp c=>⟨b.2 p c,?_⟩⟩;rcases (vw (s:=G) (first:=n) (items:=[ev])).2 p c with h|h;.rw [CS]at h;rw[h];exact⟨hb.2.2 ev (CS.2 rfl),Ws h2⟩
   exact (g.rows p h).2
theorem Dd{m:Int}{hs:HS Pv}{s:RS}(g:sr m hs):∀{n:Nat} {a:HS Pv} {s':RS},jj hs n s=.ok (a,s')->sr m a
 | 0,a,s',h=>by cases h;exact g
 | n+1,a,s',h=>by
  unfold jj at h
  split at h
  .cases h
  .rename_i b;exact Wt (Dd g b) h
def SC(v m:Int):Bool:=!decide (aZ .and .u64 v m=0)
def flR(c:bM)(t:Int):Rd (Fl×bC):=λs=>match eT s with
 | .error e=>.error e
 | .ok (v,s1)=>match og c s1 with
  | .error e=>.error e
  | .ok (st,s2)=>.ok ((⟨t,SC v 1,SC v 2,SC v 4⟩,st),s2)
section
variable {F L:List aF}{H:aC}{K KP:KE}{Q Q':aF}{sb:Nat}{s:aL}
def aaa(rb sb tm:Nat)(cs:Xa)(sts:List (Option bC))(a:Nat)(Q:aF)(F:List aF)(K KP:KE):Except Int ((Fl×bC)×RS)->Prop
 | .ok (x,s)=>∀Q' H',aH Q Q'->s.e=0->aI s.bs->s.bs.length<=1099511627776->aA H' (Q'::kb rb s::ax sb cs 165::my Q' tm (sts.set a (some x.2))::F)->K (nS x.1) H'
 | .error e=>∀Q' H',e≠0->aH Q Q'->aA H' (Q'::F)->KP (HF e) H'
theorem yQ:∀{bl:List (Option Nat)} {sts:List (Option bC)} {k:Nat} {F:List aF},aA H (A_ Q bl sts::F)->aA H (A_ Q (bl.set k none) (sts.set k none)::F)
 | [],_,_,_,h=>h
 | none::_,[],0,_,h=>h
 | some _::_,[],0,_,h=>h
 | none::_,[],_+1,_,h=>h
 | some _::_,[],_+1,_,h=>h
 | none::bs,y::ss,0,_,h=>h
 | some x::bs,none::ss,0,_,h=>h
 | some x::bs,some y::ss,0,_,h=>(iu.1 h).tl
 | none::bs,y::ss,k+1,_,h=>yQ (bl:=bs) (sts:=ss) (k:=k) h
 | some x::bs,none::ss,k+1,_,h=>yQ (bl:=bs) (sts:=ss) (k:=k) h
 | some x::bs,some y::ss,k+1,_,h=>by have h:=iu.1 h;have h:=h.o [1,0] 2;have h:=yQ (bl:=bs) (sts:=ss) (k:=k) h;have h:=h.o [1,0] 2;exact iu.2 h
theorem Wu{rb b b1 fb B tm cb hb:Nat}{a:Nat}{cs:Xa}{sts:List (Option bC)}{fl:Fl}{ck:Ck}{last m:Int}{r:RS}{hs:HS Pv}{P:Except Int ((Fl×bC)×RS)} (g:sr hs.most hs) (ha:a<sts.length) (N:aT cs 18=some (.map (some tm))) (hm:0<=m/\m<=256) (hb0:aI r.bs) (U:r.bs.length<=1099511627776) (L:r.e=0) (V:P=match jj hs m.toNat r with|.error e=>.error e|.ok (h,s8)=>.ok ((fl,⟨ck,h,last⟩),s8)) (k:aaa rb sb tm cs sts a Q F K KP P) (h:aA H (Q::kb rb r::C1 Q hb hs::ax B [PA cb 0,PA hb 0,aD last] 310::FH cb ck::ax fb (RX fl) 260::ax b1 [aD 0,.bool false,.bool false,.bool false] 260::ax b [PA rb 0] 556::ax sb cs 165::my Q tm sts::F)) : ∃(f:Int->aC->Prop) (R:Int->aC->Nat),f 0 H/\ ∀(t:Int),∀s:aC,f t s->nC.l1 sb 0 (a:Int) K KP b b1 fb 0 (some ⟨B,0,none⟩) (some ⟨hb,0,none⟩) m f R t s:=by
 refine⟨λi D=>∃(j:Nat) (w:aF) (d:HS Pv) (s1:RS),i=j/\(j:Int)<=m/\aH Q w/\jj hs j r=.ok (d,s1)/\s1.e=0/\aI s1.bs/\s1.bs.length<=1099511627776/\ aA D (w::kb rb s1::C1 w hb d::ax B [PA cb 0,PA hb 0,aD last] 310::FH cb ck::ax fb (RX fl) 260::ax b1 [aD 0,.bool false,.bool false,.bool false] 260::ax b [PA rb 0] 556::ax sb cs 165::my Q tm sts::F),λi _=>m.toNat-i.toNat,⟨0,Q,hs,r,rfl,hm.1,aH.refl Q,rfl,L,hb0,U,h⟩,?_⟩;rintro i H1 ⟨j,w,d,s1,rfl,hj,c,W,E,y,A,h⟩;unfold nC.l1;have g1:=Dd g W;refine⟨λC=>?_,λC=>?_⟩
 .have C:=ke C;refine⟨_,h.q 7,?_⟩;have Y:=g1.next;refine Wq g1.ok ez h y A ?_;have n:jj hs (j+1) r=md d s1:=by grind [jj]
  cases hr:md d s1 with
   | error e=>rw[hr]at n;rw[V,Ni n ez]at k;exact λM D Z u h=>k M D Z (c.trans u) (h.o [0] 8)
   | ok q=>let⟨u,s2⟩:=q;rw[hr]at n;intro M D S G I O h;refine⟨rfl,?_⟩;rw[aN (x:=(j:Int)+1)];exact⟨⟨j+1,M,u,s2,ez,ez,c.trans S,n,G,I,O,h⟩,by grind⟩
 have h0:=ix C;have T:j=m.toNat:=ez;subst T;rw[V,W]at k;refine⟨_,(h.r 8).trans N,?_⟩;have h:=h.o [9,0,1,2,3,4,5,6,7,8] 10;have h:=Mc c h;let⟨bl,J,h⟩:=lW.1 h;refine h.ji (α:=Option Nat) (v:=some B) (x:=((a:Nat):Int)) rV Fm 0 rfl λH2 h=>⟨_,_,_,_,h.q 7,h.st 8 rfl rfl ?_⟩;intro H3 h;refine⟨_,_,_,_,h.q 8,k w _ c E y A ?_⟩;have h:=h.o [1,0,2,3,4,5,6,10] 11;have h:=yQ (k:=a) h;have h:=h.o [5,6,4,1,0,2,3,7] 8;have h:aA H3 (Fp w B ⟨ck,d,last⟩::_):=io.2 ⟨cb,hb,h⟩;have h:=h.o [1,0,2,3,4,5] 6;have h:=Mf J ha h;exact h.o [1,2,3,0] 4
def aaP(fl:Fl):Except Int (bC×RS)->Except Int ((Fl×bC)×RS)
 | .error e=>.error e
 | .ok (st,s)=>.ok ((fl,st),s)
theorem Wv{rb b b1 fb j tm cb hb0:Nat}{a:Nat}{cs:Xa}{sts:List (Option bC)}{fl:Fl}{ck0:Ck}{c:bM}{last streak:Int}{hd:Bool}{l:List bT}{la:KQ}{lc:Nat}{r:RS} (ok:jZ c) (w:ck0.kl=c.kl) (h3:ck0.least=c.za) (ha:a<sts.length) (h7:aT cs 18=some (.map (some tm))) (h8:aT cs 8=some (aD c.hold)) (h5:aI r.bs) (j3:r.bs.length<=1099511627776) (k:aaa rb sb tm cs sts a Q F K KP (aaP fl (pR c last hd streak l r))) (h:aA H (FH cb ck0::ay 279 4 la l.length lc (flat fo l)::Q::kb rb r::ax j [PA cb 0,PA hb0 0,aD last] 310::ax fb (RX fl) 260::ax b1 [aD 0,.bool false,.bool false,.bool false] 260::ax b [PA rb 0] 556::ax sb cs 165::my Q tm sts::F)) : NN (some ⟨j,0,none⟩) (∃v2,aM H (aV (some ⟨j,0,none⟩)) (aS (some ⟨j,0,none⟩))=some (.pointer v2)/\ CF 388 #[(.pointer v2),(.bool hd),(aD streak),(.slice la l.length lc)] H λh9 L=>∃E,h9=(aD E)/\ CP 325 #[(aD E)] L (λh2 f=>h2=(.tuple #[])/\ ∃O,bE f b 0 [(.pointer O)]/\ ∃v3,aM f sb (0+8)=some (aD v3)/\ CP 323 #[(.agg #[(.pointer O)])] f (λV s=>∃P,V=(aD P)/\ aM s sb (0+8)=some (aD v3)/\ CF 315 #[(aD P),(aD v3)] s λY S=>∃v A,Y=(.tuple #[(.pointer v),(aD A)])/\ CP 325 #[(aD A)] S (λh4 N=>h4=(.tuple #[])/\ NN (some ⟨j,0,none⟩) (ST N (aV (some ⟨j,0,none⟩)) ((aS (some ⟨j,0,none⟩))+1) [(.pointer v)] λu=>∃U,bE u b 0 [(.pointer U)]/\ CP 322 #[(.agg #[(.pointer U)]),(aD 256)] u (λl0 R=>∃B,l0=(aD B)/\ ∃(d:Int->aC->Prop) (j2:Int->aC->Nat),d 0 R/\ ∀(n:Int),∀t:aC,d n t->nC.l1 sb 0 (a:Int) K KP b b1 fb 0 (some ⟨j,0,none⟩) v B d j2 n t) (λ(M:Value) (C:aC)=>KP M C))) (λ(G:Value) (J:aC)=>KP G J)) (λ(I:Value) (x:aC)=>KP I x)) (λ(y:Value) (T:aC)=>KP y T)):=by
 unfold pR at k;refine dj ⟨_,h.rd 4 rfl 0,S2 (held:=hd) (streak:=streak) h (λH h=>h.a_ 0 rfl) (λhn H1 h=>⟨_,rfl,?_⟩) λD H1 h=>⟨_,rfl,?_⟩⟩;.rw [c_ hn]at k;exact jV (λe=>cS e ee) λe=>k Q _ ee (aH.refl Q) (h.o [2] 10)
 rw[b_ (not_not_intro D)]at k;refine jV (λ_=>⟨rfl,_,h.q 7,_,(h.r 8).trans h8,?_⟩) λe=>cS rfl e;have h:=h.o [3,0,2,4,5,6,7,8,9] 10;refine kP h h5 j3 ?_;cases hr:cQ r with
  | error e=>rw[hr]at k;exact λH' Z h=>k Q _ Z (aH.refl Q) (h.o [1] 8)
  | ok q=>
  let⟨next,s6⟩:=q;rw[hr]at k;dsimp only at k;intro H2 l5 h0 j1 h;refine⟨_,rfl,(h.r 7).trans h8,By (Q:=Q) h (λhn=>⟨_,_,rfl,?_⟩) λhb H3 i h=>⟨_,_,rfl,?_⟩⟩;.have hh:=ok.hd;rw[pO]at k;exact jV (λe=>cS e ee) λe=>k Q _ ee (aH.refl Q) (h.o [2] 9)
  rw[nO]at k;refine jV (λ_=>⟨rfl,dj ?_⟩) λe=>cS rfl e;refine h.st 4 rfl rfl ?_;intro H4 h;refine⟨_,h.q 7,?_⟩;have h:=h.o [1,0,2,3,4,5,6,7,8,9] 10;refine vB (by unfold aG;decide) h h0 j1 ?_;cases GF:dZ 256 s6 with
   | error e=>rw[GF]at k;exact λH' Z h=>k Q _ Z (aH.refl Q) (h.o [2] 9)
   | ok q=>
   let⟨m,s7⟩:=q;rw[GF]at k;dsimp only at k;have hm:0<=m/\m<=256:=by rw[(iS GF).2.1];grind [cx]
   intro H5 W h1 h6 h;refine⟨_,rfl,?_⟩;have hg:sr c.hold (⟨next,c.hold,[]⟩:HS Pv):=⟨⟨i.1,i.2.2.1,i.2.2.2,⟨by simp[gY],λp D=>cS D eh⟩⟩,rfl,i.2.1,λp D=>cS D eh⟩;refine Wu (fl:=fl) (r:=s7) (m:=m) (hs:=⟨next,c.hold,[]⟩) (ck:=⟨c.kl,c.za,hd,streak,l⟩) (last:=last) (cb:=cb) hg ha h7 hm h1 h6 W ?_ k ?_;.cases jj ⟨next,c.hold,[]⟩ m.toNat s7 with
     | error e=>rfl
     | ok q=>rfl
   have h:=h.o [3,0,1,4,2,5,6,7,8,9] 10;rw[w,h3]at h;exact h
end
theorem Ww{KP:KE}{rb b1 fb I tm cb hb0:Nat}{a:Nat}{cs:Xa}{fl:Fl}{ck0:Ck}{last:Int}
  (ok:jZ c) (u:ck0.kl=c.kl) (sts:ck0.least=c.za) (ha:a<J.length) (T:aT cs 18=some (.map (some tm))) (h8:aT cs 8=some (aD c.hold)) (M:aI s.bs) (h0:s.bs.length<=1099511627776)
  (sb:aaa rb k tm cs J a Q F K KP (aaP fl (oZ c last s)))
  (h:aA H (kb rb s::FH cb ck0::Q::ax I [PA cb 0,PA hb0 0,aD last] 310::ax fb (RX fl) 260::ax b1 [aD 0,.bool false,.bool false,.bool false] 260::ax b [PA rb 0] 556::ax k cs 165::my Q tm J::F)) :
  nC.r3 k 0 (a:Int) K KP b b1 fb 0 (some ⟨I,0,none⟩) H:=by
 unfold oZ at sb;unfold nC.r3;refine⟨_,h.q 6,_,h.q 6,vz h M h0 ?_⟩
 cases hr:eT s with
 | error e=>
  rw[hr]at sb;exact λr f h=>sb Q _ f (aH.refl Q) (h.o [1] 8)
 | ok q=>
 let⟨hd,s2⟩:=q;rw[hr]at sb;dsimp only at sb;intro H1 h3 B D h;refine⟨_,rfl,h.q 6,kP h B D ?_⟩
 cases GF:cQ s2 with
 | error e=>
  rw[GF]at sb;exact λr f h=>sb Q _ f (aH.refl Q) (h.o [1] 8)
 | ok q=>
 let⟨streak,s3⟩:=q;rw[GF]at sb;dsimp only at sb;intro H2 j1 Z S h;refine⟨_,rfl,_,h.q 6,vB (by unfold aG;decide) h Z S ?_⟩
 cases hr3:dZ 8 s3 with
 | error e=>
  rw[hr3]at sb;exact λr f h=>sb Q _ f (aH.refl Q) (h.o [1] 8)
 | ok q=>
 let⟨n,s4⟩:=q;rw[hr3]at sb;dsimp only at sb;have V:0<=n/\n<=8:=by
  rw[(iS hr3).2.1];exact Kk s3
 intro H3 h7 U A h;refine⟨_,rfl,⟨λla ln lc i r=>∃(j:Nat) (l:List bT) (s5:RS),i=j/\(j:Int)<=n/\ln=l.length/\jN j s4=.ok (l,s5)/\aI s5.bs/\s5.bs.length<=1099511627776/\
  aA r (FH cb ck0::ay 279 4 la l.length lc (flat fo l)::Q::kb rb s5::ax I [PA cb 0,PA hb0 0,aD last] 310::ax fb (RX fl) 260::ax b1 [aD 0,.bool false,.bool false,.bool false] 260::ax b [PA rb 0] 556::ax k cs 165::my Q tm J::F),
  λ_ _ _ i _=>n.toNat-i.toNat,⟨0,[],s4,rfl,V.1,rfl,rfl,U,A,(h.cp 279 4).o [2,0,3,1,4,5,6,7,8,9] 10⟩,?_⟩⟩
 rintro la ln lc i H4 ⟨j,l,s5,rfl,hj,rfl,t,w,v,h⟩;have h4:=Ng t;refine⟨λy=>?_,λy=>?_⟩
 .have y:=ke y;have d:jN (j+1) s4=match Jq s5 with|.error e=>.error e|.ok (x,s2)=>.ok (l++[x],s2):=by
   grind [jN]
  have bad:∀e Q' r,Jq s5=.error e->e≠0->aH Q Q'->aA r (Q'::F)->KP (HF e) r:=by
   intro e Q' r G f hs h;rw[G]at d;rw[Nh d ez]at sb;exact sb Q' r f hs h
  unfold Jq at bad d;refine⟨_,h.q 7,_,h.q 7,_,h.q 7,_,h.q 7,?_⟩;have h:=h.o [3,0,1,2,4,5,6,7,8,9] 10;refine kP h w v ?_
  cases q1:cQ s5 with
  | error e=>
   rw[q1]at bad;exact λr f h=>bad _ Q _ rfl f (aH.refl Q) (h.o [2] 9)
  | ok q=>
  let⟨x1,s6⟩:=q;rw[q1]at bad d;dsimp only at bad d;intro H5 h2 C W h;refine⟨_,rfl,h.q 7,h.q 7,h.q 7,kP h C W ?_⟩
  cases q2:cQ s6 with
  | error e=>
   rw[q2]at bad;exact λr f h=>bad _ Q _ rfl f (aH.refl Q) (h.o [2] 9)
  | ok q=>
  let⟨x2,s7⟩:=q;rw[q2]at bad d;dsimp only at bad d;intro H6 h1 E P h;refine⟨_,rfl,h.q 7,h.q 7,kP h E P ?_⟩
  cases q3:cQ s7 with
  | error e=>
   rw[q3]at bad;exact λr f h=>bad _ Q _ rfl f (aH.refl Q) (h.o [2] 9)
  | ok q=>
  let⟨x3,s8⟩:=q;rw[q3]at bad d;dsimp only at bad d;intro H7 h9 N R h;refine⟨_,rfl,h.q 7,kP h N R ?_⟩
  cases q4:cQ s8 with
  | error e=>
   rw[q4]at bad;exact λr f h=>bad _ Q _ rfl f (aH.refl Q) (h.o [2] 9)
  | ok q=>
  let⟨x4,s9⟩:=q;rw[q4]at bad d;dsimp only at bad d;intro H8 h5 L Y h;refine⟨_,rfl,h.al λb2 _ h=>h.append (m:=1) (ws:=fo ⟨x1,x2,x3,x4⟩) vg 3 rfl (h.ew 0 rfl) rfl (AX _) ez ez λa5 c5 H9 h=>⟨_,_,_,rfl,?_⟩⟩
  rw[aN (x:=(j:Int)+1)];refine⟨⟨j+1,l++[⟨x1,x2,x3,x4⟩],s9,ez,ez,by grind,d,L,Y,?_⟩,by grind⟩;have e:flat fo (l++[⟨x1,x2,x3,x4⟩])=flat fo l++fo ⟨x1,x2,x3,x4⟩:=by grind [flat]
  rw[e,qa];exact h.o [2,3,4,1,5,6,7,8,9,10] 11
 .have h6:=ix y;have O:j=n.toNat:=ez
  subst O;rw[t]at sb;dsimp only at sb;exact Wv (fl:=fl) (ck0:=ck0) (hb0:=hb0) ok u sts ha T h8 w v sb h
def lA(s:aL)(a:Int):Rd (List En×Fl×bC):=λr=>match cQ r with
 | .error e=>.error e
 | .ok (ep,s1)=>match cQ s1 with
  | .error e=>.error e
  | .ok (bt,s2)=>match cQ s2 with
   | .error e=>.error e
   | .ok (tm,s3)=>if (gT s.cfg.agents s.rows a ⟨ep,bt,tm⟩).2≠0 then .error (gT s.cfg.agents s.rows a ⟨ep,bt,tm⟩).2 else match Hb s.now s3 with
    | .error e=>.error e
    | .ok (t,s4)=>match flR s.cfg t s4 with
     | .error e=>.error e
     | .ok (x,s5)=>.ok (((gT s.cfg.agents s.rows a ⟨ep,bt,tm⟩).1,x.1,x.2),s5)
theorem Nj{most:Int}{rows:List En}(h:(gT most rows a e).2=0):0<=a/\a<=63/\1<=e.epoch/\(gT most rows a e).1=rows.set a.toNat e/\¬0<(bI rows a).epoch:=by unfold gT at h ⊢;grind
section
variable {F L:List aF}{H:aC}{K KP:KE}{Q Q':aF}{sb:Nat}{s:aL}
theorem Wx{rb b b1 fb:Nat}{a:Nat}{p:SAd}{t r3:Int}{r:RS} (ok:jZ s.cfg) (D:a<s.sts.length) (n:aI r.bs) (x:r.bs.length<=1099511627776) (k:aaa rb sb p.tm (dx s p) s.sts a Q F K KP (flR s.cfg t r)) (h:aA H (kb rb r::Q::ax fb [aD t,.bool false,.bool false,.bool false] 260::ax b1 [aD 0,.bool false,.bool false,.bool false] 260::ax b [PA rb 0] 556::ax sb (dx s p) 165::my Q p.tm s.sts::F)) : nC.r4 sb 0 (a:Int) K KP b b1 r3 fb 0 H:=by
 unfold flR at k;unfold nC.r4;refine⟨_,h.q 4,vz h n x ?_⟩;cases hr:eT r with
  | error e=>rw[hr]at k;exact λE m h=>k Q _ m (aH.refl Q) (h.o [0] 6)
  | ok q=>
  let⟨v,s1⟩:=q;rw[hr]at k;dsimp only at k;intro P y j w h;refine⟨_,rfl,h.st 2 rfl rfl ?_⟩;intro I h;refine h.st 2 rfl rfl ?_;intro J h;refine h.st 2 rfl rfl ?_;intro G h;have h:=h.o [5,0,1,2,3,4,6] 7;refine Mg (Q:=Q) ok h λM N h=>⟨_,rfl,?_⟩;let⟨cb,d,h⟩:=io.1 h;refine⟨_,h.q 8,?_⟩;have h:=h.o [4,0,1,2,3,5,6,7,8,9] 10;refine vA h j w ?_;unfold og at k;cases GF:gz s1 with
   | error e=>rw[GF]at k;exact λE m h=>k Q _ m (aH.refl Q) (h.o [4] 9)
   | ok q=>
   let⟨last,s2⟩:=q;rw[GF]at k;dsimp only at k;intro O A i u h;refine⟨_,rfl,dj (h.st 1 rfl rfl ?_)⟩;intro L h;refine dj ⟨_,h.r 1,_,pE,?_⟩;intro C f;refine⟨λB=>?_,λB=>f _ ?_⟩;.rw [c_ (by grind)]at k;exact k Q _ ee (aH.refl Q) (h.o [5] 10)
   rw [b_ (by grind)]at k;refine Ww (fl:=⟨t,SC v 1,SC v 2,SC v 4⟩) (ck0:=(nY s.cfg).ck) (hb0:=d) (c:=s.cfg) (last:=last) (cb:=cb) ok rfl rfl D rfl rfl i u ?_ (h.o [0,2,5,1,6,7,8,4,9] 10);cases hq:oZ s.cfg last s2 with
    | error e=>rw[hq]at k;exact k
    | ok q=>rw[hq]at k;exact k
def akd(rb sb:Nat)(s:aL)(p:SAd)(a:Int)(Q:aF)(F:List aF)(K KP:KE):Except Int ((List En×Fl×bC)×RS)->Prop
 | .ok (x,r)=>∀Q' H',aH Q Q'->r.e=0->aI r.bs->r.bs.length<=1099511627776->aA H' (Q'::kb rb r::ax sb (dx s p) 165::my Q' p.tm (s.sts.set a.toNat (some x.2.2))::Ro.mv p.rb p.rm s.cfg.agents::Ro.t_ p.rm x.1::F)->K (nS x.2.1) H'
 | .error e=>∀Q' H',e≠0->aH Q Q'->aA H' (Q'::F)->KP (HF e) H'
theorem Wy{rb:Nat}{p:SAd}{a:Int}{r:RS}(ok:jZ s.cfg)(rok:gj s.rows)(M:s.sts.length=64)(B:aI r.bs)(E:r.bs.length<=1099511627776)
  (k:akd rb sb s p a Q F K KP (lA s a r))
  (h:aA H (kb rb r::Q::ax sb (dx s p) 165::Ro.mv p.rb p.rm s.cfg.agents::Ro.t_ p.rm s.rows::my Q p.tm s.sts::F)) :
  CP 324 #[.agg #[PA rb 0],PA sb 0,aD a] H K KP:=by
 refine cNP 324 0x1128111121749112156123992544111121561239925441c [[(114,sI)],[(12,sS),(71,sI)],[],[(7,sA)]] ?_;unfold lA at k;refine h.al λb _ h=>h.al λb1 _ h=>⟨_,h.r 4,_,h.q 1,_,h.q 1,_,h.q 1,?_⟩
 have h:=h.o [2,0,1,3,4,5,6,7] 8;refine kP h B E ?_
 cases q1:cQ r with
 | error e=>
  rw[q1]at k;exact λi c h=>k Q _ c (aH.refl Q) (h.o [2] 7)
 | ok q=>
 let⟨ep,s1⟩:=q;rw[q1]at k;dsimp only at k;intro Y N A D h;refine⟨_,rfl,h.q 2,h.q 2,h.r 4,kP h A D ?_⟩
 cases q2:cQ s1 with
 | error e=>
  rw[q2]at k;exact λi c h=>k Q _ c (aH.refl Q) (h.o [2] 7)
 | ok q=>
 let⟨bt,s2⟩:=q;rw[q2]at k;dsimp only at k;intro V O w C h;refine⟨_,rfl,h.q 2,h.r 4,kP h w C ?_⟩
 cases q3:cQ s2 with
 | error e=>
  rw[q3]at k;exact λi c h=>k Q _ c (aH.refl Q) (h.o [2] 7)
 | ok q=>
 let⟨tm,s3⟩:=q;rw[q3]at k;dsimp only at k;intro W T n u h;refine⟨_,rfl,h.r 4,?_⟩;have h:=h.o [5,6,0,1,2,3,4,7] 8;refine Ro.HM rok (agent:=a) (x:=⟨ep,bt,tm⟩) h λU h=>⟨_,rfl,?_⟩
 have y:=Nj (most:=s.cfg.agents) (rows:=s.rows) (a:=a) (e:=⟨ep,bt,tm⟩);generalize gT s.cfg.agents s.rows a ⟨ep,bt,tm⟩=G at *;refine jV (λc=>⟨rfl,?_⟩) λc=>?_
 .rw [b_ (by grind)]at k;obtain⟨g1,g2,-⟩:=y c;have v:((a.toNat:Nat):Int)=a:=ez
  intro R S;have j:∀(t:Int) (s4:RS) fb i,Hb s.now s3=.ok (t,s4)->aI s4.bs->s4.bs.length<=1099511627776->
    aA i (kb rb s4::Q::ax fb [aD t,.bool false,.bool false,.bool false] 260::ax b1 [aD 0,.bool false,.bool false,.bool false] 260::ax b [PA rb 0] 556::ax sb (dx s p) 165::my Q p.tm s.sts::Ro.mv p.rb p.rm s.cfg.agents::Ro.t_ p.rm G.1::F)->R fb 0 i:=by
   intro t s4 fb L m f d h;rw[m]at k;dsimp only at k;refine S _ _ _ ?_;have:=Wx (a:=a.toNat) (t:=t) (r3:=0) ok ez f d (K:=K) (KP:=KP) ?_ h
   .rw [v]at this;rw[c];exact this
   .cases hq:flR s.cfg t s4 with
    | error e=>
     rw[hq]at k;exact λQ' i c hs h=>k Q' i c hs (h.o [0] 3)
    | ok q=>
     rw[hq]at k;exact λQ' i hs c hb P h=>k Q' i hs c hb P h
  refine⟨_,h.q 4,_,h.r 6,?_,?_⟩
  .have h:=h.o [2,0,1,3,4,5,6,7] 8;refine tR h n u ?_
   cases m:Hb s.now s3 with
   | error e=>
    rw[m]at k;exact λi c h=>k Q _ c (aH.refl Q) (h.o [4] 7)
   | ok q=>
   let⟨t,s4⟩:=q;intro L I f d h;refine⟨_,rfl,h.al λb3 _ h=>h.st 0 rfl rfl ?_⟩;intro J h;exact j t s4 b3 J m f d (h.o [1,6,0,4,5,7,8,2,3] 9)
  .refine h.al λb4 _ h=>⟨h.r 7,h.q 5,?_⟩
   have h:=h.o [3,0,1,2,4,5,6,7,8] 9;refine tR h n u ?_
   cases m:Hb s.now s3 with
   | error e=>
    rw[m]at k;exact λi c h=>k Q _ c (aH.refl Q) (h.o [5] 8)
   | ok q=>
   let⟨t,s4⟩:=q;intro L I f d h;refine⟨_,rfl,h.st 1 rfl rfl ?_⟩;intro J h;exact j t s4 b4 J m f d (h.o [0,6,1,4,5,7,8,2,3] 9)
 .rw [c_ c]at k;exact k Q _ c (aH.refl Q) (h.o [5] 8)
end
structure PAg where
 rows:List En
 sts:List (Option bC)
 HK:FM
def fz(s0:aL):Nat->Rd PAg
 | 0,r=>.ok (⟨s0.rows,s0.sts,[]⟩,r)
 | n+1,r=>match fz s0 n r with
  | .error e=>.error e
  | .ok (x,r1)=>match cQ r1 with
   | .error e=>.error e
   | .ok (a,r2)=>match lA { s0 with rows:=x.rows,sts:=x.sts } a r2 with
    | .error e=>.error e
    | .ok (y,r3)=>.ok (⟨y.1,x.sts.set a.toNat (some y.2.2),eO a y.2.1 x.HK⟩,r3)
def fJ(most:Int):Nat->Rd CM
 | 0,r=>.ok ([],r)
 | n+1,r=>match fJ most n r with
  | .error e=>.error e
  | .ok (m,r1)=>match j8 r1 with
   | .error e=>.error e
   | .ok (o,r2)=>if (kJ most m o.1 o.2).2≠0 then .error (kJ most m o.1 o.2).2 else .ok ((kJ most m o.1 o.2).1,r2)
def fe:Nat->Rd (List Ot)
 | 0,r=>.ok ([],r)
 | n+1,r=>match fe n r with
  | .error e=>.error e
  | .ok (l,r1)=>match j8 r1 with
   | .error e=>.error e
   | .ok (o,r2)=>.ok (l++[o],r2)
def me(c:bM)(bs:List Int):Except Int aL:=match Hb 4611686018427387903 ⟨0,bs⟩ with
 | .error e=>.error e
 | .ok (now,r1)=>match Hb 1099511627776 r1 with
  | .error e=>.error e
  | .ok (boots,r2)=>match Hb 1099511627776 r2 with
   | .error e=>.error e
   | .ok (sunk,r3)=>match Hb now r3 with
    | .error e=>.error e
    | .ok (XT,r4)=>match gz r4 with
     | .error e=>.error e
     | .ok (value,r5)=>match dZ 64 r5 with
      | .error e=>.error e
      | .ok (n,r6)=>match fz { cz c with now:=now,boots:=boots,sunk:=sunk } n.toNat r6 with
       | .error e=>.error e
       | .ok (x,r7)=>if ¬(XT-c.h_<=value/\value<=XT) then .error 11 else match dZ 1024 r7 with
        | .error e=>.error e
        | .ok (m,r8)=>match fJ c.cells m.toNat r8 with
         | .error e=>.error e
         | .ok (cm,r9)=>match eT r9 with
          | .error e=>.error e
          | .ok (k,r10)=>match fe k.toNat r10 with
           | .error e=>.error e
           | .ok (kept,Ho)=>if (dG Ho).e≠0 then .error (dG Ho).e else
            .ok ⟨c,now,boots,sunk,x.rows,⟨c.h_,XT,value,x.HK⟩,cm,x.sts,kept⟩
def qG(c:bM)(bs:List Int):Except Int aL:=if fH c=false then .error 11 else match me c bs with
 | .error _=>.error 10
 | .ok s=>if Fs s=bs then .ok s else .error 10
theorem adH{ms:MS}{ab:Nat}(value:Fx n)(d:1<=ms.h_/\ms.h_<=1099511627776)(rb:¬(n-ms.h_<=a/\a<=n))(h:aA H (Ma.eY k b ms::F))(mb:K (aD 11) H) : CF 326 #[PA k 0,aD n,aD a,.map (some ab)] H K:=by
 refine cN 326 0x1d121561239951d41c [[]] ?_;have e1:i64.wrap (n-ms.h_)=n-ms.h_:=aN;refine⟨_,Ma.l_,λ_=>trivial,_,λ_=>h.r 0,?_⟩;dsimp only;conv=>whnf
 rw[e1,RD value];refine⟨λ_=>mb,λc=>?_⟩;simp only[Bool.not_true,q33,E5,C5]at c;exact cS ⟨ez,ez⟩ rb
structure ad3(s0:aL)(x:PAg):Prop where
 rows:gj x.rows
 len:x.sts.length=64
 sts:∀st,some st∈x.sts->mN s0.cfg st
 CL:∀k:Nat,(∃st:bC,x.sts[k]?=some (some st))↔∃e:En,x.rows[k]?=some e/\0<e.epoch
 HK:∀p∈x.HK,Xi p.1/\Fx p.2.t/\p.2.t<=s0.now
 nd:(aJ x.HK).Nodup
theorem ahq{b:Int}(h:Hp n a b=true):a<=n/\n<=b:=by grind
theorem pS(h:Hb a s=.ok (n,A)):0<=n/\n<=a:=by grind [Hb]
theorem acf(h:cQ s=.ok (a,A)):aG a:=by rw[(iS h).2.1];exact ZB _
theorem aej(ok:jZ c)(h:og c s=.ok (x,A)):mN c x:=by
 unfold og at h
 cases h1:gz s with
 | error e=>rw[h1]at h;cases h
 | ok q=>
 let⟨last,s1⟩:=q;rw[h1]at h;dsimp only at h
 split at h
 .cases h
 rename_i a;have a:=ahq (eu a);unfold oZ at h
 cases h2:eT s1 with
 | error e=>rw[h2]at h;cases h
 | ok q=>
 let⟨hd,s2⟩:=q;rw[h2]at h;dsimp only at h
 cases h3:cQ s2 with
 | error e=>rw[h3]at h;cases h
 | ok q=>
 let⟨streak,s3⟩:=q;have b:=acf h3;rw[h3]at h;dsimp only at h
 cases h4:dZ 8 s3 with
 | error e=>rw[h4]at h;cases h
 | ok q=>
 let⟨n,s4⟩:=q;rw[h4]at h;dsimp only at h
 cases h5:jN n.toNat s4 with
 | error e=>rw[h5]at h;cases h
 | ok q=>
 let⟨l,s5⟩:=q;rw[h5]at h;dsimp only at h;unfold pR at h
 split at h
 .cases h
 rename_i d;have d:=Decidable.not_not.1 d
 cases h6:cQ s5 with
 | error e=>rw[h6]at h;cases h
 | ok q=>
 let⟨next,s6⟩:=q;rw[h6]at h;dsimp only at h
 split at h
 .cases h
 rename_i j
 cases h7:dZ 256 s6 with
 | error e=>rw[h7]at h;cases h
 | ok q=>
 let⟨m,s7⟩:=q;rw[h7]at h;dsimp only at h;have f:sr c.hold (⟨next,c.hold,[]⟩:HS Pv):=⟨⟨by grind,ok.hd.1,ok.hd.2,⟨by simp[gY],λp i=>cS i eh⟩⟩,rfl,by grind,λp i=>cS i eh⟩
 cases h8:jj ⟨next,c.hold,[]⟩ m.toNat s7 with
 | error e=>rw[h8]at h;cases h
 | ok q=>
 let⟨hs,s8⟩:=q;rw[h8]at h
 cases h
 have g:=Dd f h8;unfold aG at b;exact⟨⟨d.1,d.2.2,d.2.1,b.2⟩,rfl,rfl,g.ok,g.most,g.next,g.rows,a⟩
theorem afK{x:PAg}(ok:jZ B.cfg)(m:Fx B.now)(g:ad3 B x)(h:lA { B with rows:=x.rows,sts:=x.sts } a A=.ok (y,s)) :
  ad3 B ⟨y.1,x.sts.set a.toNat (some y.2.2),eO a y.2.1 x.HK⟩:=by
 unfold lA at h
 cases h1:cQ A with
 | error e=>rw[h1]at h;cases h
 | ok q=>
 let⟨ep,s1⟩:=q;rw[h1]at h;dsimp only at h
 cases h2:cQ s1 with
 | error e=>rw[h2]at h;cases h
 | ok q=>
 let⟨bt,s2⟩:=q;rw[h2]at h;dsimp only at h
 cases h3:cQ s2 with
 | error e=>rw[h3]at h;cases h
 | ok q=>
 let⟨tm,s3⟩:=q;rw[h3]at h;dsimp only at h
 split at h
 .cases h
 rename_i hs;have hs:(gT B.cfg.agents x.rows a ⟨ep,bt,tm⟩).2=0:=by grind
 let⟨a1,a2,a3,a4,a5⟩:=Nj hs;have b:=aes (most:=B.cfg.agents) g.rows a ⟨ep,bt,tm⟩
 cases h4:Hb B.now s3 with
 | error e=>rw[h4]at h;cases h
 | ok q=>
 let⟨t,s4⟩:=q;have u:=pS h4;rw[h4]at h;dsimp only at h
 cases h5:flR B.cfg t s4 with
 | error e=>rw[h5]at h;cases h
 | ok q=>
 let⟨⟨fl,st⟩,s5⟩:=q;rw[h5]at h
 cases h
 unfold flR at h5
 cases h6:eT s4 with
 | error e=>rw[h6]at h5;cases h5
 | ok q=>
 let⟨v,s6⟩:=q;rw[h6]at h5;dsimp only at h5
 cases h7:og B.cfg s6 with
 | error e=>rw[h7]at h5;cases h5
 | ok q=>
 let⟨n,s7⟩:=q;rw[h7]at h5
 cases h5
 have f:=aej ok h7;have i:a.toNat<x.sts.length:=by rw[g.len];omega
 have c:a.toNat<x.rows.length:=by rw[g.rows.len];omega
 refine⟨b,by show (x.sts.set _ _).length=64;rw[List.length_set,g.len],λz d=>?_,λj=>?_,λp k=>?_,qh g.nd⟩
 .rcases q34 d with d|d
  .exact g.sts z d
  .cases d;exact f
 .dsimp only;rw[a4]
  by_cases e:j=a.toNat
  .subst e;rw[List.getElem?_set_self i,List.getElem?_set_self c]
   grind
  .rw [List.getElem?_set_ne ez,List.getElem?_set_ne ez];exact g.CL j
 .rcases ly k with rfl|k
  .grind
  .exact g.HK p k
theorem De{s0:aL}(ok:cY s0):∀{n:Nat} {r b:RS} {x:PAg},fz s0 n r=.ok (x,b)->ad3 s0 x
 | 0,r,b,x,h=>by cases h;exact⟨ok.rows,ok.len,ok.sts,ok.CL,λp c=>cS c eh,eh⟩
 | n+1,r,b,x,h=>by unfold fz at h;cases h1:fz s0 n r with
  | error e=>rw[h1]at h;cases h
  | ok q=>let⟨x1,r1⟩:=q;rw[h1]at h;dsimp only at h;cases h2:cQ r1 with
   | error e=>rw[h2]at h;cases h
   | ok q=>let⟨a,r2⟩:=q;rw[h2]at h;dsimp only at h;cases h3:lA { s0 with rows:=x1.rows,sts:=x1.sts } a r2 with
    | error e=>rw[h3]at h;cases h
    | ok q=>let⟨y,r3⟩:=q;rw[h3]at h;cases h;exact afK ok.cfg ok.now (De ok h1) h3
theorem aht(hb:aI s.bs):aI (dC s).2.bs:=ij hb
theorem Df(hb:aI s.bs)(h:j8 s=.ok (o,A)):WC o.2/\gr o.2=true/\(0<=o.1.win/\o.1.win<=4611686018427387903)/\aI A.bs:=by
 unfold j8 at h;cases e:gz s with
  | error e'=>grind
  | ok q=>
  let⟨w,s1⟩:=q;rw[e]at h;dsimp only at h;have a:aI s1.bs:=by rw[(iS e).1];exact aht hb
  have t1:=mJ (m:=s1.bs.length) a;have t2:=mJ (m:=(bg s1.bs.length s1).2.bs.length) t1.1;split at h;.cases h
  split at h;.cases h
  rename_i b;split at h;.cases h
  rename_i c;cases h;have b:(!(fp (bN (bg s1.bs.length s1).1)).2.2 || !Hp w 0 4611686018427387903)=false:=by grind
  grind [Vp,Vq]
structure akc(most:Int)(m:CM):Prop where
 sh:eI most m
 win:∀p∈m,0<=p.1.win/\p.1.win<=4611686018427387903
theorem yR{most:Int}(h0:eI most []):∀{n:Nat} {r c:RS} {m:CM},aI r.bs->fJ most n r=.ok (m,c)->akc most m/\aI c.bs
 | 0,r,c,m,hb,h=>by
  cases h
  exact⟨⟨h0,λp a=>cS a eh⟩,hb⟩
 | n+1,r,c,m,hb,h=>by
  unfold fJ at h
  cases h1:fJ most n r with
  | error e=>rw[h1]at h;cases h
  | ok q=>
  let⟨m1,r1⟩:=q;rw[h1]at h;dsimp only at h;have b:=yR h0 hb h1
  cases h2:j8 r1 with
  | error e=>rw[h2]at h;cases h
  | ok q=>
  let⟨o,r2⟩:=q;rw[h2]at h;dsimp only at h;have d:=Df b.2 h2
  split at h
  .cases h
  rename_i hs
  cases h
  refine⟨⟨aer b.1.sh d.1 (by unfold aG;omega),λp a=>?_⟩,d.2.2.2⟩
  unfold kJ at a
  split at a
  .exact b.1.win p a
  split at a
  .exact b.1.win p a
  split at a
  .exact b.1.win p a
  rcases ly a with rfl|a
  .exact d.2.2.1
  .exact b.1.win p a
theorem yS:∀{n:Nat} {r b:RS} {l:List Ot},aI r.bs->fe n r=.ok (l,b)->(∀o∈l,WC o.2)/\aI b.bs
 | 0,r,b,l,hb,h=>by
  cases h
  grind
 | n+1,r,b,l,hb,h=>by
  unfold fe at h
  cases h1:fe n r with
  | error e=>rw[h1]at h;cases h
  | ok q=>
  let⟨l1,r1⟩:=q;rw[h1]at h;dsimp only at h;have d:=yS hb h1
  cases h2:j8 r1 with
  | error e=>rw[h2]at h;cases h
  | ok q=>
  let⟨o,r2⟩:=q;rw[h2]at h
  cases h
  have c:=Df d.2 h2;refine⟨λx a=>?_,c.2.2.2⟩
  rcases DA.1 a with a|a
  .exact d.1 x a
  .rw [CS]at a;rw[a];exact c.1
theorem Wz(v1:a≠0)(h:aA H (ax k [.pointer v] 74::ax b [aD n] 58::F)) (b1:∀e,aA e (ax k [.pointer none] 74::ax b [aD 10] 58::F)->I (br (HF a) true) e):cH Tryz.prog 318 [(PA k 0),(PA b 0)] (br (HF a) false) H I:=by
 have hd:cH Tryz.prog 318 [(PA k 0),(PA b 0)] (br (HF a) false) H λb2 e=>b2=br (HF a) true/\aA e (ax k [.pointer none] 74::ax b [aD 10] 58::F):=by refine tB.Xn (.inr ⟨rfl,rfl⟩) ?_;unfold tB.code;refine Lf ⟨_,rfl,?_⟩;intro t d;refine⟨λ_=>?_,λi=>cS i (by grind)⟩;refine h.st 0 rfl rfl ?_;intro s h;refine h.st 1 rfl rfl ?_;intro x h;refine d _ ?_;skip;exact h
 intro w f;refine (hd w f).mono λm u y j=>?_;cases m <;> simp only at j ⊢;grind
theorem W0(h:aA H F) (b1:∀a,aA a F->I .returning a):cH Tryz.prog 318 [(PA k 0),(PA b 0)] .returning H I:=by
 have hd:cH Tryz.prog 318 [(PA k 0),(PA b 0)] .returning H λb2 a=>b2=.returning/\aA a F:=by refine tB.Xn (.inl ⟨rfl,rfl,rfl⟩) ?_;unfold tB.code;refine Le ⟨_,rfl,?_⟩;intro n d;refine⟨λf=>cS f eh,λ_=>d _ ?_⟩;skip;exact h
 intro w e;refine (hd w e).mono λj m s i=>?_;cases j <;> simp only at i ⊢;grind
theorem aaZ(hb:aI s.bs)(h:(bQ s).2.e=0):(bQ s).2.bs.length+1<=s.bs.length:=by
 unfold bQ at h ⊢;split at h;.grind
 rename_i h0;rw[b_ h0];split at h;.rename_i u n e;have:=rD hb e;grind
 .simp at h
 grind
theorem Nk(hb:aI s.bs)(h:j8 s=.ok (o,A)):A.bs.length+1<=s.bs.length:=by
 unfold j8 at h;cases e:gz s with
  | error e'=>grind
  | ok q=>
  let⟨v,s1⟩:=q;rw[e]at h;dsimp only at h;have h0:=iS e;have a:s1.bs.length+1<=s.bs.length:=by rw[h0.1];exact aaZ hb h0.2.2
  grind [bg]
theorem Nl:∀{n:Nat} {r a:RS} {l:List Ot},aI r.bs->fe n r=.ok (l,a)->l.length=n/\n+a.bs.length<=r.bs.length
 | 0,r,a,l,hb,h=>by cases h;grind
 | n+1,r,a,l,hb,h=>by unfold fe at h;cases h1:fe n r with
  | error e=>grind
  | ok q=>let⟨l1,r1⟩:=q;rw[h1]at h;dsimp only at h;have c:=Nl hb h1;have b:=(yS hb h1).2;cases h2:j8 r1 with
   | error e=>grind
   | ok q=>let⟨o,r2⟩:=q;rw[h2]at h;cases h;have:=Nk b h2;grind
theorem Nn{s:RS}{e:Int}:∀{n j:Nat},fe j s=.error e->j<=n->fe n s=.error e
 | 0,j,h,hj=>by
  grind
 | n+1,j,h,hj=>by
  rcases HU n j with a|a
  .grind
  .unfold fe;rw[Nn h a]
section
variable {F L:List aF}{H:aC}{K KP:KE}{Q Q':aF}{sb:Nat}{s:aL}
def oh(Q:aF)(F:List aF)(K:KE):Except Int aL->Prop
 | .ok s=>∀Q' sb H',aH Q Q'->aA H' (Q'::p_ Q' sb s::F)->K (.tuple #[PA sb 0,aD 0]) H'
 | .error e=>∀Q' H',aH Q Q'->aA H' (Q'::F)->K (.tuple #[.pointer none,aD e]) H'
theorem ol{b1 b2:Nat}{e v1:Int}{v:KQ}(f:oh Q F K (.error 10))(i:e≠0)(hs:aH Q Q')(h:aA H (ax b1 [.pointer v] 74::ax b2 [aD v1] 58::Q'::F)) : bK 318 X.calls=true/\cH Tryz.prog 318 [(PA b1 0),(PA b2 0)] (br (HF e) false) H λd a=>d=br (HF e) true/\ ∃b,aM a b1 0=some (.pointer b)/\∃c,aM a b2 0=some (aD c)/\K (.tuple #[(.pointer b),(aD c)]) a:=⟨rfl,Wz i h λj h=>⟨rfl,_,h.r 0,_,h.r 1,f Q' _ hs h.tl.tl⟩⟩
theorem No(k:Ky)(c:Cl):aI (cbB k c):=dM (vr _) (Tx _)
theorem W1(a:Int)(e:En)(fl:Fl)(st:bC):aI (agB a e fl st):=dM (dM (dM (dM (dM (gR _) (vr _)) (gR _)) (jU λ_ _=>gR _)) (gR _)) (jU λ_ _=>dM (gR _) (vy _))
theorem W2(s:aL)(p:Int×En):aI (eL s p):=by
 unfold eL;split;.exact W1 _ _ _ _
 exact λx a=>by cases a
theorem yT(s:aL):aI (Fs s):=dM (dM (dM (dM (dM (dM (dM (gR _) (vr _)) (gR _)) (jU λ_ _=>W2 _ _)) (gR _)) (jU λ_ _=>No _ _)) (gR _)) (jU λ_ _=>No _ _)
theorem aba{xs ys:List Int}(c:aI xs)(i:aI ys)(h:(bN xs).toList=(bN ys).toList):xs=ys:=by
 have a:xs.map (λn=>UInt8.ofNat n.toNat)=ys.map (λn=>UInt8.ofNat n.toNat):=by rw[<-strOfNums_data xs,<-strOfNums_data ys];have e:∀b:Fb,b.data.toList=b.toList:=λb=>Eq.symm (ByteArray.toList_eq b);rw[e,e];exact h
 have d:=congrArg (List.map λb:UInt8=>(b.toNat:Int)) a;have e:∀l:List Int,aI l->(l.map λn=>UInt8.ofNat n.toNat).map (λb:UInt8=>(b.toNat:Int))=l:=by intro l f;apply XO eh;grind [rE]
 grind
theorem W3{rb b1 b2 b3:Nat}{s1:aL}{bs:List Int}{ba:KQ}{bc:Nat}{kn:Int}{r:RS}{v:aF}(f:aH Q v) (hA:∀H,aA H F->aQ H ba (bs.map U8)) (C:ba=none\/∃k o,ba=some ⟨k,o,none⟩) (M:0<=kn/\kn<18446744073709551616) (hb:aI r.bs) (hl:r.bs.length<=10000000000) (B:aI bs) (u:∀l d,fe kn.toNat r=.ok (l,d)->(dG d).e=0->cY { s1 with kept:=l }/\sj { s1 with kept:=l }/\l.length<=900000) (D:(∀l d,fe kn.toNat r=.ok (l,d)->(dG d).e=0->Fs { s1 with kept:=l }=bs->False)->oh Q F K (.error 10)) (E:∀l d,fe kn.toNat r=.ok (l,d)->(dG d).e=0->Fs { s1 with kept:=l }=bs->oh Q F K (.ok { s1 with kept:=l })) (h:aA H (kb rb r::v::p_ v sb { s1 with kept:=[] }::ax b1 [PA sb 0] 74::ax b2 [aD 0] 58::ax b3 [PA rb 0] 556::F)) : ∃(i:Int->aC->Prop) (G:Int->aC->Nat),i kn H/\ ∀(n:Int),∀s:aC,i n s->nD.l2 ba bs.length bc K b1 b2 b3 i G n s:=by
 refine⟨λn T=>∃(j:Nat) (l:List Ot) (d:RS),n=kn-j/\(j:Int)<=kn/\fe j r=.ok (l,d)/\ aA T (kb rb d::v::p_ v sb { s1 with kept:=l }::ax b1 [PA sb 0] 74::ax b2 [aD 0] 58::ax b3 [PA rb 0] 556::F),λn _=>n.toNat,⟨0,[],r,ez,M.1,rfl,h⟩,?_⟩;rintro n H1 ⟨j,l,d,rfl,hj,A,h⟩;have h0:=Nl hb A;have N:=yS hb A;unfold nD.l2;refine⟨λx=>?_,λx=>?_⟩
 .have x:=ke x;refine⟨_,h.q 5,Nf h N.2 ez ?_⟩;have t:fe (j+1) r=match j8 d with|.error e=>.error e|.ok (o,r2)=>.ok (l++[o],r2):=by grind [fe]
  cases hr:j8 d with
   | error e=>rw[hr]at t;exact λT w h=>ol (D λl r1 R _ _=>by grind [Nn]) w f (h.o [2,3,0] 5)
   | ok q=>
   let⟨o,r2⟩:=q;rw[hr]at t;intro H2 h4 U Y h;refine⟨_,_,_,_,_,_,_,_,_,_,rfl,h.al λb7 _ h=>h.al λb8 _ h=>h.st 1 rfl rfl ?_⟩;intro W h;refine h.zy 0 rfl rfl λV h=>?_;have h:=h.o [4,0,1,2,3,5,6,7] 8;let⟨p,h⟩:=di.1 h;refine⟨_,h.r 13,_,h.r 13,dj ⟨_,_,_,h.r 0,_,_,h.q 10,_,_,_,_,_,_,_,_,h.u_ 9 rfl,h.al λb9 _ h=>⟨h.r 1,h.r 14,h.r 14,h.append (m:=1) (ws:=cR o) XH 9 rfl (h.ew 0 rfl) rfl (tG _) (by grind) (by grind) λa6 c6 Z h=>⟨_,_,_,rfl,h.r 14,dj (h.st 1 rfl rfl ?_)⟩⟩⟩⟩;intro S h;have hw:u64.wrap (kn-(j:Int)-1)=kn-((j+1:Nat):Int):=by grind [eF]
   rw[hw];refine⟨⟨j+1,l++[o],r2,rfl,ez,t,?_⟩,by grind⟩;have e4:flat cR (l++[o])=flat cR l++cR o:=by grind [flat]
   have h:=h.o [1,2,3,4,5,6,7,8,9,12,13,14,15,16] 17;have h:aA S (p_ v sb { s1 with kept:=l++[o] }::_):=di.2 ⟨{ p with ka:=a6,kc:=c6 },by simp only[dx,qa,q29,e4];exact h⟩;exact h.o [1,2,0,3,4,5] 6
 have h5:=ix x;have J:j=kn.toNat:=ez;subst J;refine⟨_,h.r 5,xX h λH2 h=>⟨_,rfl,jV (λw=>⟨rfl,_,h.r 3,?_⟩) λw=>ol (D λl2 r2 R L _=>by grind) w f (h.o [3,4,1] 6)⟩⟩;let⟨O,y,gk⟩:=u l d A w;have h:=h.o [1,2,3,4,5] 6;refine Nd O y gk h λa c W h=>⟨_,_,_,rfl,?_⟩;have I:a=none\/∃k o,a=some ⟨k,o,none⟩:=by
  rcases (kw (F:=star _) h).2 with ⟨L,_⟩|⟨b,pre,post,e',fr,L,_⟩;.grind
  grind
 refine Bt I C (h.a_ 0 rfl) (hA _ (h.o [] 6)) ⟨_,rfl,?_⟩;intro Jn hJ;refine⟨λx=>?_,λx=>?_⟩;.refine ol (e:=10) (D λl2 r2 R L h3=>?_) ee f (h.o [3,4,1] 6);grind
 refine hJ _ ?_;have P:Fs { s1 with kept:=l }=bs:=aba (yT _) B (by grind);refine⟨_,h.r 3,h.st 3 rfl rfl ?_⟩;intro V h;refine h.st 4 rfl rfl ?_;intro Z h;refine⟨rfl,W0 (h.o [3,4,1,2] 6) λS h=>⟨rfl,_,h.r 0,_,h.r 1,E l d A w P v sb _ f h.tl.tl⟩⟩
end
theorem dig(x m:Nat)(hm:0<m):x/(m*256)*256+x/m%256=x/m:=by grind [Nat.div_div_eq_div_mul,Nat.div_add_mod]
theorem afR(hm:0<b)(a:k<18446744073709551616)(h:kO E=k/(b*256)):kO (E++[((k/b%256:Nat):Int)])=k/b:=by rw[xY,h,Fu];have e:=dig k b hm;have:k/b<=k:=Nat.div_le_self _ _;grind
theorem Np(b:k<18446744073709551616):kO ((List.range 8).map λp=>((k/2^(8*(7-p))%256:Nat):Int))=k:=by
 have key:∀x,x<=8->kO ((List.range x).map λp=>((k/2^(8*(7-p))%256:Nat):Int))=k/2^(8*(8-x)):=by
  intro x;induction x with
   | zero=>intro _;show 0=_;grind
   | succ x a=>
   intro c;have a:=a ez;rw[List.range_succ,F4];have e:2^(8*(8-x))=2^(8*(7-x))*256:=by have:8*(8-x)=8*(7-x)+8:=ez;grind
   rw[e]at a;have:=afR (q2u _) b a;grind
 grind
theorem W4(h:gq n):jF (eQ n)=n:=by
 have e1:(eQ n).take 8=(List.range 8).map λp=>(((C3 n%FV).toNat/2^(8*(7-p))%256:Nat):Int):=by
  apply XO;.simp [eQ]
  intro i a b;have hi:i<8:=by grind
  simp only[eQ,List.getElem_take,q2h,q3b];unfold FZ;grind
 have e2:(eQ n).drop 8=(List.range 8).map λp=>(((C_ n).toNat/2^(8*(7-p))%256:Nat):Int):=by
  apply XO;.simp [eQ]
  intro i a b;have hi:i<8:=by grind
  simp only[eQ,List.getElem_drop,q2h,q3b];unfold FZ;grind
 have d:=qp n;have c:0<=C3 n%FV/\C3 n%FV<FV:=⟨Int.emod_nonneg _ ee,Int.emod_lt_of_pos _ ee⟩;unfold jF;simp only[C3,C_,FV]at d c e1 e2 ⊢;rw[e1,e2,Np ez,Np ez];unfold gq at h;rw[kA];omega
def lB(h:Nat->Int):Nat->Nat->List (Nat×Nat)
 | _,0=>[]
 | a,n+1=>(if h a=0 then [] else [(a,(h a).toNat)])++lB h (a+1) n
def ZF(l:List (Nat×Nat)):List Nat:=l.flatMap λp=>[p.1,p.2]
theorem W5(a b:List (Nat×Nat)):ZF (a++b)=ZF a++ZF b:=by simp[ZF]
theorem afj(l:List (Nat×Nat)):(ZF l).length=2*l.length:=by induction l with
  | nil=>rfl
  | cons p r ih=>grind [ZF]
theorem Nq(h:Nat->Int):∀n a,ZF (lB h a n)=(List.range' a n).flatMap λi=>if h i=0 then [] else [i,(h i).toNat]
 | 0,a=>rfl
 | n+1,a=>by rw[List.range'_succ,O_,<-Nq h n (a+1)];show ZF ((if h a=0 then [] else [(a,(h a).toNat)])++lB h (a+1) n)=_;rw[W5];congr 1;split <;> rfl
theorem acF(h:Nat->Int)(n:Nat):ik h n=ZF (lB h 0 n):=by rw[Nq,<-List.range_eq_range'];rfl
theorem Nr(h:Nat->Int):∀n a,(lB h a n).length<=n
 | 0,a=>w_ _
 | n+1,a=>by have:=Nr h n (a+1);unfold lB;rw[qa];split <;> simp <;> omega
theorem Ns{h:Nat->Int}:∀{n a:Nat} {p:Nat×Nat},p∈lB h a n->a<=p.1/\p.1<a+n/\h p.1≠0/\p.2=(h p.1).toNat
 | 0,a,p,b=>by cases b
 | n+1,a,p,b=>by
  unfold lB at b
  rcases DA.1 b with b|b
  .grind
  .have:=Ns b
   grind
theorem Dg{h:Nat->Int}(d:∀i,i<65->0<=h i/\h i<=9223372036854775807):∀{n a:Nat} {b:Option Nat} {g:Nat->Int},a+n<=65->(∀x,b=some x->x<a)->
  nU (lB h a n) b g=some λi=>if a<=i/\i<a+n/\h i≠0 then h i else g i
 | 0,a,b,g,hn,hp=>by
  show some g=_;congr 1
  grind
 | n+1,a,b,g,hn,hp=>by
  unfold lB
  split
  .rename_i h0;rw[Hc,Dg d ez λx e=>by grind]
   grind
  .rename_i h0;have hb:=d a ez;show nU ((a,(h a).toNat)::lB h (a+1) n) b g=_;unfold nU;rw[b_ (by
    intro c
    rcases c with c|c
    .unfold qC at c
     grind
    .omega),nO,Dg d ez λx e=>by grind]
   congr 1;funext i
   by_cases hi:i=a
   .subst hi;rw[nO,c_ ⟨ez,ez,h0⟩];unfold fO
    grind
   .by_cases c:a<=i/\i<a+(n+1)/\h i≠0
    .grind
    .rw [b_ (λf=>c ⟨ez,ez,f.2.2⟩),b_ c]
     unfold fO
     grind
theorem Nt(r:List Int):∀{l:List (Nat×Nat)},(∀p∈l,p.1<18446744073709551616/\p.2<18446744073709551616)->nT l.length ⟨0,eX (ZF l)++r⟩=(l,⟨0,r⟩)
 | [],_=>rfl
 | p::l,h=>by
  have a:=h p (DT ..);have b:=Nt r (l:=l) λq c=>h q (DG _ c)
  have e:eX (ZF (p::l))++r=bS p.1++(bS p.2++(eX (ZF l)++r)):=by
   show eX (p.1::p.2::ZF l)++r=_;simp[eX]
  show nT (l.length+1) _=_;unfold nT;rw[e,oe a.1];dsimp only;rw[oe a.2];dsimp only;rw[b]
def CH(c:Cl):Prop:=∀i,65<=i->c.h i=0
theorem W6(wc:WC T)(k:gr T=true)(C:CH T):kT (dY T)=(T,0):=by
 let⟨p1,p2,p3,p4⟩:=Bj k;have s:=wc.n;have j:=wc.GG;have d:=wc.pos;unfold aG at s j d;have A:∀i,i<65->0<=T.h i/\T.h i<=9223372036854775807:=λi hi=>⟨p4 i hi,(wc.h i hi).2⟩;have y:=Nr T.h 65 0;have f:∀p∈lB T.h 0 65,p.1<18446744073709551616/\p.2<18446744073709551616:=by intro p B;let⟨a1,a2,a3,a4⟩:=Ns B;grind
 have e:dY T=bS T.n.toNat++(bS T.GG.toNat++(bS T.pos.toNat++(dg [T.mn]++(dg [T.mx]++(dh (bN (eQ T.sum))++(bS (lB T.h 0 65).length++(eX (ZF (lB T.h 0 65))++[]))))))):=by unfold dY;rw[c_ k,acF,afj];grind [eX,dg]
 have t:(bN (eQ T.sum)).size=16:=by rw[nM,vu]
 have b:fj (bN (eQ T.sum))=eQ T.sum:=by unfold fj;rw[show (bN (eQ T.sum)).data.toList=(eQ T.sum).map λn=>UInt8.ofNat n.toNat from strOfNums_data _,XP];apply XO eh;intro i D E;simp only[q2h,Function.comp];grind [rE,T4]
 have s1:=λr=>vV wc.mn r;have a:∀{v:Int} (h:aG v) (r:List Int),dC ⟨0,dg [v]++r⟩=(v,⟨0,r⟩):=by grind [dC,CK,oe,vq,CI]
 rw[e];unfold kT;dsimp only;rw[oe ez];dsimp only;rw[oe ez];dsimp only;rw[oe ez];dsimp only;rw[a wc.mn];dsimp only;rw[a wc.mx];dsimp only;rw[ue (m:=16) ez ez];dsimp only;rw[CN (m:=65) ez ez];dsimp only;rw[Fu,Nt [] f];dsimp only;rw[show (dG ⟨0,[]⟩).e=0 from rfl,b_ eh];unfold tW;rw[nO,b,b_ (by grind [vu]),Dg A ez (λx u=>by cases u)];dsimp only;have w:(λi=>if 0<=i/\i<0+65/\T.h i≠0 then T.h i else Z0 i)=T.h:=by
  funext i;by_cases h65:i<65;.grind
  rw [nO,C i ez]
 rw[w,W4 wc.sum,q2i p1,q2i p2,q2i p3];simp_all
theorem Nu{most:Int}(h0:eI most []):∀{n:Nat} {r a:RS} {m:CM},aI r.bs->fJ most n r=.ok (m,a)->n+a.bs.length<=r.bs.length
 | 0,r,a,m,hb,h=>by cases h;omega
 | n+1,r,a,m,hb,h=>by unfold fJ at h;cases h1:fJ most n r with
  | error e=>grind
  | ok q=>let⟨m1,r1⟩:=q;rw[h1]at h;dsimp only at h;have c:=Nu h0 hb h1;have b:=(yR h0 hb h1).2;cases h2:j8 r1 with
   | error e=>grind
   | ok q=>let⟨o,r2⟩:=q;rw[h2]at h;dsimp only at h;have:=Nk b h2;grind
theorem Dh{most:Int}{s:RS}{e:Int}:∀{n j:Nat},fJ most j s=.error e->j<=n->fJ most n s=.error e
 | 0,j,h,hj=>by
  grind
 | n+1,j,h,hj=>by
  rcases HU n j with a|a
  .grind
  .unfold fJ;rw[Dh h a]
theorem W7{b1 b2 b3:Nat}{s1:aL}{bc:Nat}{x:aF}(d:aH Q x) (Y:∀H,aA H F->aQ H v (E.map U8)) (I:v=none\/∃sb o,v=some ⟨sb,o,none⟩) (S:0<=n/\n<=1024) (h0:eI s1.cfg.cells []) (hb:aI s.bs) (hl:s.bs.length<=10000000000) (G:aI E) (w:∀m c sb a l rb,fJ s1.cfg.cells n.toNat s=.ok (m,c)->eT c=.ok (sb,a)->fe sb.toNat a=.ok (l,rb)->(dG rb).e=0->cY { s1 with cm:=m,kept:=l }/\sj { s1 with cm:=m,kept:=l }/\l.length<=900000) (C:(∀m c sb a l rb,fJ s1.cfg.cells n.toNat s=.ok (m,c)->eT c=.ok (sb,a)->fe sb.toNat a=.ok (l,rb)->(dG rb).e=0->Fs { s1 with cm:=m,kept:=l }=E->False)->oh Q F K (.error 10)) (J:∀m c sb a l rb,fJ s1.cfg.cells n.toNat s=.ok (m,c)->eT c=.ok (sb,a)->fe sb.toNat a=.ok (l,rb)->(dG rb).e=0->Fs { s1 with cm:=m,kept:=l }=E->oh Q F K (.ok { s1 with cm:=m,kept:=l })) (h:aA H (kb b s::x::p_ x k { s1 with cm:=[],kept:=[] }::ax b1 [PA k 0] 74::ax b2 [aD 0] 58::ax b3 [PA b 0] 556::F)) : ∃(i:Int->aC->Prop) (R:Int->aC->Nat),i 0 H/\ ∀(t:Int),∀y:aC,i t y->nD.l3 v E.length bc K b1 b2 b3 n i R t y:=by
 refine⟨λt y=>∃(j:Nat) (m:CM) (rb:RS),t=j/\(j:Int)<=n/\fJ s1.cfg.cells j s=.ok (m,rb)/\ aA y (kb b rb::x::p_ x k { s1 with cm:=m,kept:=[] }::ax b1 [PA k 0] 74::ax b2 [aD 0] 58::ax b3 [PA b 0] 556::F),λt _=>(n-t).toNat,⟨0,[],s,rfl,S.1,rfl,h⟩,?_⟩;rintro t H1 ⟨j,m,rb,rfl,hj,bs,h⟩;have U:=Nu h0 hb bs;have r:=yR h0 hb bs;unfold nD.l3;refine⟨λD=>?_,λD=>?_⟩
 .have D:=ke D;refine⟨_,h.q 5,Nf h r.2 ez ?_⟩;have f:fJ s1.cfg.cells (j+1) s=match j8 rb with
   | .error e=>.error e
   | .ok (o,r2)=>if (kJ s1.cfg.cells m o.1 o.2).2≠0 then .error (kJ s1.cfg.cells m o.1 o.2).2 else .ok ((kJ s1.cfg.cells m o.1 o.2).1,r2):=by grind [fJ]
  cases hr:j8 rb with
   | error e=>rw[hr]at f;exact λy ba h=>ol (C λm c sb a l r1 u _ _ _ _=>by grind [Dh]) ba d (h.o [2,3,0] 5)
   | ok q=>
   let⟨o,r2⟩:=q;rw[hr]at f;dsimp only at f;have N:=Df r.2 hr;intro H2 P A L h;refine⟨_,_,_,_,_,_,_,_,_,_,rfl,h.al λb7 _ h=>h.al λb8 _ h=>h.st 1 rfl rfl ?_⟩;intro H3 h;refine h.zy 0 rfl rfl λH4 h=>?_;have h:=h.o [4,0,1,2,3,5,6,7] 8;let⟨p,h⟩:=di.1 h;refine⟨_,h.r 13,dj ⟨_,h.r 0,_,_,h.q 10,_,_,_,_,_,_,_,_,h.u_ 9 rfl,SZ r.1.1 N.1 (h.o [5,6,0,1,2,3,4,7,8,11,12,13,14,15] 16) λV h=>⟨_,rfl,jV (λba=>⟨rfl,?_⟩) λba=>ol (C λm2 c sb a l r1 u _ _ _ _=>by rw[c_ ba]at f;grind [Dh]) ba d (h.o [11,12,10] 14)⟩⟩⟩;rw[b_ (by grind)]at f;have W:i64.wrap ((j:Int)+1)=((j+1:Nat):Int):=by grind [aN]
   rw[W];refine⟨⟨j+1,_,r2,rfl,ez,f,?_⟩,by grind⟩;have h:=h.o [2,3,4,5,6,0,1,7,8,9,10,11,12,13] 14;have h:aA V (p_ x k { s1 with cm:=(kJ s1.cfg.cells m o.1 o.2).1,kept:=[] }::_):=di.2 ⟨p,h⟩;exact h.o [1,2,0,3,4,5] 6
 have h6:=ix D;have O:j=n.toNat:=ez;subst O;refine⟨_,h.q 5,vz h r.2 ez ?_⟩;cases hr:eT rb with
  | error e=>exact λy ba h=>ol (C λm2 c sb a l r1 u B _ _ _=>by grind) ba d (h.o [2,3,0] 5)
  | ok q=>
  let⟨sb,a⟩:=q;intro H2 P A L h;have Z:a.bs.length<=rb.bs.length:=vY hr;have M:0<=sb/\sb<18446744073709551616:=by rw[(iS hr).2.1];grind [xU]
  refine⟨_,rfl,W3 (s1:={ s1 with cm:=m }) d Y I M A ez G (λl c u B=>w _ _ _ _ _ _ bs hr u B) (λS=>C λm2 c k2 Ho l r1 u B T h4 h5=>by grind) (λl c u B T=>J _ _ _ _ _ _ bs hr u B T) h⟩
theorem aeT{x y:C}(h:FO s x=.ok (y,A)):A.bs.length=s.bs.length:=by rw[(iS h).1]
theorem W8(h:j0 s=.ok (M,A)):A.bs.length<=s.bs.length:=by unfold j0 at h;cases h1:cQ s with
  | error e'=>grind
  | ok q=>let⟨a,s1⟩:=q;rw[h1]at h;dsimp only at h;cases h2:gz s1 with
   | error e'=>grind
   | ok q=>let⟨b,s2⟩:=q;rw[h2]at h;dsimp only at h;have d:=aeT h;have e:=gG h1;have c:=vX h2;grind [Bo]
theorem Nv{x:HS Pv}(h:md G s=.ok (x,A)):A.bs.length<=s.bs.length:=by
 unfold md at h
 (repeat' split at h) <;> first|grind|(cases h;rename_i a b;exact DC (W8 ‹_›) (gG ‹_›))
theorem Nw(h:Jq s=.ok (S,A)):A.bs.length<=s.bs.length:=by
 unfold Jq at h
 (repeat' split at h) <;> first|grind|(cases h;exact DC (gG ‹_›) (DC (gG ‹_›) (DC (gG ‹_›) (gG ‹_›))))|exact DC (gG ‹_›) (DC (gG ‹_›) (DC (gG ‹_›) (gG ‹_›)))
theorem yU:∀{n:Nat} {s s':RS} {x:List bT},jN n s=.ok (x,s')->s'.bs.length<=s.bs.length
 | 0,s,s',x,h=>by cases h;grind
 | n+1,s,s',x,h=>by unfold jN at h;(repeat' split at h) <;> first| grind| (cases h;exact DC (Nw ‹_›) (yU ‹_›))| exact DC (Nw ‹_›) (yU ‹_›)
theorem yV{hs:HS Pv}:∀{n:Nat} {s s':RS} {x:HS Pv},jj hs n s=.ok (x,s')->s'.bs.length<=s.bs.length
 | 0,s,s',x,h=>by cases h;grind
 | n+1,s,s',x,h=>by unfold jj at h;(repeat' split at h) <;> first| grind| (cases h;exact DC (Nv ‹_›) (yV ‹_›))| exact DC (Nv ‹_›) (yV ‹_›)
theorem Nx{d:Bool}(h:pR c a d n l s=.ok (x,A)):A.bs.length<=s.bs.length:=by
 unfold pR at h
 (repeat' split at h) <;> first|grind|(cases h;exact DC (yV ‹_›) (DC (uh ‹_›) (gG ‹_›)))|exact DC (yV ‹_›) (DC (uh ‹_›) (gG ‹_›))
theorem Ny(h:oZ c a s=.ok (x,A)):A.bs.length<=s.bs.length:=by
 unfold oZ at h
 (repeat' split at h) <;> first|grind|(cases h;exact DC (Nx ‹_›) (DC (yU ‹_›) (DC (uh ‹_›) (DC (gG ‹_›) (vY ‹_›)))))|exact DC (Nx ‹_›) (DC (yU ‹_›) (DC (uh ‹_›) (DC (gG ‹_›) (vY ‹_›))))
theorem Nz(h:og c s=.ok (x,A)):A.bs.length<=s.bs.length:=by
 unfold og at h
 (repeat' split at h) <;> first|grind|(cases h;exact DC (Ny ‹_›) (vX ‹_›))|exact DC (Ny ‹_›) (vX ‹_›)
theorem N0(h:flR c a s=.ok (R,A)):A.bs.length<=s.bs.length:=by
 unfold flR at h
 (repeat' split at h) <;> first|grind|(cases h;exact DC (Nz ‹_›) (vY ‹_›))|exact DC (Nz ‹_›) (vY ‹_›)
theorem N1(h:lA B a s=.ok (y,A)):A.bs.length<=s.bs.length:=by
 unfold lA at h
 (repeat' split at h) <;> first|grind|(cases h;exact DC (N0 ‹_›) (DC (ui ‹_›) (DC (gG ‹_›) (DC (gG ‹_›) (gG ‹_›)))))|exact DC (N0 ‹_›) (DC (ui ‹_›) (DC (gG ‹_›) (DC (gG ‹_›) (gG ‹_›))))
theorem Di{s0:aL}:∀{n:Nat} {r a:RS} {x:PAg},fz s0 n r=.ok (x,a)->a.bs.length<=r.bs.length
 | 0,s,s',x,h=>by cases h;grind
 | n+1,s,s',x,h=>by unfold fz at h;(repeat' split at h) <;> first| grind| (cases h;exact DC (N1 ‹_›) (DC (gG ‹_›) (Di ‹_›)))| exact DC (N1 ‹_›) (DC (gG ‹_›) (Di ‹_›))
theorem Dj{s0:aL}{s:RS}{e:Int}:∀{n j:Nat},fz s0 j s=.error e->j<=n->fz s0 n s=.error e
 | 0,j,h,hj=>by
  grind
 | n+1,j,h,hj=>by
  rcases HU n j with a|a
  .grind
  .unfold fz;rw[Dj h a]
theorem W9{b1 b2 b3 b4:Nat}{s0:aL}{ba:KQ}{bc:Nat}{rb value:Int}{r:aF}(d:aH Q r) (hA:∀H,aA H F->aQ H ba (E.map U8)) (W:ba=none\/∃sb o,ba=some ⟨sb,o,none⟩) (ok:cY s0) (L:s0.cm=[]) (R:s0.kept=[]) (hn:0<=n/\n<=64) (B:1<=s0.ms.h_/\s0.ms.h_<=1099511627776) (hm:Fx rb) (hb:aI A.bs) (hl:A.bs.length<=10000000000) (V:aI E) (bs:∀x r7 m u cm f sb c l i,fz s0 n.toNat A=.ok (x,r7)->(rb-s0.ms.h_<=value/\value<=rb)->dZ 1024 r7=.ok (m,u)->fJ s0.cfg.cells m.toNat u=.ok (cm,f)->eT f=.ok (sb,c)->fe sb.toNat c=.ok (l,i)->(dG i).e=0->cY { s0 with rows:=x.rows,sts:=x.sts,ms:=⟨s0.ms.h_,rb,value,x.HK⟩,cm:=cm,kept:=l }/\sj { s0 with rows:=x.rows,sts:=x.sts,ms:=⟨s0.ms.h_,rb,value,x.HK⟩,cm:=cm,kept:=l }/\l.length<=900000) (J:(∀x r7 m u cm f sb c l i,fz s0 n.toNat A=.ok (x,r7)->(rb-s0.ms.h_<=value/\value<=rb)->dZ 1024 r7=.ok (m,u)->fJ s0.cfg.cells m.toNat u=.ok (cm,f)->eT f=.ok (sb,c)->fe sb.toNat c=.ok (l,i)->(dG i).e=0->Fs { s0 with rows:=x.rows,sts:=x.sts,ms:=⟨s0.ms.h_,rb,value,x.HK⟩,cm:=cm,kept:=l }=E->False)->oh Q F K (.error 10)) (Y:∀x r7 m u cm f sb c l i,fz s0 n.toNat A=.ok (x,r7)->(rb-s0.ms.h_<=value/\value<=rb)->dZ 1024 r7=.ok (m,u)->fJ s0.cfg.cells m.toNat u=.ok (cm,f)->eT f=.ok (sb,c)->fe sb.toNat c=.ok (l,i)->(dG i).e=0->Fs { s0 with rows:=x.rows,sts:=x.sts,ms:=⟨s0.ms.h_,rb,value,x.HK⟩,cm:=cm,kept:=l }=E->oh Q F K (.ok { s0 with rows:=x.rows,sts:=x.sts,ms:=⟨s0.ms.h_,rb,value,x.HK⟩,cm:=cm,kept:=l })) (h:aA H (kb b A::r::p_ r k s0::Ma.j_ b4 []::ax b1 [PA k 0] 74::ax b2 [aD 0] 58::ax b3 [PA b 0] 556::F)) : ∃(Inv:Int->aC->Prop) (mu:Int->aC->Nat),Inv 0 H/\ ∀(t:Int),∀G:aC,Inv t G->nD.l4 ba E.length bc K b1 b2 b3 rb value b4 n Inv mu t G:=by
 refine⟨λt G=>∃(j:Nat) (x:PAg) (i:RS) (r:aF) (p:SAd),t=j/\(j:Int)<=n/\fz s0 j A=.ok (x,i)/\aI i.bs/\aH Q r/\ aA G (kb b i::r::ax k (dx s0 p) 165::Ro.mv p.rb p.rm s0.cfg.agents::Ro.t_ p.rm x.rows::my r p.tm x.sts::Ma.eY p.mb p.mm s0.ms::Ma.j_ p.mm s0.ms.m::DI p.hb p.hm s0.cfg.cells::cG p.hm s0.cm::ay 184 74 p.ka s0.kept.length p.kc (flat cR s0.kept):: Ma.j_ b4 x.HK::ax b1 [PA k 0] 74::ax b2 [aD 0] 58::ax b3 [PA b 0] 556::F),λt _=>(n-t).toNat,?_,?_⟩;.have h:=h.o [2,0,1,3,4,5,6] 7;let⟨p,h⟩:=di.1 h;exact⟨0,⟨s0.rows,s0.sts,[]⟩,A,r,p,rfl,hn.1,rfl,hb,d,h.o [9,10,0,1,2,7,3,4,5,6,8,11,12,13,14] 15⟩
 rintro t H1 ⟨j,x,i,r,p,rfl,hj,O,D,d,h⟩;have j3:=Di O;have P:=De ok O;unfold nD.l4;refine⟨λN=>?_,λN=>?_⟩
 .have N:=ke N;refine⟨_,h.q 14,kP h D ez ?_⟩;cases hr:cQ i with
   | error e=>
   have l5:fz s0 (j+1) A=.error e:=by grind [fz]
   exact λG w h=>ol (J λx2 r7 m u cm f sb c l r1 M _ _ _ _ _ _ _=>by grind [Dj]) w d (h.o [11,12,0] 14)
   | ok q=>
   let⟨a,r2⟩:=q;intro H2 l0 T Z h;refine⟨_,rfl,_,h.q 14,_,h.r 12,Wy (s:={ s0 with rows:=x.rows,sts:=x.sts }) (a:=a) ok.cfg P.rows P.len T Z ?_ h⟩;have C:fz s0 (j+1) A=match lA { s0 with rows:=x.rows,sts:=x.sts } a r2 with
    | .error e=>.error e
    | .ok (y,r3)=>.ok (⟨y.1,x.sts.set a.toNat (some y.2.2),eO a y.2.1 x.HK⟩,r3):=by grind [fz]
   cases hq:lA { s0 with rows:=x.rows,sts:=x.sts } a r2 with
    | error e=>rw[hq]at C;exact λQ2 G w hs h=>ol (J λx2 r7 m u cm f sb c l r1 M _ _ _ _ _ _ _=>by grind [Dj]) w (d.trans hs) (h.o [7,8,0] 10)
    | ok q=>
    let⟨y,r3⟩:=q;rw[hq]at C;intro Q2 H3 hs j1 I h9 h;refine⟨_,_,_,_,rfl,h.ji (α:=Fl) (v:=y.2.1) Ma.HI Ma.Fm 11 rfl λH4 h=>?_⟩;have hw:i64.wrap ((j:Int)+1)=((j+1:Nat):Int):=by grind [aN]
    rw[hw];refine⟨⟨j+1,_,r3,Q2,p,rfl,ez,C,I,d.trans hs,?_⟩,by grind⟩;exact h.o [1,0,2,4,5,3,6,7,8,9,10,11,12,13,14] 15
 have l6:=ix N;have h0:j=n.toNat:=ez;subst h0;refine⟨_,h.r 12,dj ⟨_,h.r 2,?_⟩⟩;by_cases hv:rb-s0.ms.h_<=value/\value<=rb
 .refine Ma.HM hm B hv (λp hp=>⟨(P.HK p hp).1,(P.HK p hp).2.1⟩) (h.o [6,7,11,0,1,2,3,4,5,8,9,10,12,13,14] 15) λU H2 h=>⟨_,rfl,jV (λw=>⟨rfl,_,h.q 14,?_⟩) λw=>cS rfl w⟩;refine vB ee (h.o [3,4,5,6,7,8,0,1,9,10,11,12,13,14] 15) D ez ?_;cases hr:dZ 1024 i with
   | error e=>exact λG w h=>ol (J λx2 r7 m u cm f sb c l r1 M _ h3 _ _ _ _ _=>by grind) w d (h.o [10,11,0] 13)
   | ok q=>
   let⟨m,u⟩:=q;intro H3 j1 I h9 h;have j2:=uh hr;have S:0<=m/\m<=1024:=by rw[(iS hr).2.1];exact Cp D ee
   refine⟨_,rfl,?_⟩;have h:=h.o [2,3,4,6,7,8,9,5,10,0,1,11,12,13] 14;have h:aA H3 (p_ r k { s0 with rows:=x.rows,sts:=x.sts,ms:=⟨s0.ms.h_,rb,value,x.HK⟩,cm:=s0.cm,kept:=s0.kept }::_):=di.2 ⟨{ p with mm:=U },h⟩;rw[L,R]at h;exact W7 (s1:={ s0 with rows:=x.rows,sts:=x.sts,ms:=⟨s0.ms.h_,rb,value,x.HK⟩ }) d hA W S (by have:=ok.sh;rwa[L]at this) I ez V (λcm f sb c l Ho=>bs x i m u cm f sb c l Ho O hv hr) (λhn=>J λx2 r7 m u cm f sb c l r1 M _ h3 h4 h5 h6 h7 h8=>by grind) (λcm f sb c l Ho=>Y x i m u cm f sb c l Ho O hv hr) (h.o [1,2,0,3,4,5] 6)
 refine adH hm B hv (h.o [6,0,1,2,3,4,5,7,8,9,10,11,12,13,14] 15) ⟨_,rfl,jV (λw=>cS w ee) λw=>ol (J λx2 r7 m u cm f sb c l r1 M h2 _ _ _ _ _ _=>hv h2) w d (h.o [12,13,1] 15)⟩
theorem Dk(hb:aI s.bs)(h:eT s=.ok (a,A)):aI A.bs:=by rw[(iS h).1];exact ij hb
theorem mf(hb:aI s.bs)(h:cQ s=.ok (a,A)):aI A.bs:=by rw[(iS h).1];exact ij hb
theorem Dl(hb:aI s.bs)(h:gz s=.ok (a,A)):aI A.bs:=by rw[(iS h).1];exact ij hb
theorem yW(hb:aI s.bs)(h:dZ a s=.ok (n,A)):aI A.bs:=by rw[(iS h).1];exact tN hb
theorem vZ(hb:aI s.bs)(h:Hb n s=.ok (a,A)):aI A.bs:=by
 unfold Hb at h;cases h1:cQ s with
  | error e=>rw[h1]at h;cases h
  | ok q=>
  let⟨x,s1⟩:=q;rw[h1]at h;dsimp only at h;split at h;.cases h;exact mf hb h1
  cases h
theorem WA(hb:aI s.bs)(h:j0 s=.ok (M,A)):aI A.bs:=by unfold j0 at h;cases h1:cQ s with
  | error e'=>rw[h1]at h;cases h
  | ok q=>let⟨a,s1⟩:=q;rw[h1]at h;dsimp only at h;cases h2:gz s1 with
   | error e'=>rw[h2]at h;cases h
   | ok q=>let⟨b,s2⟩:=q;rw[h2]at h;dsimp only at h;rw[(iS h).1];exact Bn (Dl (mf hb h1) h2)
theorem aaT{x:HS Pv}(hb:aI s.bs)(h:md G s=.ok (x,A)):aI A.bs:=by
 unfold md at h
 (repeat' split at h) <;> first|(cases h;done)|(cases h;exact WA (mf hb ‹_›) ‹_›)
theorem aen(hb:aI s.bs)(h:Jq s=.ok (S,A)):aI A.bs:=by
 unfold Jq at h
 (repeat' split at h) <;> first|(cases h;done)|(cases h;exact mf (mf (mf (mf hb ‹_›) ‹_›) ‹_›) ‹_›)
theorem N2:∀{n:Nat} {s s':RS} {x:List bT},aI s.bs->jN n s=.ok (x,s')->aI s'.bs
 | 0,s,s',x,hb,h=>by cases h;exact hb
 | n+1,s,s',x,hb,h=>by unfold jN at h;(repeat' split at h) <;> first| (cases h;done)| (cases h;exact aen (N2 hb ‹_›) ‹_›)
theorem N3{hs:HS Pv}:∀{n:Nat} {s s':RS} {x:HS Pv},aI s.bs->jj hs n s=.ok (x,s')->aI s'.bs
 | 0,s,s',x,hb,h=>by cases h;exact hb
 | n+1,s,s',x,hb,h=>by unfold jj at h;(repeat' split at h) <;> first| (cases h;done)| exact aaT (N3 hb ‹_›) h
theorem aa9{d:Bool}(hb:aI s.bs)(h:pR c a d n l s=.ok (x,A)):aI A.bs:=by
 unfold pR at h
 (repeat' split at h) <;> first|(cases h;done)|(cases h;exact N3 (yW (mf hb ‹_›) ‹_›) ‹_›)
theorem aa_(hb:aI s.bs)(h:oZ c a s=.ok (x,A)):aI A.bs:=by
 unfold oZ at h
 (repeat' split at h) <;> first|(cases h;done)|exact aa9 (N2 (yW (mf (Dk hb ‹_›) ‹_›) ‹_›) ‹_›) h
theorem aek(hb:aI s.bs)(h:og c s=.ok (x,A)):aI A.bs:=by
 unfold og at h
 (repeat' split at h) <;> first|(cases h;done)|exact aa_ (Dl hb ‹_›) h
theorem ahw(hb:aI s.bs)(h:flR c a s=.ok (R,A)):aI A.bs:=by
 unfold flR at h
 (repeat' split at h) <;> first|(cases h;done)|(cases h;exact aek (Dk hb ‹_›) ‹_›)
theorem afL(hb:aI s.bs)(h:lA B a s=.ok (y,A)):aI A.bs:=by
 unfold lA at h
 (repeat' split at h) <;> first|(cases h;done)|(cases h;exact ahw (vZ (mf (mf (mf hb ‹_›) ‹_›) ‹_›) ‹_›) ‹_›)
theorem N4{s0:aL}:∀{n:Nat} {r a:RS} {x:PAg},aI r.bs->fz s0 n r=.ok (x,a)->aI a.bs
 | 0,s,s',x,hb,h=>by cases h;exact hb
 | n+1,s,s',x,hb,h=>by unfold fz at h;(repeat' split at h) <;> first| (cases h;done)| (cases h;exact afL (mf (N4 hb ‹_›) ‹_›) ‹_›)
theorem WB(hb:aI E)(a:jZ c)(h:me c E=.ok B):cY B:=by
 unfold me at h
 cases h1:Hb 4611686018427387903 ⟨0,E⟩ with
 | error e=>rw[h1]at h;cases h
 | ok q=>
 let⟨now,r1⟩:=q;have b1:=vZ hb h1;rw[h1]at h;dsimp only at h
 cases h2:Hb 1099511627776 r1 with
 | error e=>rw[h2]at h;cases h
 | ok q=>
 let⟨boots,r2⟩:=q;have b2:=vZ b1 h2;rw[h2]at h;dsimp only at h
 cases h3:Hb 1099511627776 r2 with
 | error e=>rw[h3]at h;cases h
 | ok q=>
 let⟨sunk,r3⟩:=q;have b3:=vZ b2 h3;rw[h3]at h;dsimp only at h
 cases h4:Hb now r3 with
 | error e=>rw[h4]at h;cases h
 | ok q=>
 let⟨b,r4⟩:=q;have b4:=vZ b3 h4;rw[h4]at h;dsimp only at h
 cases h5:gz r4 with
 | error e=>rw[h5]at h;cases h
 | ok q=>
 let⟨value,r5⟩:=q;have b5:=Dl b4 h5;rw[h5]at h;dsimp only at h
 cases h6:dZ 64 r5 with
 | error e=>rw[h6]at h;cases h
 | ok q=>
 let⟨n,r6⟩:=q;have b6:=yW b5 h6;rw[h6]at h;dsimp only at h;have i1:=pS h1;have i2:=pS h2;have i3:=pS h3;have i4:=pS h4;have ok0:cY { cz c with now:=now,boots:=boots,sunk:=sunk }:=(rZ a).CT (now:=now) (ms:=(cz c).ms) (cm:=(cz c).cm) (kept:=(cz c).kept) (sunk:=sunk) (boots:=boots) i1 (rZ a).ms rfl (rZ a).sh (rZ a).kept i3.1 i2
 cases h7:fz { cz c with now:=now,boots:=boots,sunk:=sunk } n.toNat r6 with
 | error e=>rw[h7]at h;cases h
 | ok q=>
 let⟨x,r7⟩:=q;have b7:=N4 b6 h7;have d:=De ok0 h7;rw[h7]at h;dsimp only at h
 split at h
 .cases h
 rename_i t;have t:=Decidable.not_not.1 t
 cases h8:dZ 1024 r7 with
 | error e=>rw[h8]at h;cases h
 | ok q=>
 let⟨m,y⟩:=q;have b8:=yW b7 h8;rw[h8]at h;dsimp only at h
 cases h9:fJ c.cells m.toNat y with
 | error e=>rw[h9]at h;cases h
 | ok q=>
 let⟨cm,w⟩:=q;have g9:=yR (rZ a).sh b8 h9;rw[h9]at h;dsimp only at h
 cases h10:eT w with
 | error e=>rw[h10]at h;cases h
 | ok q=>
 let⟨k,f⟩:=q;have i:=Dk g9.2 h10;rw[h10]at h;dsimp only at h
 cases h11:fe k.toNat f with
 | error e=>rw[h11]at h;cases h
 | ok q=>
 let⟨kept,Ho⟩:=q;have j:=yS i h11;rw[h11]at h;dsimp only at h
 split at h
 .cases h
 cases h
 have u:=a.h_;have hm:Fx b:=⟨i4.1,by grind⟩;exact⟨a,i1,i2,i3.1,d.rows,⟨u.1,u.2,hm,by grind,by grind,d.nd,λp v=>⟨(d.HK p v).1,(d.HK p v).2.1⟩⟩,rfl,g9.1.sh,d.len,d.sts,d.CL,j.1⟩
theorem WE{Q:aF}{c:bM}(h:aA H (Q::F))
  (W:∀H,aA H F->aQ H v (E.map U8)) (M:v=none\/∃bc o,v=some ⟨bc,o,none⟩) (bs:aI E) (hl:E.length<=10000000000)
  (G:fH c=true->∀s,me c E=.ok s->sj s/\s.kept.length<=900000)
  (k1:fH c=false->∀C,aA C (Q::F)->K (.tuple #[.pointer none,aD 11]) C)
  (k2:fH c=true->∀e,qG c E=.error e->oh Q F K (.error 10))
  (k3:fH c=true->∀s,qG c E=.ok s->oh Q F K (.ok s)) :
  CF 250 #[.agg ⟨pI c⟩,.slice v E.length k] H K:=by
 refine R5 (h.al λb0 _ h=>h.al λb1 _ h=>h.al λb2 _ h=>⟨_,_,_,_,_,_,_,_,_,h.q 2,Mn (Q:=Q) (c:=c) h (λB H1 h=>?_) λB sb H1 h=>?_⟩)
 .refine⟨_,_,rfl,h.st 1 rfl rfl ?_⟩;intro H2 h;refine h.st 0 rfl rfl ?_;intro Z h;refine⟨_,h.r 0,λ_=>?_,λU=>cS U eh⟩
  refine⟨_,h.r 0,h.st 1 rfl rfl ?_⟩;intro Y h;refine⟨h.r 0,h.st 0 rfl rfl ?_⟩;intro H5 h;exact⟨_,h.r 1,_,h.r 0,k1 B _ (h.o [3] 4)⟩
 have D:=vQ B;have ok0:=rZ D;refine⟨_,_,rfl,h.st 2 rfl rfl ?_⟩;intro H2 h;refine h.st 1 rfl rfl ?_;intro Z h;refine⟨_,h.r 1,λU=>cS U eh,λ_=>tD h (λH h=>W H (h.o [] 5)) ez λrb Y h=>⟨_,rfl,h.al λb3 _ h=>h.st 0 rfl rfl ?_⟩⟩;intro H5 h;refine⟨_,h.r 4,_,h.r 4,_,h.r 4,_,h.q 0,_,h.q 0,_,h.q 0,?_⟩;have h:=h.o [1,0,2,3,4,6] 7;have d:=λe (i:me c E=.error e)=>k2 B 10 (by unfold qG;grind)
 have CX:∀{e:Int} {H:aC} {sv:aL} {b1 b2 b3 rb:Nat} {v1:Int} {ba:KQ},oh Q F K (.error 10)->e≠0->aA H (ax b3 [PA rb 0] 556::p_ Q sb sv::ax b2 [aD v1] 58::ax b1 [.pointer ba] 74::Q::F)->
   bK 318 X.calls=true/\cH Tryz.prog 318 [(PA b1 0),(PA b2 0)] (br (HF e) false) H λT w=>T=br (HF e) true/\
   ∃y,aM w b1 0=some (.pointer y)/\∃A,aM w b2 0=some (aD A)/\K (.tuple #[(.pointer y),(aD A)]) w:=
  λL i h=>ol L i (aH.refl Q) (h.o [3,2,4] 5)
 unfold me at d;refine tR h bs (by grind) ?_
 cases h1:Hb 4611686018427387903 ⟨0,E⟩ with
 | error e=>rw[h1]at d;exact λC i h=>CX (d _ rfl) i h
 | ok q=>
 obtain⟨now,r1⟩:=q;rw[h1]at d;dsimp only at d;intro H6 e1 J l1 h;refine⟨_,rfl,h.q 1,h.q 1,h.r 4,h.r 4,h.r 4,tR h J l1 ?_⟩
 cases h2:Hb 1099511627776 r1 with
 | error e=>rw[h2]at d;exact λC i h=>CX (d _ rfl) i h
 | ok q=>
 obtain⟨boots,r2⟩:=q;rw[h2]at d;dsimp only at d;intro H7 e2 S l2 h;refine⟨_,rfl,h.q 1,h.r 4,h.r 4,h.r 4,tR h S l2 ?_⟩
 cases h3:Hb 1099511627776 r2 with
 | error e=>rw[h3]at d;exact λC i h=>CX (d _ rfl) i h
 | ok q=>
 obtain⟨sunk,r3⟩:=q;rw[h3]at d;dsimp only at d;intro H8 e3 R l3 h;have i1:=pS h1;have i2:=pS h2;have i3:=pS h3;have okN:cY { cz c with now:=now,boots:=boots,sunk:=sunk }:=ok0.CT (now:=now) (ms:=(cz c).ms) (cm:=(cz c).cm) (kept:=(cz c).kept) (sunk:=sunk) (boots:=boots) i1 ok0.ms rfl ok0.sh ok0.kept i3.1 i2;refine⟨_,rfl,h.r 4,h.r 4,h.r 4,dj ?_⟩;have h:=h.o [2,0,1,3,4,5] 6;let⟨p,h⟩:=di.1 h;refine h.st 0 rfl rfl ?_;intro H9 h;refine⟨h.r 12,h.r 12,dj (h.st 0 rfl rfl ?_)⟩;intro h8 h;refine⟨h.r 12,dj (h.st 0 rfl rfl ?_)⟩;intro O h;refine⟨_,h.q 10,_,h.r 12,dj ⟨_,h.r 0,_,h.q 10,?_⟩⟩;have h:aA O (p_ Q sb { cz c with now:=now,boots:=boots,sunk:=sunk }::_):=di.2 ⟨p,h⟩;have h:=h.o [1,2,0,3,4,5] 6;refine tR h R l3 ?_
 cases h4:Hb now r3 with
 | error e=>rw[h4]at d;exact λC i h=>CX (d _ rfl) i h
 | ok q=>
 obtain⟨a,r4⟩:=q;rw[h4]at d;dsimp only at d;intro h0 e4 N l4 h;refine⟨_,rfl,h.q 1,vA h N l4 ?_⟩
 cases h5:gz r4 with
 | error e=>rw[h5]at d;exact λC i h=>CX (d _ rfl) i h
 | ok q=>
 obtain⟨value,r5⟩:=q;rw[h5]at d;dsimp only at d;intro h9 e5 I l5 h;refine⟨_,rfl,h.YF aD nS λb4 _ h=>⟨_,h.q 2,?_⟩⟩;have h:=h.o [1,2,3,4,5,6,0] 7;refine vB ee h I l5 ?_
 cases h6:dZ 64 r5 with
 | error e=>rw[h6]at d;exact λC i h=>CX (d _ rfl) i (h.o [0,1,2,3,4] 6)
 | ok q=>
 obtain⟨n,r6⟩:=q;rw[h6]at d;dsimp only at d;intro h7 e6 P l6 h;have i4:=pS h4;have V:0<=n/\n<=64:=by rw[(iS h6).2.1];exact Cp I ee
 have t1:=ui h1;have t2:=ui h2;have t3:=ui h3;have t4:=ui h4;have t5:=vX h5;have t6:=uh h6;dsimp only at t1;refine⟨_,rfl,?_⟩;have P1:∀x r7 m u cm j bc b l t,fz { cz c with now:=now,boots:=boots,sunk:=sunk } n.toNat r6=.ok (x,r7)->(a-c.h_<=value/\value<=a)->dZ 1024 r7=.ok (m,u)->fJ c.cells m.toNat u=.ok (cm,j)->eT j=.ok (bc,b)->fe bc.toNat b=.ok (l,t)->(dG t).e=0->
   me c E=.ok ⟨c,now,boots,sunk,x.rows,⟨c.h_,a,value,x.HK⟩,cm,x.sts,l⟩:=by
  intro x r7 m u cm j bc b l t a1 a2 a3 a4 a5 a6 a7;unfold me
  simp_all
 have P2:∀s,me c E=.ok s->∃x r7 m u cm j bc b l t,fz { cz c with now:=now,boots:=boots,sunk:=sunk } n.toNat r6=.ok (x,r7)/\(a-c.h_<=value/\value<=a)/\dZ 1024 r7=.ok (m,u)/\fJ c.cells m.toNat u=.ok (cm,j)/\eT j=.ok (bc,b)/\fe bc.toNat b=.ok (l,t)/\(dG t).e=0/\
   s=⟨c,now,boots,sunk,x.rows,⟨c.h_,a,value,x.HK⟩,cm,x.sts,l⟩:=by
  intro s f;unfold me at f;rw[h1]at f;dsimp only at f;rw[h2]at f;dsimp only at f;rw[h3]at f;dsimp only at f;rw[h4]at f;dsimp only at f;rw[h5]at f;dsimp only at f;rw[h6]at f;dsimp only at f
  cases a1:fz { cz c with now:=now,boots:=boots,sunk:=sunk } n.toNat r6 with
  | error e=>grind
  | ok q=>
  obtain⟨x,r7⟩:=q;rw[a1]at f;grind
 have L:(∀x r7 m u cm j bc b l t,fz { cz c with now:=now,boots:=boots,sunk:=sunk } n.toNat r6=.ok (x,r7)->(a-c.h_<=value/\value<=a)->dZ 1024 r7=.ok (m,u)->fJ c.cells m.toNat u=.ok (cm,j)->eT j=.ok (bc,b)->fe bc.toNat b=.ok (l,t)->(dG t).e=0->
   Fs ⟨c,now,boots,sunk,x.rows,⟨c.h_,a,value,x.HK⟩,cm,x.sts,l⟩=E->False)->oh Q F K (.error 10):=by
  intro V
  cases f:qG c E with
  | error e=>exact k2 B e f
  | ok s=>
   exfalso;unfold qG at f
   grind
 refine W9 (s0:={ cz c with now:=now,boots:=boots,sunk:=sunk }) (aH.refl Q) W M okN rfl rfl V D.h_ ⟨i4.1,ez⟩ P ez bs ?_ L ?_ (h.o [0,5,2,6,4,3,1] 7)
 .intro x r7 m u cm j bc b l t a1 a2 a3 a4 a5 a6 a7;have:=P1 x r7 m u cm j bc b l t a1 a2 a3 a4 a5 a6 a7;exact⟨WB bs D this,G B _ this⟩
 .intro x r7 m u cm j bc b l t a1 a2 a3 a4 a5 a6 a7 a8;have:=P1 x r7 m u cm j bc b l t a1 a2 a3 a4 a5 a6 a7;refine k3 B _ ?_;unfold qG;rw[b_ (by simp[B]),this];dsimp only;exact c_ a8
theorem Dm(h:gw M=true):(0<=M.stamp/\M.stamp<=4611686018427387903)/\dB M.name M.labs=true:=by unfold gw at h;grind
theorem N5(h:gw M=true)(b:aG M.value)(r:List Int):j0 ⟨0,E7 M++r⟩=.ok (M,⟨0,r⟩):=by
 let⟨c,a⟩:=Dm h;have e1:E7 M++r=aP [M.stamp]++(dg [M.value]++(gQ M.name M.labs++r)):=by grind [E7]
 unfold j0;rw[e1,l9 (by unfold aG;omega)];dsimp only;rw[vV b];dsimp only;rw[Da a];rfl
theorem abj(h:S.ok)(r:List Int):Jq ⟨0,NF S++r⟩=.ok (S,⟨0,r⟩):=by
 have a:=h.wf;unfold bT.wf at a;have e1:NF S++r=aP [S.asked]++(aP [S.CV]++(aP [S.hY]++(aP [S.came]++r))):=by simp[NF,aP]
 unfold Jq;rw[e1,l9 a.1];dsimp only;rw[l9 a.2.1];dsimp only;rw[l9 a.2.2.1];dsimp only;rw[l9 a.2.2.2]
theorem N6{l:List bT}(h:∀x∈l,x.ok)(r:List Int):∀j,j<=l.length->jN j ⟨0,l.flatMap NF++r⟩=.ok (l.take j,⟨0,(l.drop j).flatMap NF++r⟩)
 | 0,_=>rfl
 | j+1,hj=>by have a:j<l.length:=ez;unfold jN;rw[N6 h r j ez];dsimp only;rw[RF a,O_,Fw,abj (h _ (s_ a))];dsimp only;rw[q27,List.getElem?_eq_getElem a];rfl
theorem N7{α:Type}{n:Int}{v:α}:∀{l:cF α},(∀p∈l,p.1<n)->ins n v l=l++[(n,v)]
 | [],_=>rfl
 | (a,b)::r,h=>by have c:=h _ (DT ..);dsimp only at c;unfold ins;rw[nO,N7 λp d=>h p (DG _ d)];rfl
theorem abH:∀{l:cF C},(∀p∈l,a+1<=p.1)->pop a l=([],a,l)
 | [],_=>rfl
 | (n,v)::r,h=>by have next:=h _ (DT ..);dsimp only at next;unfold pop;grind
theorem WF{next most:Int}{l:cF Pv}{e:Pv}(h0:0<=next)(hb:∀p∈l,next+1<=p.1/\p.1<n)(i:next+1<=n)(hm:n<next+most)(c:n<1099511627776)(d:gw e=true)(b:aG e.value)(r:List Int) : md ⟨next,most,l⟩ ⟨0,RB (n,e)++r⟩=.ok (⟨next,most,l++[(n,e)]⟩,⟨0,r⟩):=by
 have e1:RB (n,e)++r=aP [n]++(E7 e++r):=by simp[RB]
 have a:aK n l=none:=dX.2 λk=>by grind
 have j:(⟨next,most,l⟩:HS Pv).offer n [e]=(⟨next,most,l++[(n,e)]⟩,[],0):=by
  unfold HS.offer;rw[nO];have e2:fx next most n [e] (l,0)=(l++[(n,e)],0):=by show eM next most n e (l,0)=_;unfold eM;dsimp only;rw[a,b_ (by simp;omega),nO,N7 λp h=>(hb p h).2]
  grind [abH]
 unfold md;rw[e1,l9 (by unfold aG;omega)];dsimp only;rw[N5 d b];dsimp only;have f:gy n [e]=true:=by grind [gy]
 grind
theorem N8{next most:Int}{l:cF Pv}(h0:0<=next)(f:ky (next+1) next most l)(h:∀p∈l,p.1<1099511627776/\gw p.2=true/\aG p.2.value)(r:List Int):∀j,j<=l.length->
  jj ⟨next,most,[]⟩ j ⟨0,l.flatMap RB++r⟩=.ok (⟨next,most,l.take j⟩,⟨0,(l.drop j).flatMap RB++r⟩)
 | 0,_=>rfl
 | j+1,hj=>by
  have c:j<l.length:=ez
  unfold jj;rw[N8 h0 f h r j ez];dsimp only;have hm:=s_ c;have hi:=f.inb _ hm;have d:=h _ hm;rw[RF c,O_,Fw];have a:∀p∈l.take j,p.1<l[j].1:=by
   intro p b;obtain⟨q,i,rfl⟩:=XR b;rw[q23]at i;rw[List.getElem_take];exact q3e.1 f.rising q j ez c ez
  have:=WF (next:=next) (most:=most) (n:=l[j].1) (l:=l.take j) (e:=l[j].2) h0 (λp b=>⟨(f.inb p (RE b)).1,a p b⟩) hi.1 hi.2 d.1 d.2.1 d.2.2 ((l.drop (j+1)).flatMap RB++r)
  grind [List.take_add_one]
theorem ak2(b:Bool):GX [b] 1=if b then 1 else 0:=by cases b <;> rfl
def uj(st:bC):List Int:=((aP [GX [st.ck.held] 1,st.ck.streak,(st.ck.eb.length:Int)]++st.ck.eb.flatMap NF)++aP [st.hs.next,(st.hs.rows.length:Int)])++st.hs.rows.flatMap RB
theorem aa8(ok:mN c x)(r:List Int):og c ⟨0,dg [x.last]++(uj x++r)⟩=.ok (x,⟨0,r⟩):=by
 have n:=ok.last;have b:=ok.ck;have e:x.ck.eb.length<=8:=b.len;have f:=b.st;have d:=ok.hs.GS;have k:=ok.next;have h:=ok.hs.GV;have i:=ok.hs.rows.length;have e1:uj x++r=aP [GX [x.ck.held] 1]++(aP [x.ck.streak]++(aP [((x.ck.eb.length:Nat):Int)]++(x.ck.eb.flatMap NF++(aP [x.hs.next]++(aP [((x.hs.rows.length:Nat):Int)]++(x.hs.rows.flatMap RB++r)))))):=by grind [uj,vU]
 unfold og;rw[vV (by unfold aG;omega)];dsimp only;rw[b_ (by grind),e1];unfold oZ;have j:=yN [x.ck.held] 1 ee;rw[uc j.1 (by grind)];dsimp only;rw[l9 (by unfold aG;omega)];dsimp only;rw[ud ez ez];dsimp only;rw[Fu,N6 b.ok _ _ (w_ _),FE,V_];dsimp only;unfold pR;rw[b_ (λm=>m ⟨e,f.1,b.ok⟩)];have e2:([]:List bT).flatMap NF++(aP [x.hs.next]++(aP [((x.hs.rows.length:Nat):Int)]++(x.hs.rows.flatMap RB++r)))=aP [x.hs.next]++(aP [((x.hs.rows.length:Nat):Int)]++(x.hs.rows.flatMap RB++r)):=rfl;rw[e2,l9 (by unfold aG;omega)];dsimp only;rw[nO,ud ez ez];dsimp only;have a:=ok.hs.rows;rw[ok.most]at a;rw[Fu,N8 d a ok.rows _ _ (w_ _),FE,V_];dsimp only;have e3:decide (GX [x.ck.held] 1=1)=x.ck.held:=by grind [ak2]
 rw[e3,<-ok.kl,<-ok.least,<-ok.most];rfl
theorem ajH(a b c:Bool):SC (GX [a,b,c] 3) 1=a/\SC (GX [a,b,c] 3) 2=b/\SC (GX [a,b,c] 3) 4=c:=by cases a <;> cases b <;> cases c <;> decide
theorem afi(ok:mN c x)(r:List Int):flR c N.t ⟨0,aP [GX [N.out,N.r_,N.held] 3]++(dg [x.last]++(uj x++r))⟩=.ok ((N,x),⟨0,r⟩):=by have a:=yN [N.out,N.r_,N.held] 3 ee;unfold flR;rw[uc a.1 (by grind)];dsimp only;rw[aa8 ok];dsimp only;let⟨b1,b2,b3⟩:=ajH N.out N.r_ N.held;simp_all
theorem adn{s0:aL}{fl:Fl}{st:bC}(ok:mN s0.cfg st)(c:aG e.epoch/\aG e.boot/\aG e.time)(hs:gT s0.cfg.agents s0.rows a e=(s0.rows.set a.toNat e,0))(d:0<=fl.t/\fl.t<=s0.now)(b:aG fl.t)(r:List Int) : ∃rest,agB a e fl st++r=aP [a]++rest/\lA s0 a ⟨0,rest⟩=.ok ((s0.rows.set a.toNat e,fl,st),⟨0,r⟩):=by
 refine⟨aP [e.epoch]++(aP [e.boot]++(aP [e.time]++(aP [fl.t]++(aP [GX [fl.out,fl.r_,fl.held] 3]++(dg [st.last]++(uj st++r)))))),?_,?_⟩;.unfold agB afN uj;grind [vU]
 unfold lA;rw[l9 c.1];dsimp only;rw[l9 c.2.1];dsimp only;rw[l9 c.2.2];dsimp only;have e1:(⟨e.epoch,e.boot,e.time⟩:En)=e:=rfl;rw[e1,hs,b_ eh,vW d b];grind [afi]
structure kj(o:Ot):Prop where
 wc:WC o.2
 rt:gr o.2=true
 ch:CH o.2
 win:0<=o.1.win/\o.1.win<=4611686018427387903
 g_:(fp o.1.g_).2.2=true
 size:o.1.g_.size<=5000
theorem N9(h:kj o)(r:List Int):j8 ⟨0,DU o++r⟩=.ok (o,⟨0,r⟩):=by
 have j:=rM h.wc;have b:(bN (dY o.2)).size=(dY o.2).length:=nM _;have hs:=h.size;have e1:DU o++r=dg [o.1.win]++(dh o.1.g_++(dh (bN (dY o.2))++r)):=by grind [cbB,fG]
 have a:fj (bN (dY o.2))=dY o.2:=by unfold fj;rw[show (bN (dY o.2)).data.toList=(dY o.2).map λn=>UInt8.ofNat n.toNat from strOfNums_data _,XP];apply XO eh;intro i e f;simp only[q2h,Function.comp];grind [rE,Ke]
 have t1:∀x:Fb,∀r:List Int,x.size<18446744073709551616->bg (dh x++r).length ⟨0,dh x++r⟩=(fj x,⟨0,r⟩):=λx r c=>by grind [ue,dh,uP]
 unfold j8;have d:=h.win;rw[e1,vV (by unfold aG;omega)];dsimp only;rw[t1 _ _ ez];dsimp only;rw[t1 _ _ ez];dsimp only;rw[b_ eh,yK,h.g_,b_ (by grind),a,W6 h.wc h.rt h.ch];grind
theorem NH{l:List Ot}(h:∀o∈l,kj o)(r:List Int):∀j,j<=l.length->fe j ⟨0,l.flatMap DU++r⟩=.ok (l.take j,⟨0,(l.drop j).flatMap DU++r⟩)
 | 0,_=>rfl
 | j+1,hj=>by have a:j<l.length:=ez;unfold fe;rw[NH h r j ez];dsimp only;rw[RF a,O_,Fw,N9 (h _ (s_ a))];dsimp only;rw[q27,List.getElem?_eq_getElem a];rfl
theorem Dn{α:Type}[DecidableEq C]{k:C}{v:α}{m:List (C×α)}(h:aK k m=none):eO k v m=(k,v)::m:=by grind [eO,lG]
theorem NI{most:Int}{l:List Ot}(d:(aJ l).Nodup)(h:∀o∈l,kj o)(hm:(l.length:Int)<=most)(r:List Int):∀j,j<=l.length->fJ most j ⟨0,l.flatMap DU++r⟩=.ok ((l.take j).reverse,⟨0,(l.drop j).flatMap DU++r⟩)
 | 0,_=>rfl
 | j+1,hj=>by
  have c:j<l.length:=ez
  have b:=s_ c;have a:aK l[j].1 (l.take j).reverse=none:=dX.2 λk=>by
   let⟨p,e,i⟩:=zb.1 k;rw[List.mem_reverse]at e;obtain⟨q,f,rfl⟩:=XR e;rw[q23]at f;rw[List.getElem_take]at i;have m:=q3e.1 d q j (by grind) (by grind) ez
   grind
  unfold fJ;rw[NI d h hm r j ez];dsimp only;rw[RF c,O_,Fw,N9 (h _ b)];dsimp only;have hs:kJ most (l.take j).reverse l[j].1 l[j].2=((l.take (j+1)).reverse,0):=by
   unfold kJ;rw[a,b_ eh,(h _ b).rt,b_ eh,b_ (by grind),Dn a,q27,List.getElem?_eq_getElem c,List.reverse_append];rfl
  grind
abbrev ld(s:aL)(r:Rp):aL:=(bU s r).1
abbrev lf(s:aL)(r:Rp):List DF:=(bU s r).2.1
theorem Do{c:bM}{now a ep first:Int}{evs:List Pv}{x:JS}:∀n,∀e∈(dI c now a ep first evs x n).2,e.kind=3
 | 0,e,h=>by cases h
 | n+1,e,h=>by
  rcases DA.1 h with h|h
  .exact Do n e h
  .rw [CS]at h;rw[h];rfl
theorem WG:∀e∈(iN B r).2,e.kind=3\/e.kind=2:=by
 unfold iN;split
 .intro e a;rcases DA.1 a with h|h;.exact .inl (Do _ e h)
  grind
 grind
theorem NJ:∀e∈kV B a,e.kind=3:=by
 unfold kV;split;.intro e b;obtain⟨n,_,rfl⟩:=zb.1 b;rfl
 grind
theorem WH:∀e∈(iP B r).2.1,e.kind=3\/e.kind=1:=by
 unfold iP;split;.grind
 split
 .intro e a;rcases DA.1 a with h|h;.grind [NJ]
  grind
 grind
theorem qH{P:aL×List DF×Int->Prop}(h0:r.right=false->P (B,[],10))(c:r.right=true->gE B r≠0->P (B,[],gE B r)) (k1:r.right=true->gE B r=0->r.kind=1->P ({ B with boots:=B.boots+1 },[],0)) (k2:r.right=true->gE B r=0->r.kind=2->P (iP B r)) (k3:r.right=true->gE B r=0->r.kind=3->P (pK B r,[],0)) (k4:r.right=true->gE B r=0->r.kind=4->P ((iN B r).1,(iN B r).2,0)) (k5:r.right=true->gE B r=0->r.kind=5->P (oX B r,[],0)) (k6:r.right=true->gE B r=0->r.kind=6->P ((lz B r.nw).1,(lz B r.nw).2,0)) (k7:r.right=true->gE B r=0->r.kind=7->P (pL B r,[],0)):P (bU B r):=by
 unfold bU;split;.rename_i h;exact h0 h
 rename_i a;have a:r.right=true:=by grind
 have d:=kU a;split;.rename_i h;exact c a h
 rename_i b;have b:gE B r=0:=by grind
 split;.rename_i h;exact k1 a b h
 split;.rename_i h;exact k2 a b h
 split;.rename_i h;exact k3 a b h
 split;.rename_i h;exact k4 a b h
 split;.rename_i h;exact k5 a b h
 split;.rename_i h;exact k6 a b h
 rename_i q1 q2 q3 q4 q5 q6;exact k7 a b (by have:=d.kind;omega)
theorem wd(a:r.kind≠1)(b:r.kind≠7)(h:gE B r=0):B.now<=(if r.kind=3 then r.sm.came else r.nw):=by unfold gE at h;rw[b_ a,b_ b]at h;grind [vP]
theorem Dp{first:Int}{a:List Ot}:∀{n k:Nat} (b:k<(ip first a n).length),(ip first a n)[k]={ kind:=4,number:=first+k,out:=a.getD k Ot.z }
 | 0,k,b=>by grind [ip]
 | n+1,k,b=>by
  simp only[ip];rw[List.getElem_append]
  split
  .rename_i h;exact Dp h
  .rename_i h;rw[qE]at h;have c:k<n+1:=by simpa[ip,qE] using b
   have:k=n:=ez
   subst this;simp[qE]
theorem NK{α:Type}{p:α->Bool}:∀{l:List α},l.Pairwise (λx y=>p y=true->p x=true)->l.takeWhile p=l.filter p
 | [],_=>rfl
 | a::r,h=>by
  rw[YV]at h;rw[List.takeWhile_cons,q1x]
  split
  .rw [NK h.2]
  .rename_i b;exact (q2r.2 λx c d=>b (h.1 x c d)).symm
theorem NL{p:Ky×Cl}:∀{l:List Ot} {m:CM},p∈mI m l↔p∈m/\∀o∈l,o.1≠p.1
 | [],m=>by simp[mI]
 | o::r,m=>by have a:=NL (p:=p) (l:=r) (m:=bF o.1 m);show p∈mI (bF o.1 m) r↔_;rw[a,nt];grind
open  Go.Sort
theorem Dq(x y:Ky):iK x y=!(ltOf lP) y x:=by rw[ae4];rfl
theorem WI(c:List Ky):(gO c).Pairwise λx y=>iK x y=true:=by
 unfold gO;refine List.pairwise_mergeSort (le:=iK) (λx y z a b=>?_) (λx y=>?_) c;.rw [Dq]at *;simp only[SO]at *;exact YO.ntrans z y x b a
 rw [Dq,Dq];cases a:ltOf lP y x with
  | false=>rfl
  | true=>cases b:ltOf lP x y with
   | false=>rfl
   | true=>have:=YO.trans _ _ _ a b;rw[YO.irrefl]at this;cases this
theorem Dr{y:Ky}(h:iK P y=true):P.win<=y.win:=by grind [iK]
theorem NO(m:CM)(b:Int):ja m b=(bB m).filter λo=>decide (o.1.win<b):=by unfold ja;refine NK ?_;unfold bB;rw[List.pairwise_map];refine (WI _).imp λh a=>?_;have:=Dr h;grind
theorem WJ{k:Ky}:(∃o∈bB m,o.1=k)↔k∈aJ m:=by
 unfold bB;constructor;.rintro⟨o,ho,rfl⟩;obtain⟨a,b,rfl⟩:=zb.1 ho;grind [mH]
 intro h;exact⟨_,zb.2 ⟨k,(mH _).mem_iff.2 h,rfl⟩,rfl⟩
theorem WK{m:CM}:p∈oS m n↔p∈m/\n<=p.1.win:=by
 unfold oS;rw[NL];constructor;.intro⟨h1,h2⟩;refine⟨h1,?_⟩;let⟨o,a,c⟩:=(WJ (m:=m) (k:=p.1)).2 (zb.2 ⟨p,h1,rfl⟩);grind [NO]
 intro⟨h1,h2⟩;refine⟨h1,λo a c=>?_⟩;rw[NO]at a;grind
theorem WL(h:r.right=true):r.HG=true:=by unfold Rp.right at h;grind
theorem NP(h0:0<=a)(b:a.toNat<D.length):bI (D.set a.toNat e) a=e:=by unfold bI;grind
abbrev isV(t:Int):Prop:=-4611686018427387904<=t/\t<=4611686018427387903
theorem NQ{g:Gd}(a:g.ok)(c:isV n):fY g n=n/g.width:=by
 have b:1<=g.width:=a.1;have hb:isV (n/g.width):=by
  constructor;.rw [Int.le_ediv_iff_mul_le ez];omega
  rcases Int.lt_or_le n 0 with h|h;.have:n/g.width<0:=Int.ediv_neg_of_neg_of_pos h ez;omega
  have:=Int.ediv_le_self g.width h;omega
 unfold fY;rw[c_ a,Int.tdiv_eq_ediv,Int.tmod_eq_emod];have h0:=Int.emod_nonneg n (show g.width≠0 by omega);have d:=Int.emod_lt_of_pos n (show 0<g.width by omega);by_cases hc:0<=n\/g.width ∣ n;.rw [c_ hc,c_ hc,nO,aN];omega
 rw [b_ hc,b_ hc,pO,Int.sign_eq_one_of_pos ez,aN (x:=n/g.width+1),aN];omega
theorem ab_{x:Gp}(h:(lK [x,⟨a,n⟩]).2=0):(lK [x,⟨a,n⟩]).1.lo<=(lK [x,⟨a,n⟩]).1.hi/\(lK [x,⟨a,n⟩]).1.hi<=n/\a<=(lK [x,⟨a,n⟩]).1.lo:=by
 unfold lK nF at h ⊢;split at h
 .rename_i f;rw[c_ f];unfold nF at h ⊢;split at h
  .rename_i b;rw[c_ b];unfold nF at h ⊢;split at h;.rename_i c;rw[c_ c];grind [aca]
   grind
  grind
 grind
theorem NR{ck:Ck}(h:(cW ck N n a).2=0):(cW ck N n a).1.lo<=(cW ck N n a).1.hi/\(cW ck N n a).1.hi<=n/\N.t<=(cW ck N n a).1.lo:=by
 unfold cW at h ⊢;split at h;.grind
 rename_i b;rw[b_ b];split at h;.simp at h
 rename_i stamp;rw[b_ stamp];exact ab_ (Decidable.not_not.1 stamp)
theorem NS{p:Ky×Cl}:∀{l m:CM},p∈mG l m->p∈l\/p∈m
 | [],m,h=>.inr h
 | q::r,m,h=>by
  rcases NS (l:=r) (m:=eO q.1 q.2 m) h with h|h
  .grind
  .rcases ly h with rfl|h
   .grind
   grind
structure alo(lo hi B:Int)(m:CM):Prop where
 win:∀p∈m,lo<=p.1.win/\p.1.win<=hi
 cnt:∀p∈m,1<=p.2.GG+p.2.pos/\p.2.GG+p.2.pos<=B
theorem WM(ms:MS)(a t:Int):(ms.raise a t).1.value=ms.value/\(ms.raise a t).1.now=ms.now:=by unfold MS.raise;grind
theorem abF{ms:MS}{t:Int}(h:∀p∈ms.m,p.2.t<=n)(d:t<=n):∀p∈(ms.raise a t).1.m,p.2.t<=n:=by
 unfold MS.raise;split;.exact h
 rename_i x c;split;.exact h
 intro p b;rcases ly b with rfl|b;.have:=h _ (eD c);grind
 grind
theorem WN{g:Gd}{x:Gp}(h:(dT g x).1≠0\/True)(b:g.ok)(a:x.ok):dT g x=(fY g x.lo,fY g x.hi,0):=by unfold dT;grind
structure ajV(s:aL)(B:Int):Prop where
 b0:0<=B
 val:s.ms.value<=s.now
 cel:alo (fY s.cfg.gd s.ms.value) (fY s.cfg.gd s.now) B s.cm
 fl:∀p∈s.ms.m,p.2.t<=s.now
 en:∀a,(bI s.rows a).time<=s.now
 ag:s.rows.countP (λe=>decide (0<e.epoch))<=s.cfg.agents
theorem we:∀{l:List En} {i:Nat},(aW i l).length=l.countP λe=>decide (0<e.epoch)
 | [],i=>rfl
 | e::r,i=>by
  unfold aW;rw[List.countP_cons]
  split
  .rename_i h;rw[CU,we (l:=r),c_ (by grind)]
  .rename_i h;rw[we (l:=r),b_ (by grind)];rfl
theorem WO{p:En->Bool}{x:En}:∀{l:List En} {k:Nat} (b:k<l.length),(l.set k x).countP p<=l.countP p+(if p l[k] then 0 else 1)
 | a::r,0,_=>by grind
 | a::r,k+1,h=>by grind
theorem aeQ{s:aL}{x:En}(ok:cY s)(m:s.rows.countP (λe=>decide (0<e.epoch))<=s.cfg.agents)(k:0<=a/\a<=63)(d:¬((bI s.rows a).epoch=0/\full s.cfg.agents s.rows))(g2:D=s.rows.set a.toNat x) : D.countP (λe=>decide (0<e.epoch))<=s.cfg.agents:=by
 have b:a.toNat<s.rows.length:=by rw[ok.rows.len];omega
 rw[g2];have c:=WO (p:=λe=>decide (0<e.epoch)) (x:=x) b;have h:bI s.rows a=s.rows[a.toNat]:=by unfold bI;grind
 by_cases h4:0<s.rows[a.toNat].epoch;.grind
 rw [b_ (by grind)]at c;have f:=(ok.rows.at a).1;rw[h]at f;have i:¬full s.cfg.agents s.rows:=λj=>d ⟨by grind,j⟩;unfold full at i;grind [we]
theorem NT{lim n:Int}{m:FM}(hm:∀p∈m,p.2.t<=n)(a:0<=n):∀(b:List Int) (s:Int×Bool),s.1<=n->(jY lim m b s).1<=n
 | [],s,h=>h
 | k::r,s,h=>by
  refine NT hm a r _ ?_;unfold oW
  split
  .cases hk:aK k m with
   | none=>grind [Fl.z]
   | some x=>simp only[Option.getD_some];exact hm _ (eD hk)
  .exact h
theorem abO(ok:jZ c):ajV (cz c) 0 where
 b0:=F_ _
 val:=by have:=ok.h_;show -c.h_<=0;omega
 cel:=⟨λp b=>cS b (by simp[cz]),λp b=>cS b (by simp[cz])⟩
 fl:=λp b=>cS b (by simp[cz,MS.new])
 en:=λa=>by
  unfold bI cz;dsimp only
  split
  .exact F_ _
  .rw [List.getElem?_replicate]
   split <;> exact F_ _
 ag:=by
  have:=ok.ag
  grind [cz,List.countP_replicate,En.z]
structure FB(s:aL):Prop where
 ok:cY s
 sunk:s.sunk<=1099511627776
 ab4:0<=s.ms.now/\s.ms.now<=s.now
 val:s.ms.now-s.cfg.h_<=s.ms.value/\s.ms.value<=s.ms.now
 keys:∀a,(aK a s.ms.m).isSome=decide (0<(bI s.rows a).epoch)
 fl:∀p∈s.ms.m,p.2.t<=s.now
 rows:∀a,0<(bI s.rows a).epoch->(1<=(bI s.rows a).boot/\(bI s.rows a).boot<=1099511627776)/\0<=(bI s.rows a).time/\(bI s.rows a).time<=4611686018427387903
 ag:s.rows.countP (λe=>decide (0<e.epoch))<=s.cfg.agents
 cm:∀p∈s.cm,kj p
 kept:∀o∈s.kept,kj o
theorem Ds(e:En)(r:List En)(i:Nat):aW i (e::r)=(if 0<e.epoch then [((i:Int),e)] else [])++aW (i+1) r:=by grind [aW]
theorem yX:∀(a b:List En) (i:Nat),aW i (a++b)=aW i a++aW (i+a.length) b
 | [],b,i=>rfl
 | e::r,b,i=>by
  have c:=yX r b (i+1);have e1:i+1+r.length=i+(e::r).length:=by simp only[CU];omega
  rw[e1]at c;rw[q2m,Ds,Ds,c,Fw]
theorem NV:∀(n i:Nat),aW i (List.replicate n En.z)=[]
 | 0,i=>rfl
 | n+1,i=>by rw[List.replicate_succ];unfold aW;rw[b_ (by simp[En.z]),NV n (i+1)]
theorem NW(a:k<D.length):aW k (D.drop k)=(if 0<D[k].epoch then [((k:Int),D[k])] else [])++aW (k+1) (D.drop (k+1)):=by rw[RF a,Ds]
theorem Dt(a:k<D.length):aW 0 (D.take (k+1))=aW 0 (D.take k)++(if 0<D[k].epoch then [((k:Int),D[k])] else []):=by rw[q27,List.getElem?_eq_getElem a,yX];congr 1;rw[q23,Nat.min_eq_left ez,CB];grind [aW]
def mg(rows:List En)(k:Nat):List En:=rows.take k++List.replicate (64-k) En.z
def Xo(sts:List (Option bC))(k:Nat):List (Option bC):=sts.take k++List.replicate (64-k) none
def ko(s:aL)(k:Nat):FM:=((aW 0 (s.rows.take k)).map λp=>(p.1,bJ s.ms p.1)).reverse
theorem NX{l:List C}{z:C}(b:l.length=64)(a:k<64):(l.take k++List.replicate (64-k) z).set k (l[k]'(by omega))=l.take (k+1)++List.replicate (64-(k+1)) z:=by
 have e:List.replicate (64-k) z=z::List.replicate (64-(k+1)) z:=by rw[<-List.replicate_succ];grind
 rw[e,List.set_append_right _ _ (by grind),q23,Nat.min_eq_left ez,Nat.sub_self,q37,q27,List.getElem?_eq_getElem ez,Fw];rfl
theorem NY{l:List C}{z:C}(b:l.length=64)(a:k<64)(h:l[k]'(by omega)=z):l.take (k+1)++List.replicate (64-(k+1)) z=l.take k++List.replicate (64-k) z:=by
 have e:List.replicate (64-k) z=z::List.replicate (64-(k+1)) z:=by rw[<-List.replicate_succ];grind
 grind [List.take_add_one]
theorem yY(a:k<D.length):bI D (k:Int)=D[k]:=by unfold bI;grind
theorem abx(b:D.length=64)(a:k<64):bI (mg D k) (k:Int)=En.z:=by unfold bI mg;grind
theorem FB.count(R:FB B):((aW 0 B.rows).length:Int)<=B.cfg.agents:=by rw[we];exact R.ag
theorem WP{s:aL}(k:Nat):(aW 0 (s.rows.take k)).length+(aW k (s.rows.drop k)).length=(aW 0 s.rows).length:=by
 rcases HU k s.rows.length with h|h;.have:=yX (s.rows.take k) (s.rows.drop k) 0;rw[q1p,q23,Nat.min_eq_left ez,CB]at this;grind
 rw [FL h,List.drop_of_length_le h];rfl
theorem acH(k:Nat):aK (k:Int) (ko B k)=none:=dX.2 λhm=>by let⟨p,a,c⟩:=zb.1 hm;unfold ko at a;rw[List.mem_reverse]at a;obtain⟨q,b,rfl⟩:=zb.1 a;have:=(qB b).2.1;grind
theorem FB.str(R:FB B)(b:k<64)(h:0<(B.rows[k]'(by rw[R.ok.rows.len];exact b)).epoch):∃st,B.sts[k]?=some (some st)/\iO B (k:Int)=some st:=by let⟨st,a⟩:=(R.ok.CL k).2 ⟨_,List.getElem?_eq_getElem (by grind),h⟩;refine⟨st,a,?_⟩;unfold iO;grind
theorem FB.agr(R:FB B)(a:k<64)(h:¬0<(B.rows[k]'(by rw[R.ok.rows.len];exact a)).epoch):B.sts[k]'(by rw[R.ok.len];exact a)=none:=by
 have b:k<B.sts.length:=by rw[R.ok.len];exact a
 cases e:B.sts[k] with
  | none=>rfl
  | some st=>let⟨f,d,c⟩:=(R.ok.CL k).1 ⟨st,by grind⟩;grind
theorem FB.flat(R:FB B)(a:Int):Fx (bJ B.ms a).t/\(bJ B.ms a).t<=B.now:=by have h0:=R.ok.now;unfold bJ;cases h:aK a B.ms.m with
  | none=>exact⟨by show Fx 0;decide,by show (0:Int)<=_;exact h0.1⟩
  | some x=>have:=eD h;exact⟨(R.ok.ms.rows _ this).2,R.fl _ this⟩
theorem NZ{s s0:aL}(R:FB s)(h0:s0.cfg=s.cfg)(A:s0.now=s.now)(u:s0.rows=List.replicate 64 En.z)(w:s0.sts=List.replicate 64 none)(r:List Int):∀k,k<=64->
  fz s0 (aW 0 (s.rows.take k)).length ⟨0,(aW 0 s.rows).flatMap (eL s)++r⟩=.ok (⟨mg s.rows k,Xo s.sts k,ko s k⟩,⟨0,(aW k (s.rows.drop k)).flatMap (eL s)++r⟩)
 | 0,_=>by
  show Except.ok _=_;rw[u,w];rfl
 | k+1,hk=>by
  have i:=R.ok.rows.len;have f:=R.ok.len;have b:k<s.rows.length:=ez
  have c:=NZ R h0 A u w r k ez;rw[Dt b];rw[NW b]at c
  by_cases he:0<s.rows[k].epoch
  .rw [c_ he]at c ⊢;rw[qa,q29];let⟨st,n,y⟩:=R.str ez he;have d:=R.ok.sts st (KI n);have h:=R.rows (k:Int) (by grind [yY]);rw[yY b]at h;have m:=R.ok.rows.at (k:Int);rw[yY b]at m;have j:=R.flat (k:Int);have v:(aW 0 (s.rows.take k)).length<(aW 0 s.rows).length:=by
    have:=WP (s:=s) k;rw[NW b,c_ he,qa,q29]at this;omega
   have x:=R.count;have t:gT s.cfg.agents (mg s.rows k) (k:Int) s.rows[k]=((mg s.rows k).set ((k:Int)).toNat s.rows[k],0):=by
    unfold gT;rw[b_ (by grind),abx i ez,b_ (by simp[En.z]),b_];unfold full mg
    grind [yX,NV]
   let⟨rest,e1,e2⟩:=adn (s0:={ s0 with rows:=mg s.rows k,sts:=Xo s.sts k }) (a:=(k:Int)) (e:=s.rows[k]) (fl:=bJ s.ms (k:Int)) (st:=st) (by rw[h0];exact d) ⟨by unfold aG;omega,by unfold aG;omega,by unfold aG;omega⟩ (by grind) (by grind) (by have:=j.1;unfold aG;omega) ((aW (k+1) (s.rows.drop (k+1))).flatMap (eL s)++r);have e3:([((k:Int),s.rows[k])]++aW (k+1) (s.rows.drop (k+1))).flatMap (eL s)++r=aP [(k:Int)]++rest:=by
    grind [eL]
   rw[e3]at c;unfold fz;rw[c];dsimp only;rw[l9 (by unfold aG;omega)];dsimp only;rw[e2];dsimp only;rw[Fu,Dn (acH k)];have c1:(mg s.rows k).set k s.rows[k]=mg s.rows (k+1):=NX i ez;have c2:(Xo s.sts k).set k (some st)=Xo s.sts (k+1):=by
    have:=NX (z:=none) f (show k<64 by omega);have e4:s.sts[k]'ez=some st:=by
     grind
    rw[e4]at this;exact this
   have c3:((k:Int),bJ s.ms (k:Int))::ko s k=ko s (k+1):=by
    unfold ko;rw[Dt b,c_ he,F4,List.reverse_append];rfl
   grind
  .rw [b_ he]at c ⊢;rw[Hz];rw[Hc]at c;rw[c];have c1:mg s.rows (k+1)=mg s.rows k:=NY i ez (R.ok.rows.zero _ (s_ b) he);have c2:Xo s.sts (k+1)=Xo s.sts k:=NY f ez (R.agr ez he);have c3:ko s (k+1)=ko s k:=by
    unfold ko;rw[Dt b,b_ he,Hz]
   grind
theorem FB.nSt(R:FB B):aap B=(aW 0 B.rows).length:=by
 have hm:B.sts.map Option.isSome=B.rows.map λe=>decide (0<e.epoch):=by
  apply XO
  .simp [R.ok.len,R.ok.rows.len]
  .intro k a d;have b:k<64:=by rw[FW,R.ok.len]at a;exact a
   simp only[q2h]
   by_cases he:0<(B.rows[k]'(by grind)).epoch
   .obtain⟨st,c,_⟩:=R.str b he
    grind
   .rw [R.agr b he];simp[he]
 unfold aap;rw[we,<-List.countP_eq_length_filter];have a:B.sts.countP Option.isSome=(B.sts.map Option.isSome).countP id:=by simp
 simp_all
def kr(s:aL):aL:={ s with ms:={ s.ms with m:=ko s 64 },cm:=(bB s.cm).reverse }
theorem Oa(m:CM):aJ (bB m)=gO (aJ m):=by unfold bB aJ;rw[XP];have:((λx:Ky×Cl=>x.1)∘λk=>(k,fZ m k))=id:=rfl;simp_all
theorem yZ(h:o∈bB m):o∈m:=by
 unfold bB at h;obtain⟨k,a,rfl⟩:=zb.1 h;have a:=(mH _).mem_iff.1 a;unfold fZ
 cases e:aK k m with
 | none=>grind [dX]
 | some c=>exact eD e
theorem abL(h:(aJ m).Nodup):(aJ (bB m)).Nodup:=by grind [Oa,mH]
theorem WQ(R:FB B)(i:B.kept.length<=1000000000):me B.cfg (Fs B)=.ok (kr B):=by
 have d:=R.ok.now;have b:=R.ok.boots;have c:=R.sunk;have a:=R.ok.sunk;have f:=R.ab4;have x:=R.val;have t:=R.ok.cfg.h_;have m:=R.ok.sh.len;have w:=R.ok.sh.m2;have y:=R.count;have u:=R.ok.cfg.ag;have j:(bB B.cm).length=B.cm.length:=vm B.cm;have h:∀o∈bB B.cm,kj o:=λo A=>R.cm o (yZ A);have e:Fs B=aP [B.now]++(aP [B.boots]++(aP [B.sunk]++(aP [B.ms.now]++(dg [B.ms.value]++(aP [(((aW 0 B.rows).length:Nat):Int)]++((aW 0 B.rows).flatMap (eL B)++(aP [((B.cm.length:Nat):Int)]++((bB B.cm).flatMap DU++(aP [((B.kept.length:Nat):Int)]++(B.kept.flatMap DU++[])))))))))):=by unfold Fs lZ jM kZ;rw[R.nSt,vU B.now,vU B.boots,vU B.sunk];grind
 unfold me;rw[e,vW d (by unfold aG;omega)];dsimp only;rw[vW b (by unfold aG;omega)];dsimp only;rw[vW ⟨a,c⟩ (by unfold aG;omega)];dsimp only;rw[vW f (by unfold aG;omega)];dsimp only;rw[vV (by unfold aG;omega)];dsimp only;rw[ud ez ez];dsimp only;have k:=NZ (s0:={ cz B.cfg with now:=B.now,boots:=B.boots,sunk:=B.sunk }) R rfl rfl rfl rfl (aP [((B.cm.length:Nat):Int)]++((bB B.cm).flatMap DU++(aP [((B.kept.length:Nat):Int)]++(B.kept.flatMap DU++[])))) 64 (w_ _);rw[FL (by rw[R.ok.rows.len];omega),List.drop_of_length_le (by rw[R.ok.rows.len];omega)]at k;rw[Fu,k];dsimp only;rw[b_ (λD=>D x)];have e2:(aW 64 ([]:List En)).flatMap (eL B)++(aP [((B.cm.length:Nat):Int)]++((bB B.cm).flatMap DU++(aP [((B.kept.length:Nat):Int)]++(B.kept.flatMap DU++[]))))=aP [((B.cm.length:Nat):Int)]++((bB B.cm).flatMap DU++(aP [((B.kept.length:Nat):Int)]++(B.kept.flatMap DU++[]))):=rfl;rw[e2,ud ez ez];dsimp only;have v:=NI (most:=B.cfg.cells) (abL R.ok.sh.nd) h (by grind) (aP [((B.kept.length:Nat):Int)]++(B.kept.flatMap DU++[])) (bB B.cm).length (w_ _);rw[FE,V_]at v;rw[Fu,<-j,v];dsimp only;have e3:([]:List Ot).flatMap DU++(aP [((B.kept.length:Nat):Int)]++(B.kept.flatMap DU++[]))=aP [((B.kept.length:Nat):Int)]++(B.kept.flatMap DU++[]):=rfl;rw[e3,uc ez ez];dsimp only;have n:=NH R.kept [] B.kept.length (w_ _);rw[FE,V_]at n;rw[Fu,n];dsimp only;rw[show (dG ⟨0,([]:List Ot).flatMap DU++[]⟩).e=0 from rfl,b_ eh];have s:mg B.rows 64=B.rows:=by unfold mg;rw[FL (by rw[R.ok.rows.len];omega)];simp
 have C:Xo B.sts 64=B.sts:=by unfold Xo;rw[FL (by rw[R.ok.len];omega)];simp
 rw[s,C,<-R.ok.h_];rfl
theorem WR{e ls:List Ky}(h:e.Perm ls):gO e=gO ls:=by refine List.Perm.eq_of_pairwise (le:=λx y=>iK x y=true) (λa b _ _ c d=>?_) (xQ e) (xQ ls) ((mH e).trans (h.trans (mH ls).symm));have w1:=Dr c;have w2:=Dr d;have i:a.win=b.win:=ez;unfold iK at c d;simp only[SO,E5,Bool.and_eq_false_iff,C5]at c d;have s1:=c.2.resolve_left (λf=>f i.symm);have s2:=d.2.resolve_left (λf=>f i);rw[Go.Proofs.bytesLess_eq,C5]at s1 s2;have:a.g_.toList=b.g_.toList:=List.le_antisymm s1 s2;let⟨aw,sa⟩:=a;let⟨bw,sb⟩:=b;grind [ByteArray.toList_eq,uf]
theorem WS{m':CM}(a:(aJ m).Nodup)(h:m.Perm m'):bB m=bB m':=by unfold bB;rw[WR (h.map Prod.fst:(aJ m).Perm (aJ m'))];grind [fZ,qg]
theorem WT(a:(aJ m).Nodup):(bB m).Perm m:=by
 have d:(aJ (bB m)).Perm (aJ m):=by grind [Oa,mH]
 have b:bB m=(gO (aJ m)).map λk=>(k,fZ m k):=rfl;rw[b];refine ((mH (aJ m)).map _).trans ?_;have:(aJ m).map (λk=>(k,fZ m k))=m:=by
  unfold aJ;rw[XP];conv=>rhs;rw[<-List.map_id m]
  apply q2e;intro p c;show (p.1,fZ m p.1)=p;unfold fZ;rw[oG a c];rfl
 rw[this]
theorem WU(R:FB B)(a:Int):aK a (ko B 64)=if 0<(bI B.rows a).epoch then some (bJ B.ms a) else none:=by
 have c:=R.ok.rows.len;have b:((aW 0 B.rows).map λp=>(p.1,bJ B.ms p.1)).Perm (ko B 64):=by grind [ko]
 have d:aJ ((aW 0 B.rows).map λp=>(p.1,bJ B.ms p.1))=aJ (aW 0 B.rows):=by simp_all
 rw[<-qg (by grind [yw]) b];have:=yz (f:=λ(k:Int) (_:En)=>bJ B.ms k) (k:=a) (m:=aW 0 B.rows);grind [Cn]
theorem afh(s:aL)(k:Nat):(aJ (ko s k)).Nodup:=by
 unfold ko;have:aJ (((aW 0 (s.rows.take k)).map λp=>(p.1,bJ s.ms p.1)).reverse)=(aJ (aW 0 (s.rows.take k))).reverse:=by simp_all
 rw[this];exact List.pairwise_reverse.2 (yw.imp λh=>h.symm)
theorem WV{α:Type}{m:List (C×α)}(h:(aJ m).Nodup):m.Nodup:=List.Pairwise.of_map Prod.fst (λa b c e=>c (by rw[e])) h
theorem WW{α:Type}[DecidableEq C][DecidableEq α]{m m':List (C×α)}(h:(aJ m).Nodup)(a:(aJ m').Nodup)(b:∀k,aK k m=aK k m'):m.Perm m':=by grind [List.perm_ext_iff_of_nodup,WV,oG,eD]
theorem wg(R:FB B):B.ms.m.Perm (kr B).ms.m/\B.cm.Perm (kr B).cm:=by
 refine⟨WW R.ok.ms.nd (afh B 64) λa=>?_,?_⟩;.show aK a B.ms.m=aK a (ko B 64);rw[WU R];have b:=R.keys a;unfold bJ;cases h:aK a B.ms.m with
   | none=>grind
   | some x=>grind
 exact ((WT R.ok.sh.nd).symm.trans (List.reverse_perm _).symm)
theorem WX(R:FB B)(a:Int):bJ (kr B).ms a=bJ B.ms a:=by have:=qg (x:=a) R.ok.ms.nd (wg R).1;grind
theorem aeW(R:FB B):bB (kr B).cm=bB B.cm:=(WS R.ok.sh.nd (wg R).2).symm
theorem WY(R:FB B):Fs (kr B)=Fs B:=by
 have c:∀p,eL (kr B) p=eL B p:=by intro p;unfold eL;have:iO (kr B) p.1=iO B p.1:=rfl;grind [WX]
 have a:(kr B).cm.length=B.cm.length:=(wg R).2.length_eq.symm;unfold Fs lZ jM kZ;rw[aeW R,a];have b:(aW 0 (kr B).rows).flatMap (eL (kr B))=(aW 0 B.rows).flatMap (eL B):=by show (aW 0 B.rows).flatMap _=_;congr 1;grind
 rw[b];rfl
end Go.Proofs.YtlmphkpeajnhjaaGreatDoor
