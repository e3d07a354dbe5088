/-
  Lemmas for TaleBack: part 7 of what it rests on. Conditions: none.
-/
import Derived.Test.YtnjaappmhadfdaaGreatDoorTF6
set_option linter.unusedVariables false
set_option linter.unusedSimpArgs false
set_option maxRecDepth 100000
set_option maxHeartbeats 16000000
open Go.IntKind (i64 u64 i8 u8 i32 u32 i16 u16)
namespace Go.Proofs.YtnjaappmhadfdaaGreatDoor
open Go
abbrev nmF(f:Fq)(is:List Nat):List Int:=is.flatMap λi=>bC [f.nums i]
def nB(f:Fq):List Int:=if f.kind=5 then bC [(f.evs.length:Int)]++f.evs.flatMap evB else if f.kind=8 then ju f.sn f.sl++dM (cw f.data) else []
def kz(f:Fq):List Int:=(bC [f.kind]++nmF f (aU f.kind))++nB f
def dO(f:Fq):List Int:=if iA f=false then [] else if 65536<(eU (kz f)).length then [] else eU (kz f)
def jU(f:Fq):Int:=if iA f=false then 10 else if 65536<(eU (kz f)).length then 17 else 0
theorem usB_one(v:Int):bC [v]=cA (u64N v):=by simp[bC]
theorem Kz{f:Fq}(h:iA f=true):ip f=true:=by
 unfold iA at h
 grind
theorem K0{f:Fq}(h:iA f=true)(a:f.kind=5):f.evs.length<=64:=by
 have h:=Kz h;unfold ip at h;rw[nO,V1 a]at h;unfold kv at h
 grind
theorem Tj{f:Fq}(h:iA f=true)(a:f.kind=8):f.data.length<=4096:=by
 have h:=Kz h;unfold ip at h
 grind
theorem nmF_len(f:Fq)(is:List Nat):(nmF f is).length<=10*is.length:=by
 induction is with
 | nil=>simp
 | cons i l ih=>
  have:=dD [f.nums i]
  grind
section
variable {F L:List aD}{H:aC}{K:KQ}{f:Fq}{x:QA}{evs:List Ev}
theorem Tk{b o c:Nat}{y:Fy}(h:aA H F)(j:aN H (some ⟨b,o,none⟩) [cF y])(m:aN H y.a (y.bs.map U8))(n:y.bs.length<=100000000)
  (k:∀d e H',aA H' (slA 5 1 d y.bs.length e (y.bs.map U8)::F)->K (.slice d y.bs.length e) H') :
  CF 414 #[.slice (some ⟨b,o,none⟩) 1 c,.slice none 0 0] H K:=by
 refine cN 414 0x1dd12172174949215612399251217494411215612399251144c [[(9,sI),(72,sI)],[],[(5,sI),(44,sI)],[],[(5,sI)]] ⟨λf=>V0 f (by decide),λ_=>⟨λ_=>?_,λf=>V0 f (by decide)⟩⟩
 refine⟨by decide,_,_,rfl,_,_,_,(j 0 _ rfl).2,?_⟩;have h:=h.sl_nil 5 1;refine dd (x:=[]) (y:=y.bs) h (i:=0) rfl rfl rfl m (by grind) λd e H' h=>⟨_,_,_,rfl,?_⟩
 rw[VZ]at h;have:=k d e H' h;exact this
theorem Tl{b c:Nat}{y:Fy}(h:aA H F)(i:Nat)(s:aS i F=cellsA b [cF y] 38)(t:∀H,aA H F->aN H y.a (y.bs.map U8))(hb:aP y.bs)(w:y.bs.length<=100000000)
  (k:∀d f H',aA H' (slA 5 1 d (eU y.bs).length f ((eU y.bs).map U8)::F)->K (.slice d (eU y.bs).length f) H') :
  CF 346 #[.slice (some ⟨b,0,none⟩) 1 c] H K:=by
 have n:=A7 (c:=c) (parts:=[y]) (h.ce_rd i s) (λz e=>by rw[VH]at e;subst e;exact t _ h) (by simp) (λz e=>by grind)
 rw[show ([y]:List Fy).flatMap Fy.bs=y.bs by simp]at n;refine cM 346 4380 ⟨_,n,?_⟩;obtain⟨s0,s1⟩:=A0 y.bs;have j:=Kb s0 s1;refine Tk h (h.ce_rd i s) (t _ h) w λd f x h=>⟨_,_,_,rfl,by decide,by decide,by decide,?_⟩
 refine h.al λb1 A h=>?_
 refine aA.append (m:=4) (ws:=(le4 (ky y.bs)).map U8) rV h 1 rfl (h.ce_rd 0 (by rw[<-j];rfl)) (by simp[le4]) (mW (λ_=>rfl) _) (by omega) (by omega) λa3 c3 v u=>⟨_,_,_,rfl,?_⟩
 have:=k a3 c3 v;unfold eU at this;rw[V6,show (le4 (ky y.bs)).length=4 from rfl]at this;refine this ?_;rw[VS];exact u.tl
theorem xc{b:Nat}{v:Int}(h:aA H F)(i:Nat)(d:aS i F=cellsA b [.int .u64 (u64.wrap v)] 153)
  (k:∀a c H',aA H' (slA 5 1 a (bC [v]).length c ((bC [v]).map U8)::F)->K (.slice a (bC [v]).length c) H'):CF 343 #[.slice (some ⟨b,0,none⟩) 1 1] H K:=by
 rw[usB_one]at k;refine yZ h (λH h=>?_) (wB v) k
 rw[<-I0];exact h.ce_rd i d
theorem AF(h:aA H F)(r:ja F f x evs)
  (k:∀u c H',aA H' (slA 5 1 u (dO f).length c ((dO f).map U8)::F)->K (.tuple #[.slice u (dO f).length c,I64ZZ (jU f)]) H') :
  CF 246 #[.agg ⟨cD f x⟩] H K:=by
 refine cN 246 0x1d121561239925144215171156123992511144171491dc [[(4,sS)],[(4,sS),(49,sI)],[(4,sS)],[(4,sS),(20,sI)]] ?_;have S:=r.len;refine h.al λb _ h=>⟨_,_,_,_,_,_,_,_,_,_,_,_,_,_,_,_,_,_,_,_,h.q 0,?_⟩
 refine Jv h (r.cons _) λH1 h=>⟨_,rfl,λU=>?_,λU=>?_⟩
 .have e:dO f=[]:=by unfold dO;grind
  have e2:jU f=10:=by unfold jU;grind
  rw[e,e2]at k;exact k none 0 _ (h.tl.sl_nil 5 1)
 have N:iA f=true:=by grind
 have l0:=dD [f.kind];have lo:=Ao f.kind;simp only[VA,VV]at l0;refine⟨_,h.r 0,?_⟩;refine h.al λb1 _ h=>?_
 refine xc h 0 rfl λa1 c1 H2 h=>⟨_,_,_,rfl,?_⟩
 refine wW h 2 rfl rfl λp pc H3 _ h=>⟨_,_,_,rfl,?_⟩
 refine⟨λu M c i H'=>∃j:Nat,i=j/\j<=(aU f.kind).length/\M=(bC [f.kind]++nmF f ((aU f.kind).take j)).length/\
  aA H' (slA 5 1 u (bC [f.kind]++nmF f ((aU f.kind).take j)).length c ((bC [f.kind]++nmF f ((aU f.kind).take j)).map U8)::slA 90 1 p (aU f.kind).length pc ((aU f.kind).map λi=>PA b i)::cellsA b (cD f x) 150::F),
  λ_ _ _ i _=>(aU f.kind).length-i.toNat,⟨0,rfl,by omega,by simp,?_⟩,?_⟩
 .rw [show bC [f.kind]++nmF f ((aU f.kind).take 0)=bC [f.kind] by simp[nmF]];exact h.o [1,0,3] 4
 rintro a2 n2 c2 i H4 ⟨j,rfl,hj,rfl,h⟩;have m:=nmF_len f ((aU f.kind).take j);have D:((aU f.kind).take j).length<=(aU f.kind).length:=by grind
 refine⟨λa=>?_,λa=>?_⟩
 .have a:j<(aU f.kind).length:=by grind
  have C:=(h.sl_rd 1 rfl).at a;have hi:=An _ (V7 a)
  conv=>whnf
  refine⟨by omega,_,_,C.1,_,C.2,⟨f.nums (aU f.kind)[j],(h.r 2).trans (Ju hi.1 hi.2),?_⟩⟩;refine h.al λb3 _ h=>?_
  refine xc h 0 rfl λa3 c3 R h=>⟨_,_,_,rfl,?_⟩
  have l1:=dD [f.nums (aU f.kind)[j]];simp only[VA,VV]at l1;refine dd h (i:=2) rfl rfl rfl (h.sl_rd 0 rfl) (by grind) λa4 c4 J h=>⟨_,_,_,rfl,?_⟩
  have I:i64.wrap ((j:Int)+1)=((j+1:Nat):Int):=by grind [aJ]
  have e:bC [f.kind]++nmF f ((aU f.kind).take (j+1))=(bC [f.kind]++nmF f ((aU f.kind).take j))++bC [f.nums (aU f.kind)[j]]:=by
   unfold nmF
   grind [jr]
  rw[<-e]at h;refine⟨⟨j+1,I,a,by rw[e],h.o [2,3,4] 5⟩,by grind⟩
 have d:(aU f.kind).length<=j:=by grind
 rw[VM d]at h m ⊢;have h:=h.o [0,2] 3;refine⟨_,h.r 1,?_⟩;intro Jn hJ;have e0:dO f=if 65536<(eU (kz f)).length then [] else eU (kz f):=by unfold dO;grind
 have e1:jU f=if 65536<(eU (kz f)).length then 17 else 0:=by unfold jU;grind
 have fin:∀(t:List Int) a3 c H',nB f=t->t.length<=100000->aP t->aA H' (slA 5 1 a3 ((bC [f.kind]++nmF f (aU f.kind))++t).length c (((bC [f.kind]++nmF f (aU f.kind))++t).map U8)::cellsA b (cD f x) 150::F)->
   Jn a3 ((bC [f.kind]++nmF f (aU f.kind))++t).length c H':=by
  intro t a3 c H' ht h1 G h;have P:kz f=(bC [f.kind]++nmF f (aU f.kind))++t:=by grind [kz]
  rw[<-P]at h ⊢;have lb:(kz f).length<=100100:=by grind
  have L:aP (kz f):=by
   rw[P];exact dY (dY (gK _) (kr λi _=>gK _)) G
  refine hJ _ _ _ _ ?_;refine h.al λb4 _ h=>?_
  refine Tl (y:=⟨a3,c,kz f⟩) h 0 rfl (λH h=>h.sl_rd 1 rfl) L (by grind) λa5 c5 J h=>⟨_,_,_,rfl,λn=>?_,λn=>?_⟩
  .have n:=V3 n;dsimp only at n;rw[e0,e1,pO,pO]at k;exact k none 0 _ (h.tl.tl.tl.tl.sl_nil 5 1)
  .have n:=V2 n;dsimp only at n;rw[e0,e1,nO,nO]at k;exact k _ _ _ (h.o [0] 4)
 refine⟨λv=>?_,λv=>?_⟩
 .have v:=V3 v;have j3:=K0 N v;have w:nB f=bC [(f.evs.length:Int)]++f.evs.flatMap evB:=by unfold nB;grind
  refine⟨_,_,_,h.r 1,?_⟩;refine h.al λb5 _ h=>?_
  refine xc h 0 rfl λa4 c4 R h=>⟨_,_,_,rfl,?_⟩
  have l1:=dD [(f.evs.length:Int)];simp only[VA,VV]at l1;refine dd h (i:=2) rfl rfl rfl (h.sl_rd 0 rfl) (by grind) λa5 c5 J h=>⟨_,_,_,rfl,?_⟩
  have h:=h.o [2,3] 4;refine⟨_,_,_,h.r 1,?_⟩;obtain⟨O,hO⟩:∃O,(bC [f.kind]++nmF f (aU f.kind))++bC [(f.evs.length:Int)]=O:=⟨_,rfl⟩;have lO:O.length<=80:=by grind
  rw[hO]at h ⊢;refine⟨λu M c i H'=>∃j:Nat,i=j/\j<=evs.length/\M=(O++(f.evs.take j).flatMap evB).length/\
    aA H' (slA 5 1 u (O++(f.evs.take j).flatMap evB).length c ((O++(f.evs.take j).flatMap evB).map U8)::cellsA b (cD f x) 150::F),
    λ_ _ _ i _=>evs.length-i.toNat,⟨0,rfl,by omega,by simp,by rw[show O++(f.evs.take 0).flatMap evB=O by simp];exact h⟩,?_⟩
  rintro a6 n6 c6 i V ⟨j,rfl,hj,rfl,h⟩;have m:=zS (f.evs.take j);have D:(f.evs.take j).length<=f.evs.length:=by grind
  refine⟨λa=>?_,λa=>?_⟩
  .have a:j<evs.length:=by grind
   have C:=r.ev.rd _ h.tl.tl;refine⟨by omega,_,_,C.some dF (by omega) a,_,_,_,_,_,_,C.els dF a,?_⟩;refine h.al λb6 _ h=>?_
   refine h.st 0 rfl rfl ?_;intro H8 h;refine⟨_,h.r 0,?_⟩;refine h.al λb7 _ h=>?_
   refine xc h 0 rfl λa7 c7 H9 h=>⟨_,_,_,rfl,?_⟩
   have m1:=dD [evs[j].stamp];simp only[VA,VV]at m1;refine dd h (i:=3) rfl rfl rfl (h.sl_rd 0 rfl) (by grind) λa8 c8 h0 h=>⟨_,_,_,rfl,?_⟩
   have h:=h.o [2,3,4] 5;refine⟨_,h.r 0,?_⟩;refine h.al λb8 _ h=>?_
   refine qm h 0 rfl λa9 c9 h6 h=>⟨_,_,_,rfl,?_⟩
   have m2:=lY [evs[j].value];simp only[VA,VV]at m2;refine dd h (i:=3) rfl rfl rfl (h.sl_rd 0 rfl) (by grind) λh4 h2 h3 h=>⟨_,_,_,rfl,?_⟩
   have h:=h.o [2,3,4] 5;refine⟨_,_,_,_,h.q 0,?_⟩;refine zH h (λH h=>r.ev.labs _ (V7 a) H h.tl.tl.tl) λh7 h9 Z h=>⟨_,_,_,rfl,?_⟩
   have m3:=wu evs[j].name evs[j].labs;refine dd h (i:=2) rfl rfl rfl (h.sl_rd 0 rfl) (by grind) λj2 j1 T h=>⟨_,_,_,rfl,?_⟩
   have I:i64.wrap ((j:Int)+1)=((j+1:Nat):Int):=by grind [aJ]
   have E:j<f.evs.length:=by omega
   have W:f.evs[j]=evs[j].p:=by simp[r.eq]
   have e:O++(f.evs.take (j+1)).flatMap evB=(((O++(f.evs.take j).flatMap evB)++bC [evs[j].stamp])++dG [evs[j].value])++ju evs[j].name evs[j].labs:=by
    rw[jr E,W];unfold evB;simp only[VX];rfl
   rw[<-e]at h;exact⟨⟨j+1,I,a,by rw[e],h.o [2,3] 4⟩,by grind⟩
  .have d:f.evs.length<=j:=by grind
   rw[VM d]at h m ⊢;have Q:O++f.evs.flatMap evB=(bC [f.kind]++nmF f (aU f.kind))++nB f:=by grind
   rw[Q]at h;have:=fin _ _ _ _ rfl (by grind) (by rw[w];exact dY (gK _) (kr λe _=>wA e)) h
   rw[<-Q]at this;exact this
 have v:=V2 v;intro Y B;refine⟨λA=>?_,λA=>?_⟩
 .have A:=V3 A;have hd:=Tj N A;have w:nB f=ju f.sn f.sl++dM (cw f.data):=by unfold nB;grind
  refine⟨_,_,_,_,h.q 1,?_⟩;refine zH h (λH h=>r.lab H h.tl.tl) λa3 c3 R h=>⟨_,_,_,rfl,?_⟩
  have m3:=wu f.sn f.sl;refine dd h (i:=1) rfl rfl rfl (h.sl_rd 0 rfl) (by grind) λa4 c4 J h=>⟨_,_,_,rfl,?_⟩
  have h:=h.o [1,2] 3;refine⟨_,_,_,h.r 1,_,pY r.dA (r.dat _ h.tl.tl),?_⟩;refine h.al λb5 _ h=>?_
  have hz:(cw f.data).size=f.data.length:=tS _;refine wv h (λH h=>h.ce_rd 0 rfl) (by omega) λa5 c5 V h=>⟨_,_,_,rfl,?_⟩
  have m4:=nk (s:=cw f.data) (by omega);refine dd h (i:=2) rfl rfl rfl (h.sl_rd 0 rfl) (by grind) λa6 c6 H8 h=>⟨_,_,_,rfl,?_⟩
  refine B _ _ _ _ ?_;have h:=h.o [2,3] 4;rw[VX,<-w]at h ⊢;exact fin _ _ _ _ rfl (by grind) (by rw[w];exact dY (zB _ _) (rK _)) h
 .have A:=V2 A;refine B _ _ _ _ ?_;have w:nB f=[]:=by unfold nB;grind
  have:=fin [] a2 c2 H4 w (by simp) nX;rw[VQ]at this;exact this h
end
abbrev pnF(e:Int):Value:=.iface 352 (.agg #[I64ZZ e])
def rY:Rd Int:=λs=>match numR s with
 | .error e=>.error e
 | .ok (u,s')=>if u<1\/8<u then .error 16 else .ok (u,s')
def serQ:Rd (Eq×List bg):=λs=>okR ⟨(dg s).e,(dg s).rest.bs⟩ ((dg s).name,(dg s).labs)
def evQ:Rd Pv:=λs=>okR ⟨(dg (dZ (bN s).2).2).e,(dg (dZ (bN s).2).2).rest.bs⟩
 ⟨i64.wrap ((bN s).1:Int),(dZ (bN s).2).1,(dg (dZ (bN s).2).2).name,(dg (dZ (bN s).2).2).labs⟩
def jV:Nat->Rd (List Pv)
 | 0,s=>.ok ([],s)
 | n+1,s=>match jV n s with
  | .error e=>.error e
  | .ok (vs,s1)=>match evQ s1 with
   | .error e=>.error e
   | .ok (v,s2)=>.ok (vs++[v],s2)
theorem AG:∀{n:Nat} {s:RS} {vs:List Pv} {s':RS},jV n s=.ok (vs,s')->vs.length=n
 | 0,s,vs,s',h=>by cases h;rfl
 | n+1,s,vs,s',h=>by
  unfold jV at h
  split at h
  .cases h
  .rename_i ws s1 a
   split at h
   .cases h
   .cases h
    rw[V6,AG a];rfl
theorem K3{s:RS}{e:Int}:∀{n j:Nat},jV j s=.error e->j<=n->jV n s=.error e
 | 0,j,h,hj=>by
  grind
 | n+1,j,h,hj=>by
  rcases W0 n j with a|a
  .grind
  .unfold jV;rw[K3 h a]
def evsQ:Rd (List Pv):=λs=>match zR 64 s with
 | .error e=>.error e
 | .ok (n,s1)=>jV n.toNat s1
section
variable {F L:List aD}{H:aC}{K KP:KQ}{Q:aD}
theorem rZ{e:Int}(k:e=0->K (.tuple #[]) H)(kp:e≠0->KP (pnF e) H):CP 186 #[I64ZZ e] H K KP:=
 cNP 186 5961 [[]] λc a=>⟨λb=>kp (by grind),λb=>a _ (k (by grind))⟩
def FPost{α:Type}(rb:Nat)(F:List aD)(enc:α->Value)(K KP:KQ):Except Int (α×RS)->Prop
 | .ok (x,s)=>∀H',s.e=0->aP s.bs->s.bs.length<=1099511627776->aA H' (crdA rb s::F)->K (enc x) H'
 | .error e=>∀H',e≠0->aA H' F->KP (pnF e) H'
theorem Tm{rb:Nat}{s:RS}(h:aA H (crdA rb s::F))(hb:aP s.bs)(f:s.bs.length<=1099511627776)(k:FPost rb F I64ZZ K KP (rY s)) :
  CP 184 #[PA rb 0] H K KP:=by
 refine cNP 184 4582372508 [[]] ?_;refine nY h hb f λj h=>⟨_,rfl,_,pX h,?_⟩
 have b:=lf hb;have d:=nl s;have i:=zu hb;unfold rY numR okR at k;refine rZ (λe=>⟨rfl,?_⟩) λe=>?_
 .rw [Vz (by grind)]at k;dsimp only at k;intro m c;refine⟨λa=>?_,λa=>c _ ?_⟩
  .simp only[VY,V5]at a;rw[V1 a]at k;exact k _ (by decide) h.tl
  .simp only[VN,VG]at a;rw[nO]at k;have:=k _ e b (by omega) h;rw[<-aJ (x:=(((bN s).1:Nat):Int)) (by omega) (by omega)]at this;exact this
 .rw [V1 e]at k;exact k _ e h.tl
def SPost(rb:Nat)(F:List aD)(K KP:KQ):Except Int ((Eq×List bg)×RS)->Prop
 | .ok (x,s)=>∀a c H',s.e=0->aP s.bs->s.bs.length<=1099511627776->aA H' (crdA rb s::slA 48 2 a x.2.length c (aF aZ x.2)::F)->K (.agg #[.string x.1,.slice a x.2.length c]) H'
 | .error e=>∀H',e≠0->aA H' F->KP (pnF e) H'
theorem K4{rb:Nat}{s:RS}(h:aA H (crdA rb s::F))(hb:aP s.bs)(i:s.bs.length<=1099511627776)(k:SPost rb F K KP (serQ s)) :
  CP 189 #[PA rb 0] H K KP:=by
 refine cMP 189 4380 ?_;refine h.al λb _ h=>?_
 have h:=h.o [1,0] 2;refine QI h hb i λa c H2 h=>⟨_,_,_,_,_,rfl,?_⟩
 have d:=QG hb;have j:=QH s;refine h.al λb2 _ h=>?_
 refine h.st 0 rfl rfl ?_;intro n h;unfold serQ okR at k;refine rZ (λe=>?_) λe=>?_
 .rw [Vz (by grind),wD e]at k;refine⟨rfl,_,_,_,_,h.q 0,?_⟩;refine h.st 3 rfl rfl ?_;intro m h;refine⟨_,_,_,_,h.q 3,?_⟩;have f:(dg s).rest.e=0:=by grind [wD]
  exact k _ _ _ f d (by omega) (h.o [1,2] 4)
 .rw [V1 e]at k;exact k _ e (h.o [] 4)
def EsPost(rb:Nat)(Q:aD)(F:List aD)(K KP:KQ):Except Int (List Pv×RS)->Prop
 | .ok (x,s)=>∀Q' (evs:List Ev) a c H',aH Q Q'->x=evs.map Ev.p->(∀e∈evs,gJ Q' e)->s.e=0->aP s.bs->s.bs.length<=1099511627776->
   aA H' (Q'::crdA rb s::slA 258 4 a evs.length c (aF bT evs)::F)->K (.slice a evs.length c) H'
 | .error e=>∀Q' H',e≠0->aH Q Q'->aA H' (Q'::F)->KP (pnF e) H'
theorem Tn{rb:Nat}{s:RS}(h:aA H (Q::crdA rb s::F))(hb:aP s.bs)(W:s.bs.length<=1099511627776)(k:EsPost rb Q F K KP (evsQ s)) :
  CP 188 #[PA rb 0] H K KP:=by
 refine cNP 188 0x111121561239925111144c [[(3,sS),(12,sI)]] ?_;have h:=h.o [1,0] 2;refine vL h hb W (by unfold aG;decide) λH1 h=>⟨_,rfl,_,pX h,?_⟩
 have y:=wk (m:=64) hb;have O:=wm s 64;unfold evsQ zR okR at k;refine rZ (λe=>⟨rfl,?_⟩) λe=>?_
 case refine_2=>
  rw[V1 e]at k;exact k Q _ e (aH.refl Q) h.tl
 rw[Vz (by grind)]at k;dsimp only at k;have A:=I5 s;obtain⟨n,S⟩:∃n,(bY 64 s).1=n:=⟨_,rfl⟩;obtain⟨s3,E⟩:∃s3,(bY 64 s).2=s3:=⟨_,rfl⟩;rw[S,E]at k;rw[S]at A;rw[E]at h e y O;rw[S];refine⟨λla V lc i H'=>∃(j:Nat) (evs:List Ev) (Q':aD) (s4:RS),i=j/\(j:Int)<=n/\V=evs.length/\jV j s3=.ok (evs.map Ev.p,s4)/\aH Q Q'/\(∀e∈evs,gJ Q' e)/\s4.e=0/\aP s4.bs/\s4.bs.length<=1099511627776/\
   aA H' (Q'::crdA rb s4::slA 258 4 la evs.length lc (aF bT evs)::F),
   λ_ _ _ i _=>n.toNat-i.toNat,⟨0,[],Q,s3,rfl,by omega,rfl,rfl,aH.refl Q,λe f=>V0 f (by simp),e,y,by omega,(h.sl_nil 258 4).o [2,1,0] 3⟩,?_⟩
 rintro la V lc i H2 ⟨j,evs,Q',s4,rfl,hj,rfl,G,t,B,P,x,D,h⟩;have L:=AG G;rw[VP]at L;refine⟨λu=>?_,λu=>?_⟩
 .have u:=V3 u;refine h.al λb _ h=>?_
  have h:=h.o [2,0,1,3] 4;refine nY h x D λH3 h=>⟨_,rfl,?_⟩
  have C:=lf x;have Y:=nl s4;refine h.st 1 rfl rfl ?_;intro H4 h;refine zv h C (by omega) λH5 h=>⟨_,rfl,?_⟩
  have M:aP (dZ (bN s4).2).2.bs:=lf C;have Z:(dZ (bN s4).2).2.bs.length<=(bN s4).2.bs.length:=nl _;refine h.st 1 rfl rfl ?_;intro H6 h;refine K4 h M (by omega) ?_;have d:jV (j+1) s3=match evQ s4 with|.error e=>.error e|.ok (v,s2)=>.ok (evs.map Ev.p++[v],s2):=by
   grind [jV]
  unfold evQ at d;unfold serQ;unfold okR at d ⊢
  by_cases f:(dg (dZ (bN s4).2).2).e=0
  case neg=>
   rw[V1 f]at d ⊢;dsimp only at d;rw[K3 d (by omega)]at k;exact λH' f h=>k Q' _ f t (h.o [1] 3)
  rw[Vz (by grind)]at d ⊢;dsimp only at d;intro a c H7 U I J h;dsimp only at U I J h;refine⟨_,_,_,_,rfl,?_⟩;refine h.st 2 rfl rfl ?_;intro H8 h;refine⟨_,_,_,_,_,_,h.q 2,?_⟩;obtain⟨ev,w⟩:∃ev:Ev,ev=⟨i64.wrap ((bN s4).1:Int),(dZ (bN s4).2).1,(dg (dZ (bN s4).2).2).name,(dg (dZ (bN s4).2).2).labs,a,c⟩:=⟨_,rfl⟩;refine h.al λb4 T h=>?_
  have h:aA T (cellsA b4 (bT ev) 258::crdA rb ⟨(dg (dZ (bN s4).2).2).e,(dg (dZ (bN s4).2).2).rest.bs⟩::slA 48 2 a ev.labs.length c (aF aZ ev.labs)::cellsA b (bT ev) 258::Q'::slA 258 4 la evs.length lc (aF bT evs)::F):=by rw[w];exact h
  refine h.append (m:=1) (ws:=bT ev) sl44 5 rfl (h.ce_rd 0 (by rw[w];rfl)) rfl (zi ev) (by omega) (by omega) λa5 c5 H9 h=>⟨_,_,_,rfl,?_⟩
  have hw:i64.wrap ((j:Int)+1)=((j+1:Nat):Int):=by grind [aJ]
  have R:(dg (dZ (bN s4).2).2).rest.e=0:=by grind [wD]
  rw[wD f]at d h;have ep:ev.p=⟨i64.wrap ((bN s4).1:Int),(dZ (bN s4).2).1,(dg (dZ (bN s4).2).2).name,(dg (dZ (bN s4).2).2).labs⟩:=by rw[w];rfl
  refine⟨⟨j+1,evs++[ev],slA 48 2 a ev.labs.length c (aF aZ ev.labs)*Q',_,hw,by omega,by simp,by grind,t.trans (aH.add _ Q'),λe f=>?_,R,I,J,?_⟩,by grind⟩
  .rcases VJ.1 f with f|f
   .exact (B e f).sub (aH.add _ Q')
   .rw [VH]at f;rw[f];have e1:ev.la=a:=by rw[w]
    unfold gJ;rw[e1];exact bB.sl (c:=c)
  .have e:aF bT (evs++[ev])=aF bT evs++bT ev:=by grind [aF]
   rw[e,V6];have h:=h.o [2,4,1,5] 6;exact eX.2 h
 .have h0:=V2 u;have N:j=n.toNat:=by omega
  subst N;rw[G]at k;exact k Q' evs _ _ _ t rfl B P x D h
end
def Fq.set(f:Fq)(i:Nat)(v:Int):Fq:=match i with
 | 1=>{ f with ag:=v }|2=>{ f with ep:=v }|3=>{ f with bt:=v }|4=>{ f with ct:=v }|5=>{ f with got:=v }
 | 6=>{ f with sent:=v }|7=>{ f with next:=v }|8=>{ f with stamp:=v }|9=>{ f with win:=v }|_=>f
theorem encQ_set{f:Fq}{x:QA}{i:Nat}{v:Int}(b:1<=i)(a:i<=9):cq (cD f x) i [aB v]=cD (f.set i v) x:=by
 rcases (by omega:i=1\/i=2\/i=3\/i=4\/i=5\/i=6\/i=7\/i=8\/i=9) with rfl|rfl|rfl|rfl|rfl|rfl|rfl|rfl|rfl <;> rfl
theorem To{f:Fq}{i j:Nat}{v:Int}(h:j≠i):(f.set i v).nums j=f.nums j:=by
 unfold Fq.set
 split <;> (unfold Fq.nums;grind)
theorem set_keep(f:Fq)(i:Nat)(v:Int):(f.set i v).kind=f.kind/\(f.set i v).evs=f.evs/\(f.set i v).sn=f.sn/\(f.set i v).sl=f.sl/\(f.set i v).data=f.data:=by
 unfold Fq.set
 grind
def iE:Fq->List Nat->List Int->Fq
 | f,i::is,v::vs=>iE (f.set i v) is vs
 | f,_,_=>f
theorem K5:∀{is:List Nat} {vs:List Int} {f:Fq} {i:Nat} {v:Int},is.length=vs.length->iE f (is++[i]) (vs++[v])=(iE f is vs).set i v
 | [],[],f,i,v,_=>rfl
 | a::is,b::vs,f,i,v,h=>by
  show iE (f.set a b) (is++[i]) (vs++[v])=_;exact K5 (by simpa using h)
 | [],_::_,_,_,_,h=>by simp at h
 | _::_,[],_,_,_,h=>by simp at h
theorem xd:∀(is:List Nat) (vs:List Int) (f:Fq),(iE f is vs).kind=f.kind/\(iE f is vs).evs=f.evs/\(iE f is vs).sn=f.sn/\(iE f is vs).sl=f.sl/\(iE f is vs).data=f.data
 | [],_,f=>⟨rfl,rfl,rfl,rfl,rfl⟩
 | _::_,[],f=>⟨rfl,rfl,rfl,rfl,rfl⟩
 | i::is,v::vs,f=>by
  obtain⟨a1,a2,a3,a4,a5⟩:=set_keep f i v;obtain⟨b1,b2,b3,b4,b5⟩:=xd is vs (f.set i v);exact⟨b1.trans a1,b2.trans a2,b3.trans a3,b4.trans a4,b5.trans a5⟩
theorem K6{j:Nat}:∀(is:List Nat) (vs:List Int) (f:Fq),j∉is->(iE f is vs).nums j=f.nums j
 | [],_,f,_=>rfl
 | _::_,[],f,_=>rfl
 | i::is,v::vs,f,h=>by
  show (iE (f.set i v) is vs).nums j=_;rw[K6 is vs _ λa=>h (VF _ a),To λa=>h (by rw[a];exact VI ..)]
def om(f:Fq):RS->Except Int (Fq×RS):=λs=>
 if f.kind=5 then match evsQ s with
  | .error e=>.error e
  | .ok (l,s')=>.ok ({ f with evs:=l },s')
 else if f.kind=8 then match serQ s with
  | .error e=>.error e
  | .ok (x,s1)=>okR (bH 4096 s1).2 { f with sn:=x.1,sl:=x.2,data:=(bH 4096 s1).1 }
 else .ok (f,s)
def endQ:Except Int (Fq×RS)->Except Int Fq
 | .error e=>.error e
 | .ok (f,s)=>if (jM s).e≠0 then .error (jM s).e else if iA f then .ok f else .error 10
def oY(bs:List Int):Except Int Fq:=match rY ⟨0,bs⟩ with
 | .error e=>.error e
 | .ok (kd,s1)=>match nr (aU kd).length s1 with
  | .error e=>.error e
  | .ok (vs,s2)=>endQ (om (iE { kind:=kd } (aU kd) vs) s2)
abbrev zF:Xb:=cD { kind:=0 } {}
section
variable {F L:List aD}{H:aC}{K KP:KQ}{Q:aD}
theorem eqPnF{e:Int}:fH Tryz.prog .eql 20 (pnF e) .nilIface false:=by
 intro a b w
 kernel_rfl
theorem Tp{e:Int}:mL Tryz.prog (Instr.typeAssert (pnF e) 20 352 true) (.tuple #[.agg #[I64ZZ e],.bool true]):=by
 intro w
 kernel_rfl
theorem Tq{b b1:Nat}{e:Int}{cs:Xb}{v1:Int}{f:FrameMode->aC->Prop}(n:cs.length=14)(h:aA H (cellsA b1 [I64ZZ v1] 41::cellsA b cs 150::F))
  (k:∀H',aA H' (cellsA b1 [I64ZZ e] 41::cellsA b zF 150::F)->f (dK (pnF e) true) H'):gZ Tryz.prog 183 [(PA b 0),(PA b1 0)] (dK (pnF e) false) H f:=by
 have hd:gZ Tryz.prog 183 [(PA b 0),(PA b1 0)] (dK (pnF e) false) H λd H'=>d=dK (pnF e) true/\aA H' (cellsA b1 [I64ZZ e] 41::cellsA b zF 150::F):=by
  refine rD.defq (.inr ⟨rfl,rfl⟩) ?_;unfold rD.code;refine⟨_,eqPnF,λy m=>⟨λc=>V0 c (by simp),λ_=>⟨_,_,Tp,λs a=>⟨λ_=>?_,λc=>V0 c (by simp)⟩⟩⟩⟩
  refine h.al λb2 _ h=>?_
  refine h.st 0 rfl rfl ?_;intro H2 h;refine⟨_,h.r 0,?_⟩;refine h.st 2 rfl (by simp_all) ?_;intro x h;refine⟨h.r 0,?_⟩;refine h.st 1 rfl rfl ?_;intro i h;refine a _ (m _ ?_);have h:=h.o [1,2] 3;have e2:cq cs 0 zF=zF:=y6 _ cs (by simp_all);have h:aA i (cellsA b1 [I64ZZ e] 41::cellsA b (cq cs 0 zF) 150::F):=h;rw[e2]at h;exact h
 intro w t;refine (hd w t).mono λu A v j=>?_
 cases u <;> simp only at j ⊢
 grind
theorem Tr{b b1:Nat}{cs:Xb}{v1:Int}{c:FrameMode->aC->Prop}(h:aA H (cellsA b1 [I64ZZ v1] 41::cellsA b cs 150::F))
  (k:∀H',aA H' (cellsA b1 [I64ZZ v1] 41::cellsA b cs 150::F)->c .returning H'):gZ Tryz.prog 183 [(PA b 0),(PA b1 0)] .returning H c:=by
 have hd:gZ Tryz.prog 183 [(PA b 0),(PA b1 0)] .returning H λa H'=>a=.returning/\aA H' (cellsA b1 [I64ZZ v1] 41::cellsA b cs 150::F):=by
  refine rD.defq (.inl ⟨rfl,rfl,rfl⟩) ?_;unfold rD.code
  grind [eqNilZZ]
 intro w d;refine (hd w d).mono λf j i e=>?_
 cases f <;> simp only at e ⊢
 grind
def QPost(Q:aD)(F:List aD)(K:KQ):Except Int Fq->Prop
 | .ok f=>∀Q' x evs H',aH Q Q'->f.evs=evs.map Ev.p->(∀e∈evs,gJ Q' e)->f.Sh x->bB Q' x.la (aF aZ f.sl)->bB Q' x.da (f.data.map U8)->aA H' (Q'::slA 258 4 x.ea evs.length x.ec (aF bT evs)::F)->K (.tuple #[.agg ⟨cD f x⟩,I64ZZ 0]) H'
 | .error e=>∀Q' H',e≠0->aH Q Q'->aA H' (Q'::F)->K (.tuple #[.agg ⟨zF⟩,I64ZZ e]) H'
theorem kindR_ok{s s':RS}{kd:Int}(h:rY s=.ok (kd,s')):1<=kd/\kd<=8:=by
 grind [rY]
theorem numF_sh{kd:Int}{vs:List Int}{x:QA}(a:kd≠5->x.ea=none/\x.ec=0)(b:kd≠8->x.la=none/\x.lc=0/\x.da=none/\x.dc=0):(iE { kind:=kd } (aU kd) vs).Sh x:=by
 obtain⟨a1,a2,a3,a4,a5⟩:=xd (aU kd) vs { kind:=kd };refine⟨λh=>⟨a2,a (by grind)⟩,λh=>?_,λi d c h=>?_⟩
 .grind
 .rw [a1]at h;rw[K6 _ _ _ h]
  rcases (by omega:i=1\/i=2\/i=3\/i=4\/i=5\/i=6\/i=7\/i=8\/i=9) with rfl|rfl|rfl|rfl|rfl|rfl|rfl|rfl|rfl <;> rfl
end
section
variable {F L:List aD}{H:aC}{K KP:KQ}{Q:aD}
theorem Ts(s:RS):(bH 4096 s).1.length<=4096:=by
 grind [bH]
theorem evsQ_len{s s':RS}{l:List Pv}(h:evsQ s=.ok (l,s')):l.length<=64:=by
 unfold evsQ at h
 split at h
 .cases h
 .rename_i n s1 a;have:=AG h;unfold zR okR at a
  split at a
  .cases a
  .cases a
   have:=I5 s;omega
theorem K7:∀{n:Nat} {s s':RS} {l:List Pv},jV n s=.ok (l,s')->∀e∈l,df e.name e.labs=true
 | 0,s,s',l,h=>by cases h;simp
 | n+1,s,s',l,h=>by
  unfold jV at h
  split at h
  .cases h
  .rename_i ws s1 d
   split at h
   .cases h
   .rename_i v s2 b
    cases h
    intro e a
    rcases VJ.1 a with a|a
    .exact K7 d e a
    .rw [VH]at a;subst a;unfold evQ okR at b
     split at b
     .cases b
     .rename_i c
      cases b
      exact GN (by simpa using c)
theorem Tt{s s':RS}{l:List Pv}(h:evsQ s=.ok (l,s')):∀e∈l,e.labs.length<=1000000:=by
 unfold evsQ at h
 split at h
 .cases h
 .intro e a;have:=(lX (K7 h e a)).len;omega
theorem Tu{a:Xa}{c:Nat}{bs:List Int}(h:aA H (Q::F))(ha:∀H,aA H (Q::F)->aN H a (bs.map U8))(hb:aP bs)(hl:bs.length<=1099511627776)
  (k:QPost Q F K (oY bs)):CF 112 #[.slice a bs.length c] H K:=by
 refine OX ?_;refine h.al λb _ h=>?_
 refine h.al λb1 _ h=>?_
 have pan:∀e Q' H' cs v1,oY bs=.error e->e≠0->aH Q Q'->cs.length=14->aA H' (cellsA b1 [I64ZZ v1] 41::cellsA b cs 150::Q'::F)->
   bK 183 X.calls=true/\gZ Tryz.prog 183 (L_a2 b 0 b1 0) (dK (pnF e) false) H' λu H_=>u=dK (pnF e) true/\jj H_ b 0 λl=>aQ H_ b1 0 λl5=>K (gl (.agg ⟨l⟩) l5) H_:=by
  intro e Q' H' cs v1 t d hs u8 h;refine⟨rfl,Tq u8 h λH2 h=>⟨rfl,_,_,_,_,_,_,_,_,_,_,_,_,_,_,_,_,_,_,_,_,h.q 1,_,h.r 0,?_⟩⟩
  rw[t]at k;exact k Q' _ d hs h.tl.tl
 refine vK h (λH h=>ha H h.tl.tl) hl λrb H2 h=>⟨_,rfl,?_⟩
 refine Tm h hb hl ?_;unfold oY at k pan
 cases hr0:rY ⟨0,bs⟩ with
 | error e=>
  rw[hr0]at pan;exact λH' d h=>pan _ Q _ _ _ rfl d (aH.refl Q) rfl h
 | ok p=>
 obtain⟨kd,s1⟩:=p;rw[hr0]at pan k;dsimp only at pan k;have hkd:=kindR_ok hr0;intro H4 h7 h4 j3 h;refine⟨_,rfl,?_⟩;refine h.st 2 rfl rfl ?_;intro H5 h;have h:aA H5 (crdA rb s1::cellsA b1 [I64ZZ 0] 41::cellsA b (cD { kind:=kd } {}) 150::Q::F):=h;refine wW (k0:=kd) h 2 rfl rfl λp pc H6 _ h=>⟨_,_,_,rfl,?_⟩
 have ho:=Ao kd;refine⟨λi H'=>∃(j:Nat) (vs:List Int) (s2:RS),i=j/\j<=(aU kd).length/\nr j s1=.ok (vs,s2)/\s2.e=0/\aP s2.bs/\s2.bs.length<=1099511627776/\
  aA H' (crdA rb s2::slA 90 1 p (aU kd).length pc ((aU kd).map λi=>PA b i)::cellsA b1 [I64ZZ 0] 41::cellsA b (cD (iE { kind:=kd } ((aU kd).take j) vs) {}) 150::Q::F),
  λi _=>(aU kd).length-i.toNat,⟨0,[],s1,rfl,by omega,rfl,h7,h4,j3,h.o [1,0,2,3,4] 5⟩,?_⟩
 rintro i H7 ⟨j,vs,s2,rfl,hj,h3,he2,E,G,h⟩;have hvl:=I3 h3;refine⟨λw=>?_,λw=>?_⟩
 .have w:j<(aU kd).length:=by grind
  have h2:=(h.sl_rd 1 rfl).at w;have hi:=An _ (V7 w);refine⟨by omega,_,_,h2.1,_,h2.2,?_⟩;refine nY h E G λH8 h=>⟨_,rfl,dX ?_⟩
  have D:=lf E;have M:=nl s2;refine h.st 3 rfl (Nat.ble_eq_true_of_le (by show (aU kd)[j]+1<=14;omega)) ?_;intro H9 h;refine⟨_,pX h,?_⟩;have C:nr (j+1) s1=match longR s2 with|.error e=>.error e|.ok (v,s2)=>.ok (vs++[v],s2):=by
   grind [nr]
  unfold longR okR at C;refine rZ (λe=>⟨rfl,?_⟩) λe=>?_
  .rw [Vz (by grind)]at C;dsimp only at C;have hw:i64.wrap ((j:Int)+1)=((j+1:Nat):Int):=by grind [aJ]
   refine⟨⟨j+1,_,(bN s2).2,hw,w,C,e,D,by omega,?_⟩,by grind⟩;rw[VU w,K5 (by grind)];have h:aA H9 (crdA rb (bN s2).2::slA 90 1 p (aU kd).length pc ((aU kd).map λi=>PA b i)::cellsA b1 [I64ZZ 0] 41::cellsA b (cq (cD (iE { kind:=kd } ((aU kd).take j) vs) {}) (0+(aU kd)[j]) [I64ZZ (i64.wrap ((bN s2).1:Int))]) 150::Q::F):=by
    rw[VB];exact h
   rw[VB,encQ_set hi.1 hi.2]at h;exact h
  .rw [V1 e]at C;rw[I4 C w]at pan;exact pan _ Q _ _ _ rfl e (aH.refl Q) (oH ..) (h.o [2,3] 4)
 have l1:j=(aU kd).length:=by grind
 subst l1;rw[h3]at pan k;dsimp only at pan k;rw[VO]at h;have y:∀x:QA,(kd≠5->x.ea=none/\x.ec=0)->(kd≠8->x.la=none/\x.lc=0/\x.da=none/\x.dc=0)->(iE { kind:=kd } (aU kd) vs).Sh x:=λx N O=>numF_sh N O
 obtain⟨a1,a2,a3,a4,a5⟩:=xd (aU kd) vs { kind:=kd };obtain⟨f,hf⟩:∃f,iE { kind:=kd } (aU kd) vs=f:=⟨_,rfl⟩;rw[hf]at k pan h a1 a2 a3 a4 a5;rw[hf]at y;refine⟨_,h.r 3,?_⟩;intro Jn hJ;have fin:∀(Q':aD) (g:Fq) (x:QA) (evs:List Ev) (s4:RS) H',om f s2=.ok (g,s4)->aH Q Q'->(∀e∈evs,gJ Q' e)->g.evs=evs.map Ev.p->evs.length<=64->aP s4.bs->s4.bs.length<=1099511627776->g.Sh x->(∀e∈evs,e.labs.length<=1000000)->
   g.sl.length<=1000000->g.data.length<=1000000000->(x.da=none\/∃k o,x.da=some ⟨k,o,none⟩)->
   ∀A B:aD,(∀H F,aA H (A::F)->aN H x.la (aF aZ g.sl))->(∀H F,aA H (B::F)->aN H x.da (g.data.map U8))->
   aA H' (crdA rb s4::slA 258 4 x.ea evs.length x.ec (aF bT evs)::cellsA b1 [I64ZZ 0] 41::cellsA b (cD g x) 150::Q'::A::B::F)->Jn H':=by
  intro Q' g x evs s4 l0 n s I L Z hb4 hl4 h1 r6 y2 Y l4 A B hA hB h;rw[n]at pan k;unfold endQ at pan k;dsimp only at pan k;refine hJ _ ?_;refine G4 h λl3 h=>⟨_,rfl,?_⟩
  refine rZ (λd=>⟨rfl,?_⟩) λd=>?_
  .rw [Vz (by grind)]at pan k;refine⟨_,_,_,_,_,_,_,_,_,_,_,_,_,_,_,_,_,_,_,_,h.q 3,?_⟩;have y3:me (crdA rb (jM s4)::slA 258 4 x.ea evs.length x.ec (aF bT evs)::cellsA b1 [I64ZZ 0] 41::cellsA b (cD g x) 150::Q'::A::B::F) x.ea evs:=
    ⟨λH h=>h.sl_rd 1 rfl,λe d H h=>(I e d).at h 4 rfl⟩
   have hQ:ja (crdA rb (jM s4)::slA 258 4 x.ea evs.length x.ec (aF bT evs)::cellsA b1 [I64ZZ 0] 41::cellsA b (cD g x) 150::Q'::A::B::F) g x evs:=
    ⟨L,y3,λH h=>hA H _ (h.o [5] 7),λH h=>hB H _ (h.o [6] 7),l4,h1,by omega,r6,y2,Y⟩
   refine Jv h hQ λl2 h=>⟨_,rfl,?_⟩
   intro l6 J;refine⟨λt=>?_,λt=>J _ ?_⟩
   .rw [Vz (by grind)]at pan;exact pan _ Q' _ _ _ rfl (by decide) s rfl (h.o [2,3,4] 7)
   .rw [V1 (by grind)]at k;refine⟨_,_,_,_,_,_,_,_,_,_,_,_,_,_,_,_,_,_,_,_,h.q 3,?_⟩;refine h.st 3 rfl rfl ?_;intro H13 h;refine h.st 2 rfl rfl ?_;intro H14 h;obtain⟨V,U⟩:∃V,V=B*Q':=⟨_,rfl⟩;obtain⟨Q2,S⟩:∃Q2,Q2=A*V:=⟨_,rfl⟩;have s1:aH Q' V:=by rw[U];exact aH.add _ _
    have s2:aH V Q2:=by rw[S];exact aH.add _ _
    have h0:=s1.trans s2;have j2:bB V x.da (g.data.map U8):=λH F h=>hB H _ (eX.1 (U▸h))
    have h9:bB Q2 x.la (aF aZ g.sl):=λH F h=>hA H _ (eX.1 (S▸h))
    have h:=U▸eX.2 (h.o [6,4,2,3,1,5] 7);have h:=S▸eX.2 (h.o [4,0,1,2,3] 5);have h:=h.o [1,2,0,3] 4;refine⟨rfl,Tr h λH15 h=>⟨rfl,_,_,_,_,_,_,_,_,_,_,_,_,_,_,_,_,_,_,_,_,h.q 1,_,h.r 0,?_⟩⟩
    exact k Q2 x evs _ (s.trans h0) L (λe d=>(I e d).sub h0) h1 h9 (j2.sub s2) h.tl.tl
  .rw [V1 d]at pan;exact pan _ Q' _ _ _ rfl d s rfl (h.o [2,3,4] 7)
 have P:∀(H:aC) (F:List aD),aA H (emp::F)->aN H none (aF aZ []):=λH F _=>fK H none
 have R:∀(H:aC) (F:List aD),aA H (emp::F)->aN H none (([]:List Int).map U8):=λH F _=>fK H none
 refine⟨λN=>?_,λN=>?_⟩
 .have N:f.kind=5:=V3 N;have n:om f s2=match evsQ s2 with|.error e=>.error e|.ok (l,s')=>.ok ({ f with evs:=l },s'):=by unfold om;grind
  have h:=h.o [4,0,2,3] 5;refine Tn h E G ?_
  cases t:evsQ s2 with
  | error e=>
   rw[t]at n;exact λQ' H' d hs h=>pan _ Q' _ _ _ (by rw[n];rfl) d hs rfl (h.o [1,2,0] 3)
  | ok q=>
  obtain⟨l,s3⟩:=q;rw[t]at n;dsimp only at n;have Z:=evsQ_len t;have T:=Tt t;intro Q' evs a c H8 s L I r0 D M h;refine⟨_,_,_,rfl,?_⟩;refine h.st 4 rfl rfl ?_;intro H9 h;have h6:l.length=evs.length:=by grind
  obtain⟨e1,e2,e3⟩:=(y {} (λ_=>⟨rfl,rfl⟩) (λ_=>⟨rfl,rfl,rfl,rfl⟩)).em (by omega)
  refine fin Q' { f with evs:=l } { ea:=a,ec:=c } evs s3 _ n s I L (by omega) D M ?_ (λe d=>?_) (by grind) (by grind) (.inl rfl) emp emp (by dsimp only;rw[a4];exact P) (by dsimp only;rw[a5];exact R) ?_
  .exact⟨λh=>V0 N h,λ_=>⟨a3,a4,rfl,rfl,a5,rfl,rfl⟩,(y {} (λ_=>⟨rfl,rfl⟩) (λ_=>⟨rfl,rfl,rfl,rfl⟩)).nm⟩
  .exact T e.p (by grind)
  .have e:cD { f with evs:=l } { ea:=a,ec:=c }=cq (cD f {}) 10 [.slice a evs.length c]:=by unfold cD;dsimp only;rw[h6];rfl
   rw[e];have h:=h.o [1,2,3,4,0] 5;have h:=(jO (jO h)).o [2,3,4,5,6,0,1] 7;exact h
 have N:¬f.kind=5:=V2 N;intro l6 J;obtain⟨e1,e2,e3⟩:=(y {} (λ_=>⟨rfl,rfl⟩) (λ_=>⟨rfl,rfl,rfl,rfl⟩)).ev (by grind)
 refine⟨λO=>?_,λO=>J _ ?_⟩
 .have O:f.kind=8:=V3 O;have n:om f s2=match serQ s2 with|.error e=>.error e|.ok (x,s1)=>okR (bH 4096 s1).2 { f with sn:=x.1,sl:=x.2,data:=(bH 4096 s1).1 }:=by unfold om;grind
  refine K4 h E G ?_
  cases t:serQ s2 with
  | error e=>
   rw[t]at n;exact λH' d h=>pan _ Q _ _ _ (by rw[n];rfl) d (aH.refl Q) rfl (h.o [1,2,3] 4)
  | ok q=>
  obtain⟨⟨nm,labs⟩,s3⟩:=q;rw[t]at n;dsimp only at n;unfold okR at n;have W:labs.length<=1000000:=by
   unfold serQ okR at t
   split at t
   .cases t
   .rename_i hz
    cases t
    have:=(lX (GN (by simpa using hz))).len;omega
  intro a c H8 r0 D M h;dsimp only at h;refine⟨_,_,_,_,rfl,?_⟩;refine h.st 4 rfl rfl ?_;intro H9 h;have hd:=qj (m:=4096) D;have Y:=Ts s3;have hdn:=qk s3 4096;refine rG h D M (by unfold aG;decide) λl0 h=>⟨_,rfl,?_⟩
  refine zd hd.2 h λta tc l3 h=>⟨_,_,_,rfl,?_⟩
  have j1:=xb h;refine h.st 5 rfl rfl ?_;intro l2 h;refine⟨_,pX (h.o [1,0,2,3,4,5,6] 7),?_⟩;refine rZ (λd=>⟨rfl,J _ ?_⟩) λd=>?_
  .rw [Vz (by grind)]at n;refine fin Q { f with sn:=nm,sl:=labs,data:=(bH 4096 s3).1 } { la:=a,lc:=c,da:=ta,dc:=tc } [] (bH 4096 s3).2 _ n (aH.refl Q) (λe d=>V0 d (by simp)) (by grind) (by simp) hd.1 (by omega)
    ⟨λ_=>⟨e1,rfl,rfl⟩,λh=>V0 O h,(y {} (λ_=>⟨rfl,rfl⟩) (λ_=>⟨rfl,rfl,rfl,rfl⟩)).nm⟩ (λe d=>V0 d (by simp)) W (by grind) j1
    (slA 48 2 a labs.length c (aF aZ labs)) (slA 5 1 ta (bH 4096 s3).1.length tc ((bH 4096 s3).1.map U8)) (λH F h=>h.sl_rd 0 rfl) (λH F h=>h.sl_rd 0 rfl) ?_
   have e:cD { f with sn:=nm,sl:=labs,data:=(bH 4096 s3).1 } { la:=a,lc:=c,da:=ta,dc:=tc }=cq (cq (cD f {}) 11 [.string nm,.slice a labs.length c]) 13 [.slice ta (bH 4096 s3).1.length tc]:=rfl;rw[e];have h:=h.o [1,4,5,6,2,0] 7;exact (h.sl_nil 258 4).o [1,0,2,3,4,5,6] 7
  .rw [V1 d]at n;exact pan _ Q _ _ _ (by rw[n];rfl) d (aH.refl Q) (by rw[oH,oH];rfl) (h.o [4,5,6] 7)
 .have O:¬f.kind=8:=V2 O;have n:om f s2=.ok (f,s2):=by unfold om;grind
  have hs:=y {} (λ_=>⟨rfl,rfl⟩) (λ_=>⟨rfl,rfl,rfl,rfl⟩)
  refine fin Q f {} [] s2 _ n (aH.refl Q) (λe d=>V0 d (by simp)) (by grind) (by simp) E G hs (λe d=>V0 d (by simp)) (by grind) (by grind) (.inl rfl) emp emp (by rw[a4];exact P) (by rw[a5];exact R) ?_
  have h:=h.o [0,2,3,4] 5;exact (jO (jO (h.sl_nil 258 4))).o [3,2,4,5,6,0,1] 7
def gr(bs:List Int):Except Int Fq:=if 65536<bs.length then .error 17 else if (dR bs).1≠0 then .error (dR bs).1 else oY (dR bs).2
theorem AH{a:Xa}{c:Nat}{bs:List Int}(h:aA H (Q::F))(A:∀H,aA H (Q::F)->aN H a (bs.map U8))(hb:aP bs)(i:bs.length<=c)
  (k:QPost Q F K (gr bs)):CF 60 #[.slice a bs.length c] H K:=by
 refine cM 60 119260 ?_;refine h.al λb _ h=>⟨λd=>?_,λd=>?_⟩
 .have d:=V3 d;have e:gr bs=.error 17:=by unfold gr;grind
  rw[e]at k;refine h.st 0 rfl rfl λw h=>⟨_,_,_,_,_,_,_,_,_,_,_,_,_,_,_,_,_,_,_,_,h.q 0,?_⟩
  exact k Q _ (by decide) (aH.refl Q) h.tl
 have d:=V2 d;refine Kc h (λH h=>A H h.tl) hb (by omega) i (λD E p w t h=>?_) λe w j t h=>?_
 .refine⟨_,_,_,_,rfl,λi=>V0 i (by simp),λ_=>?_⟩
  have C:p.length<=bs.length:=by
   have:=congrArg List.length (A8 t)
   grind [wZ]
  have n:aP p:=by have:=xa hb;rwa[t]at this
  have e:gr bs=oY p:=by unfold gr;grind
  rw[e]at k;have h:=h.o [2,0,1] 3;refine Tu h (λH h=>h.sl_rd 1 rfl) n (by omega) ?_
  cases hp:oY p with
  | error e=>
   rw[hp]at k;intro Q' H2 j hs h;refine⟨_,_,_,_,_,_,_,_,_,_,_,_,_,_,_,_,_,_,_,_,_,rfl,?_⟩;refine h.st 2 rfl rfl λy h=>⟨_,_,_,_,_,_,_,_,_,_,_,_,_,_,_,_,_,_,_,_,h.q 2,?_⟩
   exact k Q' _ j hs (h.o [0] 3)
  | ok f=>
   rw[hp]at k;intro Q' x evs H2 hs s B v u m h;refine⟨_,_,_,_,_,_,_,_,_,_,_,_,_,_,_,_,_,_,_,_,_,rfl,?_⟩;refine h.st 3 rfl rfl λy h=>⟨_,_,_,_,_,_,_,_,_,_,_,_,_,_,_,_,_,_,_,_,h.q 3,?_⟩
   exact k Q' x evs _ hs s B v u m (h.o [0,1] 4)
 .refine⟨_,_,_,_,rfl,λ_=>?_,λi=>V0 (by grind) j⟩
  have e2:gr bs=.error e:=by unfold gr;grind
  rw[e2]at k;refine h.st 0 rfl rfl λy h=>⟨_,_,_,_,_,_,_,_,_,_,_,_,_,_,_,_,_,_,_,_,h.q 0,?_⟩
  exact k Q _ j (aH.refl Q) h.tl
end
structure As where
 bt:Int
 ct:Int
 got:Int
abbrev mr(p:As):Xb:=[aB p.bt,aB p.ct,aB p.got]
structure Ag where
 id:Int
 most:Int
 boot:Int:=0
 ep:Int:=0
 ck:Int:=0
 seq:Int:=0
 kept:List Pv:=[]
 drop:Int:=0
 prb:List As:=[]
abbrev maxT:Int:=4611686018427387903
structure gQ(g:Ag):Prop where
 id:0<=g.id/\g.id<=63
 most:g.most<=1024
 boot:0<=g.boot/\g.boot<=1099511627776
 ep:0<=g.ep/\g.ep<=1099511627776
 ck:0<=g.ck/\g.ck<=maxT
 seq:g.kept.length<=g.seq/\g.seq<=1099511627775
 kept:(g.kept.length:Int)<=1024
 prb:g.prb.length<=8
 drop:0<=g.drop/\g.drop<=1000000
 evs:∀e∈g.kept,df e.name e.labs=true/\aG e.value/\0<=e.stamp/\e.stamp<=g.ck
def br(g:Ag)(rd:Int):Ag×Int:=if g.boot=0 then (g,21) else if rd<0\/maxT<rd then (g,11) else ({ g with ck:=if rd>g.ck then rd else g.ck },0)
def lr(g:Ag)(bt:Int):Ag×Int:=if bt<1\/1099511627776<bt then (g,11) else if bt<=g.boot then (g,22) else (⟨g.id,g.most,bt,0,0,0,[],0,[]⟩,0)
def eI(g:Ag)(rd v:Int)(nm:Eq)(ls:List bg):Ag×Int×Int:=
 if (br g rd).2≠0 then ((br g rd).1,-1,(br g rd).2) else
 if g.ep=0 then ((br g rd).1,-1,21) else if df nm ls=false then ((br g rd).1,-1,10) else if 1099511627775<=g.seq then ((br g rd).1,-1,17) else
 if g.most<=(g.kept.length:Int) then ({ (br g rd).1 with drop:=g.drop+1 },-1,20) else
 ({ (br g rd).1 with kept:=g.kept++[⟨(br g rd).1.ck,v,nm,ls⟩],seq:=g.seq+1 },g.seq,0)
def tkfA(g:Ag)(f:Fq):Ag×Int:=
 if ¬(f.kind=2\/f.kind=3\/f.kind=6) then (g,16) else if f.ag≠g.id then (g,10) else
 if f.kind=2 then (if f.bt≠g.boot then (g,22) else if g.ep≠0 then (g,18) else if f.ep=0 then (g,10) else ({ g with ep:=f.ep },0)) else
 if f.kind=3 then (if g.ep=0 then (g,21) else if 8<=g.prb.length then (g,20) else ({ g with prb:=g.prb++[⟨f.bt,f.ct,g.ck⟩] },0)) else
 if g.ep=0\/f.ep≠g.ep then (g,22) else if g.seq<f.next then (g,11) else ({ g with kept:=g.kept.drop (f.next-(g.seq-g.kept.length)).toNat },0)
def mw(g:Ag)(rd:Int)(bs:List Int):Ag×Int:=
 if (br g rd).2≠0 then br g rd else match gr bs with
 | .error e=>((br g rd).1,e)
 | .ok f=>tkfA (br g rd).1 f
def jb(f:Fq):List (List Int):=if jU f=0 then [dO f] else []
def mz(g:Ag)(n:Nat):Fq:={ kind:=5,ag:=g.id,ep:=g.ep,next:=g.seq-g.kept.length,evs:=g.kept.take n }
def iF(g:Ag):Nat->List (List Int)
 | 0=>[]
 | n+1=>if jU (mz g (n+1))=17 then iF g n else jb (mz g (n+1))
def repF(g:Ag)(p:As):Fq:={ kind:=4,ag:=g.id,ep:=g.ep,bt:=p.bt,ct:=p.ct,got:=p.got,sent:=g.ck }
def sendA(g:Ag):List (List Int):=
 if g.ep=0 then jb { kind:=1,ag:=g.id,ep:=g.ep,bt:=g.boot } else
 (g.prb.flatMap λp=>jb (repF g p))++iF g (min g.kept.length 64)++jb { kind:=7,ag:=g.id,ep:=g.ep,next:=g.seq,stamp:=g.ck }
def j7(g:Ag)(rd:Int):Ag×List (List Int)×Int:=
 if (br g rd).2≠0 then ((br g rd).1,[],(br g rd).2) else
 (if g.ep=0 then (br g rd).1 else { (br g rd).1 with prb:=[] },sendA (br g rd).1,0)
section
variable {F L:List aD}{H:aC}{K:KQ}{Q Q':aD}
theorem swp{A B:aD}(h:aA H (B::A::F)):aA H (A::B::F):=h.o [1,0] 2
end
structure AgX where
 ka:Xa:=none
 kc:Nat:=0
 pa:Xa:=none
 pc:Nat:=0
abbrev fX(g:Ag)(x:AgX):Xb:=[I64ZZ g.id,I64ZZ g.most,I64ZZ g.boot,I64ZZ g.ep,I64ZZ g.ck,I64ZZ g.seq,.slice x.ka g.kept.length x.kc,I64ZZ g.drop,.slice x.pa g.prb.length x.pc]
def agA(Q:aD)(ab:Nat)(g:Ag):aD:=exS λy:AgX×List Ev=>star [pur (g.kept=y.2.map Ev.p/\∀e∈y.2,gJ Q e),cellsA ab (fX g y.1) 198,slA 258 4 y.1.ka g.kept.length y.1.kc (aF bT y.2),slA 449 3 y.1.pa g.prb.length y.1.pc (aF mr g.prb)]
theorem slAs:SlT Tryz.prog 194 449 3 24:=eG (by kernel_rfl)
section
variable {F L:List aD}{H:aC}{K:KQ}{Q Q':aD}{g:Ag}{ab:Nat}{x:AgX}
theorem de:aA H (agA Q ab g::F)↔∃(x:AgX) (evs:List Ev),g.kept=evs.map Ev.p/\(∀e∈evs,gJ Q e)/\aA H (cellsA ab (fX g x) 198::slA 258 4 x.ka g.kept.length x.kc (aF bT evs)::slA 449 3 x.pa g.prb.length x.pc (aF mr g.prb)::F):=by
 unfold agA;rw[cy]
 constructor
 .rintro⟨y,h⟩;obtain⟨a,h⟩:=nM.1 (aA.open h);exact⟨y.1,y.2,a.1,a.2,h⟩
 .rintro⟨x,evs,h1,h2,h⟩;exact⟨⟨x,evs⟩,aA.shut [_,_,_,_] (h.pur ⟨h1,h2⟩)⟩
theorem xe(hs:aH Q Q')(h:aA H (agA Q ab g::F)):aA H (agA Q' ab g::F):=by
 obtain⟨x,evs,b,a,h⟩:=de.1 h;exact de.2 ⟨x,evs,b,λe c=>(a e c).sub hs,h⟩
theorem AI{rd:Int}(h:aA H (cellsA ab (fX g x) 198::F))(k:∀H',aA H' (cellsA ab (fX (br g rd).1 x) 198::F)->K (I64ZZ (br g rd).2) H'):CF 272 #[PA ab 0,I64ZZ rd] H K:=by
 refine cM 272 122140 ⟨_,h.r 0,λb=>?_,λb=>⟨λa=>?_,λa=>⟨_,h.r 0,h.st 0 rfl rfl λH' h=>?_⟩⟩⟩
 .have e:br g rd=(g,21):=by unfold br;grind
  rw[e]at k;exact k _ h
 .have e:br g rd=(g,11):=by unfold br;grind
  rw[e]at k;exact k _ h
 .have e:br g rd=({ g with ck:=if rd>g.ck then rd else g.ck },0):=by unfold br;grind
  rw[e]at k;exact k _ h
theorem AJ(g:Ag)(rd:Int):(br g rd).1.kept=g.kept/\(br g rd).1.prb=g.prb/\(br g rd).1.seq=g.seq/\(br g rd).1.ep=g.ep/\(br g rd).1.most=g.most/\(br g rd).1.drop=g.drop/\(br g rd).1.id=g.id/\(br g rd).1.boot=g.boot:=by
 unfold br
 grind
theorem Tv{bt:Int}(h:aA H (agA Q ab g::F))(k:∀H',aA H' (agA Q ab (lr g bt).1::F)->K (I64ZZ (lr g bt).2) H'):CF 99 #[PA ab 0,I64ZZ bt] H K:=by
 obtain⟨x,evs,b,a,h⟩:=de.1 h;refine cM 99 122140 ⟨λd=>?_,λd=>⟨_,h.r 0,λc=>?_,λc=>h.st 0 rfl rfl λH' h=>?_⟩⟩
 .have e:lr g bt=(g,11):=by unfold lr;grind
  rw[e]at k;exact k _ (de.2 ⟨x,evs,b,a,h⟩)
 .have e:lr g bt=(g,22):=by unfold lr;grind
  rw[e]at k;exact k _ (de.2 ⟨x,evs,b,a,h⟩)
 .have e:lr g bt=(⟨g.id,g.most,bt,0,0,0,[],0,[]⟩,0):=by unfold lr;grind
  rw[e]at k;have h:=((h.o [0] 3).sl_nil 258 4).sl_nil 449 3;exact k _ (de.2 ⟨⟨none,0,none,0⟩,[],rfl,λe f=>V0 f (by simp),h.o [2,1,0] 3⟩)
theorem xg(h:aA H L)(i:Nat)(a:aS i L=cellsA ab (fX g x) 198):bO Tryz.prog 162 #[PA ab 0] H (I64ZZ g.boot):=cM 162 28 ⟨_,h.rd i a _,rfl,rfl⟩
theorem K8(h:aA H L)(i:Nat)(a:aS i L=cellsA ab (fX g x) 198):bO Tryz.prog 163 #[PA ab 0] H (I64ZZ g.ck):=cM 163 28 ⟨_,h.rd i a _,rfl,rfl⟩
theorem Tw(h:aA H L)(i:Nat)(a:aS i L=cellsA ab (fX g x) 198):bO Tryz.prog 161 #[PA ab 0] H (I64ZZ g.ep):=cM 161 28 ⟨_,h.rd i a _,rfl,rfl⟩
theorem K9(ok:gQ g)(h:aA H L)(i:Nat)(a:aS i L=cellsA ab (fX g x) 198):bO Tryz.prog 277 #[PA ab 0] H (I64ZZ (g.seq-g.kept.length)):=by
 have c:=ok.seq;have b:=ok.kept;refine cM 277 28 ⟨_,h.rd i a _,_,_,_,h.rd i a _,?_,rfl⟩;rw[aJ];rfl
theorem Tx{e:Ev}(h:aA H (Q::F))(d:∀H,aA H (Q::F)->aN H e.la (aF aZ e.labs))(f:e.labs.length<=1000000)
  (k:∀Q' a H',aH Q Q'->a.p=e.p->gJ Q' a->aA H' (Q'::F)->K (aggV a) H'):CF 273 #[aggV e] H K:=by
 refine cM 273 284 (h.al λb _ h=>h.al λb1 _ h=>⟨_,_,_,h.r 1,?_⟩)
 refine zL (Q:=Q) (F:=cellsA b1 [I64ZZ 0,I64ZZ 0,.string ⟨#[]⟩,.slice none 0 0] 258::cellsA b (bT e) 258::F) (h.o [2,0,1] 3) (λH h=>d H (h.o [0] 3)) f λQ' c i H' hs j h=>⟨_,_,_,rfl,?_⟩
 refine h.st 2 rfl rfl λm h=>⟨_,_,_,_,_,_,h.q 2,h.st 1 rfl rfl λH2 h=>⟨_,_,_,_,_,_,h.q 1,?_⟩⟩
 exact k Q' ⟨e.stamp,e.value,e.name,e.labs,c,i⟩ _ hs rfl j (h.o [0] 3)
theorem Ty{rd v:Int}{nm:Eq}{ls:List bg}{la:Xa}{lc:Nat}(ok:gQ g)(h:aA H (Q::agA Q ab g::F))(u:∀H,aA H (Q::F)->aN H la (aF aZ ls))
  (k:∀Q' H',aH Q Q'->aA H' (Q'::agA Q' ab (eI g rd v nm ls).1::F)->K (.tuple #[I64ZZ (eI g rd v nm ls).2.1,I64ZZ (eI g rd v nm ls).2.2]) H') :
  CF 160 #[PA ab 0,I64ZZ rd,I64ZZ v,.agg #[.string nm,.slice la ls.length lc]] H K:=by
 obtain⟨x,evs,A,i,h⟩:=de.1 (h.o [1,0] 2);obtain⟨o1,o2,o3,o4,o5,o6,o7,o8⟩:=AJ g rd;have b1:=ok.seq;have b2:=ok.kept;have b3:=ok.drop;have b4:=ok.most;refine cM 160 0x121bddd2131c911c (h.al λb _ h=>?_)
 refine AI (rd:=rd) (h.o [1,0,2,3,4] 5) λG h=>⟨_,rfl,?_⟩
 have back:∀{H'},aA H' (cellsA ab (fX (br g rd).1 x) 198::cellsA b [.string nm,.slice la ls.length lc] 37::slA 258 4 x.ka g.kept.length x.kc (aF bT evs)::slA 449 3 x.pa g.prb.length x.pc (aF mr g.prb)::Q::F)->aA H' (Q::agA Q ab (br g rd).1::F):=λh=>
  swp (de.2 ⟨x,evs,by grind,i,by rw[o1,o2];exact h.o [0,2,3,4] 5⟩)
 refine⟨λt=>?_,λt=>?_⟩
 .have e:eI g rd v nm ls=((br g rd).1,-1,(br g rd).2):=by unfold eI;grind
  rw[e]at k;exact k Q _ (aH.refl Q) (back h)
 have t:¬(br g rd).2≠0:=by grind
 refine⟨_,h.r 0,λs=>?_,λs=>?_⟩
 .have s:g.ep=0:=by grind
  have e:eI g rd v nm ls=((br g rd).1,-1,21):=by unfold eI;grind
  rw[e]at k;exact k Q _ (aH.refl Q) (back h)
 have s:¬g.ep=0:=by grind
 refine⟨_,_,_,_,h.q 1,?_⟩;refine oO h (λH h=>u H (h.o [4] 5)) λH2 h=>⟨_,rfl,λd=>?_,λd=>?_⟩
 .have e:eI g rd v nm ls=((br g rd).1,-1,10):=by unfold eI;grind
  rw[e]at k;exact k Q _ (aH.refl Q) (back h)
 have d:df nm ls=true:=by grind
 have D:ls.length<=8:=by
  unfold df at d
  grind
 refine⟨_,h.r 0,λj=>?_,λj=>?_⟩
 .have j:1099511627775<=g.seq:=by grind
  have e:eI g rd v nm ls=((br g rd).1,-1,17):=by unfold eI;grind
  rw[e]at k;exact k Q _ (aH.refl Q) (back h)
 have j:¬1099511627775<=g.seq:=by grind
 refine⟨_,_,_,h.r 0,_,h.r 0,λhm=>?_,λhm=>?_⟩
 .have hm:g.most<=(g.kept.length:Int):=by grind
  have e:eI g rd v nm ls=({ (br g rd).1 with drop:=g.drop+1 },-1,20):=by unfold eI;grind
  rw[e]at k;refine⟨_,h.r 0,h.st 0 rfl rfl λw h=>k Q _ (aH.refl Q) (swp (de.2 ⟨x,evs,by grind,i,?_⟩))⟩
  have n:i64.wrap ((br g rd).1.drop+1)=g.drop+1:=by grind [aJ]
  have h:aA w (cellsA ab [I64ZZ (br g rd).1.id,I64ZZ (br g rd).1.most,I64ZZ (br g rd).1.boot,I64ZZ (br g rd).1.ep,I64ZZ (br g rd).1.ck,I64ZZ (br g rd).1.seq,.slice x.ka (br g rd).1.kept.length x.kc,I64ZZ (i64.wrap ((br g rd).1.drop+1)),.slice x.pa (br g rd).1.prb.length x.pc] 198::_):=h;rw[n]at h;dsimp only;rw[o1,o2]at *;exact h.o [0,2,3,4] 5
 have hm:¬g.most<=(g.kept.length:Int):=by grind
 have e:eI g rd v nm ls=({ (br g rd).1 with kept:=g.kept++[⟨(br g rd).1.ck,v,nm,ls⟩],seq:=g.seq+1 },g.seq,0):=by unfold eI;grind
 rw[e]at k;refine⟨_,_,_,h.r 0,_,h.r 0,_,_,_,_,h.q 1,?_⟩;refine Tx (e:=⟨(br g rd).1.ck,v,nm,ls,la,lc⟩) (h.o [4,0,1,2,3] 5) (λH h=>u H (h.o [0] 5)) (by grind) λQ' c w hs E C h=>⟨_,_,_,_,_,_,rfl,h.r 1,?_⟩
 refine h.al λb1 _ h=>⟨h.r 2,?_⟩
 rw[o1];refine h.append (m:=1) (ws:=bT c) sl44 4 rfl (h.ce_rd 0 rfl) rfl rfl (by omega) (by omega) λa5 c5 I h=>⟨_,_,_,rfl,?_⟩
 refine h.st 2 rfl rfl λJ h=>⟨_,h.r 2,h.st 2 rfl rfl λB h=>⟨_,h.r 2,?_⟩⟩
 have n:i64.wrap ((br g rd).1.seq+1)=g.seq+1:=by grind [aJ]
 have f:i64.wrap (i64.wrap ((br g rd).1.seq+1)-1)=g.seq:=by grind [aJ]
 conv=>whnf
 rw[f]
 conv=>whnf
 refine k Q' _ hs (swp ((de (g:={ (br g rd).1 with kept:=g.kept++[⟨(br g rd).1.ck,v,nm,ls⟩],seq:=g.seq+1 })).2 ⟨⟨a5,c5,x.pa,x.pc⟩,evs++[c],?_,λz a=>?_,?_⟩))
 .conv=>whnf
  dsimp only;rw[VS,<-A];simp only[VR,List.map_nil,E];rfl
 .rcases VJ.1 a with a|a
  .exact (i z a).sub hs
  .rw [VH]at a;subst a;exact C
 .have h:aA B (cellsA b1 (bT c) 258::Q'::cellsA ab [I64ZZ (br g rd).1.id,I64ZZ (br g rd).1.most,I64ZZ (br g rd).1.boot,I64ZZ (br g rd).1.ep,I64ZZ (br g rd).1.ck,I64ZZ (i64.wrap ((br g rd).1.seq+1)),.slice a5 (g.kept.length+1) c5,I64ZZ (br g rd).1.drop,.slice x.pa (br g rd).1.prb.length x.pc] 198::_):=h;rw[n]at h;have y:aF bT (evs++[c])=aF bT evs++bT c:=by grind [aF]
  dsimp only[fX];rw[y,V6,o2]at *;exact h.o [2,4,5,1] 6
end
section
variable {F L:List aD}{H:aC}{K:KQ}{Q Q':aD}{g:Ag}{ab:Nat}{x:AgX}
theorem Tz{a:Xa}{c:Nat}{l:List Ev}{j:Nat}(u:j<=l.length)(w:l.length<=1000000)(h:aA H (slA 258 4 a l.length c (aF bT l)::F))
  (k:∀H',aA H' (slA 258 4 a (l.length-j) c (aF bT (l.drop j))::F)->K (.slice a (l.length-j) c) H'):CF 379 #[.slice a l.length c,I64ZZ 0,I64ZZ j] H K:=by
 have t:=h.sl_nc 0 rfl;refine cM 379 18682140 ?_;refine⟨⟨by omega,by omega,by omega,by omega⟩,λm=>?_,λm=>?_⟩
 .obtain rfl:j=0:=by grind
  exact k H h
 .have s:0<j:=by grind
  refine⟨⟨by omega,by omega,by omega⟩,⟨by omega,by omega,by omega⟩,?_⟩;have f:=h.sl_rd 0 rfl;have hs:=f.some dF (by omega) (k:=0) (by omega);have e0:bM a 0 c 4=a:=by
   unfold bM;rw[nO,hs,VT,fu];simp
  have e:=f.subK (k:=j) (c:=c) (sz:=4) (by rw[dT dF];omega);rw[ry dF]at e;have d:=h.sl_take 0 rfl 0 (by omega);simp only[WG,W9]at d;show bS Tryz.prog (Builtin.append_ #[148,148] 148 #[.slice (bM a 0 c 4) 0 c,.slice (bM a j c 4) (l.length-j) (c-j)]) H _;rw[e0];refine aA.appendIn sl44 d 0 rfl e (by rw[dT dF,Wb]) (kS zi _) (by omega) λH' n=>⟨_,_,_,rfl,⟨by omega,by omega,by omega⟩,?_⟩
  rw[VB];have b:aA H' (slA 258 4 a (0+(l.length-j)) c ([]++aF bT (l.drop j))::F):=n;rw[VB,VZ]at b;exact aA.clearS sl44 (by kernel_rfl) b 0 rfl (by omega) λ_ v i=>k _ i
theorem Grant_a{f:Fq}{y:QA}(h:aA H (agA Q ab g::F))(k:∀H' r,r=(if f.bt≠g.boot then (g,22) else if g.ep≠0 then (g,18) else if f.ep=0 then (g,10) else ({ g with ep:=f.ep },(0:Int)))->aA H' (agA Q ab r.1::F)->K (I64ZZ r.2) H') :
  CF 279 #[PA ab 0,.agg ⟨cD f y⟩] H K:=by
 obtain⟨x,evs,c,a,h⟩:=de.1 h;refine cM 279 1957148 (h.al λb _ h=>⟨_,h.r 0,_,h.r 1,λd=>?_,λd=>⟨_,h.r 1,λi=>?_,λi=>⟨_,h.r 0,λe=>?_,λe=>⟨_,h.r 0,h.st 1 rfl rfl λj h=>?_⟩⟩⟩⟩)
 .exact k _ (g,22) (by grind) (de.2 ⟨x,evs,c,a,h.tl⟩)
 .exact k _ (g,18) (by grind) (de.2 ⟨x,evs,c,a,h.tl⟩)
 .exact k _ (g,10) (by grind) (de.2 ⟨x,evs,c,a,h.tl⟩)
 .exact k _ ({ g with ep:=f.ep },0) (by grind) (de.2 ⟨x,evs,c,a,h.tl⟩)
theorem Probe_a{f:Fq}{y:QA}(ok:gQ g)(h:aA H (agA Q ab g::F))(k:∀H' r,r=(if g.ep=0 then (g,21) else if 8<=g.prb.length then (g,20) else ({ g with prb:=g.prb++[⟨f.bt,f.ct,g.ck⟩] },(0:Int)))->aA H' (agA Q ab r.1::F)->K (I64ZZ r.2) H') :
  CF 280 #[PA ab 0,.agg ⟨cD f y⟩] H K:=by
 obtain⟨x,evs,d,c,h⟩:=de.1 h;have i:=ok.prb;refine cM 280 122140 (h.al λb _ h=>⟨_,h.r 1,λa=>?_,λa=>⟨_,_,_,h.r 1,λe=>?_,λe=>⟨_,_,_,h.r 1,_,h.r 0,_,h.r 0,_,h.r 1,h.al λb1 _ h=>⟨h.r 2,?_⟩⟩⟩⟩)
 .exact k _ (g,21) (by rw[V1 (V3 a)]) (de.2 ⟨x,evs,d,c,h.tl⟩)
 .exact k _ (g,20) (by rw[Vz (V2 a),V1 (by have:=V3 e;omega)]) (de.2 ⟨x,evs,d,c,h.tl⟩)
 .refine h.append (m:=1) (ws:=mr ⟨f.bt,f.ct,g.ck⟩) slAs 4 rfl (h.ce_rd 0 rfl) rfl rfl (by omega) (by omega) λa5 c5 n h=>⟨_,_,_,rfl,h.st 2 rfl rfl λs h=>?_⟩
  refine k _ ({ g with prb:=g.prb++[⟨f.bt,f.ct,g.ck⟩] },0) (by rw[Vz (V2 a),Vz (by have:=V2 e;omega)]) (de.2 ⟨{ x with pa:=a5,pc:=c5 },evs,d,c,?_⟩);have j:aF mr (g.prb++[(⟨f.bt,f.ct,g.ck⟩:As)])=aF mr g.prb++mr ⟨f.bt,f.ct,g.ck⟩:=by rw[gx];simp[aF]
  dsimp only[fX];rw[j,V6];exact h.o [2,3,4] 5
theorem Ack_a{f:Fq}{y:QA}(ok:gQ g)(w:0<=f.next)(h:aA H (agA Q ab g::F))(k:∀H' r,r=(if g.ep=0\/f.ep≠g.ep then (g,22) else if g.seq<f.next then (g,11) else ({ g with kept:=g.kept.drop (f.next-(g.seq-g.kept.length)).toNat },(0:Int)))->aA H' (agA Q ab r.1::F)->K (I64ZZ r.2) H') :
  CF 281 #[PA ab 0,.agg ⟨cD f y⟩] H K:=by
 obtain⟨x,evs,i,d,h⟩:=de.1 h;have c:g.kept.length=evs.length:=by grind
 have b1:=ok.seq;have b2:=ok.kept;refine cN 281 128078410908 [[]] (h.al λb _ h=>⟨_,h.r 1,_,λ_=>h.r 0,λ_=>trivial,_,λ_=>h.r 1,λs=>?_,λs=>⟨_,h.r 0,_,h.r 1,λe=>?_,λe=>⟨_,h.r 0,_,K9 ok h 1 rfl,?_⟩⟩⟩)
 .exact k _ (g,22) (by grind) (de.2 ⟨x,evs,i,d,h.tl⟩)
 .exact k _ (g,11) (by grind) (de.2 ⟨x,evs,i,d,h.tl⟩)
 have e:=V2 e;have t:i64.wrap (f.next-(g.seq-g.kept.length))=f.next-(g.seq-g.kept.length):=aJ;rw[Vz (by grind),Vz e]at k;intro A m
 conv=>whnf
 rw[t];refine⟨λa=>?_,λa=>m _ (k _ _ rfl (de.2 ⟨x,evs,?_,d,?_⟩))⟩
 .have a:=V3 a;obtain⟨j,n⟩:∃j:Nat,f.next-(g.seq-g.kept.length)=(j:Int):=⟨_,(Int.toNat_of_nonneg (by omega)).symm⟩;rw[n]at k ⊢;refine⟨_,_,_,h.r 1,?_⟩;rw[c]at h ⊢;refine Tz (l:=evs) (j:=j) (by omega) (by omega) (h.o [2,0,1,3] 4) λv h=>⟨_,_,_,rfl,h.st 2 rfl rfl λH2 h=>m _ (k _ _ rfl (de.2 ⟨x,evs.drop j,?_,λz u=>d z (W3 u),?_⟩))⟩
  .simp_all
  .dsimp only[fX];rw[VL,Wb,c];exact h.o [2,0,3] 4
 .have a:=V2 a;dsimp only;rw[show (f.next-(g.seq-(g.kept.length:Int))).toNat=0 by omega];exact i
 .have a:=V2 a;dsimp only;rw[show (f.next-(g.seq-(g.kept.length:Int))).toNat=0 by omega,List.drop_zero];exact h.tl
end
structure Ou where
 kind:Int
 ag:Int:=0
 num:Int:=0
 ida:Int:=0
 ide:Int:=0
 seq:Int:=0
 reason:Int:=0
 win:Int:=0
 lo:Int:=0
 hi:Int:=0
 bs:List Int:=[]
structure Oy where
 o:Ou
 a:Xa
 c:Nat
abbrev cu(y:Oy):Xb:=[aB y.o.kind,aB y.o.ag,aB y.o.num,aB y.o.ida,aB y.o.ide,aB y.o.seq,aB y.o.reason,aB y.o.win,aB y.o.lo,aB y.o.hi,.slice y.a y.o.bs.length y.c]
theorem AK(y:Oy):(cu y).length=11:=rfl
theorem sd(y:Oy):cK (cu y)=true:=rfl
structure iG(Q:aD)(y:Oy):Prop where
 kin:bB Q y.a (y.o.bs.map U8)
 cap:y.o.bs.length<=y.c
theorem iG.sub{Q Q':aD}{y:Oy}(h:iG Q y)(hs:aH Q Q'):iG Q' y:=⟨h.kin.sub hs,h.cap⟩
structure Fq.Bare(f:Fq):Prop where
 k5:f.kind≠5
 k8:f.kind≠8
 evs:f.evs=[]
 sn:f.sn=⟨#[]⟩
 sl:f.sl=[]
 data:f.data=[]
 nm:∀i,1<=i->i<=9->i∉aU f.kind->f.nums i=0
theorem Fq.Bare.rd{f:Fq}(h:f.Bare)(F:List aD):ja F f {} []:=by
 refine⟨by rw[h.evs];rfl,⟨λH _=>fK H none,λe a=>V0 a (by simp)⟩,λH _=>by rw[h.sl];exact fK H none,λH _=>by rw[h.data];exact fK H none,.inl rfl,
  ⟨λ_=>⟨h.evs,rfl,rfl⟩,λ_=>⟨h.sn,h.sl,rfl,rfl,h.data,rfl,rfl⟩,h.nm⟩,by simp,λe a=>V0 a (by simp),by rw[h.sl];simp,by rw[h.data];simp⟩
def ui(ag ep bt:Int):Fq:={ kind:=2,ag:=ag,ep:=ep,bt:=bt }
def ackF(ag ep next:Int):Fq:={ kind:=6,ag:=ag,ep:=ep,next:=next }
def kA(ag bt ct:Int):Fq:={ kind:=3,ag:=ag,bt:=bt,ct:=ct }
theorem nine{i:Nat}(b:1<=i)(a:i<=9):i=1\/i=2\/i=3\/i=4\/i=5\/i=6\/i=7\/i=8\/i=9:=by omega
theorem T1(ag ep bt:Int):(ui ag ep bt).Bare:=⟨show (2:Int)≠5 by decide,show (2:Int)≠8 by decide,rfl,rfl,rfl,rfl,λi b a h=>by
 rcases nine b a with rfl|rfl|rfl|rfl|rfl|rfl|rfl|rfl|rfl <;> first|rfl|exact V0 (show _∈aU 2 by decide) h⟩
theorem T2(ag ep next:Int):(ackF ag ep next).Bare:=⟨show (6:Int)≠5 by decide,show (6:Int)≠8 by decide,rfl,rfl,rfl,rfl,λi b a h=>by
 rcases nine b a with rfl|rfl|rfl|rfl|rfl|rfl|rfl|rfl|rfl <;> first|rfl|exact V0 (show _∈aU 6 by decide) h⟩
theorem T3(ag bt ct:Int):(kA ag bt ct).Bare:=⟨show (3:Int)≠5 by decide,show (3:Int)≠8 by decide,rfl,rfl,rfl,rfl,λi b a h=>by
 rcases nine b a with rfl|rfl|rfl|rfl|rfl|rfl|rfl|rfl|rfl <;> first|rfl|exact V0 (show _∈aU 3 by decide) h⟩
def iH(f:Fq):Ou:={ kind:=1,ag:=f.ag,bs:=dO f }
def emitF(o:Ot):Fq:={ kind:=8,win:=o.1.win,sn:=(gH o.1.ser).1,sl:=(gH o.1.ser).2.1,data:=iX o.2 }
def uj(num:Int)(o:Ot):Ou:={ kind:=3,num:=num,bs:=dO (emitF o) }
def fh(e:Eff):List Ou:=if e.kind=1 then [iH (ui e.agent e.epoch e.boot)] else if e.kind=2 then [iH (ackF e.agent e.epoch e.next)] else
 if e.kind=3 then [{ kind:=2,ida:=e.ida,ide:=e.ide,seq:=e.seq,reason:=e.reason,win:=e.win,lo:=e.gap.lo,hi:=e.gap.hi }] else if e.kind=4 then [uj e.number e.out] else []
theorem T4(t:Eq):(gH t).2.1.length<=8:=by
 unfold gH
 split
 .split
  .split
   .simp
   .split
    .rename_i a;exact (lX a).len
    .simp
  .simp
 grind
theorem slOy:SlT Tryz.prog 127 222 11 104:=eG (by kernel_rfl)
section
variable {F L:List aD}{H:aC}{K:KQ}{Q:aD}
theorem AM{f:Fq}(r:f.Bare)(h:aA H F)(k:∀a c H',aA H' (slA 5 1 a (dO f).length c ((dO f).map U8)::F)->K (.agg ⟨cu ⟨iH f,a,c⟩⟩) H') :
  CF 261 #[.agg ⟨cD f {}⟩] H K:=by
 refine cM 261 284 ?_;refine h.al λb _ h=>?_
 refine h.al λb1 _ h=>⟨_,_,_,_,_,_,_,_,_,_,_,_,_,_,_,_,_,_,_,_,h.q 1,?_⟩
 refine AF h (r.rd _) λa c H2 h=>⟨_,_,_,_,rfl,_,h.r 2,?_⟩
 refine h.st 1 rfl rfl ?_;intro d h;refine⟨_,_,_,_,_,_,_,_,_,_,_,_,_,h.q 1,?_⟩;exact k a c _ (h.o [0] 3)
theorem T5{n:Int}{o:Ot}(wc:WC o.2)(hs:o.1.ser.size<=1000000)(h:aA H F)(k:∀a c H',aA H' (slA 5 1 a (dO (emitF o)).length c ((dO (emitF o)).map U8)::F)->K (.agg ⟨cu ⟨uj n o,a,c⟩⟩) H') :
  CF 146 #[I64ZZ n,.agg ⟨cW o⟩] H K:=by
 refine cM 146 4380 ?_;have j:=wq wc;have t:=T4 o.1.ser;refine h.al λb _ h=>?_
 refine h.al λb1 _ h=>⟨_,h.r 1,?_⟩
 refine Ic (by omega) h λla lc H2 h=>⟨_,_,_,_,_,rfl,?_⟩
 refine h.al λb2 _ h=>?_
 refine h.st 0 rfl rfl ?_;intro v h;refine⟨_,h.r 3,_,_,_,_,h.q 0,_,_,_,_,_,_,_,_,h.rdt (l:=[_,_]) 3 rfl rfl,?_⟩;refine GB wc h λda dc y h=>⟨_,_,_,rfl,h.q 1,h.r 4,?_⟩
 have u:=xb h;refine AF (f:=emitF o) (x:={ la:=la,lc:=lc,da:=da,dc:=dc }) (evs:=[]) h ⟨rfl,⟨λH _=>fK H none,λe d=>V0 d (by simp)⟩,λH h=>h.sl_rd 2 rfl,λH h=>h.sl_rd 0 rfl,u,
   ⟨λ_=>⟨rfl,rfl,rfl⟩,λh=>V0 rfl h,λi s m h=>by rcases nine s m with rfl|rfl|rfl|rfl|rfl|rfl|rfl|rfl|rfl <;> first|rfl|exact V0 (show _∈aU 8 by decide) h⟩,
   by simp,λe d=>V0 d (by simp),by show (gH o.1.ser).2.1.length<=_;omega,by show (iX o.2).length<=_;omega⟩ λa c w h=>⟨_,_,_,_,rfl,?_⟩
 refine h.st 4 rfl rfl ?_;intro A h;refine⟨_,_,_,_,_,_,_,_,_,_,_,_,_,h.q 4,?_⟩;exact k a c _ (h.o [0] 6)
theorem T6{a:Xa}{c:Nat}{b:List Eff}(hl:b.length<=1000000)(hw:∀e∈b,e.kind=4->WC e.out.2/\e.out.1.ser.size<=1000000)(h:aA H (Q::F))(ha:∀H,aA H F->aN H a (aF dw b))
  (k:∀Q' ys V W H',aH Q Q'->ys.map Oy.o=b.flatMap fh->(∀y∈ys,iG Q' y)->aA H' (Q'::slA 222 11 V ys.length W (aF cu ys)::F)->K (.slice V ys.length W) H') :
  CF 150 #[.slice a b.length c] H K:=by
 refine cN 150 0x11215612399251151714171417417494c [[(3,sS)],[(3,sS)],[(3,sS)],[(3,sS)],[(3,sS),(10,sI)]] ?_;refine⟨λla ln lc i H'=>∃(j:Nat) (ys:List Oy) (Q':aD),i=j/\j<=b.length/\ln=ys.length/\ys.length<=j/\aH Q Q'/\ys.map Oy.o=(b.take j).flatMap fh/\(∀y∈ys,iG Q' y)/\aA H' (Q'::slA 222 11 la ys.length lc (aF cu ys)::F),
  λ_ _ _ i _=>b.length-i.toNat,⟨0,[],Q,rfl,by omega,rfl,by simp,aH.refl Q,rfl,λy U=>V0 U (by simp),(h.sl_nil 222 11).o [1,0] 2⟩,?_⟩
 rintro la ln lc i H1 ⟨j,ys,Q',rfl,hj,rfl,h5,d,w,B,h⟩;refine⟨λhc=>?_,λhc=>?_⟩
 .have n:j<b.length:=by grind
  have Z:=ha _ h.tl.tl;have O:i64.wrap ((j:Int)+1)=((j+1:Nat):Int):=by grind [aJ]
  refine⟨by omega,_,_,Z.some IY (by omega) n,_,_,_,_,_,_,_,_,_,_,_,_,_,_,_,_,_,_,_,_,_,_,_,Z.els IY n,?_⟩;have G:=hw _ (V7 n);have P:(b.take (j+1)).flatMap fh=(b.take j).flatMap fh++fh b[j]:=jr n;obtain⟨e,he⟩:∃e,b[j]=e:=⟨_,rfl⟩;rw[he]at G P ⊢;refine h.al λb1 _ h=>?_
  refine h.sta 0 rfl rfl λH2 h=>?_
  have h:aA H2 (cellsA b1 (dw e) 428::Q'::slA 222 11 la ys.length lc (aF cu ys)::F):=h;refine⟨_,h.r 0,?_⟩;intro Jn hJ;have fin:∀(u:List Oy) Q2 a2 c2 H',aH Q Q2->u.map Oy.o=(b.take j).flatMap fh++fh e->u.length<=j+1->(∀y∈u,iG Q2 y)->aA H' (Q2::slA 222 11 a2 u.length c2 (aF cu u)::F)->Jn a2 u.length c2 H':=by
   intro u Q2 a2 c2 H' hs hm N hi h;exact hJ _ _ _ _ ⟨⟨j+1,u,Q2,O,n,rfl,N,hs,by grind,hi,h⟩,by grind⟩
  have one:∀(y:Oy) (A:aD) a2 c2 H',fh e=[y.o]->iG (A*Q') y->aA H' (A::Q'::slA 222 11 a2 (ys.length+1) c2 (aF cu ys++cu y)::F)->Jn a2 (ys.length+1) c2 H':=by
   intro y A a2 c2 H' t U h;have e1:aF cu ys++cu y=aF cu (ys++[y]):=by grind [aF]
   have e2:ys.length+1=(ys++[y]).length:=by simp
   rw[e1,e2]at h;rw[e2];refine fin (ys++[y]) (A*Q') a2 c2 _ (d.trans (aH.add A Q')) (by grind) (by simp;omega) (λz D=>?_) (eX.2 h)
   rcases VJ.1 D with D|D
   .exact (B z D).sub (aH.add A Q')
   .rw [VH]at D;rw[D];exact U
  refine⟨λE=>?_,λE=>?_⟩
  .have E:=V3 E;have t:fh e=[iH (ui e.agent e.epoch e.boot)]:=by unfold fh;grind
   refine⟨_,h.r 0,_,h.r 0,?_⟩;refine h.al λb2 _ h=>?_
   refine h.st 0 rfl rfl ?_;intro H5 h;refine⟨_,_,_,h.q 0,_,h.r 1,?_⟩;refine AM (T1 e.agent e.epoch e.boot) h λv f Y h=>⟨_,_,_,_,_,_,_,_,_,_,_,_,_,rfl,?_⟩
   refine h.al λb3 _ h=>?_
   refine h.append (m:=1) (ws:=cu ⟨iH (ui e.agent e.epoch e.boot),v,f⟩) slOy 5 rfl (h.ce_rd 0 rfl) rfl (sd _) (by omega) (by omega) λa5 c5 S h=>⟨_,_,_,rfl,?_⟩
   exact one ⟨iH (ui e.agent e.epoch e.boot),v,f⟩ _ _ _ _ t ⟨bB.sl (c:=f),h.sl_nc 1 rfl⟩ (h.o [1,4,5] 6)
  have E:=V2 E;intro h6 s;refine⟨λM=>?_,λM=>?_⟩
  .have M:=V3 M;have t:fh e=[iH (ackF e.agent e.epoch e.next)]:=by unfold fh;grind
   refine⟨_,h.r 0,_,h.r 0,?_⟩;refine h.al λb2 _ h=>?_
   refine h.st 0 rfl rfl ?_;intro H5 h;refine⟨_,_,_,h.q 0,_,h.r 1,?_⟩;refine AM (T2 e.agent e.epoch e.next) h λv f Y h=>⟨_,_,_,_,_,_,_,_,_,_,_,_,_,rfl,?_⟩
   refine h.al λb3 _ h=>?_
   refine h.append (m:=1) (ws:=cu ⟨iH (ackF e.agent e.epoch e.next),v,f⟩) slOy 5 rfl (h.ce_rd 0 rfl) rfl (sd _) (by omega) (by omega) λa5 c5 S h=>⟨_,_,_,rfl,?_⟩
   exact s _ _ _ _ (one ⟨iH (ackF e.agent e.epoch e.next),v,f⟩ _ _ _ _ t ⟨bB.sl (c:=f),h.sl_nc 1 rfl⟩ (h.o [1,4,5] 6))
  have M:=V2 M;intro h7 x;refine⟨λJ=>?_,λJ=>?_⟩
  .have J:=V3 J;obtain⟨o3,I⟩:∃o3:Ou,o3={ kind:=2,ida:=e.ida,ide:=e.ide,seq:=e.seq,reason:=e.reason,win:=e.win,lo:=e.gap.lo,hi:=e.gap.hi }:=⟨_,rfl⟩;have t:fh e=[o3]:=by unfold fh;grind
   refine⟨_,_,_,h.q 0,_,_,h.q 0,_,_,h.q 0,?_⟩;refine h.al λb3 _ h=>?_
   refine h.append (m:=1) (ws:=cu ⟨o3,none,0⟩) slOy 3 rfl (h.ce_rd 0 (by rw[I];rfl)) rfl (sd _) (by omega) (by omega) λa5 c5 S h=>⟨_,_,_,rfl,?_⟩
   refine x _ _ _ _ (s _ _ _ _ (one ⟨o3,none,0⟩ emp _ _ _ t ?_ (jO (h.o [2,3] 4))));rw[I];exact⟨bB.nil _ _,VE _⟩
  have J:=V2 J;intro h0 L;refine⟨λC=>?_,λC=>?_⟩
  .have C:=V3 C;have t:fh e=[uj e.number e.out]:=by unfold fh;grind
   obtain⟨wc,T⟩:=G C;refine⟨_,h.r 0,_,_,_,_,_,_,_,_,_,_,h.rdt (l:=[_,_,_,_,_,_,_,_,_,_,_,_,_]) 0 rfl rfl,?_⟩;refine T5 wc T h λv f Y h=>⟨_,_,_,_,_,_,_,_,_,_,_,_,_,rfl,?_⟩
   refine h.al λb3 _ h=>?_
   refine h.append (m:=1) (ws:=cu ⟨uj e.number e.out,v,f⟩) slOy 4 rfl (h.ce_rd 0 rfl) rfl (sd _) (by omega) (by omega) λa5 c5 S h=>⟨_,_,_,rfl,?_⟩
   exact L _ _ _ _ (x _ _ _ _ (s _ _ _ _ (one ⟨uj e.number e.out,v,f⟩ _ _ _ _ t ⟨bB.sl (c:=f),h.sl_nc 1 rfl⟩ (h.o [1,3,4] 5))))
  .have C:=V2 C;have t:fh e=[]:=by unfold fh;grind
   exact L _ _ _ _ (x _ _ _ _ (s _ _ _ _ (fin ys Q' _ _ _ d (by grind) (by omega) B h.tl)))
 .have R:j=b.length:=by grind
  subst R;rw[VO]at w;exact k Q' ys _ _ _ d w B h
end
theorem AN{α:Type}:∀{l:List (Option α)} {i:Nat} {p:Int×Option α},p∈cQ i l->∃(k:Nat) (b:α),p=(((i+k:Nat):Int),some b)/\l[k]?=some (some b)
 | [],i,p,h=>by grind [cQ]
 | none::r,i,p,h=>by
  obtain⟨k,b,c,a⟩:=AN (l:=r) (i:=i+1) h;exact⟨k+1,b,by rw[c,show i+1+k=i+(k+1) by omega],by simpa using a⟩
 | some b::r,i,p,h=>by
  rcases V9.1 h with rfl|h
  .exact⟨0,b,rfl,rfl⟩
  .obtain⟨k,d,c,a⟩:=AN (l:=r) (i:=i+1) h;exact⟨k+1,d,by rw[c,show i+1+k=i+(k+1) by omega],by simpa using a⟩
theorem KA{Q:aD}{bl:List (Option Nat)}{sts:List (Option Str)}{k b:Nat}{s:Str}(c:bl[k]?=some (some b))(a:sts[k]?=some (some s)) :
  strsA Q bl sts=strA Q b s*strsA Q (bl.set k none) (sts.set k none):=by
 obtain⟨l1,e1⟩:=List.getElem?_eq_some_iff.1 c;obtain⟨l2,e2⟩:=List.getElem?_eq_some_iff.1 a;rw[oR (k:=k) (by grind) (by grind),WL,WL,<-e1,<-e2,Wx,Wx]
section
variable {F L:List aD}{H:aC}{K:KQ}{Q:aD}
theorem iI{A B:aD}:aA H ((A*B)::L)↔aA H (A::B::L):=by
 grind [aA,star]
theorem T7{sb:Nat}{s:aV}(V:s.kept.length<=1000000)(ok:dh s)(h:aA H (stA Q sb s::F))(k:∀E H',aA H' (stA Q E s::stA Q sb s::F)->K (PA E 0) H'):CF 152 #[PA sb 0] H K:=by
 obtain⟨p,h⟩:=dx.1 h;refine OP ⟨_,_,_,_,_,_,_,_,_,_,_,_,_,_,_,_,_,_,_,_,_,_,h.rda 0 rfl,?_⟩;refine h.al λb _ h=>?_
 refine h.sta 0 rfl rfl λH1 h=>?_
 have h:aA _ (cellsA b (dI s p) 314::_):=h;refine⟨_,h.r 1,_,h.r 1,_,h.r 1,?_⟩;refine Ro.Clone_spec (h.o [2,3,0,1,4,5,6,7,8,9] 10) λy w H2 h=>⟨_,rfl,h.r 5,h.r 5,?_⟩
 refine Ma.Clone_spec (h.o [6,7,0,1,2,3,4,5,8,9,10,11] 12) λB t H3 h=>⟨_,rfl,h.r 9,?_⟩
 refine Qn (h.o [10,11,0,1,2,3,4,5,6,7,8,9,12,13] 14) λd n H4 h=>⟨_,rfl,?_⟩
 refine h.st 12 rfl rfl λ_ h=>h.st 12 rfl rfl λ_ h=>h.st 12 rfl rfl λ_ h=>⟨_,_,_,h.r 13,?_⟩
 refine Ij (l:=s.kept) h (λH h=>h.sl_rd 15 rfl) V λA x H8 h=>⟨_,_,_,rfl,?_⟩
 refine h.st 13 rfl rfl λ_ h=>?_
 refine h.alm I64ZZ ptV λb1 _ h=>?_
 refine h.st 14 rfl rfl λT h=>⟨_,h.r 15,?_⟩
 have h:=h.o [16,0,14,1,2,3,4,5,6,7,8,9,10,11,12,13,15,17] 18;obtain⟨bl,hm,h⟩:=lh.1 h;have h0:bl.length=s.sts.length:=by have:=congrArg List.length hm;grind
 obtain⟨R,Z⟩:∃R:List aD,R=slA 288 74 A s.kept.length x (aF cW s.kept)::shC d n s.cfg.cells::cB n s.cm::shC p.hb p.hm s.cfg.cells::cB p.hm s.cm::Ma.markC B t s.ms::Ma.mapF t s.ms.m::Ma.markC p.mb p.mm s.ms::Ma.mapF p.mm s.ms.m::
  Ro.rollC y w s.cfg.agents::Ro.mapE w s.rows::Ro.rollC p.rb p.rm s.cfg.agents::Ro.mapE p.rm s.rows::cellsA sb (dI s p) 314::slA 288 74 p.ka s.kept.length p.kc (aF cW s.kept)::F:=⟨_,rfl⟩
 have h:aA T (mapA I64ZZ ptV p.tm (cQ 0 bl)::strsA Q bl s.sts::mapA I64ZZ ptV b1 []::cellsA b (dI s ⟨y,w,B,t,d,n,b1,A,x⟩) 314::R):=by rw[Z];exact h
 refine h.rg_new rQ 0 rfl λU h5 h=>⟨U,rfl,?_⟩
 refine⟨λH'=>∃(dn:List (Int×Option Nat)) (c:List (Option Nat)) (a:List (Option Str)),c.map Option.isSome=a.map Option.isSome/\a.length=s.sts.length/\
  (∀k:Nat,k<s.sts.length->a[k]?=if ((k:Nat):Int)∈aL dn then s.sts[k]? else some none)/\
  aA H' (gy I64ZZ ptV U p.tm (cQ 0 bl) dn::strsA Q bl s.sts::mapA I64ZZ ptV b1 (cQ 0 c)::strsA Q c a::cellsA b (dI s ⟨y,w,B,t,d,n,b1,A,x⟩) 314::R),λH'=>(cQ 0 bl).length-pN H' U,
  ⟨[],List.replicate 64 none,List.replicate 64 none,by simp,by simp[ok.len],λk hk=>by rw[ok.len]at hk;grind,?_⟩,?_⟩
 .rw [zY];have e:cQ 0 (List.replicate 64 (none:Option Nat))=[]:=by decide
  rw[e];exact (jO h).o [1,2,3,0,4] 5
 rintro H2 ⟨dn,c,a,C,h3,O,h⟩;obtain⟨h6,h2⟩:=h.rg_count 0 rfl;refine h.rg_next 0 rfl (λhp=>.inl ⟨rfl,λW=>(by cases W),λ_=>?_⟩) λq Y h4 H3 h=>.inr ⟨_,_,rfl,λ_=>?_,λW=>(by cases W)⟩
 .
  have h:=h.rg_map 0 rfl;have e:a=s.sts:=by
   apply Wp;intro i
   rcases W0 i s.sts.length with hi|hi
   .rw [O i hi]
    split
    .rfl
    .rename_i hn;have hb:bl[i]?=some none:=by
      cases f:bl[i]? with
      | none=>grind
      | some o=>
       cases o with
       | none=>rfl
       | some b0=>
        exfalso;have hl:=tU (l:=bl) (i:=0) (k:=i);rw[f,VB]at hl;refine hn ?_;have:((i:Int),some b0)∈cQ 0 bl:=fL hl
        grind
     have:=qr hm i
     simp_all
   grind
  rw[e]at h C;subst Z;refine k b _ ?_;have h:=lh.2 ⟨bl,hm,h⟩;have h:=lh.2 ⟨c,C,h.o [1,2,0,3] 4⟩;have h:=dx.2 ⟨p,h.o [16,14,15,10,11,6,7,1,17,0,2,3,4,5,8,9,12,13] 18⟩;exact dx.2 ⟨⟨y,w,B,t,d,n,b1,A,x⟩,h.o [2,8,9,6,7,4,5,1,3,0] 10⟩
 .obtain⟨i,bk,rfl,f⟩:=AN Y;rw[VB]at *;have h1:i<s.sts.length:=by grind
  have u:∃st,s.sts[i]?=some (some st):=by
   have:=qr hm i;rw[f]at this
   cases hs:s.sts[i]? with
   | none=>grind
   | some o=>rw[hs]at this;cases o with
    | none=>cases this
    | some st=>grind
  obtain⟨st,u⟩:=u;have I:=ok.sts st (VW u);have J:=aA.rg_entry (P:=Tryz.prog) h 0 rfl;obtain⟨S,L⟩:=h.rg_count 0 rfl;rw[V6,WO]at S L;refine⟨_,_,J,?_⟩;have h:=h.o [1,0,2,3,4] 5;have h:aA H3 (strsA Q bl s.sts::_):=h;rw[KA f u]at h;have h:=iI.1 h;obtain⟨cb,hb,h⟩:=gM.1 h;refine⟨_,h.r 7,dX ⟨_,h.r 0,dX ⟨_,h.r 0,dX ⟨_,h.r 0,?_⟩⟩⟩⟩;refine P9 (h.o [1,0,2,3,4,5,6,7] 8) (by have:=I.ck.len;omega) λN H5 h=>⟨_,rfl,h.r 2,h.r 2,h.r 8,?_⟩
  refine Iw (h.o [3,0,1,2,4,5,6,7,8] 9) λd H6 h=>⟨_,rfl,h.r 4,h.r 9,?_⟩
  refine h.al λb3 _ h=>⟨h.r 10,?_⟩
  refine h.mp_update (v:=some b3) rQ ko2 8 rfl λH7 h=>⟨?_,?_⟩
  .have D:a[i]?=some none:=by grind
   have M:c[i]?=some none:=by
    have:=qr C i
    simp_all
   have G:i<c.length:=(List.getElem?_eq_some_iff.1 M).1;refine⟨dn++[((i:Int),some bk)],c.set i (some b3),a.set i (some st),?_,by grind,λj hj=>?_,?_⟩
   .simp_all
   .grind
   .have em:mapA I64ZZ ptV b1 (mset ((i:Nat):Int) (some b3) (cQ 0 c))=mapA I64ZZ ptV b1 (cQ 0 (c.set i (some b3))):=tk (by
     have:=wK (b:=b3) (l:=c) (i:=0) (k:=i) G
     grind)
    rw[<-oR (b:=b3) (s:=st) M D,KA f u];have h:=gM.2 ⟨N,d,h.o [0,3,1,2,4,5,6,7,8,9,10] 11⟩;have h:=gM.2 ⟨cb,hb,h.o [3,2,1,0,4,5,6,7,8] 9⟩;have h:=iI.2 (h.o [0,2,1,3,4,5,6] 7);have h:=iI.2 (h.o [1,4,0,2,3,5] 6);have h:=h.o [2,1,3,0,4] 5;rw[<-em];exact h
  .obtain⟨h7,_⟩:=h.rg_count 7 rfl
   grind
end
theorem ex_all:iD 64 []=0/\jT []=[]/\lq []=0:=by
 have a:bI []=[]:=by
  cases h:bI [] with
  | nil=>rfl
  | cons f r=>
   grind [List.mem_cons_self,ue]
 grind [AE,iD,jT]
abbrev LG:=List (Int×Rc)
theorem aN.subS{H:aC}{a:Xa}{cs:Xb}{k c sz:Nat}(h:aN H a cs)(n:cs.length<=c*sz):aN H (bM a k c sz) (cs.drop (k*sz)):=by
 intro j v m;have b:aI cs (k*sz+j)=Option.some v:=by
  grind [fJ]
 have i:=lI b;obtain⟨f,s⟩:=h _ _ b;have d:c≠k:=λe=>by grind
 have e:bM a k c sz=Option.some ⟨aW a,aT a+k*sz,none⟩:=by
  unfold bM;rw[Vz d,f,VT,fu];rfl
 rw[e];refine⟨rfl,?_⟩
 grind [aW,aT]
section
variable {H0:aC}{ca:Xa}{cc:Nat}{most:Int}
theorem T8{rows:DR}(ok:DRok rows){rs:List Ry}(h:rs.map Ry.rc=jT rows):rs.length<=rows.length/\∀r∈rs,r.y.bs.length<=1099511627776:=by
 refine⟨?_,λr a=>?_⟩
 .grind [Kt]
 .have hm:r.rc∈jT rows:=by grind
  obtain⟨f,b,hm⟩:=WK.1 hm;have:=((AC (VD _) (ok.bytes f)).1 _ hm).len
  grind [Ry.rc]
end
def oo:List Rc->Option (List Int)×List Rc
 | []=>(none,[])
 | r::l=>if (oo l).1=none then (if r.kind=0 then (some r.data,l) else (none,r::l)) else oo l
theorem AO:∀{l:List Rc},(∀r∈l,r.kind≠0)->oo l=(none,l)
 | [],_=>rfl
 | r::l,h=>by
  have b:=AO λx a=>h x (VF _ a)
  rw[oo,b,V1 rfl,Vz (h r VI)]
theorem KC{r:Rc}{l:List Rc}(b:r.kind=0)(h:∀x∈l,x.kind≠0):∀a:List Rc,oo (a++r::l)=(some r.data,l)
 | []=>by rw[VZ,oo,AO h,V1 rfl,V1 b]
 | x::a=>by
  have c:=KC b h a;rw[WF,oo,c,Vz (by simp)]
def bookA(bb rb:Nat)(saved:Bool)(num seg:Int):aD:=cellsA bb [.pointer (some ⟨rb,0,none⟩),.bool saved,.int .i64 num,.int .i64 seg] 217
structure qA(rs:List Ry)(fy:Fy)(has:Bool)(qs:List Ry):Prop where
 sub:∀q∈qs,q∈rs
 st:fy=Fy.z\/∃r∈rs,fy=r.y
 tell:oo (rs.map Ry.rc)=(if has then some fy.bs else none,qs.map Ry.rc)
 no:has=false->fy=Fy.z
theorem qA.none{rs:List Ry}(h:∀r∈rs,r.kind≠0):qA rs Fy.z false rs:=by
 refine⟨λq a=>a,.inl rfl,?_,λ_=>rfl⟩
 rw[AO]
 .rfl
 .intro r b;obtain⟨x,c,rfl⟩:=V8.1 b;exact h x c
theorem qA.at{rs:List Ry}{i:Nat}{r:Ry}(hi:rs[i]?=some r)(c:r.kind=0)(h:∀x∈rs.drop (i+1),x.kind≠0):qA rs r.y true (rs.drop (i+1)):=by
 obtain⟨j,k⟩:=List.getElem?_eq_some_iff.1 hi;refine⟨λq b=>W3 b,.inr ⟨r,VW hi,rfl⟩,?_,λf=>by cases f⟩
 have e:rs=rs.take i++r::rs.drop (i+1):=by grind [List.drop_eq_getElem_cons,List.take_append_drop]
 conv=>lhs;rw[e]
 rw[VS,VR,KC (r:=r.rc) c]
 .rfl
 .intro x d;obtain⟨y,a,rfl⟩:=V8.1 d;exact h y a
theorem T9{rows:DR}{s:RL}(f:∀x∈rows,x.1<s.seg){r:Rc}(c:r.ok) :
  jR rows s r=0/\jS rows s r={ s with next:=s.next+1 }/\mq rows s r=(rows++(cU r).map λb=>(s.seg,b))/\appN rows s r=s.next:=by
 have e:bytesOf s.seg rows=[]:=by
  grind [bytesOf,List.filter_eq_nil_iff]
 have a:oX rows s (cU r).length=false:=by
  grind [oX]
 have d:jR rows s r=0:=by
  unfold jR;rw[SU c,Vz (by decide),a];rfl
 have hs:jS rows s r={ s with next:=s.next+1 }:=by unfold jS;grind
 refine⟨d,hs,?_,?_⟩
 .unfold mq;grind
 .unfold appN;grind
section
variable {F L:List aD}{H:aC}{K:KQ}{rb db bb:Nat}{rows:DR}{syn:Nat}{s:RL}{most:Int}
theorem TA{a:Xa}{n c:Nat}(h:aA H F)(k:∀c0 H',aA H' (cellsA c0 [.slice a n c] 203::F)->K (.func (.func 231) #[] #[.pointer (some ⟨c0,0,none⟩)]) H'):CF 141 #[.slice a n c] H K:=by
 refine cM 141 28 ?_;exact h.al λb _ h=>k b _ h
theorem TB{l c0:Nat}{pa:Xa}{pc:Nat}{rs:List Ry}(w:rs.length<=1099511627776)(A:Nat->aD)(e:aD)
  (h:aA H (A rs.length::cellsA c0 [.slice pa rs.length pc] 203::slA 278 2 pa rs.length pc (aF fD rs)::F))
  (u:∀j (a:j<rs.length) (G:List aD) (b:aC) (d:KQ),aA b (A (j+1)::G)->(∀H2,aA H2 (A j::G)->d (.bool true) H2)->(∀H2,aA H2 (e::G)->d (.bool false) H2)->
   eK Tryz.prog l [.int .i64 j,.agg #[.int .i64 rs[j].kind,cF rs[j].y]] b d)
  (k:∀H',aA H' (A 0::cellsA c0 [.slice pa rs.length pc] 203::slA 278 2 pa rs.length pc (aF fD rs)::F)->K (.tuple #[]) H')
  (v:∀H',aA H' (e::cellsA c0 [.slice pa rs.length pc] 203::slA 278 2 pa rs.length pc (aF fD rs)::F)->K (.tuple #[]) H') :
  CF 231 #[.func (.yield l) #[] #[],.pointer (some ⟨c0,0,none⟩)] H K:=by
 refine cN 231 96300973186693524 [[(3,sI)]] ?_;have n:i64.wrap ((rs.length:Int)-1)=(rs.length:Int)-1:=aJ;refine⟨_,_,_,h.r 1,λi H'=>∃j:Nat,i=(j:Int)-1/\j<=rs.length/\aA H' (A j::cellsA c0 [.slice pa rs.length pc] 203::slA 278 2 pa rs.length pc (aF fD rs)::F),λi _=>(i+1).toNat,⟨rs.length,n,VD _,h⟩,?_⟩
 rintro i b ⟨j,rfl,a,h⟩;refine⟨λs=>?_,λs=>?_⟩
 .obtain⟨q,rfl⟩:∃q,j=q+1:=⟨j-1,by grind⟩;have eq:((q+1:Nat):Int)-1=(q:Int):=by omega
  rw[eq];have m:=h.sl_rd 2 rfl;refine⟨_,_,_,h.rd 1 rfl _,⟨by omega,by omega⟩,_,_,m.some rX (by omega) a,_,_,_,_,m.els rX a,?_⟩;refine u q a _ b _ h (λt f=>⟨true,rfl,λc=>(by cases c),λ_=>?_⟩) λt f=>⟨false,rfl,λ_=>v _ f,λc=>(by cases c)⟩
  conv=>whnf
  rw[aJ (x:=(q:Int)-1)]
  grind
 .obtain rfl:j=0:=by grind
  exact k _ h
theorem KD{a:Xa}{c:Nat}{d:List Ry}(h:aA H L)(j:∀H,aA H L->aN H a (aF fD d))(w:d.length<=1099511627776)
  (k:∀e f H',aA H' (slA 278 2 e d.length f (aF fD d)::L)->K (.slice e d.length f) H'):CF 142 #[.slice a d.length c] H K:=by
 refine cM 142 476 ⟨λn=>?_,λn=>?_⟩
 .have:a=none:=by simp_all
  subst this;have x:=nR (j H h);have:d=[]:=by
   cases d with
   | nil=>rfl
   | cons q r=>grind [kR]
  subst this;exact k none 0 H (h.sl_nil 278 2)
 .refine h.al λb v h=>?_
  have u:=j _ h.tl;have t:=aA.sl_pt (cs:=[]) h 2 0 rfl;refine aA.append (m:=d.length) slb54 t 0 rfl u (dT rX _) (kS Kx _) (by omega) (by omega) λe f H' s=>⟨_,_,_,rfl,?_⟩
  have i:aA H' (slA 278 2 e (0+d.length) f ([]++aF fD d)::L):=s;rw[VB,VZ]at i;have:=k e f H' i;rw[<-VB d.length]at this;exact this
def boA(b1 b2 b3 l:Nat)(R:Loop)(a:Xa)(c:Nat)(rs:List Ry)(j:Nat):aD:=
 star [pur (∀r∈rs.drop j,r.kind≠0),cellsA b1 [.slice a rs.length c] 203,cellsA b2 [.slice none 0 0,.bool false,.slice none 0 0] 205,cellsA b3 [.slice a rs.length c] 203,pt l (.loop R)]
def boX(b1 b2 b3 l:Nat)(R:Loop)(a:Xa)(c:Nat)(rs:List Ry):aD:=
 exS λp:Nat×Ry=>star [pur (rs[p.1]?=some p.2/\p.2.kind=0/\∀r∈rs.drop (p.1+1),r.kind≠0),cellsA b1 [.slice a rs.length c] 203,cellsA b2 [cF p.2.y,.bool true,.slice none 0 0] 205,
  cellsA b3 [.slice (bM a (p.1+1) c 2) (rs.length-(p.1+1)) (c-(p.1+1))] 203,pt l (.loop { R with state:=.done,pending:=some (.exit 0) })]
theorem TD{b1 b2 b3 j c:Nat}{a:Xa}{rs:List Ry}{d e:aC}{R:Loop}{G:List aD}{f:KQ}(A:rs.length<=1099511627776)(u:rs.length<=c)(i:j<rs.length)
  (h:aA e (boA b1 b2 b3 (d.size+1) R a c rs (j+1)::G)) (m:∀H2,aA H2 (boA b1 b2 b3 (d.size+1) R a c rs j::G)->f (.bool true) H2) (n:∀H2,aA H2 (boX b1 b2 b3 (d.size+1) R a c rs::G)->f (.bool false) H2) :
  Eu.y1 b1 b2 b3 d R [.int .i64 j,.agg #[.int .i64 rs[j].kind,cF rs[j].y]] e f:=by
 obtain⟨t,h⟩:=aA.consP h.open;have h:aA e (cellsA b1 [.slice a rs.length c] 203::cellsA b2 [.slice none 0 0,.bool false,.slice none 0 0] 205::cellsA b3 [.slice a rs.length c] 203::pt (d.size+1) (.loop R)::G):=h;have C:rs.drop j=rs[j]::rs.drop (j+1):=Wv i;unfold Eu.y1;refine⟨_,_,_,_,_,rfl,h.getO 3 rfl,?_⟩;refine h.al λb4 _ h=>h.st 0 rfl rfl λ_ h=>⟨h.getO 4 rfl,h.stl 4 rfl λv h=>⟨_,h.r 0,λb=>?_,λb=>?_⟩⟩
 .have k:rs[j].kind=0:=V3 b;refine⟨_,_,_,h.r 0,?_⟩;refine h.st 2 rfl rfl λ_ h=>h.st 2 rfl rfl λ_ h=>⟨_,_,_,h.r 1,?_⟩
  rw[aJ (x:=(j:Int)+1)];have s:((j:Int)+1).toNat=j+1:=by omega
  rw[s];refine⟨⟨by omega,by omega,by omega⟩,?_⟩;refine h.st 3 rfl rfl λw h=>⟨h.getO 4 rfl,n _ ?_⟩
  have h:=h.setO 4 rfl (.loop { R with state:=.done,pending:=some (.exit 0) });exact cy.2 ⟨(j,rs[j]),aA.shut [_,_,_,_,_] (aA.pur (h.o [1,2,3,4] 5) ⟨List.getElem?_eq_getElem i,k,t⟩)⟩
 .have k:rs[j].kind≠0:=V2 b;refine⟨h.getO 4 rfl,m _ ?_⟩;have h:=h.setO 4 rfl (.loop R);refine aA.shut [_,_,_,_,_] (aA.pur (h.o [1,2,3,4] 5) λr B=>?_)
  grind
theorem TE(ok:DRok rows)(Z:rows.length<=1099511627776)(h:aA H (diskX db rows syn::F))
  (k1:iD most rows=0->∀(rs s:List Ry) (M:Fy) (f:Bool) a c bb rb H',rs.map Ry.rc=jT rows->qA rs M f s->
   aA H' (bookA bb rb false 0 0::reelA rb db (opS most rows)::slA 278 2 a s.length c (aF fD s)::rowsR rs::diskX db rows syn::F)->
   K (.tuple #[.pointer (some ⟨bb,0,none⟩),.agg #[cF M,.bool f,.slice a s.length c],.int .i64 0]) H')
  (k2:iD most rows≠0->∀H',aA H' (diskX db rows syn::F)->K (.tuple #[.pointer none,.agg #[.slice none 0 0,.bool false,.slice none 0 0],.int .i64 (iD most rows)]) H') :
  CF 88 #[.pointer (some ⟨db,0,none⟩),.int .i64 most] H K:=by
 refine cL 88 (.r (.r (.seq (.r (.cond (.r .no) .no)) (.r (.r (.seq (.r (.blk (.rng [sI,.agg [.int .i64,.slice]] [none,(some (.exit 0))] (.r .reg) (.blk (.r (.cond (.r (.r .no)) .no)))))) (.r (.r .no)))))))) ?_;refine h.al λb V h=>?_
 refine Ti (F:=cellsA b [.slice none 0 0,.bool false,.slice none 0 0] 205::F) ok Z (h.o [1,0] 2) (λn rs a1 c1 rb H2 e h=>⟨_,_,_,_,_,rfl,?_⟩) λn H2 h=>⟨_,_,_,_,_,rfl,?_⟩
 .obtain⟨N,O⟩:=T8 ok e;have A:=h.sl_nc 1 rfl;refine h.al λb1 H3 h=>h.st 0 rfl rfl λW h=>⟨(λD=>by cases D),λ_=>?_⟩
  refine h.al λb2 Y h=>⟨_,_,_,h.r 1,?_⟩
  refine h.al λb3 H6 h=>h.st 0 rfl rfl λH7 h=>⟨_,_,_,h.r 2,?_⟩
  refine TA h λc0 d h=>⟨_,_,rfl,rfl,λR x w Q=>?_⟩
  have h:=h.rng R;have S:aA ((d.push (.deferred (some []))).push (.loop R)) (boA b1 b2 b3 (d.size+1) R a1 c1 rs rs.length::cellsA c0 [.slice a1 rs.length c1] 203::slA 278 2 a1 rs.length c1 (aF fD rs)::pt d.size (.deferred (some []))::reelA rb db (opS most rows)::rowsR rs::diskX db rows syn::cellsA b [.slice none 0 0,.bool false,.slice none 0 0] 205::F):=by
   refine aA.shut [_,_,_,_,_] (aA.pur ?_ ?_)
   .exact h.o [5,4,3,0,2,7,1,6,8,9,10] 11
   grind
  refine TB (by omega) (λj=>boA b1 b2 b3 (d.size+1) R a1 c1 rs j) (boX b1 b2 b3 (d.size+1) R a1 c1 rs) S (λj U G V K1 P T kx=>Q _ _ _ (TD (by omega) A U P T kx)) (λu h=>?_) λu h=>?_
  .obtain⟨t,h⟩:=aA.consP h.open;have h:aA u (cellsA b1 [.slice a1 rs.length c1] 203::cellsA b2 [.slice none 0 0,.bool false,.slice none 0 0] 205::cellsA b3 [.slice a1 rs.length c1] 203::pt (d.size+1) (.loop R)::cellsA c0 [.slice a1 rs.length c1] 203::slA 278 2 a1 rs.length c1 (aF fD rs)::pt d.size (.deferred (some []))::reelA rb db (opS most rows)::rowsR rs::diskX db rows syn::cellsA b [.slice none 0 0,.bool false,.slice none 0 0] 205::F):=h;rw[List.drop_zero]at t;refine⟨.ready,none,by decide,by rw[kT x w];exact h.getO 3 rfl,h.stl 3 rfl λC h=>Or.inl ⟨rfl,_,_,_,h.r 2,?_⟩⟩
   refine KD h (λH h=>h.sl_rd 5 rfl) (by omega) λa5 c5 J h=>⟨_,_,_,rfl,?_⟩
   refine h.st 2 rfl rfl λI h=>⟨_,_,_,_,_,_,_,h.q 2,?_⟩
   refine h.al λb5 B h=>⟨h.q 3,?_⟩
   refine h.st 12 rfl rfl λv h=>⟨h.getO 8 rfl,?_⟩
   have h:=h.setO 8 rfl (.deferred none);refine⟨_,_,_,_,_,_,_,h.q 12,?_⟩;exact k1 n rs rs Fy.z false a5 c5 b5 rb _ e (qA.none t) (h.o [0,9,1,10,11] 13)
  .obtain⟨p,h⟩:=cy.1 h;obtain⟨t,h⟩:=aA.consP h.open;obtain⟨i,r⟩:=p;obtain⟨hi,m,L⟩:=t;dsimp only at hi m L;have h:aA u (cellsA b1 [.slice a1 rs.length c1] 203::cellsA b2 [cF r.y,.bool true,.slice none 0 0] 205::cellsA b3 [.slice (bM a1 (i+1) c1 2) (rs.length-(i+1)) (c1-(i+1))] 203::pt (d.size+1) (.loop { R with state:=.done,pending:=some (.exit 0) })::cellsA c0 [.slice a1 rs.length c1] 203::slA 278 2 a1 rs.length c1 (aF fD rs)::pt d.size (.deferred (some []))::reelA rb db (opS most rows)::rowsR rs::diskX db rows syn::cellsA b [.slice none 0 0,.bool false,.slice none 0 0] 205::F):=h;refine⟨.done,some (.exit 0),by decide,h.getO 3 rfl,h.stl 3 rfl λC h=>Or.inr ⟨rfl,_,_,_,h.r 2,?_⟩⟩
   have E:rs.length-(i+1)=(rs.drop (i+1)).length:=by grind
   rw[E];refine KD h (λH h=>by
    have:=aN.subS (k:=i+1) (c:=c1) (sz:=2) (h.sl_rd 5 rfl) (by rw[dT rX];grind)
    rwa[ry rX]at this) (by grind) λa5 c5 J h=>⟨_,_,_,rfl,?_⟩
   refine h.st 2 rfl rfl λI h=>⟨_,_,_,_,_,_,_,h.q 2,?_⟩
   refine h.al λb5 B h=>⟨h.q 3,?_⟩
   refine h.st 12 rfl rfl λv h=>⟨h.getO 8 rfl,?_⟩
   have h:=h.setO 8 rfl (.deferred none);refine⟨_,_,_,_,_,_,_,h.q 12,?_⟩;exact k1 n rs (rs.drop (i+1)) r.y true a5 c5 b5 rb _ e (qA.at hi m L) (h.o [0,9,1,10,11] 13)
 .refine h.al λb1 H3 h=>h.st 0 rfl rfl λW h=>⟨λ_=>?_,λD=>by simp[n]at D⟩
  refine h.st 2 rfl rfl λY h=>⟨_,_,_,_,_,_,_,h.q 2,?_⟩
  exact k2 n _ (h.o [1] 3)
theorem TF{a:Xa}{n c:Nat}{kind:Int}{saved:Bool}{num seg:Int}(h:aA H (bookA bb rb saved num seg::F))
  (k1:kind<=0->K (.tuple #[.int .i64 (-1),.int .i64 11]) H)
  (k2:¬kind<=0->CF 267 #[.pointer (some ⟨rb,0,none⟩),.int .i64 kind,.slice a n c] H λu H'=>∃r r1:Int,u=.tuple #[.int .i64 r,.int .i64 r1]/\K (.tuple #[.int .i64 r,.int .i64 r1]) H') :
  CF 153 #[.pointer (some ⟨bb,0,none⟩),.int .i64 kind,.slice a n c] H K:=by
 refine cM 153 476 ?_;exact⟨λb=>k1 (V3 b),λb=>⟨_,h.r 0,k2 (V2 b)⟩⟩
theorem TG{a:Xa}{c:Nat}{parts:List Fy}{saved:Bool}{num seg:Int}(hs:s.ok)(M:s.seg<2147483647)(t:∀r∈rows,r.1<=s.seg)(S:rows.length<=549755813888)
  (h:aA H (bookA bb rb saved num seg::reelA rb db s::diskX db rows syn::F))
  (L:∀H,aA H F->aN H a (parts.map cF)) (T:∀H,aA H F->∀y∈parts,aN H y.a (y.bs.map U8)) (hb:aP (parts.flatMap Fy.bs)) (Q:parts.length<=1099511627776) (G:(parts.flatMap Fy.bs).length<=262144)
  (k:∀H',aA H' (bookA bb rb true s.next (s.seg+1)::reelA rb db { s with seg:=s.seg+1,next:=s.next+1 }::diskX db (rows++(cU ⟨0,parts.flatMap Fy.bs⟩).map λb=>(s.seg+1,b)) syn::F)->
   K (.tuple #[.int .i64 s.next,.int .i64 0]) H') :
  CF 174 #[.pointer (some ⟨bb,0,none⟩),.slice a parts.length c] H K:=by
 refine cN 174 0x112156123992511b421b1d1c [[(6,sI),(15,sI)]] ?_;have E:=hs.seg;have B:=hs.next;have f:∀j,((parts.take j).flatMap Fy.bs).length<=(parts.flatMap Fy.bs).length:=λj=>Ku _ _ _
 refine⟨λsize i H'=>∃j:Nat,i=j/\j<=parts.length/\size=(((parts.take j).flatMap Fy.bs).length:Nat)/\H'=H,λ_ i _=>parts.length-i.toNat,⟨0,rfl,VE _,rfl,rfl⟩,?_⟩
 rintro size i H' ⟨j,rfl,U,rfl,rfl⟩;refine⟨λN=>?_,λN=>?_⟩
 .have v:j<parts.length:=by grind
  have I:=(L _ h.tl.tl.tl).at v;have A:=A6 v;have D:=f (j+1);rw[A,V6]at D;have P:i64.wrap ((((parts.take j).flatMap Fy.bs).length:Int)+(parts[j].bs.length:Int))=(((parts.take (j+1)).flatMap Fy.bs).length:Nat):=by
   grind [aJ]
  refine⟨⟨by omega,by omega⟩,_,_,I.1,_,_,_,I.2,?_⟩;dsimp only
  conv=>whnf
  rw[P];refine⟨λO=>?_,λ_=>?_⟩
  .have:=V3 O;have:=f (j+1);omega
  .conv=>whnf
   rw[aJ (x:=(j:Int)+1)]
   grind
 .refine⟨_,h.r 0,?_⟩;refine Kp (F:=bookA bb rb saved num seg::diskX db rows syn::F) E (h.o [1,0,2] 3) (λt=>V0 t (by omega)) λ_ R h=>⟨_,_,rfl,(λt=>by cases t),λ_=>⟨_,h.r 1,?_⟩⟩
  have C:({ s with seg:=s.seg+1 }:RL).ok:=⟨by grind,hs.most,B,hs.syn⟩;have u:(⟨0,parts.flatMap Fy.bs⟩:Rc).ok:=⟨Wc 0,by grind,G,hb⟩;have e:=T9 (rows:=rows) (s:={ s with seg:=s.seg+1 }) (λx N=>by grind) u
  have J:=Kr (F:=bookA bb rb saved num seg::F) (a:=a) (c:=c) (kind:=0) (parts:=parts) (rb:=rb) (db:=db) (syn:=syn) (H:=R) (K:=λu1 d=>∃r2 r3:Int,u1=(.tuple #[(.int .i64 r2),(.int .i64 r3)])/\
   (((!decide (r3=0)))=true->K (.tuple #[(.int .i64 (-1)),(.int .i64 r3)]) d)/\
   (((!decide (r3=0)))=false->
   ∃v2:Xa,aM d bb 0=some (.pointer v2)/\
   ∃r4:Int,bO Tryz.prog 151 #[(.pointer v2)] d (.int .i64 r4)/\
   dJ d bb (0+1) [(.bool true)]/\
   ∀n:aC,n=ee d bb (0+1) [(.bool true)]->
   dJ n bb (0+2) [(.int .i64 r2)]/\
   ∀m:aC,m=ee n bb (0+2) [(.int .i64 r2)]->
   dJ m bb (0+3) [(.int .i64 r4)]/\
   ∀w:aC,w=ee m bb (0+3) [(.int .i64 r4)]->
   K (.tuple #[(.int .i64 r2),(.int .i64 0)]) w)) C S (h.o [0,2,1] 3) (λH h=>L H h.tl) (λH h=>T H h.tl) hb Q G
  rw[e.1,e.2.1,e.2.2.1,e.2.2.2]at J;refine J λH2 h=>⟨_,_,rfl,(λt=>by cases t),λ_=>⟨_,h.r 2,_,Ko h,?_⟩⟩
  refine h.st 2 rfl rfl λY h=>h.st 2 rfl rfl λV h=>h.st 2 rfl rfl λW h=>k _ ?_
  exact h.o [2,0,1] 3
theorem TH{saved:Bool}{num seg:Int}(i:rows.length<=1099511627776)(hs:syn<=rows.length)(h:aA H (bookA bb rb saved num seg::reelA rb db s::diskX db rows syn::F))
  (k0:saved=false->K (.int .i64 19) H)
  (k1:saved=true->(s.syn:Int)<=num->K (.int .i64 21) H)
  (k2:saved=true->¬(s.syn:Int)<=num->syn<rows.length->∀H',aA H' (bookA bb rb saved num seg::reelA rb db s::diskX db rows syn::F)->K (.int .i64 21) H')
  (k3:saved=true->¬(s.syn:Int)<=num->¬syn<rows.length->∀H',aA H' (bookA bb rb saved num seg::reelA rb db s::diskX db (ol seg rows) (ol seg rows).length::F)->K (.int .i64 0) H') :
  CF 173 #[.pointer (some ⟨bb,0,none⟩)] H K:=by
 refine cM 173 7644 ?_;refine⟨_,h.r 0,λf=>k0 (by grind),λf=>?_⟩
 have a:saved=true:=by grind
 refine⟨_,h.r 0,_,SY (h.o [1,0,2] 3),_,h.r 0,λb=>k1 a (V3 b),λb=>⟨_,h.r 0,_,h.r 0,?_⟩⟩
 have d:=V2 b;refine Tf (F:=bookA bb rb saved num seg::F) i hs (h.o [1,2,0] 3) (λc e h=>⟨_,rfl,k2 a d c _ (h.o [2,0,1] 3)⟩) λc e h=>⟨_,rfl,k3 a d c _ (h.o [2,0,1] 3)⟩
end
structure Opt where
 cfg:Cfg
 period:Int
 probes:Int
 segment:Int
 save:Int
abbrev nC(o:Opt):Xb:=[aB o.cfg.width,aB o.cfg.policy,aB o.cfg.most,aB o.cfg.lag,aB o.cfg.rho,aB o.cfg.trust,aB o.cfg.agents,aB o.cfg.cells,aB o.cfg.hold,aB o.period,aB o.probes,aB o.segment,aB o.save]
structure GAd where
 bb:Nat
 rb:Nat
 sb:Nat
 pv:Value
 pa:Xa
 pc:Nat
abbrev kB(o:Opt)(x:GAd)(n:Nat)(recs:Int):Xb:=[aB o.cfg.width,aB o.cfg.policy,aB o.cfg.most,aB o.cfg.lag,aB o.cfg.rho,aB o.cfg.trust,aB o.cfg.agents,aB o.cfg.cells,aB o.cfg.hold,aB o.period,aB o.probes,aB o.segment,aB o.save,
 PA x.bb 0,PA x.sb 0,x.pv,.slice x.pa n x.pc,aB recs]
theorem KE{s:aV}{r:Rp}(h:(cH s r).2.2=0):r.right=true:=by
 grind [cH]
theorem TI{s:aV}{r:Rp}(h:(cH s r).2.2≠0):(cH s r).1=s/\(cH s r).2.1=[]:=by
 unfold cH at h ⊢
 split
 .grind
 split
 .grind
 split
 .grind
 split
 .rename_i c b a d;rw[Vz c,Vz b,Vz a,V1 d]at h;unfold jz at h ⊢
  grind
 grind
theorem Rp.bytes_len(r:Rp):r.bytes.length<=100000:=by
 unfold Rp.bytes
 split
 .rename_i a;have b:=Rp.right_len a;have d:=dD [r.kind];have l1:=I2 r (cT r.kind);have lo:=zQ r.kind;have l2:=zS r.evs;have c:=dD [(r.evs.length:Int)]
  grind
 .simp
theorem Rp.bytes_by(r:Rp):aP r.bytes:=by
 unfold Rp.bytes
 split
 .refine dY (dY (dY (gK _) (kr λi _=>gK _)) ?_) (kr λe _=>wA e)
  split
  .exact gK _
  .exact nX
 .exact nX
theorem appE_rec{rows:DR}{s:RL}{r:Rp}(hs:s.seg<2147483647)(a:r.right=true):jR rows s ⟨r.kind,r.bytes⟩=0:=by
 have b:1<=r.kind/\r.kind<=7:=by
  unfold Rp.right at a
  grind
 have d:=Rp.bytes_len r;have c:gP r.kind r.bytes.length=0:=by
  unfold gP
  grind
 unfold jR
 grind
section
variable {F L:List aD}{H:aC}{K:KQ}{Q:aD}{gb db:Nat}{x:GAd}{o:Opt}{s:aV}{recs:Int}{ys:List Oy}{saved:Bool}{num seg:Int}{rl:RL}{rows:DR}{syn:Nat}
theorem KF{r:Rp}{a:Xa}{c:Nat}{evs:List Ev}(ok:dh s)(E:s.sunk<=4611686018427387903)(S:s.kept.length<=1000000)(j:oU Q F r a evs)
  (O:∀e∈(cH s r).2.1,e.kind=4->WC e.out.2/\e.out.1.ser.size<=1000000) (J:(cH s r).2.1.length<=1000000)
  (D:rl.ok) (t:rows.length<=549755813888) (A:rl.seg<2147483647) (L:0<=recs/\recs<=1000000000) (U:ys.length<=1000000000) (G:∀y∈ys,iG Q y)
  (h:aA H (Q::cellsA gb (kB o x ys.length recs) 213::stA Q x.sb s::slA 222 11 x.pa ys.length x.pc (aF cu ys)::bookA x.bb x.rb saved num seg::reelA x.rb db rl::diskX db rows syn::F))
  (k1:(cH s r).2.2≠0->∀Q' H',aH Q Q'->aA H' (Q'::cellsA gb (kB o x ys.length recs) 213::stA Q' x.sb s::slA 222 11 x.pa ys.length x.pc (aF cu ys)::bookA x.bb x.rb saved num seg::reelA x.rb db rl::diskX db rows syn::F)->K (I64ZZ (cH s r).2.2) H')
  (k2:(cH s r).2.2=0->∀Q' w pa pc H',aH Q Q'->w.map Oy.o=ys.map Oy.o++(cH s r).2.1.flatMap fh->(∀y∈w,iG Q' y)->
   aA H' (Q'::cellsA gb (kB o { x with pa:=pa,pc:=pc } w.length (recs+1)) 213::stA Q' x.sb (cH s r).1::slA 222 11 pa w.length pc (aF cu w)::bookA x.bb x.rb saved num seg::reelA x.rb db (jS rows rl ⟨r.kind,r.bytes⟩)::diskX db (mq rows rl ⟨r.kind,r.bytes⟩) syn::F)->K (I64ZZ 0) H') :
  CF 90 #[PA gb 0,.agg ⟨dH r a c⟩] H K:=by
 refine cN 90 0x11217491d21b111c [[(5,sP)]] ?_;refine h.al λb _ h=>⟨some ⟨x.sb,0,none⟩,h.r 2,some ⟨x.bb,0,none⟩,h.r 2,some ⟨x.rb,0,none⟩,h.r 5,?_⟩
 refine⟨_,Ko (h.o [6,0,1,2,3,4,5,7] 8),?_⟩;intro Jn Y;refine⟨λn=>V0 (V3 n) (by omega),λ_=>Y _ _ ?_⟩
 refine⟨_,_,_,_,_,_,_,_,_,_,_,_,_,_,h.q 0,?_⟩;have h:=h.o [1,3,0,2,4,5,6,7] 8;have B:oU Q (cellsA b (dH r a c) 169::cellsA gb (kB o x ys.length recs) 213::slA 222 11 x.pa ys.length x.pc (aF cu ys)::bookA x.bb x.rb saved num seg::reelA x.rb db rl::diskX db rows syn::F) r a evs:=
  ⟨j.eq,λH h=>j.rd H (h.o [] 6),j.labs,j.len,j.vals⟩
 refine RK ok E (by omega) B h λQ2 ea ec H2 i h=>⟨_,_,_,_,rfl,λn=>?_,λn=>?_⟩
 .have v:(cH s r).2.2≠0:=by grind
  have e1:=(TI v).1;rw[e1]at h;exact k1 v Q2 _ i (h.o [0,4,2,5,6,7,8] 9)
 have v:(cH s r).2.2=0:=by grind
 have M:=KE v;have Z:=appE_rec (rows:=rows) A M;have hk:1<=r.kind/\r.kind<=7:=by
  unfold Rp.right at M
  grind
 obtain⟨d,W⟩:∃d,(cH s r).2.1=d:=⟨_,rfl⟩;rw[W]at h O J k2 ⊢;have h0:=Rp.bytes_len r;refine⟨some ⟨x.bb,0,none⟩,h.r 4,_,h.r 3,_,_,_,_,_,_,_,_,_,_,_,_,_,_,h.q 3,?_⟩;refine Rh j.eq h ⟨λH h=>j.rd H (h.o [] 9),λe v H h=>((j.labs e v).sub i).at h 0 rfl⟩ (by have:=j.len;omega) λda dc H3 h=>⟨_,_,_,rfl,h.r 4,h.r 5,?_⟩
 refine h.al λb1 _ h=>⟨h.r 5,h.r 6,?_⟩
 have h:=h.o [8,9,10,0,1,2,3,4,5,6,7] 11;refine TF h (λV=>V0 V (by omega)) λ_=>?_
 have h:=h.o [1,2,0,3,4,5,6,7,8,9,10] 11;have f:([(⟨da,dc,r.bytes⟩:Fy)]:List Fy).flatMap Fy.bs=r.bytes:=by simp
 refine Kr (parts:=[⟨da,dc,r.bytes⟩]) (kind:=r.kind) D t h (λH h=>h.ce_rd 1 rfl) (λH h y k=>by rw[VH]at k;subst k;exact h.sl_rd 2 rfl) (by rw[f];exact Rp.bytes_by r) (by simp) (by grind) λH4 h=>⟨_,_,rfl,_,_,rfl,λn=>?_,λn=>?_⟩
 .rw [f,Z]at n;exact V0 n (by simp)
 rw[f]at h;refine h.st 9 rfl rfl ?_;intro H5 h;refine⟨_,h.r 9,?_⟩;refine h.st 9 rfl rfl ?_;intro T h;refine⟨_,_,_,h.r 9,?_⟩;have hw:i64.wrap (recs+1)=recs+1:=aJ;have h:aA T (_::_::_::_::_::Q2::slA 428 87 ea d.length ec (aF dw d)::_::_::cellsA gb (kB o x ys.length (i64.wrap (recs+1))) 213::slA 222 11 x.pa ys.length x.pc (aF cu ys)::F):=h;rw[hw]at h;have h:=h.o [5,6,7,9,10,2,0,1] 11;refine T6 J O h (λH h=>h.sl_rd 0 rfl) λN ws wa wc H7 u hm C h=>⟨_,_,_,rfl,h.r 4,?_⟩
 have P:ws.length<=1000000:=by
  have e1:ws.length=(d.flatMap fh).length:=by grind
  have:∀l:List Eff,(l.flatMap fh).length<=l.length:=by
   intro l
   induction l with
   | nil=>simp
   | cons e l ih=>
    rw[Wo,V6,VA]
    grind [fh]
  grind
 refine h.append (m:=ws.length) (ws:=aF cu ws) slOy 5 rfl (h.sl_rd 1 rfl) (dT AK _) (kS sd _) (by omega) (by omega) λpa pc H8 h=>⟨_,_,_,rfl,?_⟩
 refine h.st 4 rfl rfl ?_;intro R h;have e2:ys.length+ws.length=(ys++ws).length:=by grind
 have h:aA R (N::_::_::stA Q2 x.sb (cH s r).1::cellsA gb (kB o { x with pa:=pa,pc:=pc } (ys.length+ws.length) (recs+1)) 213::slA 222 11 pa (ys.length+ws.length) pc (aF cu ys++aF cu ws)::_):=h;rw[e2,<-gx]at h;have h:=h.o [0,4,3,5,6,7,8] 9;have I:=Aa u (h.o [2,0,1,3,4,5,6] 7);refine k2 v N (ys++ws) pa pc _ (i.trans u) (by grind) (λy k=>?_) (I.o [1,2,0,3,4,5,6] 7)
 rcases VJ.1 k with k|k
 .exact (G y k).sub (i.trans u)
 .exact C y k
end
def mA(o:Opt):Bool:=iZ o.cfg&&decide (1<=o.probes/\o.probes<=1024)&&decide (1<=o.period/\o.period<=1099511627776)&&decide (64<=o.segment/\o.segment<=1048576)&&decide (1<=o.save/\o.save<=1048576)
section
variable {F L:List aD}{H:aC}{K:KQ}{Q:aD}{o:Opt}
theorem KH(h:aA H F)(k:∀H',aA H' F->K (.bool (mA o)) H'):CF 87 #[.agg ⟨nC o⟩] H K:=by
 refine cM 87 284 ?_;refine h.al λb _ h=>⟨_,h.r 0,?_⟩
 have key:∀(r1:Int) H',(r1=0↔1<=o.probes/\o.probes<=1024)->aA H' F->
   K (.bool (((((((iZ o.cfg&&(decide (r1=0)))&&(decide (1<=o.period)))&&(decide (o.period<=1099511627776)))&&(decide (64<=o.segment)))&&(decide (o.segment<=1048576)))&&(decide (1<=o.save)))&&(decide (o.save<=1048576)))) H':=by
  intro r1 H' a h;have e:(((((((iZ o.cfg&&(decide (r1=0)))&&(decide (1<=o.period)))&&(decide (o.period<=1099511627776)))&&(decide (64<=o.segment)))&&(decide (o.segment<=1048576)))&&(decide (1<=o.save)))&&(decide (o.save<=1048576)))=mA o:=by
   unfold mA;rw[Wd];simp only[V4,V5];rw[a]
   constructor
   .rintro⟨⟨⟨⟨⟨⟨⟨h1,h2⟩,h3⟩,h4⟩,h5⟩,h6⟩,h7⟩,h8⟩;exact⟨⟨⟨⟨h1,h2⟩,h3,h4⟩,h5,h6⟩,h7,h8⟩
   .rintro⟨⟨⟨⟨h1,h2⟩,h3,h4⟩,h5,h6⟩,h7,h8⟩;exact⟨⟨⟨⟨⟨⟨⟨h1,h2⟩,h3⟩,h4⟩,h5⟩,h6⟩,h7⟩,h8⟩
  rw[e];exact k _ h
 refine J4 h (λf=>⟨_,_,rfl,?_⟩) λd pb i h=>⟨_,_,rfl,?_⟩
 .refine⟨_,_,_,_,_,_,_,_,_,h.q 0,Ad (c:=o.cfg) h λH2 h=>⟨_,rfl,_,λ_=>h.r 0,_,λ_=>h.r 0,_,λ_=>h.r 0,_,λ_=>h.r 0,_,λ_=>h.r 0,_,λ_=>h.r 0,?_⟩⟩
  exact key 11 _ (by omega) h.tl
 .refine⟨_,_,_,_,_,_,_,_,_,h.q 1,Ad (c:=o.cfg) h λH2 h=>⟨_,rfl,_,λ_=>h.r 1,_,λ_=>h.r 1,_,λ_=>h.r 1,_,λ_=>h.r 1,_,λ_=>h.r 1,_,λ_=>h.r 1,?_⟩⟩
  exact key 0 _ (by omega) h.tl.tl
end
theorem TJ(s:Eq):cw (gk s)=s:=by
 unfold cw;apply ByteArray.ext;apply Array.toList_inj.1;rw[strOfNums_data];unfold gk;apply WJ
 .simp
 simp_all
abbrev bL(l:List UInt8):Eq:=⟨l.toArray⟩
theorem jc(l:List UInt8):aR (bL l)=l:=by grind
theorem jW(s:Eq):bL (aR s)=s:=by
 grind
theorem uk{s t:Eq}(h:aR s=aR t):s=t:=by rw[<-jW s,<-jW t,h]
theorem oZ(s t:Eq):aR (s++t)=aR s++aR t:=by
 simp_all
theorem se(s:Eq)(i j:Nat):aR (s.extract i j)=((aR s).drop i).take (j-i):=by
 unfold aR
 simp_all
theorem KJ{c:UInt8}{a b:List UInt8}(h:c∉a):cI c (a++c::b)=a.length:=by
 unfold cI
 grind
theorem KK{c:UInt8}{a:List UInt8}(h:c∉a):cI c a=-1:=by
 unfold cI
 grind
theorem KM{c:UInt8}{s:Eq}{a b:List UInt8}(e:aR s=a++c::b)(h:c∉a):fe c s=(bL a,bL b,true):=by
 unfold fe;have hs:s.size=a.length+(b.length+1):=by grind [ko]
 rw[e,KJ h,pO];congr 1
 .apply uk;rw[se,e,jc];simp
 .congr 1;apply uk;rw[se,e,jc];have:((a.length:Int)).toNat+1=a.length+1:=by omega
  rw[this,<-List.drop_drop,List.drop_left,List.drop_one,List.tail_cons]
  grind [List.take_of_length_le]
theorem cutS_no{c:UInt8}{s:Eq}(h:c∉aR s):fe c s=(s,⟨#[]⟩,false):=by
 unfold fe;rw[KK h,Vz (by decide)]
theorem sufS_at{c:UInt8}{s:Eq}{a:List UInt8}(e:aR s=a++[c]):md c s=(bL a,true):=by
 unfold md;have hs:s.size=a.length+1:=by grind [ko]
 have b:s.extract (s.size-1) s.size=(⟨#[c]⟩:Eq):=by
  apply uk;rw[se,e,hs];simp
 rw[b,V1 (by simp;omega)];congr 1;apply uk;rw[se,e,jc,hs];simp
theorem join2(p q:List UInt8)(r:List (List UInt8)):Go.Lib.join (p::q::r) [44]=p++44::Go.Lib.join (q::r) [44]:=by
 grind [Go.Lib.join_cons,Go.Lib.joinTail]
theorem KN:∀{ps:List (List UInt8)} {n:Nat} {s:Eq},ps≠[]->(∀p∈ps,(44:UInt8)∉p)->ps.length<=n+1->aR s=Go.Lib.join ps [44]->il n s=ps.map bL
 | [],_,_,h,_,_,_=>V0 rfl h
 | [p],n,s,_,hp,_,e=>by
  have e:aR s=p:=by rw[e,Go.Lib.join_one]
  have a:(44:UInt8)∉aR s:=by grind
  have es:s=bL p:=by rw[<-e,jW]
  cases n with
  | zero=>grind [il]
  | succ n=>
   unfold il;rw[KK a,V1 (by decide),es];rfl
 | p::q::r,0,s,_,_,hl,_=>by simp at hl
 | p::q::r,n+1,s,_,hp,hl,e=>by
  have e:aR s=p++44::Go.Lib.join (q::r) [44]:=by rw[e,join2]
  have a:=hp p (VI ..);have hs:s.size=p.length+((Go.Lib.join (q::r) [44]).length+1):=by grind [ko]
  unfold il;rw[e,KJ a,nO];have e1:s.extract 0 ((p.length:Int)).toNat=bL p:=by
   apply uk;rw[se,e,jc];simp
  have e2:aR (s.extract (((p.length:Int)).toNat+1) s.size)=Go.Lib.join (q::r) [44]:=by
   rw[se,e,VL,<-List.drop_drop,List.drop_left,List.drop_one,List.tail_cons]
   grind [List.take_of_length_le]
  rw[e1,KN (n:=n) (by simp) (λx b=>hp x (VF _ b)) (by simpa using hl) e2]
  rfl
theorem AQ{c:UInt8}(h:nj c=true):c≠44/\c≠61/\c≠123/\c≠125:=by
 unfold nj lowC at h;refine⟨?_,?_,?_,?_⟩ <;> (rintro rfl;grind)
theorem valC_not{c:UInt8}(h:ld c=true):c≠44/\c≠61/\c≠123/\c≠125:=by
 unfold ld at h
 grind
theorem um{s:Eq}(h:jq s=true):∀c∈aR s,nj c=true:=by
 unfold jq at h
 grind
theorem AR{l:bg}(h:gF l=true):(∀c∈aR l.value,ld c=true)/\jq l.name=true:=by
 unfold gF at h
 grind
theorem un(l:bg):aR (dV l)=aR l.name++61::aR l.value:=by
 grind [dV,oZ]
theorem partL_no{l:bg}(h:gF l=true):(44:UInt8)∉aR (dV l):=by
 obtain⟨b,a⟩:=AR h;rw[un];simp only[VJ,V9,not_or];exact⟨λhm=>(AQ (um a _ hm)).1 rfl,by decide,λhm=>(valC_not (b _ hm)).1 rfl⟩
theorem KR:∀{ps:List (List UInt8)},(∀p∈ps,1<=p.length)->ps.length<=(Go.Lib.join ps [44]).length
 | [],_=>by simp
 | [p],h=>by grind [Go.Lib.join_one]
 | p::q::r,h=>by
  have b:=KR (ps:=q::r) λx a=>h x (VF _ a)
  rw[join2];simp only[VA,V6]at *;omega
theorem TK{labs:List bg}(c:∀l∈labs,gF l=true)(f:labs.length<=8):jN (labs.map dV)=some labs:=by
 have key:∀j,j<=labs.length->jN ((labs.take j).map dV)=some (labs.take j):=by
  intro j
  induction j with
  | zero=>intro _;rfl
  | succ j b=>
   intro e;have b:=b (by omega);have a:j<labs.length:=by omega
   rw[List.take_add_one,List.getElem?_eq_getElem a,Wj,VS];unfold jN at b ⊢;rw[List.foldl_append,b];show rL (some (labs.take j)) (dV labs[j])=_;have c:=c _ (V7 a);have d:(61:UInt8)∉aR labs[j].name:=λhm=>(AQ (um (AR c).2 _ hm)).2.1 rfl
   unfold rL;rw[KM (un labs[j]) d];dsimp only;rw[W7,V1 (by simp;omega),jW,jW]
 have:=key labs.length (VD _)
 grind
theorem KU{name:Eq}{labs:List bg}(h:df name labs=true):gH (dv name labs)=(name,labs,true):=by
 have e:=lX h;have a:(123:UInt8)∉aR name:=λhm=>(AQ (um e.named _ hm)).2.2.1 rfl
 unfold dv;rw[V1 h]
 split
 .rename_i f;subst f;unfold gH;rw[cutS_no a]
  grind
 .rename_i f;have i:aR (iV labs)=Go.Lib.join ((labs.map dV).map aR) [44]:=jc _;have e1:aR (((name++(⟨#[123]⟩:Eq))++iV labs)++(⟨#[125]⟩:Eq))=aR name++123::(aR (iV labs)++[125]):=by
   simp_all
  have j:fU (iV labs)=labs.map dV:=by
   have d:∀p∈(labs.map dV).map aR,(44:UInt8)∉p/\1<=p.length:=by
    intro p c;obtain⟨b,hb,rfl⟩:=V8.1 c;obtain⟨l,k,rfl⟩:=V8.1 hb;exact⟨partL_no (e.val l k),by grind [un]⟩
   have:=KR (ps:=(labs.map dV).map aR) λp c=>(d p c).2
   have:=KN (ps:=(labs.map dV).map aR) (n:=(iV labs).size) (s:=iV labs) (by grind) (λp c=>(d p c).1) (by grind [ko]) i
   grind [fU,List.map_congr_left]
  unfold gH;rw[KM e1 a];dsimp only;rw[V1 rfl,sufS_at (jc _)];dsimp only;rw[V1 rfl,jW,j,TK e.val e.len,jW]
  grind
def CH(c:Cl):Prop:=∀i,65<=i->c.h i=0
theorem evOkP_of{e:Pv}(h:jv e=true):(0<=e.stamp/\e.stamp<=4611686018427387903)/\df e.name e.labs=true:=by
 unfold jv at h
 grind
structure qB(o:Ot):Prop where
 wc:WC o.2
 rt:gD o.2=true
 ch:CH o.2
 win:0<=o.1.win/\o.1.win<=4611686018427387903
 ser:(gH o.1.ser).2.2=true
 size:o.1.ser.size<=5000
abbrev stepS(s:aV)(r:Rp):aV:=(cH s r).1
abbrev effS(s:aV)(r:Rp):List Eff:=(cH s r).2.1
theorem KV{c:Cfg}{now a ep first:Int}{evs:List Pv}{x:JS}:∀n,∀e∈(dE c now a ep first evs x n).2,e.kind=3
 | 0,e,h=>by cases h
 | n+1,e,h=>by
  rcases VJ.1 h with h|h
  .exact KV n e h
  .rw [VH]at h;rw[h];rfl
theorem TM{s:aV}{r:Rp}:∀e∈(jx s r).2,e.kind=3\/e.kind=2:=by
 unfold jx
 split
 .intro e a
  rcases VJ.1 a with h|h
  .exact .inl (KV _ e h)
  grind
 grind
theorem TN{s:aV}{a:Int}:∀e∈jy s a,e.kind=3:=by
 unfold jy
 split
 .intro e b;obtain⟨n,_,rfl⟩:=V8.1 b;rfl
 grind
theorem TO{s:aV}{r:Rp}:∀e∈(jz s r).2.1,e.kind=3\/e.kind=1:=by
 unfold jz
 split
 .grind
 split
 .intro e a
  rcases VJ.1 a with h|h
  .grind [TN]
  grind
 grind
theorem AS{s:aV}{r:Rp}{P:aV×List Eff×Int->Prop}(e:r.right=false->P (s,[],10))(d:r.right=true->fB s r≠0->P (s,[],fB s r))
  (k1:r.right=true->fB s r=0->r.kind=1->P ({ s with boots:=s.boots+1 },[],0))
  (k2:r.right=true->fB s r=0->r.kind=2->P (jz s r))
  (k3:r.right=true->fB s r=0->r.kind=3->P (ua s r,[],0))
  (k4:r.right=true->fB s r=0->r.kind=4->P ((jx s r).1,(jx s r).2,0))
  (k5:r.right=true->fB s r=0->r.kind=5->P (rT s r,[],0))
  (k6:r.right=true->fB s r=0->r.kind=6->P ((lk s r.nw).1,(lk s r.nw).2,0))
  (k7:r.right=true->fB s r=0->r.kind=7->P (ub s r,[],0)):P (cH s r):=by
 unfold cH
 split
 .rename_i h;exact e h
 rename_i a;have a:r.right=true:=by grind
 have c:=lm a
 split
 .rename_i h;exact d a h
 rename_i b;have b:fB s r=0:=by grind
 split
 .rename_i h;exact k1 a b h
 split
 .rename_i h;exact k2 a b h
 split
 .rename_i h;exact k3 a b h
 split
 .rename_i h;exact k4 a b h
 split
 .rename_i h;exact k5 a b h
 split
 .rename_i h;exact k6 a b h
 .rename_i q1 q2 q3 q4 q5 q6;exact k7 a b (by have:=c.kind;omega)
theorem uo{s:aV}{r:Rp}(b:r.kind≠1)(a:r.kind≠7)(h:fB s r=0):s.now<=(if r.kind=3 then r.sm.came else r.nw):=by
 unfold fB at h;rw[Vz b,Vz a]at h
 grind [tZ]
theorem KW{first:Int}{a:List Ot}:∀{n k:Nat} (b:k<(gN first a n).length),(gN first a n)[k]={ kind:=4,number:=first+k,out:=a.getD k Ot.z }
 | 0,k,b=>by grind [gN]
 | n+1,k,b=>by
  simp only[gN];rw[List.getElem_append]
  split
  .rename_i h;exact KW h
  .rename_i h;rw[qx]at h;have c:k<n+1:=by simpa[gN,qx] using b
   have:k=n:=by omega
   subst this;simp[qx]
theorem KX{α:Type}{p:α->Bool}:∀{l:List α},l.Pairwise (λx y=>p y=true->p x=true)->l.takeWhile p=l.filter p
 | [],_=>rfl
 | a::r,h=>by
  rw[Wl]at h;rw[List.takeWhile_cons,Wq]
  split
  .rw [KX h.2]
  .rename_i b;exact (List.filter_eq_nil_iff.2 λx d c=>b (h.1 x d c)).symm
theorem KY{p:Ky×Cl}:∀{l:List Ot} {m:CM},p∈kZ m l↔p∈m/\∀o∈l,o.1≠p.1
 | [],m=>by simp[kZ]
 | o::r,m=>by
  have a:=KY (p:=p) (l:=r) (m:=bD o.1 m);show p∈kZ (bD o.1 m) r↔_;rw[a,mU]
  grind
open  Go.Sort
theorem AT(x y:Ky):ij x y=!(ltOf kj) y x:=by rw[ltKy];rfl
theorem TR(c:List Ky):(ik c).Pairwise λx y=>ij x y=true:=by
 unfold ik;refine List.pairwise_mergeSort (le:=ij) (λx y z b a=>?_) (λx y=>?_) c
 .rw [AT]at *;simp only[Wa]at *;exact swoKy.ntrans z y x a b
 .rw [AT,AT]
  cases b:ltOf kj y x with
  | false=>rfl
  | true=>
   cases a:ltOf kj x y with
   | false=>rfl
   | true=>have:=swoKy.trans _ _ _ b a;rw[swoKy.irrefl]at this;cases this
theorem leKy_win{x y:Ky}(h:ij x y=true):x.win<=y.win:=by
 grind [ij]
theorem KZ(m:CM)(b:Int):iy m b=(bP m).filter λo=>decide (o.1.win<b):=by
 unfold iy;refine KX ?_;unfold bP;rw[List.pairwise_map];refine (TR _).imp λh a=>?_
 have:=leKy_win h
 grind
theorem TT{m:CM}{k:Ky}:(∃o∈bP m,o.1=k)↔k∈aL m:=by
 unfold bP
 constructor
 .rintro⟨o,ho,rfl⟩;obtain⟨a,b,rfl⟩:=V8.1 ho
  grind [qh]
 .intro h;exact⟨_,V8.2 ⟨k,(qh _).mem_iff.2 h,rfl⟩,rfl⟩
theorem TV{m:CM}{b:Int}{p:Ky×Cl}:p∈ni m b↔p∈m/\b<=p.1.win:=by
 unfold ni;rw[KY]
 constructor
 .rintro⟨h1,h2⟩;refine⟨h1,?_⟩;obtain⟨o,a,c⟩:=(TT (m:=m) (k:=p.1)).2 (V8.2 ⟨p,h1,rfl⟩)
  grind [KZ]
 .rintro⟨h1,h2⟩;refine⟨h1,λo a c=>?_⟩
  rw[KZ]at a
  grind
theorem rowE_set{rows:List En}{a:Int}{e:En}(c:0<=a)(b:a.toNat<rows.length):bE (rows.set a.toNat e) a=e:=by
 unfold bE
 grind
abbrev isV(t:Int):Prop:=-4611686018427387904<=t/\t<=4611686018427387903
theorem La{g:Gd}(a:g.ok){t:Int}(b:isV t):eZ g t=t/g.width:=by
 have d:1<=g.width:=a.1;have hb:isV (t/g.width):=by
  constructor
  .rw [Int.le_ediv_iff_mul_le (by omega)];omega
  .rcases Int.lt_or_le t 0 with h|h
   .have:t/g.width<0:=Int.ediv_neg_of_neg_of_pos h (by omega);omega
   .have:=Int.ediv_le_self g.width h;omega
 unfold eZ;rw[V1 a,Int.tdiv_eq_ediv,Int.tmod_eq_emod];have c:=Int.emod_nonneg t (show g.width≠0 by omega);have e:=Int.emod_lt_of_pos t (show 0<g.width by omega)
 by_cases hc:0<=t\/g.width ∣ t
 .rw [V1 hc,V1 hc,nO,aJ];omega
 .rw [Vz hc,Vz hc,pO,Int.sign_eq_one_of_pos (by omega),aJ (x:=t/g.width+1),aJ];omega
theorem meet2_of{x:Gp}{f n:Int}(h:(kb [x,⟨f,n⟩]).2=0):(kb [x,⟨f,n⟩]).1.lo<=(kb [x,⟨f,n⟩]).1.hi/\(kb [x,⟨f,n⟩]).1.hi<=n/\f<=(kb [x,⟨f,n⟩]).1.lo:=by
 unfold kb lT at h ⊢
 split at h
 .rename_i c;rw[V1 c];unfold lT at h ⊢
  split at h
  .rename_i b;rw[V1 b];unfold lT at h ⊢
   split at h
   .rename_i a;rw[V1 a]
    grind [meet2]
   grind
  grind
 grind
theorem Lb{ck:Ck}{fl:Fl}{now stamp:Int}(h:(cJ ck fl now stamp).2=0):(cJ ck fl now stamp).1.lo<=(cJ ck fl now stamp).1.hi/\(cJ ck fl now stamp).1.hi<=now/\fl.t<=(cJ ck fl now stamp).1.lo:=by
 unfold cJ at h ⊢
 split at h
 .grind
 rename_i b;rw[Vz b]
 split at h
 .simp at h
 rename_i a;rw[Vz a];exact meet2_of (Decidable.not_not.1 a)
theorem Lc{p:Ky×Cl}:∀{l m:CM},p∈kY l m->p∈l\/p∈m
 | [],m,h=>.inr h
 | q::r,m,h=>by
  rcases Lc (l:=r) (m:=mset q.1 q.2 m) h with h|h
  .grind
  .rcases oS h with rfl|h
   .grind
   grind
structure CelI(lo hi B:Int)(m:CM):Prop where
 win:∀p∈m,lo<=p.1.win/\p.1.win<=hi
 cnt:∀p∈m,1<=p.2.cer+p.2.pos/\p.2.cer+p.2.pos<=B
theorem TW(ms:MS)(a t:Int):(ms.raise a t).1.value=ms.value/\(ms.raise a t).1.now=ms.now:=by
 unfold MS.raise
 grind
theorem raise_fl{ms:MS}{a t n:Int}(h:∀p∈ms.m,p.2.t<=n)(d:t<=n):∀p∈(ms.raise a t).1.m,p.2.t<=n:=by
 unfold MS.raise
 split
 .exact h
 rename_i x c
 split
 .exact h
 intro p b
 rcases oS b with rfl|b
 .have:=h _ (fL c)
  grind
 grind
theorem TX{g:Gd}{x:Gp}(h:(du g x).1≠0\/True)(a:g.ok)(b:x.ok):du g x=(eZ g x.lo,eZ g x.hi,0):=by
 unfold du
 grind
structure OpenI(s:aV)(B:Int):Prop where
 b0:0<=B
 val:s.ms.value<=s.now
 cel:CelI (eZ s.cfg.gd s.ms.value) (eZ s.cfg.gd s.now) B s.cm
 fl:∀p∈s.ms.m,p.2.t<=s.now
 en:∀a,(bE s.rows a).time<=s.now
 ag:s.rows.countP (λe=>decide (0<e.epoch))<=s.cfg.agents
theorem AU:∀{l:List En} {i:Nat},(bi i l).length=l.countP λe=>decide (0<e.epoch)
 | [],i=>rfl
 | e::r,i=>by
  unfold bi;rw[List.countP_cons]
  split
  .rename_i h;rw[VA,AU (l:=r),V1 (by grind)]
  .rename_i h;rw[AU (l:=r),Vz (by grind)];rfl
theorem count_set{p:En->Bool}{x:En}:∀{l:List En} {k:Nat} (b:k<l.length),(l.set k x).countP p<=l.countP p+(if p l[k] then 0 else 1)
 | a::r,0,_=>by
  grind
 | a::r,k+1,h=>by
  grind
theorem open_ag{s:aV}{a:Int}{x:En}{b:List En}(ok:dh s)(n:s.rows.countP (λe=>decide (0<e.epoch))<=s.cfg.agents)(m:0<=a/\a<=63)(i:¬((bE s.rows a).epoch=0/\full s.cfg.agents s.rows))(g2:b=s.rows.set a.toNat x) :
  b.countP (λe=>decide (0<e.epoch))<=s.cfg.agents:=by
 have c:a.toNat<s.rows.length:=by rw[ok.rows.len];omega
 rw[g2];have h:=count_set (p:=λe=>decide (0<e.epoch)) (x:=x) c
 have d:bE s.rows a=s.rows[a.toNat]:=by
  unfold bE
  grind
 by_cases h4:0<s.rows[a.toNat].epoch
 .grind
 .rw [Vz (by grind)]at h;have f:=(ok.rows.at a).1;rw[d]at f;have k:¬full s.cfg.agents s.rows:=λj=>i ⟨by grind,j⟩
  unfold full at k
  grind [AU]
theorem Ld{lim n:Int}{m:FM}(hm:∀p∈m,p.2.t<=n)(a:0<=n):∀(b:List Int) (s:Int×Bool),s.1<=n->(iY lim m b s).1<=n
 | [],s,h=>h
 | k::r,s,h=>by
  refine Ld hm a r _ ?_;unfold nu
  split
  .cases hk:aK k m with
   | none=>grind [Fl.z]
   | some x=>simp only[Option.getD_some];exact hm _ (fL hk)
  .exact h
theorem open_new{c:Cfg}(ok:qv c):OpenI (cR c) 0 where
 b0:=Wc _
 val:=by have:=ok.lag;show -c.lag<=0;omega
 cel:=⟨λp b=>V0 b (by simp[cR]),λp b=>V0 b (by simp[cR])⟩
 fl:=λp b=>V0 b (by simp[cR,MS.new])
 en:=λa=>by
  unfold bE cR;dsimp only
  split
  .exact Wc _
  .rw [List.getElem?_replicate]
   split <;> exact Wc _
 ag:=by
  have:=ok.ag
  grind [cR,List.countP_replicate,En.z]
structure Rch(s:aV):Prop where
 ok:dh s
 sunk:s.sunk<=1099511627776
 mnow:0<=s.ms.now/\s.ms.now<=s.now
 val:s.ms.now-s.cfg.lag<=s.ms.value/\s.ms.value<=s.ms.now
 keys:∀a,(aK a s.ms.m).isSome=decide (0<(bE s.rows a).epoch)
 fl:∀p∈s.ms.m,p.2.t<=s.now
 rows:∀a,0<(bE s.rows a).epoch->(1<=(bE s.rows a).boot/\(bE s.rows a).boot<=1099511627776)/\0<=(bE s.rows a).time/\(bE s.rows a).time<=4611686018427387903
 ag:s.rows.countP (λe=>decide (0<e.epoch))<=s.cfg.agents
 cm:∀p∈s.cm,qB p
 kept:∀o∈s.kept,qB o
theorem rowE_ix{rows:List En}{k:Nat}(a:k<rows.length):bE rows (k:Int)=rows[k]:=by
 unfold bE
 grind
theorem Rch.str{s:aV}(R:Rch s){k:Nat}(b:k<64)(h:0<(s.rows[k]'(by rw[R.ok.rows.len];exact b)).epoch):∃st,s.sts[k]?=some (some st)/\io s (k:Int)=some st:=by
 obtain⟨st,a⟩:=(R.ok.reg k).2 ⟨_,List.getElem?_eq_getElem (by grind),h⟩;refine⟨st,a,?_⟩;unfold io
 grind
theorem Le{m:CM}{o:Ot}(h:o∈bP m):o∈m:=by
 unfold bP at h;obtain⟨k,a,rfl⟩:=V8.1 h;have a:=(qh _).mem_iff.1 a;unfold ii
 cases e:aK k m with
 | none=>grind [eB]
 | some c=>exact fL e
structure kC(o:Ot):Prop where
 ch:CH o.2
 win:0<=o.1.win/\o.1.win<=4611686018427387903
 ser:(gH o.1.ser).2.2=true
 size:o.1.ser.size<=5000
theorem qB.l{o:Ot}(h:qB o):kC o:=⟨h.ch,h.win,h.ser,h.size⟩
theorem kC.g{o:Ot}(h:kC o)(wc:WC o.2)(rt:gD o.2=true):qB o:=⟨wc,rt,h.ch,h.win,h.ser,h.size⟩
theorem CH.z:CH Cl.z:=λi _=>rfl
theorem CH.note{c:Cl}(h:CH c)(b:Bool):CH (fS c b).1:=by
 unfold fS
 split
 .exact CH.z
 split
 .split
  .exact CH.z
  .exact h
 .split
  .exact CH.z
  .exact h
theorem CH.add{c:Cl}(h:CH c){v:Int}(b:aG v):CH (jm c v).1:=by
 unfold jm
 split
 .exact CH.z
 split
 .exact CH.z
 split
 .exact CH.z
 split
 .exact CH.z
 rename_i a;intro i hi;dsimp only;have a:(iw c.h v).2=0:=Decidable.not_not.1 a;unfold iw at a ⊢
 split at a
 .simp at a
 rename_i e;rw[Vz e]
 split at a
 .simp at a
 rename_i d;rw[Vz d];have:=oN b;dsimp only;unfold fx;rw[nO];exact h i hi
theorem Lf{B:Nat}:∀{ps:List (List UInt8)},(∀p∈ps,p.length<=B)->(Go.Lib.join ps [44]).length<=(B+1)*ps.length
 | [],_=>by simp[Go.Lib.join_nil]
 | [p],h=>by grind [Go.Lib.join_one]
 | p::q::r,h=>by
  have b:=Lf (ps:=q::r) λx a=>h x (VF _ a)
  grind [join2,Nat.mul_succ]
theorem Lg{name:Eq}{labs:List bg}(h:df name labs=true):(dv name labs).size<=5000:=by
 have a:=lX h;have i:=tM a.named;unfold dv;rw[V1 h]
 split
 .omega
 .have e:=Lf (ps:=(labs.map dV).map aR) (B:=129) (by
   intro p c;obtain⟨b,hb,rfl⟩:=V8.1 c;obtain⟨l,f,rfl⟩:=V8.1 hb;have:=tN (a.val l f)
   grind [un,ko])
  rw[VP,VP]at e;have j:=a.len;rw[<-ko,oZ,oZ,oZ];have d:aR (iV labs)=Go.Lib.join ((labs.map dV).map aR) [44]:=jc _;simp only[V6,d];rw[ko]
  grind
structure SerG(ser:Eq):Prop where
 ok:(gH ser).2.2=true
 size:ser.size<=5000
theorem serG_of{e:Pv}(h:jv e=true):SerG (dv e.name e.labs):=by
 obtain⟨_,a⟩:=evOkP_of h;exact⟨by rw[KU a],Lg a⟩
theorem note_L{most first last:Int}{m:CM}{ser:Eq}(h:∀p∈m,kC p)(hs:SerG ser)(j:0<=first)(f:last<=4611686018427387903):∀p∈(jp most m first last ser).1,kC p:=by
 unfold jp
 split
 .exact h
 split
 .exact h
 split
 .exact h
 intro p b
 rcases Lc b with b|b
 .obtain⟨w,d,e1,e2,e3⟩:=zZ b;unfold bZ at d;obtain⟨i,a,rfl⟩:=V8.1 d;have a:=Wh.1 a;have e:CH (ii m ⟨first+(i:Int),ser⟩):=by
   unfold ii
   cases hm:aK (⟨first+(i:Int),ser⟩:Ky) m with
   | none=>exact CH.z
   | some c=>exact (h _ (fL hm)).ch
  exact⟨by rw[e2];exact e.note _,by grind,by rw[e1];exact hs.ok,by rw[e1];exact hs.size⟩
 .exact h p b
theorem count_L{m:CM}{k:Ky}{v:Int}(h:∀p∈m,kC p)(d:aG v):∀p∈(lW m k v).1,kC p:=by
 unfold lW
 split
 .exact h
 rename_i c b
 split
 .exact h
 intro p a
 rcases oS a with rfl|a
 .have:=h (k,c) (fL b);exact⟨this.ch.add d,this.win,this.ser,this.size⟩
 .exact h p a
structure MsJ(lim:Int)(ms ms':MS):Prop where
 now:ms'.now=ms.now
 value:ms'.value=ms.value
 keys:∀a,(aK a ms'.m).isSome=(aK a ms.m).isSome
 fl:∀p∈ms'.m,p.2.t<=lim
theorem Lh{now:Int}{ms:MS}{a t:Int}(h:∀p∈ms.m,p.2.t<=now)(c:t<=now):MsJ now ms (ms.raise a t).1:=by
 have r1:=TW ms a t;refine⟨r1.2,r1.1,λb=>?_,raise_fl h c⟩
 grind [MS.raise,oI]
theorem MsJ.trans{now:Int}{a b c:MS}(h:MsJ now a b)(d:MsJ now b c):MsJ now a c:=⟨d.now.trans h.now,d.value.trans h.value,λk=>(d.keys k).trans (h.keys k),d.fl⟩
theorem flOf_lo{ms:MS}(h:MOk ms)(a:Int):0<=(bQ ms a).t:=by
 unfold bQ
 cases e:aK a ms.m with
 | none=>exact Wc _
 | some x=>exact (h.rows _ (fL e)).2.1
theorem judgeS_J{c:Cfg}{now a:Int}{st:Str}{ms:MS}{cm:CM}{e:Pv}(b:c.gd.ok)(i:isT now)(hm:MOk ms)(s:jv e=true)(n:aG e.value)(f:∀p∈ms.m,p.2.t<=now)(j:∀p∈cm,kC p) :
  MsJ now ms (dN c now a st ms cm e).ms/\∀p∈(dN c now a st ms cm e).cm,kC p:=by
 have same:MsJ now ms ms:=⟨rfl,rfl,λ_=>rfl,f⟩
 unfold dN
 split
 .grind
 split
 .grind
 rename_i k d;have d:(cJ st.ck (bQ ms a) now e.stamp).2=0:=Decidable.not_not.1 (not_or.1 d).1;obtain⟨t1,t2,t3⟩:=Lb d;have h:=flOf_lo hm a;generalize cJ st.ck (bQ ms a) now e.stamp=T at *;have r:=Lh (a:=a) (t:=T.1.lo) f (by omega)
 split
 .grind
 have w:=TX (g:=c.gd) (x:=T.1) (.inr trivial) b t1;rw[w];dsimp only;have w0:0<=eZ c.gd T.1.lo:=by
  rw[La b (by unfold isV isT at *;omega)];exact Int.ediv_nonneg (by omega) (by have:=b.1;omega)
 have w1:eZ c.gd T.1.hi<=4611686018427387903:=by
  rw[La b (by unfold isV isT at *;omega)];have:=Int.ediv_le_self (a:=T.1.hi) c.gd.width (by omega)
  grind
 grind [note_L,serG_of,count_L]
theorem Li{c:Cfg}{now a ep first:Int}{evs:List Pv}{x:JS}(i:c.gd.ok)(d:isT now)(hm:MOk x.ms)(k:∀e∈evs,jv e=true/\aG e.value)(j:∀p∈x.ms.m,p.2.t<=now)(h:∀p∈x.cm,kC p):∀n,n<=evs.length->
  MOk (dE c now a ep first evs x n).1.ms/\MsJ now x.ms (dE c now a ep first evs x n).1.ms/\∀p∈(dE c now a ep first evs x n).1.cm,kC p
 | 0,_=>⟨hm,⟨rfl,rfl,λ_=>rfl,j⟩,h⟩
 | n+1,hl=>by
  obtain⟨i1,i2,i3⟩:=Li (ep:=ep) (first:=first) (a:=a) i d hm k j h n (by omega);have b:=k (evs.getD n Pv.z) (by rw[wh _ (by omega)];exact V7 _);have f:=judgeS_J (a:=a) (st:=(dE c now a ep first evs x n).1.st) (e:=evs.getD n Pv.z) i d i1 b.1 b.2 i2.fl i3;have hm:=Je (c:=c) (now:=now) (a:=a) (st:=(dE c now a ep first evs x n).1.st) (cm:=(dE c now a ep first evs x n).1.cm) (e:=evs.getD n Pv.z) i1;exact⟨hm.1,i2.trans f.1,f.2⟩
theorem Lj{lim:Int}{m:FM}:∀(a:List Int) (s:Int×Bool),lim<=s.1->lim<=(iY lim m a s).1
 | [],s,h=>h
 | k::r,s,h=>by
  refine Lj r _ ?_
  grind [nu]
theorem cmG{s:aV}(ok:dh s)(h:∀p∈s.cm,kC p):∀p∈s.cm,qB p:=λp a=>(h p a).g (ok.sh.wc p a) (ok.sh.rt p a)
theorem Rch.cl{s:aV}(R:Rch s):∀p∈s.cm,kC p:=λp a=>(R.cm p a).l
theorem Lk{c:Cfg}(ok:qv c):Rch (cR c) where
 ok:=newS_ok ok
 sunk:=by show (0:Int)<=_;decide
 mnow:=⟨Wc _,Wc _⟩
 val:=by have:=ok.lag;show (0:Int)-c.lag<=-c.lag/\-c.lag<=0;omega
 keys:=λa=>by
  have:bE (cR c).rows a=En.z:=by
   grind [bE,cR]
  rw[this];rfl
 fl:=λp b=>V0 b (by simp[cR,MS.new])
 rows:=λa h=>by
  grind [bE,cR,En.z]
 ag:=(open_new ok).ag
 cm:=λp b=>V0 b (by simp[cR])
 kept:=λp b=>V0 b (by simp[cR])
theorem Ll{s:aV}{r:Rp}(R:Rch s)(hv:∀e∈r.evs,aG e.value):Rch (stepS s r):=by
 have d:dh (stepS s r):=apply_ok R.ok hv;have ok:=R.ok;have h7:=R.mnow;have S:=R.val;unfold stepS at *;revert d;have j:∀{n:Int},s.now<=n->(0<=s.ms.now/\s.ms.now<=n)/\∀p∈s.ms.m,p.2.t<=n:=λh=>⟨by omega,λp A=>by have:=R.fl p A;omega⟩
 refine AS (P:=λq=>dh q.1->Rch q.1) (λ_ _=>R) (λ_ _ _=>R) (λ_ _ _ d=>⟨d,R.sunk,R.mnow,R.val,R.keys,R.fl,R.rows,R.ag,R.cm,R.kept⟩) (λB u C d=>?_) (λB u C d=>?_) (λB u C d=>?_) (λB u C d=>?_) (λB u C d=>?_) λB u C d=>?_
 .have v:=lm B;have i:=uo (by omega) (by omega) u;rw[nO]at i;obtain⟨u1,u2⟩:=j i;have T:=Jg (most:=s.cfg.agents) ok.rows r.ag r.bt r.nw;revert d;unfold jz
  split
  .exact λ_=>R
  rename_i K;have K:=Decidable.not_not.1 K;have hb:¬bad r.ag r.bt r.nw:=by
   intro hb;unfold cG at K
   grind
  split
  .rename_i u;intro d
   rcases T with ⟨-,g2,g3,g4,g5⟩|⟨g1,_⟩
   .have H:r.ag.toNat<s.rows.length:=by rw[ok.rows.len];grind
    have E:¬((bE s.rows r.ag).epoch=0/\full s.cfg.agents s.rows)/\(cG s.cfg.agents s.rows r.ag r.bt r.nw).2.1.time=r.nw/\(cG s.cfg.agents s.rows r.ag r.bt r.nw).2.1.boot=r.bt:=by
     unfold cG at u K ⊢
     grind
    have N:=(open_ag (s:=s) ok R.ag v.ag E.1 g2);generalize (cG s.cfg.agents s.rows r.ag r.bt r.nw)=G at *;have D:∀a,bE G.1 a=if a=r.ag then G.2.1 else bE s.rows a:=by
     intro a;rw[g2]
     by_cases e:a=r.ag
     .rw [V1 e,e,rowE_set v.ag.1 H]
     .rw [Vz e];unfold bE
      grind
    have hold:(fV s r.ag).now=s.ms.now/\(fV s r.ag).value=s.ms.value/\(∀p∈(fV s r.ag).m,p.2.t<=r.nw)/\aK r.ag (fV s r.ag).m=none/\∀a,a≠r.ag->aK a (fV s r.ag).m=aK a s.ms.m:=by
     unfold fV
     cases hs:io s r.ag with
     | none=>
      dsimp only;refine⟨rfl,rfl,u2,?_,λ_ _=>rfl⟩
      have C:=R.keys r.ag;have h0:¬0<(bE s.rows r.ag).epoch:=by
       intro h;have M:r.ag.toNat<64:=by grind
       have e1:((r.ag.toNat:Nat):Int)=r.ag:=by grind
       have e2:bE s.rows r.ag=s.rows[r.ag.toNat]:=by grind [rowE_ix]
       obtain⟨st,_,h2⟩:=R.str M (by grind)
       grind
      simp_all
     | some st=>
      dsimp only;unfold MS.leave
      split
      .grind
      .refine⟨rfl,rfl,λp A=>u2 p (mU.1 A).1,?_,λa ha=>?_⟩
       .dsimp only;rw[yv,V1 rfl]
       .dsimp only;rw[yv,Vz ha]
    obtain⟨o1,o2,o3,o4,o5⟩:=hold;have O:(fV s r.ag).join r.ag r.nw=({ fV s r.ag with m:=mset r.ag ⟨r.nw,false,false,false⟩ (fV s r.ag).m },0):=by
     unfold MS.join
     grind
    rw[O]at d ⊢;refine⟨d,R.sunk,by grind,by grind,λa=>?_,λp A=>?_,λa h=>?_,N,R.cm,R.kept⟩
    .dsimp only;rw[D,oI]
     by_cases e:a=r.ag
     .grind
     .rw [Vz e,Vz e,o5 a e];exact R.keys a
    .rcases oS A with rfl|A
     .grind
     grind
    .dsimp only at h ⊢;rw[D]at h ⊢
     by_cases e:a=r.ag
     .grind
     .rw [Vz e]at h ⊢;exact R.rows a h
   .rw [g1]at u;cases u
  .rename_i u;intro d
   rcases T with ⟨g1,_⟩|⟨-,g2,_⟩
   .exact V0 g1 u
   .rw [g2]at d ⊢;exact⟨d,R.sunk,u1,R.val,R.keys,u2,R.rows,R.ag,R.cm,R.kept⟩
 .have v:=lm B;have i:=uo (by omega) (by omega) u;rw[V1 C]at i;obtain⟨u1,u2⟩:=j i;obtain⟨st,y⟩:=nZ ok v u (.inl C);revert d;unfold ua;rw[y];intro d;have hh:∀b,(s.ms.hold r.ag b).1.now=s.ms.now/\(s.ms.hold r.ag b).1.value=s.ms.value/\(∀a,(aK a (s.ms.hold r.ag b).1.m).isSome=(aK a s.ms.m).isSome)/\∀p∈(s.ms.hold r.ag b).1.m,p.2.t<=r.sm.came:=by
   intro b;unfold MS.hold
   split
   .grind
   .rename_i x hx;refine⟨rfl,rfl,λa=>?_,λp A=>?_⟩
    .grind [oI]
    .rcases oS A with rfl|A
     .have:=u2 (r.ag,x) (fL hx);exact this
     grind
  obtain⟨h1,h2,h3,h4⟩:=hh (ke st.ck r.sm).1.held;refine⟨d,R.sunk,?_,?_,λa=>?_,h4,R.rows,R.ag,R.cm,R.kept⟩
  .grind
  .grind
  .dsimp only;rw[h3];exact R.keys a
 .have v:=lm B;have i:=uo (by omega) (by omega) u;rw[nO]at i;obtain⟨u1,u2⟩:=j i;obtain⟨st,y⟩:=nZ ok v u (.inr (.inl C));have J:=ok.sts st (VW y);have hb:=v.evs C;unfold kv at hb;simp only[V4,V5,VK]at hb;obtain⟨⟨U,Z⟩,⟨⟨h8,h6⟩,h5⟩,W⟩:=hb;have hm:=wy (s:=st.hs) (first:=r.nx) (items:=r.evs);have good:∀e∈(st.hs.offer r.nx r.evs).2.1,jv e=true/\aG e.value:=by
   intro e he
   rcases hm.1 e he with h|⟨q,h,rfl⟩
   .grind
   .exact (J.rows q h).2
  have O:=Li (c:=s.cfg) (now:=r.nw) (a:=r.ag) (ep:=r.ep) (first:=st.hs.next) (evs:=(st.hs.offer r.nx r.evs).2.1) (x:=⟨{ st with hs:=(st.hs.offer r.nx r.evs).1 },s.ms,s.cm⟩) ok.cfg.gd v.nw ok.ms good u2 R.cl _ (VD _);revert d;unfold jx;rw[y];dsimp only;unfold oT;generalize dE s.cfg r.nw r.ag r.ep st.hs.next (st.hs.offer r.nx r.evs).2.1 ⟨{ st with hs:=(st.hs.offer r.nx r.evs).1 },s.ms,s.cm⟩ (st.hs.offer r.nx r.evs).2.1.length=G at *;intro d;obtain⟨j1,w,j3⟩:=O;refine⟨d,R.sunk,?_,?_,λa=>?_,w.fl,R.rows,R.ag,cmG d j3,R.kept⟩
  .dsimp only at w ⊢;rw[w.now];exact u1
  .dsimp only at w ⊢;rw[w.now,w.value];exact R.val
  .dsimp only at w ⊢;rw[w.keys];exact R.keys a
 .have v:=lm B;have i:=uo (by omega) (by omega) u;rw[nO]at i;obtain⟨u1,u2⟩:=j i;obtain⟨st,y⟩:=nZ ok v u (.inr (.inr C));revert d;unfold rT;rw[y];dsimp only
  split
  .exact λd=>⟨d,R.sunk,u1,R.val,R.keys,u2,R.rows,R.ag,R.cm,R.kept⟩
  split
  .exact λd=>⟨d,R.sunk,u1,R.val,R.keys,u2,R.rows,R.ag,R.cm,R.kept⟩
  .rename_i Y;intro d;obtain⟨t1,t2,t3⟩:=Lb (Decidable.not_not.1 Y);have w:=Lh (a:=r.ag) (t:=(cJ st.ck (bQ s.ms r.ag) r.nw r.st).1.lo) u2 (by omega);refine⟨d,R.sunk,?_,?_,λa=>?_,w.fl,R.rows,R.ag,R.cm,R.kept⟩
   .dsimp only;rw[w.now];exact u1
   .dsimp only;rw[w.now,w.value];exact R.val
   .dsimp only;rw[w.keys];exact R.keys a
 .have v:=lm B;have i:=uo (by omega) (by omega) u;rw[nO]at i;obtain⟨u1,u2⟩:=j i;have I:=v.nw;have Q:=ok.ms.l1;have h9:=ok.lag;have V:s.ms.tick r.nw=({ s.ms with now:=r.nw,value:=maxI s.ms.value (iY (r.nw-s.ms.lag) s.ms.m (sortI (aL s.ms.m)) (r.nw-s.ms.lag,false)).1,m:=s.ms.m.map λp=>(p.1,jw (r.nw-s.ms.lag) p.2) },0):=by
   unfold MS.tick
   grind
  have f1:=Ld (lim:=r.nw-s.ms.lag) u2 I.1 (sortI (aL s.ms.m)) (r.nw-s.ms.lag,false) (by grind);have f2:=Lj (lim:=r.nw-s.ms.lag) (m:=s.ms.m) (sortI (aL s.ms.m)) (r.nw-s.ms.lag,false) (Wc _);revert d;unfold lk i8;rw[V];intro d;have L:∀p∈ni s.cm (eZ s.cfg.gd (maxI s.ms.value (iY (r.nw-s.ms.lag) s.ms.m (sortI (aL s.ms.m)) (r.nw-s.ms.lag,false)).1)),qB p:=λp A=>R.cm p (TV.1 A).1
  refine⟨d,R.sunk,⟨I.1,Wc _⟩,?_,λa=>?_,λp A=>?_,R.rows,R.ag,L,λo F=>?_⟩
  .grind
  .dsimp only;have:=zV (f:=λ(_:Int)=>jw (r.nw-s.ms.lag)) (k:=a) (m:=s.ms.m)
   rw[this,<-R.keys a]
   grind
  .obtain⟨q,hq,rfl⟩:=V8.1 A;exact u2 q hq
  .rcases VJ.1 F with F|F
   .exact R.kept o F
   .exact R.cm o (Le (Ac F))
 .revert d;unfold ub
  split
  .intro d;have v:=lm B;exact⟨d,by have:=v.nx;grind,R.mnow,R.val,R.keys,R.fl,R.rows,R.ag,R.cm,λo F=>R.kept o (W3 F)⟩
  .exact λ_=>R
theorem Rch.ser{s:aV}(R:Rch s):SerOk s:=⟨λp a=>(R.cm p a).size,λo b=>(R.kept o b).size⟩
namespace Al
def c0:Cfg:=⟨10,0,1000,100,100,2,4,40,8⟩
end Al
section
variable {F L:List aD}{H H0:aC}{K KP:KQ}{Q Q':aD}{sb:Nat}{s:aV}
theorem TY(h:aA H F)(k:∀H',aA H' F->K (.agg ⟨qq Al.c0⟩) H'):CF 30 #[] H K:=by
 refine cM 30 28 ?_;refine h.al λb _ h=>?_
 refine h.st 0 rfl rfl ?_;intro H2 h;exact⟨_,_,_,_,_,_,_,_,_,h.q 0,k _ h.tl⟩
theorem stB_len(ok:dh s)(ser:SerOk s)(c:s.kept.length<=900000):(stB s).length<=10000000000:=by
 have k:=Jq (s:=s);have j:=od (f:=gO s) (l:=bi 0 s.rows) (B:=345000) λp _=>wU ok p
 have b:=wH ok.rows;have h:=od (f:=ceB) (l:=bP s.cm) (B:=10100) λo a=>by
  obtain⟨q,d,e⟩:=Ai a;exact wV (wS ok.sh _ a) (by rw[<-e];exact ser.cm q d)
 have i:=od (f:=ceB) (l:=s.kept) (B:=10100) λo a=>wV (ok.kept o a) (ser.kept o a)
 have t:=wg s.cm;have m:=ok.sh.len;have n:=ok.sh.m2;have q1:=dD [(s.cm.length:Int)];have q2:=dD [(s.kept.length:Int)];have m1:345000*(bi 0 s.rows).length<=345000*64:=Wy _ b;have m2:10100*(bP s.cm).length<=10100*1024:=Wy _ (by omega);have m3:10100*s.kept.length<=10100*900000:=Wy _ c;unfold stB mi j4;simp only[V6,VA,VV]at *;omega
end
theorem Lm{c:Cfg}{now a ep first:Int}{evs:List Pv}{x:JS}:∀n,(dE c now a ep first evs x n).2.length=n
 | 0=>rfl
 | n+1=>by
  show ((dE c now a ep first evs x n).2++[_]).length=_;rw[V6,Lm n];rfl
theorem Ln{c:Cfg}{st:Str}(a:qw c st):st.hs.rows.length<=256:=by
 have d:=a.hs.rows.length;have b:=a.hs.most2;omega
theorem TZ{s:aV}{r:Rp}(ok:dh s)(h:r.evs.length<=100):(effS s r).length<=2000:=by
 unfold effS;refine AS (P:=λx=>x.2.1.length<=2000) (λ_=>by simp) (λ_ _=>by simp) (λ_ _ _=>by simp) (λ_ _ _=>?_) (λ_ _ _=>by simp) (λ_ _ _=>?_) (λ_ _ _=>by simp) (λ_ _ _=>?_) (λ_ _ _=>by simp)
 .unfold jz
  split
  .simp
  split
  .have:(jy s r.ag).length<=256:=by
    unfold jy
    split
    .rename_i st c;have hm:some st∈s.sts:=by
      grind [io]
     have:=Ln (ok.sts st hm)
     grind
    .simp
   grind
  .simp
 .dsimp only;unfold jx
  split
  .rename_i st a;have b:=Ln (ok.sts st (VW a))
   grind [It,oT,Lm]
  .simp
 .dsimp only;unfold lk;dsimp only;rw[qx];unfold i8;have b:(iy s.cm (eZ s.cfg.gd (s.ms.tick r.nw).1.value)).length<=(bP s.cm).length:=by grind [iy,List.takeWhile_sublist]
  have f:(bP s.cm).length=s.cm.length:=by unfold bP;rw[VP,vZ];grind
  have d:=ok.sh.len;have e:=ok.sh.m2;omega
theorem Ua{c:Cfg}{xs:List Rx}(a:iZ c=true)(b:grR c xs=false):c.cells.toNat<=200:=by
 have e:=(wT a);have d:1<=c.cells/\c.cells<=1024:=by
  unfold iZ at a
  grind
 grind [grR,grC]
theorem nD{H0 H:aC}{Q:aD}{F:List aD}(hs:aH (old H0) Q)(h:aA H (Q::F)):cV H0 H:=(KG.old H0).sub hs H F h
structure Gg where
 o:Opt
 s:aV
 p:Pb
 pend:List Ou
 recs:Int
 saved:Bool
 num:Int
 seg:Int
 rl:RL
 rows:DR
 syn:Nat
def di(g:Gg)(r:Rp):Gg×Int:=
 if (cH g.s r).2.2≠0 then (g,(cH g.s r).2.2) else
 ({ g with s:=(cH g.s r).1,pend:=g.pend++(cH g.s r).2.1.flatMap fh,recs:=g.recs+1,rl:=jS g.rows g.rl ⟨r.kind,r.bytes⟩,rows:=mq g.rows g.rl ⟨r.kind,r.bytes⟩ },0)
structure jd(g:Gg):Prop where
 R:Rch g.s
 kept:g.s.kept.length<=800000
 rl:g.rl.ok
 rows:g.rows.length<=549755813888
 seg:g.rl.seg<2147483647
 recs:0<=g.recs/\g.recs<=1000000000
 pend:g.pend.length<=1000000000
 prb:mj g.p
structure GA where
 x:GAd
 pb:Nat
 ys:List Oy
def gateA(Q:aD)(gb db:Nat)(g:Gg):aD:=exS λy:GA=>star [pur (y.x.pv=PA y.pb 0/\y.ys.map Oy.o=g.pend/\∀z∈y.ys,iG Q z),cellsA gb (kB g.o y.x y.ys.length g.recs) 213,stA Q y.x.sb g.s,
 slA 222 11 y.x.pa y.ys.length y.x.pc (aF cu y.ys),bookA y.x.bb y.x.rb g.saved g.num g.seg,reelA y.x.rb db g.rl,diskX db g.rows g.syn,prbA y.pb g.p]
section
variable {F L:List aD}{H:aC}{K:KQ}{Q:aD}{gb db:Nat}{g:Gg}
theorem iq:aA H (gateA Q gb db g::F)↔∃(x:GAd) (pb:Nat) (ys:List Oy),x.pv=PA pb 0/\ys.map Oy.o=g.pend/\(∀z∈ys,iG Q z)/\
  aA H (cellsA gb (kB g.o x ys.length g.recs) 213::stA Q x.sb g.s::slA 222 11 x.pa ys.length x.pc (aF cu ys)::bookA x.bb x.rb g.saved g.num g.seg::reelA x.rb db g.rl::diskX db g.rows g.syn::prbA pb g.p::F):=by
 unfold gateA;rw[cy]
 constructor
 .rintro⟨y,h⟩;obtain⟨a,h⟩:=nM.1 (aA.open h);exact⟨y.x,y.pb,y.ys,a.1,a.2.1,a.2.2,h⟩
 .rintro⟨x,pb,ys,h1,h2,h3,h⟩;exact⟨⟨x,pb,ys⟩,aA.shut [_,_,_,_,_,_,_,_] (h.pur ⟨h1,h2,h3⟩)⟩
theorem qC{A B:aD}(h:aA H (B::A::F)):aA H (A::B::F):=h.o [1,0] 2
theorem Lo{s:aV}{r:Rp}(R:Rch s)(j:∀e∈r.evs,aG e.value):(∀e∈(cH s r).2.1,e.kind=4->WC e.out.2/\e.out.1.ser.size<=1000000)/\(cH s r).2.1.length<=1000000:=by
 constructor
 .refine AS (P:=λq=>∀e∈q.2.1,e.kind=4->WC e.out.2/\e.out.1.ser.size<=1000000) (λ_ e a=>V0 a (by simp)) (λ_ _ e a=>V0 a (by simp)) (λ_ _ _ e a=>V0 a (by simp)) (λ_ _ _ e a d=>?_) (λ_ _ _ e a=>V0 a (by simp)) (λ_ _ _ e a d=>?_) (λ_ _ _ e a=>V0 a (by simp)) (λ_ _ _ e a d=>?_) (λ_ _ _ e a=>V0 a (by simp))
  .grind [TO]
  .grind [TM]
  .obtain⟨q,c,rfl⟩:=Wu a;have c:q<(gN s.next (i8 s r.nw) (i8 s r.nw).length).length:=c;have b:q<(i8 s r.nw).length:=by grind [qx]
   have i:(gN s.next (i8 s r.nw) (i8 s r.nw).length)[q].out=(i8 s r.nw)[q]:=by
    grind [KW]
   have hm:(i8 s r.nw)[q]∈s.cm:=Le (Ac (V7 b));have f:=R.cm _ hm;show WC (gN s.next (i8 s r.nw) (i8 s r.nw).length)[q].out.2/\(gN s.next (i8 s r.nw) (i8 s r.nw).length)[q].out.1.ser.size<=1000000;rw[i];have:=f.size;exact⟨f.wc,by omega⟩
 .cases hR:r.right with
  | false=>
   have:(cH s r).2.1=[]:=by unfold cH;grind
   grind
  | true=>
   have h:=Rp.right_len hR;have:(cH s r).2.1.length<=2000:=TZ R.ok (by omega);omega
theorem Lp{r:Rp}{a:Xa}{c:Nat}{evs:List Ev}(ok:jd g)(b:oU Q F r a evs)(h:aA H (Q::gateA Q gb db g::F))
  (k:∀Q' H',aH Q Q'->aA H' (Q'::gateA Q' gb db (di g r).1::F)->K (I64ZZ (di g r).2) H'):CF 90 #[PA gb 0,.agg ⟨dH r a c⟩] H K:=by
 obtain⟨x,pb,ys,e1,e2,e3,h⟩:=iq.1 (h.o [1,0] 2);have m:ys.length=g.pend.length:=by grind
 have f:=Lo (r:=r) ok.R b.vals;have d:oU Q (prbA pb g.p::F) r a evs:=⟨b.eq,λH h=>b.rd H h.tl,b.labs,b.len,b.vals⟩
 have h:=h.o [7,0,1,2,3,4,5,6] 8;refine KF ok.R.ok (by have:=ok.R.sunk;omega) (by have:=ok.kept;omega) d f.1 f.2 ok.rl ok.rows ok.seg ok.recs (by have:=ok.pend;omega) e3 h (λi Q' H' hs h=>?_) λi Q' j pa pc H' hs hm e h=>?_
 .unfold di at k;rw[V1 i]at k;refine k Q' _ hs ?_;have h:=h.o [1,2,3,4,5,6,7,0] 8;exact qC (iq.2 ⟨x,pb,ys,e1,e2,λz n=>(e3 z n).sub hs,h⟩)
 .unfold di at k;rw[Vz (by grind)]at k;refine k Q' _ hs ?_;have h:=h.o [1,2,3,4,5,6,7,0] 8;exact qC (iq.2 ⟨{ x with pa:=pa,pc:=pc },pb,j,e1,by rw[hm,e2],e,h⟩)
def sunkR(next:Int):Rp:=⟨7,0,0,0,next,0,0,Smp.z,[]⟩
def eJ(now:Int):Rp:=⟨6,0,0,0,0,0,now,Smp.z,[]⟩
theorem recN{r:Rp}(h:r.evs=[]):oU Q F r none []:=⟨by rw[h];rfl,λH _=>fK H none,λe a=>V0 a (by simp),by simp,λe a=>by rw[h]at a;cases a⟩
theorem Ub(ok:jd g)(h:aA H (gateA Q gb db g::F))(k:∀sb H',aA H' (stA Q sb g.s::gateA Q gb db g::F)->K (PA sb 0) H'):CF 171 #[PA gb 0] H K:=by
 obtain⟨x,pb,ys,e1,e2,e3,h⟩:=iq.1 h;refine cM 171 28 ⟨some ⟨x.sb,0,none⟩,h.r 0,?_⟩;have h:=h.o [1,0,2,3,4,5,6] 7;refine T7 (by have:=ok.kept;omega) ok.R.ok h λsb a h=>⟨_,rfl,k sb _ ?_⟩
 have h:=h.o [2,1,3,4,5,6,7,0] 8;exact qC (iq.2 ⟨x,pb,ys,e1,e2,e3,h⟩)
def jX(f:Fq)(agent now asked:Int):Rp:=
 if f.kind=1 then ⟨2,agent,f.ep,f.bt,0,0,now,Smp.z,[]⟩ else
 if f.kind=4 then ⟨3,agent,f.ep,0,0,0,0,⟨asked,f.got,f.sent,now⟩,[]⟩ else
 if f.kind=5 then ⟨4,agent,f.ep,0,f.next,0,now,Smp.z,f.evs⟩ else ⟨5,agent,f.ep,0,f.next,f.stamp,now,Smp.z,[]⟩
def lu(g:Gg)(f:Fq)(agent now:Int):Gg×Int:=
 if ¬(f.kind=1\/f.kind=4\/f.kind=5\/f.kind=7) then (g,16) else
 if f.ag≠agent then (g,10) else
 if f.kind=4 then
  if (ff g.p agent f.ep f.bt f.ct).2.1≠0 then ({ g with p:=(ff g.p agent f.ep f.bt f.ct).2.2 },(ff g.p agent f.ep f.bt f.ct).2.1)
  else di { g with p:=(ff g.p agent f.ep f.bt f.ct).2.2 } (jX f agent now (ff g.p agent f.ep f.bt f.ct).1)
 else di g (jX f agent now 0)
def mB(g:Gg)(agent now:Int)(bs:List Int):Gg×Int:=match gr bs with
 | .error e=>(g,e)
 | .ok f=>lu g f agent now
theorem ansP_ok{p:Pb}(h:mj p)(ag ep n0 n1:Int):mj (ff p ag ep n0 n1).2.2:=by
 unfold ff
 split
 .exact h
 .split
  .exact h
  .split
   .exact h
   .split
    .exact h
    .refine⟨h.count,h.most,?_,h.last,h.boot⟩;have:=h.out
     grind
theorem uq{Q':aD}(hs:aH Q Q')(h:aA H (gateA Q gb db g::F)):aA H (gateA Q' gb db g::F):=by
 obtain⟨x,pb,ys,e1,e2,e3,h⟩:=iq.1 h;have h:=Aa hs (h.o [1,0,2,3,4,5,6] 7);exact iq.2 ⟨x,pb,ys,e1,e2,λz a=>(e3 z a).sub hs,h.o [1,0,2,3,4,5,6] 7⟩
theorem Lq:∀{n:Nat} {s s':RS} {l:List Pv},jV n s=.ok (l,s')->∀e∈l,aG e.value
 | 0,s,s',l,h=>by cases h;simp
 | n+1,s,s',l,h=>by
  unfold jV at h
  split at h
  .cases h
  .rename_i ws s1 c
   split at h
   .cases h
   .rename_i v s2 b
    cases h
    intro e a
    rcases VJ.1 a with a|a
    .exact Lq c e a
    .rw [VH]at a;subst a;unfold evQ okR at b
     split at b
     .cases b
     .cases b
      exact zr _
theorem Lr{bs:List Int}{f:Fq}(h:gr bs=.ok f):iA f=true:=by
 unfold gr at h
 split at h
 .cases h
 split at h
 .cases h
 unfold oY at h
 split at h
 .cases h
 split at h
 .cases h
 unfold endQ at h
 grind
theorem Ls{bs:List Int}{f:Fq}(h:gr bs=.ok f):∀e∈f.evs,aG e.value:=by
 unfold gr at h
 split at h
 .cases h
 split at h
 .cases h
 unfold oY at h
 split at h
 .cases h
 split at h
 .cases h
 rename_i kd s1 i x2 vs s2 d;unfold endQ at h
 split at h
 .cases h
 rename_i f' s3 a
 split at h
 .cases h
 split at h
 .cases h
  obtain⟨a1,a2,a3,a4,a5⟩:=xd (aU kd) vs { kind:=kd };unfold om at a
  split at a
  .split at a
   .cases a
   .rename_i l s4 c
    cases a
    unfold evsQ at c
    split at c
    .cases c
    .exact Lq c
  split at a
  .split at a
   .cases a
   .unfold okR at a
    split at a
    .cases a
    .cases a
     intro e b;dsimp only at b;rw[a2]at b
     cases b
  .cases a
   intro e b;rw[a2]at b
   cases b
 .cases h
theorem Uc{agent now:Int}{a:Xa}{c:Nat}{bs:List Int}(ok:jd g)(h:aA H (Q::gateA Q gb db g::F))(ha:∀H,aA H (Q::F)->aN H a (bs.map U8))(hb:aP bs)(t:bs.length<=c)
  (k:∀Q' H',aH Q Q'->aA H' (Q'::gateA Q' gb db (mB g agent now bs).1::F)->K (I64ZZ (mB g agent now bs).2) H') :
  CF 167 #[PA gb 0,I64ZZ agent,I64ZZ now,.slice a bs.length c] H K:=by
 refine cN 167 0x11d1215174174174134cd2171d49c [[],[],[],[]] ?_;refine AH h (λH h=>ha H (h.o [0] 2)) hb t ?_
 unfold mB at k
 cases hd:gr bs with
 | error e=>
  rw[hd]at k;intro Q' H1 j hs h;refine⟨_,_,_,_,_,_,_,_,_,_,_,_,_,_,_,_,_,_,_,_,_,rfl,h.al λb _ h=>?_⟩
  refine h.st 0 rfl rfl λH2 h=>⟨λ_=>?_,λt=>V0 (by grind) j⟩
  exact k Q' _ hs (qC (uq hs (qC h.tl)))
 | ok f=>
  rw[hd]at k;dsimp only at k;have D:=Ls hd;intro Q' x evs H1 hs j3 j2 M _ _ h;refine⟨_,_,_,_,_,_,_,_,_,_,_,_,_,_,_,_,_,_,_,_,_,rfl,h.al λb _ h=>?_⟩
  refine h.st 0 rfl rfl λH2 h=>⟨λt=>V0 t (by simp),λ_=>⟨_,h.r 0,?_⟩⟩
  refine h.al λb1 _ h=>h.st 0 rfl rfl λH3 h=>⟨_,h.r 1,?_⟩
  have h:aA H3 (cellsA b1 (dH ⟨0,agent,f.ep,0,0,0,now,Smp.z,[]⟩ none 0) 169::cellsA b (cD f x) 150::Q'::slA 258 4 x.ea evs.length x.ec (aF bT evs)::gateA Q gb db g::F):=h;have h:=uq hs (h.o [4,0,1,2,3] 5);have h:=h.o [1,2,3,4,0] 5;have l0:f.evs.length=evs.length:=by grind
  have L:evs.length<=1000000:=by
   by_cases v:f.kind=5
   .grind [K0,Lr]
   .have:=(M.ev v).1
    grind
  intro Jn hJ;have S:∀(Z:Gg) (r:Rp) (n:Xa) (rc:Nat) (es:List Ev) H',jd Z->lu g f agent now=di Z r->r.evs=es.map Ev.p->(es=[]/\n=none\/es=evs/\n=x.ea)->(∀e∈r.evs,aG e.value)->
    aA H' (cellsA b1 (dH r n rc) 169::cellsA b (cD f x) 150::Q'::slA 258 4 x.ea evs.length x.ec (aF bT evs)::gateA Q' gb db Z::F)->
    ∃f0 f1 f2 f3 f4 f5 f6 f7 f8 f9 J N I T,bV H' b1 0 [I64ZZ f0,I64ZZ f1,I64ZZ f2,I64ZZ f3,I64ZZ f4,I64ZZ f5,I64ZZ f6,I64ZZ f7,I64ZZ f8,I64ZZ f9,I64ZZ J,.slice N I T]/\
     CF 90 #[PA gb 0,.agg #[I64ZZ f0,I64ZZ f1,I64ZZ f2,I64ZZ f3,I64ZZ f4,I64ZZ f5,I64ZZ f6,I64ZZ f7,I64ZZ f8,I64ZZ f9,I64ZZ J,.slice N I T]] H' λu H2=>∃U,u=I64ZZ U/\K (I64ZZ U) H2:=by
   intro Z r n rc es H' h8 m j d V h;refine⟨_,_,_,_,_,_,_,_,_,_,_,_,_,_,h.q 0,?_⟩;have h:=h.o [2,4,0,1,3] 5;have hr:oU Q' (cellsA b1 (dH r n rc) 169::cellsA b (cD f x) 150::slA 258 4 x.ea evs.length x.ec (aF bT evs)::F) r n es:=by
    rcases d with ⟨rfl,rfl⟩|⟨rfl,rfl⟩
    .exact⟨j,λH h=>fK H none,λe j=>V0 j (by simp),by simp,V⟩
    .exact⟨j,λH h=>h.sl_rd 2 rfl,j2,L,V⟩
   refine Lp h8 hr h λQ2 H2 h0 h=>⟨_,rfl,?_⟩
   rw[m]at k;exact k Q2 _ (hs.trans h0) (h.o [0,1] 5)
  have A:f.kind=1\/f.kind=4\/f.kind=5\/f.kind=7->f.ag=agent->f.kind≠4->lu g f agent now=di g (jX f agent now 0):=by
   intro w h2 h3;unfold lu
   grind
  have rest:∀(r:Rp) (n:Xa) (rc:Nat) (es:List Ev) H',(f.kind=1\/f.kind=4\/f.kind=5\/f.kind=7)->(f.kind≠4->r=jX f agent now 0)->(f.kind=4->r=⟨3,agent,f.ep,0,0,0,0,Smp.z,[]⟩)->r.evs=es.map Ev.p->(es=[]/\n=none\/es=evs/\n=x.ea)->(∀e∈r.evs,aG e.value)->
    aA H' (cellsA b1 (dH r n rc) 169::cellsA b (cD f x) 150::Q'::slA 258 4 x.ea evs.length x.ec (aF bT evs)::gateA Q' gb db g::F)->Jn H':=by
   intro r n rc es H' hk h6 s j d V h;refine hJ _ ⟨_,h.r 1,λt=>?_,λt=>?_⟩
   .have m:lu g f agent now=(g,10):=by unfold lu;grind
    rw[m]at k;exact k Q' _ hs (h.o [2,4] 5)
   have j1:f.ag=agent:=by grind
   refine⟨_,h.r 1,?_⟩;intro l2 G;refine⟨λi=>?_,λi=>G _ ?_⟩
   .have i:=V3 i;have hr:=s i;subst hr;have O:es=[]:=by grind
    have h9:n=none:=by
     rcases d with ⟨_,e⟩|⟨e1,e2⟩
     .exact e
     .rw [e2];exact (M.ev (by omega)).2.1
    subst O h9;obtain⟨y,pb,ys,e1,e2,e3,h⟩:=iq.1 (h.o [4,0,1,2,3] 5);refine⟨some ⟨pb,0,none⟩,(h.r 0).trans (by show some y.pv=_;rw[e1]),_,h.r 8,_,h.r 8,_,h.r 8,?_⟩;have h:=h.o [6,0,1,2,3,4,5,7,8,9,10] 11;have m:lu g f agent now=if (ff g.p agent f.ep f.bt f.ct).2.1≠0 then ({ g with p:=(ff g.p agent f.ep f.bt f.ct).2.2 },(ff g.p agent f.ep f.bt f.ct).2.1) else di { g with p:=(ff g.p agent f.ep f.bt f.ct).2.2 } (jX f agent now (ff g.p agent f.ep f.bt f.ct).1):=by
     unfold lu
     grind
    refine Sx ok.prb h λW h=>⟨_,_,rfl,λt=>?_,λt=>?_⟩
    .have t:(ff g.p agent f.ep f.bt f.ct).2.1≠0:=by grind
     rw[V1 t]at m;rw[m]at k;refine k Q' _ hs (qC ((iq (g:={ g with p:=(ff g.p agent f.ep f.bt f.ct).2.2 })).2 ⟨y,pb,ys,e1,e2,e3,h.o [1,2,3,4,5,6,0,9] 11⟩))
    have t:(ff g.p agent f.ep f.bt f.ct).2.1=0:=by grind
    rw[Vz (by grind)]at m;refine⟨_,h.r 8,_,h.r 8,h.st 7 rfl rfl λY h=>⟨h.r 8,h.r 8,?_⟩⟩
    refine h.st 7 rfl rfl λH6 h=>⟨h.r 8,h.st 7 rfl rfl λH7 h=>?_⟩
    refine h.st 7 rfl rfl λH8 h=>G _ ?_
    have hg:=(iq (g:={ g with p:=(ff g.p agent f.ep f.bt f.ct).2.2 })).2 ⟨y,pb,ys,e1,e2,e3,h.o [1,2,3,4,5,6,0,7,8,9,10] 11⟩;have eR:jX f agent now (ff g.p agent f.ep f.bt f.ct).1=⟨3,agent,f.ep,0,0,0,0,⟨(ff g.p agent f.ep f.bt f.ct).1,f.got,f.sent,now⟩,[]⟩:=by
     unfold jX
     grind
    rw[eR]at m;exact S { g with p:=(ff g.p agent f.ep f.bt f.ct).2.2 } _ none rc [] _ ⟨ok.R,ok.kept,ok.rl,ok.rows,ok.seg,ok.recs,ok.pend,ansP_ok ok.prb _ _ _ _⟩ m rfl (.inl ⟨rfl,rfl⟩) (λe j=>V0 j (by simp)) (hg.o [1,2,3,4,0] 5)
   .have i:=V2 i;have m:=A hk j1 i;rw[<-h6 i]at m;exact S g r n rc es _ ok m j d V h
  refine⟨λw=>?_,λw=>?_⟩
  .have w:=V3 w;refine⟨_,h.r 1,h.st 0 rfl rfl λW h=>⟨h.r 1,?_⟩⟩
   refine h.st 0 rfl rfl λY h=>rest ⟨2,agent,f.ep,f.bt,0,0,now,Smp.z,[]⟩ none 0 [] _ (.inl w) (λ_=>by unfold jX;grind) (λs=>by omega) rfl (.inl ⟨rfl,rfl⟩) (λe j=>V0 j (by simp)) h
  have w:=V2 w;intro l3 B;refine⟨λs=>?_,λs=>?_⟩
  .have s:=V3 s;refine h.st 0 rfl rfl λW h=>h.st 0 rfl rfl λY h=>B _ ?_
   exact rest ⟨3,agent,f.ep,0,0,0,0,Smp.z,[]⟩ none 0 [] _ (.inr (.inl s)) (λhn=>V0 s hn) (λ_=>rfl) rfl (.inl ⟨rfl,rfl⟩) (λe j=>V0 j (by simp)) h
  have s:=V2 s;intro l1 P;refine⟨λv=>?_,λv=>⟨λE=>?_,λE=>?_⟩⟩
  .have v:=V3 v;refine⟨_,h.r 1,_,_,_,h.r 1,h.st 0 rfl rfl λW h=>⟨h.r 1,h.r 1,?_⟩⟩
   refine h.st 0 rfl rfl λY h=>⟨h.r 1,h.st 0 rfl rfl λH6 h=>P _ (B _ ?_)⟩
   exact rest ⟨4,agent,f.ep,0,f.next,0,now,Smp.z,f.evs⟩ x.ea x.ec evs _ (.inr (.inr (.inl v))) (λ_=>by unfold jX;grind) (λC=>V0 C s) j3 (.inr ⟨rfl,rfl⟩) D h
  .have E:=V3 E;have v:=V2 v;refine⟨_,h.r 1,_,h.r 1,h.st 0 rfl rfl λW h=>⟨h.r 1,h.r 1,?_⟩⟩
   refine h.st 0 rfl rfl λY h=>⟨h.r 1,h.st 0 rfl rfl λH6 h=>P _ (B _ ?_)⟩
   exact rest ⟨5,agent,f.ep,0,f.next,f.stamp,now,Smp.z,[]⟩ none 0 [] _ (.inr (.inr (.inr E))) (λ_=>by unfold jX;grind) (λC=>V0 C s) rfl (.inl ⟨rfl,rfl⟩) (λe j=>V0 j (by simp)) h
  .have v:=V2 v;have E:=V2 E;have m:lu g f agent now=(g,16):=by unfold lu;grind
   rw[m]at k;exact k Q' _ hs (h.o [2,4] 5)
end
section
variable {F L:List aD}{H:aC}{K:KQ}{Q Q':aD}{g:Ag}{ab:Nat}{x:AgX}
theorem AV{rd:Int}(ok:gQ g):gQ (br g rd).1:=by
 unfold br
 split
 .exact ok
 split
 .exact ok
 .rename_i h;refine⟨ok.id,ok.most,ok.boot,ok.ep,?_,ok.seq,ok.kept,ok.prb,ok.drop,λe a=>?_⟩
  .have:=ok.ck;grind
  .have:=ok.evs e a;grind
theorem fq_next{bs:List Int}{f:Fq}(h:gr bs=.ok f)(a:f.kind=6):0<=f.next/\f.next<=4611686018427387903:=by
 have h:=Lr h;unfold iA at h;simp only[V4,VK]at h;have:=h.1.2 7 (by unfold aU;grind);simpa[inM,Fq.nums] using this
theorem Ud{rd:Int}{a:Xa}{c:Nat}{bs:List Int}(ok:gQ g)(h:aA H (Q::agA Q ab g::F))(D:∀H,aA H (Q::F)->aN H a (bs.map U8))(hb:aP bs)(s:bs.length<=c)
  (k:∀Q' H',aH Q Q'->aA H' (Q'::agA Q' ab (mw g rd bs).1::F)->K (I64ZZ (mw g rd bs).2) H') :
  CF 169 #[PA ab 0,I64ZZ rd,.slice a bs.length c] H K:=by
 obtain⟨x,evs,A,I,h⟩:=de.1 (h.o [1,0] 2);obtain⟨o1,o2,o3,o4,o5,o6,o7,o8⟩:=AJ g rd;have m:=AV (rd:=rd) ok;refine cM 169 0x121b1ddd21513cbc ?_;refine AI (rd:=rd) h λu h=>⟨_,rfl,?_⟩
 unfold mw at k;have h:=swp (de.2 ⟨x,evs,o1.symm▸A,I,by rw[o1,o2];exact h.o [0,1,2,3] 4⟩);refine⟨λs=>?_,λs=>?_⟩
 .rw [V1 (by grind)]at k;exact k Q _ (aH.refl Q) h
 rw[Vz (by grind)]at k;refine AH h (λH h=>D H (h.o [0] 2)) hb ‹_› ?_
 generalize (br g rd).1=G at *
 cases hd:gr bs with
 | error e=>
  rw[hd]at k;intro Q' u J hs h;refine⟨_,_,_,_,_,_,_,_,_,_,_,_,_,_,_,_,_,_,_,_,_,rfl,h.al λb _ h=>h.st 0 rfl rfl λH2 h=>⟨λ_=>?_,λw=>V0 (by grind) J⟩⟩
  exact k Q' _ hs (swp (xe hs (h.o [2,1] 3)))
 | ok f=>
  rw[hd]at k;intro Q' y es u hs E B C _ _ h;refine⟨_,_,_,_,_,_,_,_,_,_,_,_,_,_,_,_,_,_,_,_,_,rfl,h.al λb _ h=>h.st 0 rfl rfl λH2 h=>⟨λw=>V0 w (by simp),λ_=>?_⟩⟩
  have h:aA H2 (cellsA b (cD f y) 150::Q'::slA 258 4 y.ea es.length y.ec (aF bT es)::agA Q ab G::F):=h;have h:=xe hs (h.o [3,0,1] 4);have fin:∀(r:Ag×Int) H',r=tkfA G f->aA H' (agA Q' ab r.1::cellsA b (cD f y) 150::Q'::F)->K (I64ZZ r.2) H':=by
   rintro r H' rfl h;exact k Q' _ hs (h.o [2,0] 3)
  refine⟨_,h.r 1,_,λ_=>h.r 1,_,λ_=>h.r 1,λt=>?_,λt=>?_⟩
  .exact fin (G,16) _ (by unfold tkfA;grind) h
  have t:¬¬(f.kind=2\/f.kind=3\/f.kind=6):=by grind
  obtain⟨z,n,z1,z2,h⟩:=de.1 h;refine⟨_,h.r 3,_,h.r 0,?_⟩;have h:=de.2 ⟨z,n,z1,z2,h⟩;refine⟨λv=>?_,λv=>?_⟩
  .exact fin (G,10) _ (by unfold tkfA;grind) h
  have v:¬f.ag≠G.id:=by grind
  refine⟨_,h.r 1,λd=>?_,λd=>?_⟩
  .have d:=V3 d;refine⟨_,_,_,_,_,_,_,_,_,_,_,_,_,_,_,_,_,_,_,_,h.q 1,Grant_a h λH' r i h=>⟨_,rfl,fin r _ ?_ h⟩⟩
   rw[i];unfold tkfA;grind
  have d:=V2 d;refine⟨λj=>?_,λj=>?_⟩
  .have j:=V3 j;refine⟨_,_,_,_,_,_,_,_,_,_,_,_,_,_,_,_,_,_,_,_,h.q 1,Probe_a m h λH' r i h=>⟨_,rfl,fin r _ ?_ h⟩⟩
   rw[i];unfold tkfA;grind
  .have j:=V2 j;refine⟨_,_,_,_,_,_,_,_,_,_,_,_,_,_,_,_,_,_,_,_,h.q 1,Ack_a m (fq_next hd (by omega)).1 h λH' r i h=>⟨_,rfl,fin r _ ?_ h⟩⟩
   rw[i];unfold tkfA;grind
end
end Go.Proofs.YtnjaappmhadfdaaGreatDoor
