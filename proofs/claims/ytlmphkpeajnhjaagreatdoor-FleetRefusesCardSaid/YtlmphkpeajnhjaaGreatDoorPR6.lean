/-
  Lemmas for FleetRefuses: part 6 of what it rests on. Conditions: none.
-/
import Derived.Test.YtlmphkpeajnhjaaGreatDoorPR5
set_option linter.unusedVariables false
set_option linter.unusedSimpArgs false
set_option maxRecDepth 100000
set_option maxHeartbeats 16000000
open Go.IntKind (i64 u64 i8 u8 i32 u32 i16 u16)
namespace Go.Proofs.YtlmphkpeajnhjaaGreatDoor
open Go
abbrev PL(f:Fq)(is:List Nat):List Int:=is.flatMap λi=>aP [f.nums i]
def jJ(f:Fq):List Int:=if f.kind=5 then aP [(f.evs.length:Int)]++f.evs.flatMap E7 else if f.kind=8 then gQ f.sn f.sl++dh (bN f.data) else []
def gC(f:Fq):List Int:=(aP [f.kind]++PL f (aU f.kind))++jJ f
def cO(f:Fq):List Int:=if dQ f=false then [] else if 65536<(ei (gC f)).length then [] else ei (gC f)
def jK(f:Fq):Int:=if dQ f=false then 10 else if 65536<(ei (gC f)).length then 17 else 0
variable {H:aC}{F:List aF}{K:KE}{a v:Int}{Q:aF}{i c b:Nat}{m:CM}{f:Fq}{l:List Int}{r:Rp}{k:Ky}{C:List Ev}{D:Bool}{G:Nat->Int}{I:KQ}{J:Cl}{N:Xa}{O:RS}{P:Fb}
theorem aed(v:Int):aP [v]=bS (GK v):=by simp[aP]
theorem L4(h:dQ f=true):gg f=true:=by unfold dQ at h;grind
theorem L5(h:dQ f=true)(a:f.kind=5):f.evs.length<=64:=by have h:=L4 h;unfold gg at h;rw[nO,c_ a]at h;unfold gy at h;grind
theorem UX(h:dQ f=true)(a:f.kind=8):f.data.length<=4096:=by have h:=L4 h;unfold gg at h;grind
theorem Cg(f:Fq)(is:List Nat):(PL f is).length<=10*is.length:=by induction is with
  | nil=>simp
  | cons i l ih=>have:=dP [f.nums i];grind
theorem UY{o:Nat}{y:Fy}(h:aA H F)(m:aQ H (some ⟨b,o,none⟩) [cD y])(n:aQ H y.a (y.bs.map U8))(s:y.bs.length<=100000000) (k:∀d e f,aA f (ay 5 1 d y.bs.length e (y.bs.map U8)::F)->K (.slice d y.bs.length e) f) : CF 347 #[.slice (some ⟨b,o,none⟩) 1 c,.slice none 0 0] H K:=by refine cN 347 0x1dd12172174949215612399251217494411215612399251144c [[(9,sI),(72,sI)],[],[(5,sI),(44,sI)],[],[(5,sI)]] ⟨λj=>cS j ee,λ_=>⟨λ_=>?_,λj=>cS j ee⟩⟩;refine⟨ee,_,_,rfl,_,_,_,(m 0 _ rfl).2,?_⟩;have h:=h.cp 5 1;refine dw (x:=[]) (y:=y.bs) h (i:=0) rfl rfl rfl n (by grind) λd e f h=>⟨_,_,_,rfl,?_⟩;rw[Hc]at h;have:=k d e f h;exact this
theorem UZ{c:Nat}{y:Fy}(h:aA H F)(i:Nat)(t:aX i F=ax b [cD y] 63)(u:∀H,aA H F->aQ H y.a (y.bs.map U8))(hb:aI y.bs)(w:y.bs.length<=100000000) (k:∀j d n,aA n (ay 5 1 j (ei y.bs).length d ((ei y.bs).map U8)::F)->K (.slice j (ei y.bs).length d) n) : CF 272 #[.slice (some ⟨b,0,none⟩) 1 c] H K:=by have s:=BR (c:=c) (parts:=[y]) (h.ew i t) (λz f=>by rw[CS]at f;subst f;exact u _ h) eh (λz f=>by grind);rw[show ([y]:List Fy).flatMap Fy.bs=y.bs by simp]at s;refine cM 272 4380 ⟨_,s,?_⟩;let⟨s0,s1⟩:=BP y.bs;have e:=Lm s0 s1;refine UY h (h.ew i t) (u _ h) w λj d B h=>⟨_,_,_,rfl,ee,ee,ee,h.al λb1 A h=>aA.append (m:=4) (ws:=(XX (lU y.bs)).map U8) tT h 1 rfl (h.ew 0 (by rw[<-e];rfl)) (by simp[XX]) (oK (λ_=>rfl) _) ez ez λa3 c3 v x=>⟨_,_,_,rfl,?_⟩⟩;have:=k a3 c3 v;unfold ei at this;rw[qa,show (XX (lU y.bs)).length=4 from rfl]at this;refine this ?_;rw[F4];exact x.tl
theorem yr(h:aA H F)(i:Nat)(e:aX i F=ax b [.int .u64 (u64.wrap v)] 175) (k:∀a c d,aA d (ay 5 1 a (aP [v]).length c ((aP [v]).map U8)::F)->K (.slice a (aP [v]).length c) d):CF 130 #[.slice (some ⟨b,0,none⟩) 1 1] H K:=by rw[aed]at k;refine AV h (λH h=>?_) (rN v) k;rw[<-yj];exact h.ew i e
theorem Ch{x:QA}{evs:List Ev}(h:aA H F)(r:jW F f x evs) (k:∀B c d,aA d (ay 5 1 B (cO f).length c ((cO f).map U8)::F)->K (.tuple #[.slice B (cO f).length c,aD (jK f)]) d) : CF 196 #[.agg ⟨cT f x⟩] H K:=by
 refine cN 196 0x1d121561239925144215171156123992511144171491dc [[(4,sS)],[(4,sS),(49,sI)],[(4,sS)],[(4,sS),(20,sI)]] ?_;have j3:=r.len;refine h.al λb _ h=>⟨_,_,_,_,_,_,_,_,_,_,_,_,_,_,_,_,_,_,_,_,h.q 0,KU h (r.cons _) λH1 h=>⟨_,rfl,λZ=>?_,λZ=>?_⟩⟩
 .have e:cO f=[]:=by unfold cO;grind
  have e2:jK f=10:=by unfold jK;grind
  rw[e,e2]at k;exact k none 0 _ (h.tl.cp 5 1)
 have S:dQ f=true:=by grind
 have l0:=dP [f.kind];have lo:=vC f.kind;simp only[CU,HE]at l0;refine⟨_,h.r 0,h.al λb1 _ h=>yr h 0 rfl λa1 c1 H2 h=>⟨_,_,_,rfl,ym h 2 rfl rfl λp pc H3 _ h=>⟨_,_,_,rfl,⟨λB J c i d=>∃j:Nat,i=j/\j<=(aU f.kind).length/\J=(aP [f.kind]++PL f ((aU f.kind).take j)).length/\ aA d (ay 5 1 B (aP [f.kind]++PL f ((aU f.kind).take j)).length c ((aP [f.kind]++PL f ((aU f.kind).take j)).map U8)::ay 339 1 p (aU f.kind).length pc ((aU f.kind).map λi=>PA b i)::ax b (cT f x) 99::F),λ_ _ _ i _=>(aU f.kind).length-i.toNat,⟨0,rfl,ez,eh,?_⟩,?_⟩⟩⟩⟩;.rw [show aP [f.kind]++PL f ((aU f.kind).take 0)=aP [f.kind] by simp[PL]];exact h.o [1,0,3] 4
 rintro a2 n2 c2 i T ⟨j,rfl,hj,rfl,h⟩;have m:=Cg f ((aU f.kind).take j);have M:((aU f.kind).take j).length<=(aU f.kind).length:=by grind
 refine⟨λa=>?_,λa=>?_⟩
 .have a:j<(aU f.kind).length:=by grind
  have D:=(h.a_ 1 rfl).at a;have hi:=B7 _ (s_ a);conv=>whnf
  refine⟨ez,_,_,D.1,_,D.2,⟨f.nums (aU f.kind)[j],(h.r 2).trans (KR hi.1 hi.2),h.al λb3 _ h=>yr h 0 rfl λa3 c3 Q h=>⟨_,_,_,rfl,?_⟩⟩⟩;have l1:=dP [f.nums (aU f.kind)[j]];simp only[CU,HE]at l1;refine dw h (i:=2) rfl rfl rfl (h.a_ 0 rfl) (by grind) λa4 c4 N h=>⟨_,_,_,rfl,?_⟩;have G:i64.wrap ((j:Int)+1)=((j+1:Nat):Int):=by grind [aN]
  have e:aP [f.kind]++PL f ((aU f.kind).take (j+1))=(aP [f.kind]++PL f ((aU f.kind).take j))++aP [f.nums (aU f.kind)[j]]:=by unfold PL;grind [kM]
  rw[<-e]at h;refine⟨⟨j+1,G,a,by rw[e],h.o [2,3,4] 5⟩,by grind⟩
 have n:(aU f.kind).length<=j:=by grind
 rw[FL n]at h m ⊢;have h:=h.o [0,2] 3;refine⟨_,h.r 1,?_⟩;intro U hJ;have e0:cO f=if 65536<(ei (gC f)).length then [] else ei (gC f):=by unfold cO;grind
 have e1:jK f=if 65536<(ei (gC f)).length then 17 else 0:=by unfold jK;grind
 have fin:∀(t:List Int) a3 c d,jJ f=t->t.length<=100000->aI t->aA d (ay 5 1 a3 ((aP [f.kind]++PL f (aU f.kind))++t).length c (((aP [f.kind]++PL f (aU f.kind))++t).map U8)::ax b (cT f x) 99::F)->U a3 ((aP [f.kind]++PL f (aU f.kind))++t).length c d:=by
  intro t a3 c d ht l6 L h;have R:gC f=(aP [f.kind]++PL f (aU f.kind))++t:=by grind [gC]
  rw[<-R]at h ⊢;have lb:(gC f).length<=100100:=by grind
  have I:aI (gC f):=by rw[R];exact dM (dM (gR _) (jU λi _=>gR _)) L
  refine hJ _ _ _ _ (h.al λb4 _ h=>UZ (y:=⟨a3,c,gC f⟩) h 0 rfl (λH h=>h.a_ 1 rfl) I (by grind) λa5 c5 N h=>⟨_,_,_,rfl,λu=>?_,λu=>?_⟩);.have u:=ke u;dsimp only at u;rw[e0,e1,pO,pO]at k;exact k none 0 _ (h.tl.tl.tl.tl.cp 5 1)
  have u:=ix u;dsimp only at u;rw[e0,e1,nO,nO]at k;exact k _ _ _ (h.o [0] 4)
 refine⟨λv=>?_,λv=>?_⟩
 .have v:=ke v;have W:=L5 S v;have A:jJ f=aP [(f.evs.length:Int)]++f.evs.flatMap E7:=by unfold jJ;grind
  refine⟨_,_,_,h.r 1,h.al λb5 _ h=>yr h 0 rfl λa4 c4 Q h=>⟨_,_,_,rfl,?_⟩⟩;have l1:=dP [(f.evs.length:Int)];simp only[CU,HE]at l1;refine dw h (i:=2) rfl rfl rfl (h.a_ 0 rfl) (by grind) λa5 c5 N h=>⟨_,_,_,rfl,?_⟩;have h:=h.o [2,3] 4;refine⟨_,_,_,h.r 1,?_⟩;obtain⟨O,Y⟩:∃O,(aP [f.kind]++PL f (aU f.kind))++aP [(f.evs.length:Int)]=O:=⟨_,rfl⟩;have lO:O.length<=80:=by grind
  rw[Y]at h ⊢;refine⟨λB J c i d=>∃j:Nat,i=j/\j<=evs.length/\J=(O++(f.evs.take j).flatMap E7).length/\ aA d (ay 5 1 B (O++(f.evs.take j).flatMap E7).length c ((O++(f.evs.take j).flatMap E7).map U8)::ax b (cT f x) 99::F),λ_ _ _ i _=>evs.length-i.toNat,⟨0,rfl,ez,eh,by rw[show O++(f.evs.take 0).flatMap E7=O by simp];exact h⟩,?_⟩;rintro a6 n6 c6 i H7 ⟨j,rfl,hj,rfl,h⟩;have m:=B6 (f.evs.take j);have M:(f.evs.take j).length<=f.evs.length:=by grind
  refine⟨λa=>?_,λa=>?_⟩
  .have a:j<evs.length:=by grind
   have D:=r.ev.rd _ h.tl.tl;refine⟨ez,_,_,D.some dU ez a,_,_,_,_,_,_,D.E8 dU a,h.al λb6 _ h=>h.st 0 rfl rfl ?_⟩;intro H8 h;refine⟨_,h.r 0,h.al λb7 _ h=>yr h 0 rfl λa7 c7 H9 h=>⟨_,_,_,rfl,?_⟩⟩;have m1:=dP [evs[j].stamp];simp only[CU,HE]at m1;refine dw h (i:=3) rfl rfl rfl (h.a_ 0 rfl) (by grind) λa8 c8 j2 h=>⟨_,_,_,rfl,?_⟩;have h:=h.o [2,3,4] 5;refine⟨_,h.r 0,h.al λb8 _ h=>rO h 0 rfl λa9 c9 h0 h=>⟨_,_,_,rfl,?_⟩⟩;have m2:=nK [evs[j].value];simp only[CU,HE]at m2;refine dw h (i:=3) rfl rfl rfl (h.a_ 0 rfl) (by grind) λh1 V h3 h=>⟨_,_,_,rfl,?_⟩;have h:=h.o [2,3,4] 5;refine⟨_,_,_,_,h.q 0,Bp h (λH h=>r.ev.labs _ (s_ a) H h.tl.tl.tl) λh4 j1 l5 h=>⟨_,_,_,rfl,?_⟩⟩;have m3:=vv evs[j].name evs[j].labs;refine dw h (i:=2) rfl rfl rfl (h.a_ 0 rfl) (by grind) λh6 h2 h7 h=>⟨_,_,_,rfl,?_⟩;have G:i64.wrap ((j:Int)+1)=((j+1:Nat):Int):=by grind [aN]
   have E:j<f.evs.length:=ez;have ej:f.evs[j]=evs[j].p:=by simp[r.eq]
   have e:O++(f.evs.take (j+1)).flatMap E7=(((O++(f.evs.take j).flatMap E7)++aP [evs[j].stamp])++dg [evs[j].value])++gQ evs[j].name evs[j].labs:=by rw[kM E,ej];unfold E7;simp only[Fw];rfl
   rw[<-e]at h;exact⟨⟨j+1,G,a,by rw[e],h.o [2,3] 4⟩,by grind⟩
  have n:f.evs.length<=j:=by grind
  rw[FL n]at h m ⊢;have P:O++f.evs.flatMap E7=(aP [f.kind]++PL f (aU f.kind))++jJ f:=by grind
  rw[P]at h;have:=fin _ _ _ _ rfl (by grind) (by rw[A];exact dM (gR _) (jU λe _=>vy e)) h;rw[<-P]at this;exact this
 have v:=ix v;intro h9 C;refine⟨λw=>?_,λw=>?_⟩
 .have w:=ke w;have hd:=UX S w;have A:jJ f=gQ f.sn f.sl++dh (bN f.data):=by unfold jJ;grind
  refine⟨_,_,_,_,h.q 1,Bp h (λH h=>r.lab H h.tl.tl) λa3 c3 Q h=>⟨_,_,_,rfl,?_⟩⟩;have m3:=vv f.sn f.sl;refine dw h (i:=1) rfl rfl rfl (h.a_ 0 rfl) (by grind) λa4 c4 N h=>⟨_,_,_,rfl,?_⟩;have h:=h.o [1,2] 3;refine⟨_,_,_,h.r 1,_,tE r.dA (r.dat _ h.tl.tl),h.al λb5 _ h=>?_⟩;have hz:(bN f.data).size=f.data.length:=nM _;refine ye h (λH h=>h.ew 0 rfl) ez λa5 c5 H7 h=>⟨_,_,_,rfl,?_⟩;have m4:=nL (s:=bN f.data) ez;refine dw h (i:=2) rfl rfl rfl (h.a_ 0 rfl) (by grind) λa6 c6 H8 h=>⟨_,_,_,rfl,C _ _ _ _ ?_⟩;have h:=h.o [2,3] 4;rw[Fw,<-A]at h ⊢;exact fin _ _ _ _ rfl (by grind) (by rw[A];exact dM (yc _ _) (qu _)) h
 have w:=ix w;refine C _ _ _ _ ?_;have A:jJ f=[]:=by unfold jJ;grind
 have:=fin [] a2 c2 T A eh jE;rw[Hz]at this;exact this h
abbrev pnF(e:Int):Value:=.iface 333 (.agg #[aD e])
def pH:Rd Int:=λs=>match eT s with
 | .error e=>.error e
 | .ok (u,s')=>if u<1\/8<u then .error 16 else .ok (u,s')
def TS:Rd (Fb×List bO):=λs=>FO ⟨(cV s).e,(cV s).rest.bs⟩ ((cV s).name,(cV s).labs)
def evQ:Rd Pv:=λs=>FO ⟨(cV (dC (bQ s).2).2).e,(cV (dC (bQ s).2).2).rest.bs⟩
 ⟨i64.wrap ((bQ s).1:Int),(dC (bQ s).2).1,(cV (dC (bQ s).2).2).name,(cV (dC (bQ s).2).2).labs⟩
def j6:Nat->Rd (List Pv)
 | 0,s=>.ok ([],s)
 | n+1,s=>match j6 n s with
  | .error e=>.error e
  | .ok (vs,s1)=>match evQ s1 with
   | .error e=>.error e
   | .ok (v,s2)=>.ok (vs++[v],s2)
theorem Ci:∀{n:Nat} {s:RS} {vs:List Pv} {s':RS},j6 n s=.ok (vs,s')->vs.length=n
 | 0,s,vs,s',h=>by cases h;rfl
 | n+1,s,vs,s',h=>by
  unfold j6 at h
  split at h
  .cases h
  .rename_i b s1 a
   split at h
   .cases h
   .cases h
    rw[qa,Ci a];rfl
theorem L6{s:RS}{e:Int}:∀{n j:Nat},j6 j s=.error e->j<=n->j6 n s=.error e
 | 0,j,h,hj=>by
  grind
 | n+1,j,h,hj=>by
  rcases HU n j with a|a
  .grind
  .unfold j6;rw[L6 h a]
def mM:Rd (List Pv):=λs=>match dZ 64 s with
 | .error e=>.error e
 | .ok (n,s1)=>j6 n.toNat s1
section
variable {F L:List aF}{H:aC}{K KP:KE}{Q:aF}
theorem tV{e:Int}(k:e=0->K (.tuple #[]) H)(kp:e≠0->KP (pnF e) H):CP 161 #[aD e] H K KP:=cNP 161 5961 [[]] λc a=>⟨λb=>kp (by grind),λb=>a _ (k (by grind))⟩
def aj9{α:Type}(rb:Nat)(F:List aF)(enc:α->Value)(K KP:KE):Except Int (α×RS)->Prop
 | .ok (x,s)=>∀H',s.e=0->aI s.bs->s.bs.length<=1099511627776->aA H' (kb rb s::F)->K (enc x) H'
 | .error e=>∀H',e≠0->aA H' F->KP (pnF e) H'
theorem Va{rb:Nat}{s:RS}(h:aA H (kb rb s::F))(hb:aI s.bs)(i:s.bs.length<=1099511627776)(k:aj9 rb F aD K KP (pH s)) : CP 158 #[PA rb 0] H K KP:=by
 refine cNP 158 4582372508 [[]] (oT h hb i λm h=>⟨_,rfl,_,nE h,?_⟩);have b:=ij hb;have d:=kN s;have f:=xU hb;unfold pH eT FO at k;refine tV (λe=>⟨rfl,?_⟩) λe=>?_
 .rw [b_ (by grind)]at k;dsimp only at k;intro j c;refine⟨λa=>?_,λa=>c _ ?_⟩;.simp only[HW,v_]at a;rw[c_ a]at k;exact k _ ee h.tl
  simp only[E5,C5]at a;rw[nO]at k;have:=k _ e b ez h;rw[<-aN (x:=(((bQ s).1:Nat):Int)) ez ez]at this;exact this
 rw [c_ e]at k;exact k _ e h.tl
def ajR(rb:Nat)(F:List aF)(K KP:KE):Except Int ((Fb×List bO)×RS)->Prop
 | .ok (x,s)=>∀a c H',s.e=0->aI s.bs->s.bs.length<=1099511627776->aA H' (kb rb s::ay 223 2 a x.2.length c (flat cJ x.2)::F)->K (.agg #[.string x.1,.slice a x.2.length c]) H'
 | .error e=>∀H',e≠0->aA H' F->KP (pnF e) H'
theorem L7{rb:Nat}{s:RS}(h:aA H (kb rb s::F))(hb:aI s.bs)(i:s.bs.length<=1099511627776)(k:ajR rb F K KP (TS s)) : CP 164 #[PA rb 0] H K KP:=by
 refine cMP 164 4380 (h.al λb _ h=>?_);have h:=h.o [1,0] 2;refine Ko h hb i λa c n h=>⟨_,_,_,_,_,rfl,?_⟩;have d:=Bn hb;have j:=Bo s;refine h.al λb2 _ h=>h.st 0 rfl rfl ?_;intro t h;unfold TS FO at k;refine tV (λe=>?_) λe=>?_
 .rw [b_ (by grind),tS e]at k;refine⟨rfl,_,_,_,_,h.q 0,h.st 3 rfl rfl ?_⟩;intro m h;refine⟨_,_,_,_,h.q 3,?_⟩;have f:(cV s).rest.e=0:=by grind [tS]
  exact k _ _ _ f d ez (h.o [1,2] 4)
 rw [c_ e]at k;exact k _ e (h.o [] 4)
def aiv(rb:Nat)(Q:aF)(F:List aF)(K KP:KE):Except Int (List Pv×RS)->Prop
 | .ok (x,s)=>∀Q' (evs:List Ev) a c H',aH Q Q'->x=evs.map Ev.p->(∀e∈evs,ge Q' e)->s.e=0->aI s.bs->s.bs.length<=1099511627776->
   aA H' (Q'::kb rb s::ay 69 4 a evs.length c (flat bH evs)::F)->K (.slice a evs.length c) H'
 | .error e=>∀Q' H',e≠0->aH Q Q'->aA H' (Q'::F)->KP (pnF e) H'
theorem Vb{rb:Nat}{s:RS}(h:aA H (Q::kb rb s::F))(hb:aI s.bs)(Y:s.bs.length<=1099511627776)(k:aiv rb Q F K KP (mM s)) : CP 163 #[PA rb 0] H K KP:=by
 refine cNP 163 0x111121561239925111144c [[(3,sS),(12,sI)]] ?_;have h:=h.o [1,0] 2;refine uY h hb Y (by unfold aG;decide) λH1 h=>⟨_,rfl,_,nE h,?_⟩;have B:=tN (m:=64) hb;have T:=tO s 64;unfold mM dZ FO at k;refine tV (λe=>⟨rfl,?_⟩) λe=>?_;case refine_2=>rw[c_ e]at k;exact k Q _ e (aH.refl Q) h.tl
 rw[b_ (by grind)]at k;dsimp only at k;have E:=BL s;obtain⟨n,P⟩:∃n,(cx 64 s).1=n:=⟨_,rfl⟩;obtain⟨s3,I⟩:∃s3,(cx 64 s).2=s3:=⟨_,rfl⟩;rw[P,I]at k;rw[P]at E;rw[I]at h e B T;rw[P];refine⟨λla V lc i W=>∃(j:Nat) (evs:List Ev) (Q':aF) (s4:RS),i=j/\(j:Int)<=n/\V=evs.length/\j6 j s3=.ok (evs.map Ev.p,s4)/\aH Q Q'/\(∀e∈evs,ge Q' e)/\s4.e=0/\aI s4.bs/\s4.bs.length<=1099511627776/\ aA W (Q'::kb rb s4::ay 69 4 la evs.length lc (flat bH evs)::F),λ_ _ _ i _=>n.toNat-i.toNat,⟨0,[],Q,s3,rfl,ez,rfl,rfl,aH.refl Q,λe f=>cS f eh,e,B,ez,(h.cp 69 4).o [2,1,0] 3⟩,?_⟩;rintro la V lc i H2 ⟨j,evs,Q',s4,rfl,hj,rfl,D,t,G,U,x,A,h⟩;have R:=Ci D;rw[FW]at R;refine⟨λw=>?_,λw=>?_⟩
 .have w:=ke w;refine h.al λb _ h=>?_;have h:=h.o [2,0,1,3] 4;refine oT h x A λH3 h=>⟨_,rfl,?_⟩;have J:=ij x;have Z:=kN s4;refine h.st 1 rfl rfl ?_;intro H4 h;refine xW h J ez λH5 h=>⟨_,rfl,?_⟩;have N:aI (dC (bQ s4).2).2.bs:=ij J;have h0:(dC (bQ s4).2).2.bs.length<=(bQ s4).2.bs.length:=kN _;refine h.st 1 rfl rfl ?_;intro H6 h;refine L7 h N ez ?_;have d:j6 (j+1) s3=match evQ s4 with|.error e=>.error e|.ok (v,s2)=>.ok (evs.map Ev.p++[v],s2):=by grind [j6]
  unfold evQ at d;unfold TS;unfold FO at d ⊢;by_cases f:(cV (dC (bQ s4).2).2).e=0;case neg=>rw[c_ f]at d ⊢;dsimp only at d;rw[L6 d ez]at k;exact λW f h=>k Q' _ f t (h.o [1] 3)
  rw[b_ (by grind)]at d ⊢;dsimp only at d;intro a c H7 M C y h;dsimp only at M C y h;refine⟨_,_,_,_,rfl,h.st 2 rfl rfl ?_⟩;intro H8 h;refine⟨_,_,_,_,_,_,h.q 2,?_⟩;obtain⟨ev,u⟩:∃ev:Ev,ev=⟨i64.wrap ((bQ s4).1:Int),(dC (bQ s4).2).1,(cV (dC (bQ s4).2).2).name,(cV (dC (bQ s4).2).2).labs,a,c⟩:=⟨_,rfl⟩;refine h.al λb4 S h=>?_;have h:aA S (ax b4 (bH ev) 69::kb rb ⟨(cV (dC (bQ s4).2).2).e,(cV (dC (bQ s4).2).2).rest.bs⟩::ay 223 2 a ev.labs.length c (flat cJ ev.labs)::ax b (bH ev) 69::Q'::ay 69 4 la evs.length lc (flat bH evs)::F):=by rw[u];exact h
  refine h.append (m:=1) (ws:=bH ev) Q_ 5 rfl (h.ew 0 (by rw[u];rfl)) rfl (xM ev) ez ez λa5 c5 H9 h=>⟨_,_,_,rfl,?_⟩;have hw:i64.wrap ((j:Int)+1)=((j+1:Nat):Int):=by grind [aN]
  have O:(cV (dC (bQ s4).2).2).rest.e=0:=by grind [tS]
  rw[tS f]at d h;have ep:ev.p=⟨i64.wrap ((bQ s4).1:Int),(dC (bQ s4).2).1,(cV (dC (bQ s4).2).2).name,(cV (dC (bQ s4).2).2).labs⟩:=by rw[u];rfl
  refine⟨⟨j+1,evs++[ev],ay 223 2 a ev.labs.length c (flat cJ ev.labs)*Q',_,hw,ez,eh,by grind,t.trans (aH.add _ Q'),λe f=>?_,O,C,y,?_⟩,by grind⟩
  .rcases DA.1 f with f|f;.exact (G e f).sub (aH.add _ Q')
   rw [CS]at f;rw[f];have e1:ev.la=a:=by rw[u]
   unfold ge;rw[e1];exact DE.sl (c:=c)
  have e:flat bH (evs++[ev])=flat bH evs++bH ev:=by grind [flat]
  rw[e,qa];have h:=h.o [2,4,1,5] 6;exact gZ.2 h
 have h1:=ix w;have L:j=n.toNat:=ez;subst L;rw[D]at k;exact k Q' evs _ _ _ t rfl G U x A h
end
def Fq.set(f:Fq)(i:Nat)(v:Int):Fq:=match i with
 | 1=>{ f with ag:=v }|2=>{ f with ep:=v }|3=>{ f with bt:=v }|4=>{ f with ct:=v }|5=>{ f with CV:=v }
 | 6=>{ f with hY:=v }|7=>{ f with next:=v }|8=>{ f with stamp:=v }|9=>{ f with win:=v }|_=>f
theorem acU{x:QA}(a:1<=i)(b:i<=9):cu (cT f x) i [aB v]=cT (f.set i v) x:=by rcases (ez:i=1\/i=2\/i=3\/i=4\/i=5\/i=6\/i=7\/i=8\/i=9) with rfl|rfl|rfl|rfl|rfl|rfl|rfl|rfl|rfl <;> rfl
theorem Vc(h:c≠i):(f.set i v).nums c=f.nums c:=by unfold Fq.set;split <;> (unfold Fq.nums;grind)
theorem abp(f:Fq)(i:Nat)(v:Int):(f.set i v).kind=f.kind/\(f.set i v).evs=f.evs/\(f.set i v).sn=f.sn/\(f.set i v).sl=f.sl/\(f.set i v).data=f.data:=by unfold Fq.set;grind
def iM:Fq->List Nat->List Int->Fq
 | f,i::is,v::vs=>iM (f.set i v) is vs
 | f,_,_=>f
theorem L8:∀{is:List Nat} {vs:List Int} {f:Fq} {i:Nat} {v:Int},is.length=vs.length->iM f (is++[i]) (vs++[v])=(iM f is vs).set i v
 | [],[],f,i,v,_=>rfl
 | a::is,b::vs,f,i,v,h=>by show iM (f.set a b) (is++[i]) (vs++[v])=_;exact L8 (eu h)
 | [],_::_,_,_,_,h=>by simp at h
 | _::_,[],_,_,_,h=>by simp at h
theorem yu:∀(is:List Nat) (vs:List Int) (f:Fq),(iM f is vs).kind=f.kind/\(iM f is vs).evs=f.evs/\(iM f is vs).sn=f.sn/\(iM f is vs).sl=f.sl/\(iM f is vs).data=f.data
 | [],_,f=>⟨rfl,rfl,rfl,rfl,rfl⟩
 | _::_,[],f=>⟨rfl,rfl,rfl,rfl,rfl⟩
 | i::is,v::vs,f=>by let⟨a1,a2,a3,a4,a5⟩:=abp f i v;let⟨b1,b2,b3,b4,b5⟩:=yu is vs (f.set i v);exact⟨b1.trans a1,b2.trans a2,b3.trans a3,b4.trans a4,b5.trans a5⟩
theorem L9{j:Nat}:∀(is:List Nat) (vs:List Int) (f:Fq),j∉is->(iM f is vs).nums j=f.nums j
 | [],_,f,_=>rfl
 | _::_,[],f,_=>rfl
 | i::is,v::vs,f,h=>by show (iM (f.set i v) is vs).nums j=_;rw[L9 is vs _ λa=>h (DG _ a),Vc λa=>h (by rw[a];exact DT ..)]
def lV(f:Fq):RS->Except Int (Fq×RS):=λs=>
 if f.kind=5 then match mM s with
  | .error e=>.error e
  | .ok (l,s')=>.ok ({ f with evs:=l },s')
 else if f.kind=8 then match TS s with
  | .error e=>.error e
  | .ok (x,s1)=>FO (bg 4096 s1).2 { f with sn:=x.1,sl:=x.2,data:=(bg 4096 s1).1 }
 else .ok (f,s)
def Xm:Except Int (Fq×RS)->Except Int Fq
 | .error e=>.error e
 | .ok (f,s)=>if (dG s).e≠0 then .error (dG s).e else if dQ f then .ok f else .error 10
def nR(bs:List Int):Except Int Fq:=match pH ⟨0,bs⟩ with
 | .error e=>.error e
 | .ok (kd,s1)=>match j4 (aU kd).length s1 with
  | .error e=>.error e
  | .ok (vs,s2)=>Xm (lV (iM { kind:=kd } (aU kd) vs) s2)
abbrev zF:Xa:=cT { kind:=0 } {}
section
variable {F L:List aF}{H:aC}{K KP:KE}{Q:aF}
theorem ajt{e:Int}:i8 Tryz.prog .eql 20 (pnF e) .nilIface false:=by intro b a w;kernel_rfl
theorem Ve{e:Int}:ne Tryz.prog (Instr.typeAssert (pnF e) 20 333 true) (.tuple #[.agg #[aD e],.bool true]):=by intro w;kernel_rfl
theorem Vf{b b1:Nat}{e:Int}{cs:Xa}{v1:Int}{i:FrameMode->aC->Prop}(n:cs.length=14)(h:aA H (ax b1 [aD v1] 58::ax b cs 99::F)) (k:∀a,aA a (ax b1 [aD e] 58::ax b zF 99::F)->i (br (pnF e) true) a):cH Tryz.prog 156 [(PA b 0),(PA b1 0)] (br (pnF e) false) H i:=by
 have hd:cH Tryz.prog 156 [(PA b 0),(PA b1 0)] (br (pnF e) false) H λd a=>d=br (pnF e) true/\aA a (ax b1 [aD e] 58::ax b zF 99::F):=by refine tz.Xn (.inr ⟨rfl,rfl⟩) ?_;unfold tz.code;refine⟨_,ajt,λy j=>⟨λf=>cS f eh,λ_=>⟨_,_,Ve,λu c=>⟨λ_=>?_,λf=>cS f eh⟩⟩⟩⟩;refine h.al λb2 _ h=>h.st 0 rfl rfl ?_;intro x h;refine⟨_,h.r 0,h.st 2 rfl (by simp_all) ?_⟩;intro B h;refine⟨h.r 0,h.st 1 rfl rfl ?_⟩;intro m h;refine c _ (j _ ?_);have h:=h.o [1,2] 3;have e2:cu cs 0 zF=zF:=xg _ cs (by simp_all);have h:aA m (ax b1 [aD e] 58::ax b (cu cs 0 zF) 99::F):=h;rw[e2]at h;exact h
 intro w s;refine (hd w s).mono λv A C t=>?_;cases v <;> simp only at t ⊢;grind
theorem Vg{b b1:Nat}{cs:Xa}{v1:Int}{d:FrameMode->aC->Prop}(h:aA H (ax b1 [aD v1] 58::ax b cs 99::F)) (k:∀a,aA a (ax b1 [aD v1] 58::ax b cs 99::F)->d .returning a):cH Tryz.prog 156 [(PA b 0),(PA b1 0)] .returning H d:=by
 have hd:cH Tryz.prog 156 [(PA b 0),(PA b1 0)] .returning H λc a=>c=.returning/\aA a (ax b1 [aD v1] 58::ax b cs 99::F):=by refine tz.Xn (.inl ⟨rfl,rfl,rfl⟩) ?_;unfold tz.code;grind [Ld]
 intro w e;refine (hd w e).mono λi j m f=>?_;cases i <;> simp only at f ⊢;grind
def agL(Q:aF)(F:List aF)(K:KE):Except Int Fq->Prop
 | .ok f=>∀Q' x evs H',aH Q Q'->f.evs=evs.map Ev.p->(∀e∈evs,ge Q' e)->f.Sh x->aA H' (Q'::ay 69 4 x.ea evs.length x.ec (flat bH evs)::F)->K (.tuple #[.agg ⟨cT f x⟩,aD 0]) H'
 | .error e=>∀Q' H',e≠0->aH Q Q'->aA H' (Q'::F)->K (.tuple #[.agg ⟨zF⟩,aD e]) H'
theorem aco{s s':RS}{kd:Int}(h:pH s=.ok (kd,s')):1<=kd/\kd<=8:=by grind [pH]
theorem aeV{kd:Int}{vs:List Int}{x:QA}(a:kd≠5->x.ea=none/\x.ec=0)(b:kd≠8->x.la=none/\x.lc=0/\x.da=none/\x.dc=0):(iM { kind:=kd } (aU kd) vs).Sh x:=by
 let⟨a1,a2,a3,a4,a5⟩:=yu (aU kd) vs { kind:=kd };refine⟨λh=>⟨a2,a (by grind)⟩,λh=>?_,λi c d h=>?_⟩;.grind
 rw [a1]at h;rw[L9 _ _ _ h];rcases (ez:i=1\/i=2\/i=3\/i=4\/i=5\/i=6\/i=7\/i=8\/i=9) with rfl|rfl|rfl|rfl|rfl|rfl|rfl|rfl|rfl <;> rfl
end
structure En where
 epoch:Int
 boot:Int
 time:Int
deriving DecidableEq
variable {A:List En}{R:En}
def En.z:En:=⟨0,0,0⟩
abbrev YA(e:En):Xa:=[.int .i64 e.epoch,.int .i64 e.boot,.int .i64 e.time]
abbrev L1(e:En):Value:=.agg #[.int .i64 e.epoch,.int .i64 e.boot,.int .i64 e.time]
def aW:Nat->List En->List (Int×En)
 | _,[]=>[]
 | i,e::r=>if 0<e.epoch then ((i:Int),e)::aW (i+1) r else aW (i+1) r
theorem qB{i:Nat}:∀{l:List En} {p:Int×En},p∈aW i l->(i:Int)<=p.1/\p.1<i+l.length/\0<p.2.epoch
 | [],p,h=>by grind [aW]
 | e::r,p,h=>by simp only[aW]at h;have a:=qB (i:=i+1) (l:=r) (p:=p);grind
theorem yv{i:Nat}:∀{l:List En},(aJ (aW i l)).Pairwise (·< ·)
 | []=>by simp[aW]
 | e::r=>by
  simp only[aW]
  split
  .simp only[aJ,Hy,YV];refine⟨λa b=>?_,yv⟩
   obtain⟨p,c,rfl⟩:=zb.1 b;have:=qB c;omega
  .exact yv
theorem yw:(aJ (aW i A)).Nodup:=yv.imp (λh=>ez)
theorem Vh:i_ (aJ (aW i A))=aJ (aW i A):=xd (yv.imp (λh=>ez))
theorem Cj{i:Nat}:∀{l:List En} {k:Nat},aK ((i+k:Nat):Int) (aW i l)=match l[k]? with|some e=>if 0<e.epoch then some e else none|none=>none
 | [],k=>by simp[aW,aK]
 | e::r,0=>by
  have c:aK ((i+0:Nat):Int) (aW (i+1) r)=none:=dX.2 λh=>by
   let⟨p,b,d⟩:=zb.1 h;have:=qB b;omega
  grind [aW,aK]
 | e::r,k+1=>by
  have a:=Cj (i:=i+1) (l:=r) (k:=k);rw[show i+1+k=i+(k+1) by omega]at a;simp only[aW,List.getElem?_cons_succ]
  split
  .simp only[aK]
   grind
  .exact a
theorem Cm{i:Nat}{x:En}(c:0<x.epoch):∀{l:List En} {k:Nat},k<l.length->(aW i (l.set k x)).Perm (eO ((i+k:Nat):Int) x (aW i l))
 | e::r,0,_=>by
  have hd:bF ((i+0:Nat):Int) (aW (i+1) r)=aW (i+1) r:=lG (dX.2 λh=>by
   let⟨p,d,f⟩:=zb.1 h;have:=qB d;omega)
  simp only[q37,aW,c_ c]
  grind [bF,eO]
 | e::r,k+1,h=>by
  have a:=Cm (i:=i+1) c (l:=r) (k:=k) (eu h);rw[show i+1+k=i+(k+1) by omega]at a;simp only[List.set_cons_succ,aW]
  split
  .refine (a.cons _).trans ?_;unfold eO;have:bF ((i+(k+1):Nat):Int) (((i:Int),e)::aW (i+1) r)=((i:Int),e)::bF ((i+(k+1):Nat):Int) (aW (i+1) r):=by
    have b:¬(i:Int)=((i+(k+1):Nat):Int):=ez
    simp[bF,q1x,b];omega
   rw[this];exact .swap _ _ _
  .exact a
theorem LE{i:Nat}:∀{l:List En},(aW i l).length=(l.filter λe=>decide (0<e.epoch)).length
 | []=>rfl
 | e::r=>by simp only[aW,q1x];have:=LE (i:=i+1) (l:=r);by_cases h:0<e.epoch <;> simp[h,this]
abbrev bad(agent boot now:Int):Prop:=agent<0\/63<agent\/boot<1\/1099511627776<boot\/now<0\/4611686018427387903<now
def bI(rows:List En)(agent:Int):En:=if agent<0 then En.z else (rows[agent.toNat]?).getD En.z
structure gj(rows:List En):Prop where
 len:rows.length=64
 ep:∀e∈rows,0<=e.epoch/\e.epoch<=1099511627776
 afa:∀e∈rows,aG e.boot/\aG e.time
 zero:∀e∈rows,¬0<e.epoch->e=En.z
abbrev full(most:Int)(rows:List En):Prop:=most<=((aW 0 rows).length:Int)
def cP(most:Int)(rows:List En)(agent boot now:Int):List En×En×Bool×Int:=
 if bad agent boot now then (rows,En.z,false,11) else
 let x:=bI rows agent
 if 0<x.epoch/\x.boot=boot then (rows,x,false,0)
 else if 0<x.epoch/\boot<x.boot then (rows,En.z,false,22)
 else if x.epoch=1099511627776 then (rows,En.z,false,17)
 else if x.epoch=0/\full most rows then (rows,En.z,false,20)
 else (rows.set agent.toNat ⟨x.epoch+1,boot,now⟩,⟨x.epoch+1,boot,now⟩,true,0)
def gT(most:Int)(rows:List En)(agent:Int)(e:En):List En×Int:=
 if bad agent e.boot e.time\/e.epoch<1\/1099511627776<e.epoch then (rows,11)
 else if 0<(bI rows agent).epoch then (rows,18)
 else if full most rows then (rows,20)
 else (rows.set agent.toNat e,0)
theorem gj.at(h:gj A)(agent:Int):0<=(bI A agent).epoch/\(bI A agent).epoch<=1099511627776/\aG (bI A agent).boot/\aG (bI A agent).time:=by
 unfold bI
 split
 .simp [En.z,aG]
 cases he:A[agent.toNat]? with
 | none=>simp[En.z,aG]
 | some e=>exact⟨(h.ep e (KI he)).1,(h.ep e (KI he)).2,h.afa e (KI he)⟩
theorem gj.set{rows:List En}(h:gj rows){k:Nat}{x:En}(c:0<x.epoch/\x.epoch<=1099511627776)(b:aG x.boot/\aG x.time):gj (rows.set k x) where
 len:=by simp[h.len]
 ep e a:=by
  rcases q34 a with a|rfl
  .exact h.ep e a
  .omega
 afa e a:=by
  rcases q34 a with a|rfl
  .exact h.afa e a
  .exact b
 zero e a:=by
  rcases q34 a with a|rfl
  .exact h.zero e a
  .omega
theorem acE{most:Int}(h:gj A)(agent boot now:Int):gj (cP most A agent boot now).1:=by
 unfold cP;have:=h.at agent;split;.exact h
 rename_i hb;simp only[bad,not_or,Int.not_lt]at hb;simp only;split;.exact h
 split;.exact h
 split;.exact h
 split;.exact h
 exact h.set ⟨by grind,by grind⟩ ⟨by simp only[aG];omega,by simp only[aG];omega⟩
theorem aes{most:Int}(h:gj A)(agent:Int)(e:En):gj (gT most A agent e).1:=by
 unfold gT;split;.exact h
 rename_i hb;simp only[bad,not_or,Int.not_lt]at hb;split;.exact h
 split;.exact h
 exact h.set ⟨ez,ez⟩ ⟨by simp only[aG];omega,by simp only[aG];omega⟩
theorem Cn(agent:Int):aK agent (aW 0 A)=if 0<(bI A agent).epoch then some (bI A agent) else none:=by
 by_cases h0:agent<0
 .have:aK agent (aW 0 A)=none:=dX.2 λh=>by let⟨p,a,b⟩:=zb.1 h;have:=qB a;omega
  rw[this,bI,c_ h0];rfl
 have:=Cj (i:=0) (l:=A) (k:=agent.toNat);rw[show ((0+agent.toNat:Nat):Int)=agent by omega]at this;rw[this];unfold bI;rw[b_ h0];grind [En.z]
theorem gj.akp(h:gj A)(agent:Int)(h0:¬0<(bI A agent).epoch):bI A agent=En.z:=by
 unfold bI at h0 ⊢;split;.rfl
 rename_i a;rw[b_ a]at h0;cases he:A[agent.toNat]? with
  | none=>rfl
  | some e=>rw[he]at h0;exact h.zero e (KI he) h0
theorem vJ(h:gj A){agent:Int}:(aK agent (aW 0 A)).getD En.z=bI A agent:=by
 rw[Cn];split;.rfl
 rename_i a;exact (h.akp agent a).symm
theorem yx(h:gj A):(aK a (aW 0 A)).isSome=decide (0<(bI A a).epoch):=by grind [Cn]
theorem Vi:gj (List.replicate 64 En.z) where
 len:=eh
 ep e he:=by rw[List.eq_of_mem_replicate he];decide
 afa e he:=by grind [En.z,aG]
 zero e he _:=List.eq_of_mem_replicate he
theorem yy(h:gj A):(aW 0 A).length<=64:=by rw[LE];exact DC (List.length_filter_le _ _) (Nat.le_of_eq h.len)
namespace Ro
theorem RO:jB Tryz.prog 298 2 169 L1 En.z:=ny Tryz.underlying298 kf
theorem Fm:lH Tryz.prog 2 aB:=xb Tryz.underlying2
abbrev mv(rb mb:Nat)(most:Int):aF:=ax rb [aB most,.map (some mb)] 301
abbrev t_(mb:Nat)(rows:List En):aF:=mapA aB L1 mb (aW 0 rows)
theorem LF{n:Int}:bX Tryz.prog 404 #[aB a,aB v,aB n] H (.bool (!decide (bad a v n))):=by refine cM 404 28 ⟨congrArg Value.bool ?_,rfl⟩;grind
theorem D_(h:aA H F)(k1:v<1\/64<v->K (.tuple #[.pointer none,aB 11]) H) (k2:¬(v<1\/64<v)->∀rb mb a,aA a (mv rb mb v::t_ mb (List.replicate 64 En.z)::F)->K (.tuple #[.pointer (some ⟨rb,0,none⟩),aB 0]) a) : CF 313 #[aB v] H K:=by refine cM 313 476 ⟨λb=>k1 (by grind),λb=>h.YF aB L1 λmb _ h=>h.al λrb _ h=>k2 (by grind) _ _ _ h⟩
theorem Fj(ok:gj A){agent:Int}(h:aA H (mv i c v::t_ c A::F)) (k:∀b,aA b (mv i c v::t_ c A::F)->K (.tuple #[L1 (bI A agent),.bool (decide (0<(bI A agent).epoch))]) b) : CF 206 #[.pointer (some ⟨i,0,none⟩),aB agent] H K:=by
 refine cM 206 284 (h.al λ_ _ h=>⟨_,Xv,?_⟩);have a:=h.x_ RO Fm 2 rfl (x:=agent);rw[vJ ok,yx ok]at a;refine⟨_,_,_,_,a,?_⟩;repeat (first| refine h.al λ_ _ h=>?_| refine HA h λ_ h=>?_| refine⟨_,_,_,Hi,?_⟩)
 exact k _ h.tl.tl
theorem af2(ok:gj A){agent epoch:Int}(h:aA H (mv i c v::t_ c A::F)) (k:∀b,aA b (mv i c v::t_ c A::F)->K (.bool (decide (0<(bI A agent).epoch)&&decide ((bI A agent).epoch=epoch))) b) : CF 353 #[.pointer (some ⟨i,0,none⟩),aB agent,aB epoch] H K:=by refine cM 353 284 ⟨_,Xv,?_⟩;have a:=h.x_ RO Fm 1 rfl (x:=agent);rw[vJ ok,yx ok]at a;refine⟨_,_,_,_,a,h.al λ_ _ h=>HA h λ_ h=>?_⟩;refine⟨_,λ_=>Xv,k _ h.tl⟩
theorem Fk(ok:gj A){agent boot now:Int}(h:aA H (mv c b a::t_ b A::F))
  (k:∀n,aA n (mv c b a::t_ b (cP a A agent boot now).1::F)->
   K (.tuple #[L1 (cP a A agent boot now).2.1,.bool (cP a A agent boot now).2.2.1,aB (cP a A agent boot now).2.2.2]) n) :
  CF 354 #[.pointer (some ⟨c,0,none⟩),aB agent,aB boot,aB now] H K:=by
 refine cM 354 0x1d12513c13c13cb11c (h.al λ_ _ h=>⟨_,LF,λs=>?_,λs=>?_⟩)
 .have hb:bad agent boot now:=eu s
  have e:cP a A agent boot now=(A,En.z,false,11):=c_ hb;rw[e]at k;refine S_ h λ_ h=>?_;refine⟨_,_,_,Rs1,k _ h.tl⟩
 .have hb:¬bad agent boot now:=by grind
  have h0:0<=agent:=by grind
  refine⟨_,Xv,?_⟩;have m:=h.x_ RO Fm 2 rfl (x:=agent);rw[vJ ok,yx ok]at m;refine⟨_,_,_,_,m,h.al λ_ _ h=>?_⟩;refine HA h λ_ h=>?_;refine⟨_,λ_=>Xv,?_⟩
  have w:=ok.at agent;have t:=yy ok;refine⟨λrb=>?_,λrb=>?_⟩
  .simp only[q_,v_]at rb;have e:cP a A agent boot now=(A,bI A agent,false,0):=by unfold cP;grind
   rw[e]at k
   repeat (first|refine HA h λ_ h=>?_|refine⟨_,_,_,Hi,?_⟩)
   exact k _ h.tl.tl
  have n1:¬(0<(bI A agent).epoch/\(bI A agent).boot=boot):=λj=>by grind
  refine⟨_,λ_=>Xv,?_⟩
  refine⟨λmost=>?_,λmost=>?_⟩
  .simp only[q_,v_]at most;have e:cP a A agent boot now=(A,En.z,false,22):=by unfold cP;grind
   rw[e]at k;refine HA h λ_ h=>?_;refine⟨_,_,_,Hi,?_⟩
   exact k _ h.tl.tl
  have n2:¬(0<(bI A agent).epoch/\boot<(bI A agent).boot):=λj=>by grind
  refine⟨_,λ_=>Xv,?_⟩
  refine⟨λmb=>?_,λmb=>?_⟩
  .simp only[q_,v_]at mb;have e:cP a A agent boot now=(A,En.z,false,17):=by unfold cP;grind
   rw[e]at k;refine HA h λ_ h=>?_;refine⟨_,_,_,Hi,?_⟩
   exact k _ h.tl.tl
  have n3:¬((bI A agent).epoch=1099511627776):=λj=>by grind
  refine⟨λ_=>trivial,?_⟩;refine⟨_,λ_=>XB,?_⟩
  refine⟨_,λ_=>h.F5 RO 3 rfl,?_⟩
  refine⟨λ_=>trivial,?_⟩;refine⟨_,λ_=>XB,?_⟩
  refine⟨λd=>?_,λd=>?_⟩
  .simp only[q_,SO,C5,v_]at d;have e:cP a A agent boot now=(A,En.z,false,20):=by unfold cP;grind
   rw[e]at k;refine HA h λ_ h=>?_;refine⟨_,_,_,Hi,?_⟩
   exact k _ h.tl.tl
  have n4:¬((bI A agent).epoch=0/\full a A):=λj=>by
   grind
  have e:cP a A agent boot now=(A.set agent.toNat ⟨(bI A agent).epoch+1,boot,now⟩,⟨(bI A agent).epoch+1,boot,now⟩,true,0):=by
   unfold cP;grind
  rw[e]at k;have u:i64.wrap ((bI A agent).epoch+1)=(bI A agent).epoch+1:=aN;have f:agent.toNat<A.length:=by simp only[bad,not_or,Int.not_lt]at hb;rw[ok.len];omega
  have hs:=Cm (i:=0) (x:=⟨(bI A agent).epoch+1,boot,now⟩) (by grind) f;rw[show ((0+agent.toNat:Nat):Int)=agent by omega]at hs;simp only[t_]at k;rw[oH hs,<-u]at k
  repeat (first|refine⟨_,XB,?_⟩|refine St3 h λ_ h=>?_|refine⟨_,_,_,Rs3,?_⟩)
  refine h.ji (α:=En) (v:=⟨_,_,_⟩) RO Fm 3 rfl λ_ h=>?_
  repeat (first|refine St3 h λ_ h=>?_|refine⟨_,_,_,Rs3,?_⟩)
  exact k _ h.tl.tl
theorem HM(ok:gj A){agent:Int}{x:En}(h:aA H (mv c b a::t_ b A::F)) (k:∀f,aA f (mv c b a::t_ b (gT a A agent x).1::F)->K (aB (gT a A agent x).2) f) : CF 387 #[.pointer (some ⟨c,0,none⟩),aB agent,L1 x] H K:=by
 refine cM 387 488750364 (h.al λ_ _ h=>⟨_,SH,⟨_,SH,⟨_,LF,⟨_,λ_=>SH,⟨_,λ_=>SH,⟨λj=>?_,λj=>?_⟩⟩⟩⟩⟩⟩);.have e:gT a A agent x=(A,11):=c_ (by grind);rw[e]at k;exact k _ h.tl
 have n1:¬(bad agent x.boot x.time\/x.epoch<1\/1099511627776<x.epoch):=by grind
 refine⟨_,Xv,?_⟩;have d:=h.x_ RO Fm 2 rfl (x:=agent);rw[vJ ok,yx ok]at d;refine⟨_,_,_,_,d,h.al λ_ _ h=>HA h λ_ h=>⟨λrb=>?_,λrb=>?_⟩⟩
 .have e:gT a A agent x=(A,18):=by unfold gT;grind
  rw[e]at k;exact k _ h.tl.tl
 have n2:¬0<(bI A agent).epoch:=by grind
 refine⟨_,XB,⟨_,h.F5 RO 3 rfl,⟨_,XB,⟨λmost=>?_,λmost=>?_⟩⟩⟩⟩
 .have e:gT a A agent x=(A,20):=by unfold gT;grind
  rw[e]at k;exact k _ h.tl.tl
 have n3:¬full a A:=by grind
 have e:gT a A agent x=(A.set agent.toNat x,0):=by unfold gT;grind
 rw[e]at k;refine⟨_,XB,⟨_,_,_,Rs3,h.ji (α:=En) (v:=x) RO Fm 3 rfl λ_ h=>?_⟩⟩;have mb:agent.toNat<A.length:=by simp only[bad,not_or,Int.not_lt]at n1;rw[ok.len];omega
 have hs:=Cm (i:=0) (x:=x) ez mb;rw[show ((0+agent.toNat:Nat):Int)=agent by grind]at hs;refine k _ ?_;show aA _ (mv c b a::mapA aB L1 b (aW 0 (A.set agent.toNat x))::F);rw[oH hs];exact h.tl.tl
theorem F9(h:aA H (mv i c v::t_ c A::F)) (k:∀b a mb,aA mb (mv b a v::t_ a A::mv i c v::t_ c A::F)->K (.pointer (some ⟨b,0,none⟩)) mb) : CF 219 #[.pointer (some ⟨i,0,none⟩)] H K:=by refine cM 219 28 ⟨_,SH,⟨_,SH,Jr h 1 rfl λmb h _=>⟨_,rfl,⟨h.r 1,h.al λ_ _ h=>k _ _ _ h⟩⟩⟩⟩
theorem HR(h:aA H F)(k:∀c0 a,aA a (ax c0 [.pointer (some ⟨i,0,none⟩)] 159::F)->K (.func (.func 133) #[] #[.pointer (some ⟨c0,0,none⟩)]) a) : CF 77 #[.pointer (some ⟨i,0,none⟩)] H K:=by refine cM 77 28 (h.al λ_ _ h=>k _ _ h)
theorem Hl{rb:Nat}{mb:Nat}{most:Int}{c0:Nat}(ok:gj A)(rows:Nat->aF)(w:aF) (h:aA H (rows 0::ax c0 [.pointer (some ⟨rb,0,none⟩)] 159::mv rb mb most::t_ mb A::F)) (E:∀j (O:j<(aW 0 A).length) (G:List aF) (v:aC) (s:KE),aA v (rows j::G)->(∀d,aA d (rows (j+1)::G)->s (.bool true) d)->(∀d,aA d (w::G)->s (.bool false) d)->fu Tryz.prog i [aB (aW 0 A)[j].1,L1 (aW 0 A)[j].2] v s) (k:∀b,aA b (rows (aW 0 A).length::ax c0 [.pointer (some ⟨rb,0,none⟩)] 159::mv rb mb most::t_ mb A::F)->K (.tuple #[]) b) (I:∀b,aA b (w::ax c0 [.pointer (some ⟨rb,0,none⟩)] 159::mv rb mb most::t_ mb A::F)->K (.tuple #[]) b) : CF 133 #[.func (.yield i) #[] #[],.pointer (some ⟨c0,0,none⟩)] H K:=by
 refine cN 133 0x11561239925113994 [[(15,sI)]] ?_;have M:=yy ok;refine⟨_,XB,?_⟩;refine⟨_,XB,Jr h 3 rfl λv C _=>⟨_,rfl,RV ⟨_,_,rfl,RY C 0 rfl (λx N=>?_) ez λa c d y _=>⟨_,_,_,rfl,?_⟩⟩⟩⟩;.obtain⟨p,P,rfl⟩:=zb.1 N;have:=qB P;have:=ok.len;unfold aG;omega
 rw[Vh]at y;refine⟨λt b=>∃j:Nat,t=j/\j<=(aW 0 A).length/\aA b (rows j::ay 2 1 a (aW 0 A).length c ((aJ (aW 0 A)).map aB)::mapA aB L1 H.size (aW 0 A)::ax c0 [.pointer (some ⟨rb,0,none⟩)] 159::mv rb mb most::t_ mb A::F),λt _=>(aW 0 A).length-t.toNat,⟨0,rfl,EA _,y.o [2,0,1] 3⟩,?_⟩;rintro t J ⟨j,rfl,O,n⟩;refine⟨λL=>?_,λL=>?_⟩
 .have l:j<(aW 0 A).length:=by grind
  have DH:=(n.a_ 1 rfl).at (j:=j) (by grind);have f:(aJ (aW 0 A))[j]'(by grind)=(aW 0 A)[j].1:=by grind
  rw[f]at DH;have e:=n.B_ RO Fm 2 rfl (x:=(aW 0 A)[j].1);have m:((aW 0 A)[j].1,(aW 0 A)[j].2)∈aW 0 A:=s_ l;rw[oG yw m]at e;refine⟨⟨ez,ez⟩,_,_,DH.1,_,DH.2,_,_,_,e,E j l _ J _ n (λD B=>⟨true,rfl,λu=>(by cases u),λ_=>?_⟩) λD B=>⟨false,rfl,λ_=>?_,λu=>(by cases u)⟩⟩
  .conv=>whnf
   rw[aN];grind
  exact I _ (B.o [0] 3)
 obtain rfl:j=(aW 0 A).length:=by grind
 exact k _ (n.o [0] 3)
end Ro
structure Fl where
 t:Int
 out:Bool
 r_:Bool
 held:Bool
deriving DecidableEq
variable {x:Fl}
def Fl.z:Fl:=⟨0,false,false,false⟩
abbrev RX(x:Fl):Xa:=[.int .i64 x.t,.bool x.out,.bool x.r_,.bool x.held]
abbrev nS(x:Fl):Value:=.agg #[.int .i64 x.t,.bool x.out,.bool x.r_,.bool x.held]
abbrev FM:=List (Int×Fl)
variable {L:FM}
abbrev Fx(t:Int):Prop:=0<=t/\t<=4611686018427387903
abbrev Xi(a:Int):Prop:=0<=a/\a<64
structure MS where
 h_:Int
 now:Int
 value:Int
 m:FM
deriving DecidableEq
variable {s:MS}
structure E6(s:MS):Prop where
 l1:1<=s.h_
 l2:s.h_<=1099511627776
 n:Fx s.now
 v1:-s.h_<=s.value
 v2:s.value<=4611686018427387903
 nd:(aJ s.m).Nodup
 rows:∀p∈s.m,Xi p.1/\Fx p.2.t
def MS.new(h_:Int):MS:=⟨h_,0,-h_,[]⟩
def MS.join(s:MS)(a t:Int):MS×Int:=
 if ¬Xi a\/¬Fx t then (s,11) else
 match aK a s.m with
 | some _=>(s,18)
 | none=>({ s with m:=eO a ⟨t,false,false,false⟩ s.m },0)
def MS.raise(s:MS)(a t:Int):MS×Int:=
 match aK a s.m with
 | none=>(s,19)
 | some x=>if ¬Fx t then (s,11) else ({ s with m:=eO a ⟨if t>x.t then t else x.t,x.out,x.r_,x.held⟩ s.m },0)
def MS.hold(s:MS)(a:Int)(b:Bool):MS×Int:=
 match aK a s.m with
 | none=>(s,19)
 | some x=>({ s with m:=eO a ⟨x.t,x.out,x.r_,b⟩ s.m },0)
def MS.leave(s:MS)(a:Int):MS×Int:=
 match aK a s.m with
 | none=>(s,19)
 | some _=>({ s with m:=bF a s.m },0)
def kS(lim:Int)(x:Fl):Fl:=⟨x.t,decide (x.t<lim),x.r_||decide (x.t<lim),x.held⟩
def oW(lim:Int)(s:Int×Bool)(x:Fl):Int×Bool:=
 if ¬x.t<lim/\x.held=false/\(s.2=false\/x.t<s.1) then (x.t,true) else s
def jY(lim:Int)(m:FM):List Int->Int×Bool->Int×Bool
 | [],s=>s
 | k::r,s=>jY lim m r (oW lim s ((aK k m).getD Fl.z))
abbrev ae2(a b:Int):Int:=if b>a then b else a
def MS.tick(s:MS)(now:Int):MS×Int:=
 if ¬Fx now\/now<s.now then (s,11) else
 ({ s with now:=now,value:=ae2 s.value (jY (now-s.h_) s.m (i_ (aJ s.m)) (now-s.h_,false)).1,m:=s.m.map λp=>(p.1,kS (now-s.h_) p.2) },0)
section
variable {κ α:Type}[DecidableEq κ]
theorem LH{k:κ}{v:α}:∀{m:List (κ×α)},(aJ m).Nodup->k∈aJ m->(m.map λp=>if p.1=k then (k,v) else p).Perm (eO k v m)
 | [],_,h=>by simp at h
 | p::r,hn,h=>by
  simp only[aJ,Hy,q2d]at hn
  by_cases e:p.1=k
  .have a:k∉aJ r:=by grind
   have e1:(r.map λp=>if p.1=k then (k,v) else p)=r:=by
    conv=>rhs;rw[<-List.map_id r]
    apply q2e
    grind
   have e2:bF k (p::r)=r:=by
    have:bF k (p::r)=bF k r:=by grind [bF]
    grind [lG,dX]
   rw[Hy,c_ e,e1];unfold eO;rw[e2]
  .have a:k∈aJ r:=by
    grind
   rw[Hy,b_ e];refine ((LH (m:=r) hn.2 a).cons p).trans ?_;unfold eO;have:bF k (p::r)=p::bF k r:=by grind [bF]
   rw[this];exact .swap _ _ _
theorem yz{β:Type}{f:κ->α->β}{k:κ}:∀{m:List (κ×α)},aK k (m.map λp=>(p.1,f p.1 p.2))=(aK k m).map (f k)
 | []=>rfl
 | p::r=>by have a:=yz (f:=f) (k:=k) (m:=r);grind [aK]
omit [DecidableEq κ] in
theorem LI{β:Type}{f:κ->α->β}{m:List (κ×α)}:aJ (m.map λp=>(p.1,f p.1 p.2))=aJ m:=by simp_all
end
theorem LJ:∀(n:Nat) (l:List Int),l.Nodup->(∀x∈l,0<=x/\x<(n:Int))->l.length<=n
 | 0,l,_,h=>by cases l with
  | nil=>simp
  | cons a r=>have:=h a eh;omega
 | n+1,l,hn,h=>by have c:=LJ n (l.erase (n:Int)) (hn.erase _) (λx b=>by grind);grind
theorem E6.le(h:E6 s):s.m.length<=64:=by have:=LJ 64 (aJ s.m) h.nd (λx a=>by obtain⟨p,b,rfl⟩:=zb.1 a;exact (h.rows p b).1);grind
theorem E6.wf(h:E6 s):∀x∈aJ s.m,aG x:=by intro x a;obtain⟨p,b,rfl⟩:=zb.1 a;have:=(h.rows p b).1;unfold aG;omega
theorem E6.look(h:E6 s)(b:aK a s.m=some x):Xi a/\Fx x.t:=h.rows _ (eD b)
theorem E6.new{h_:Int}(a:1<=h_)(b:h_<=1099511627776):E6 (MS.new h_):=⟨a,b,⟨by simp[MS.new],by simp[MS.new]⟩,F_ _,by grind [MS.new],by simp[MS.new],λp c=>by grind [MS.new]⟩
theorem E6.eO{s:MS}(h:E6 s){a:Int}{x:Fl}(d:Xi a)(c:Fx x.t):E6 { s with m:=eO a x s.m }:=⟨h.l1,h.l2,h.n,h.v1,h.v2,qh h.nd,λp b=>by
 rcases DL.1 b with rfl|b;.grind
 exact h.rows p (nt.1 b).1⟩
theorem E6.join{s:MS}(h:E6 s)(a t:Int):E6 (s.join a t).1:=by
 unfold MS.join;split;.exact h
 rename_i b;split;.exact h
 exact h.eO ez (by simp only;omega)
theorem E6.raise{s:MS}(h:E6 s)(a t:Int):E6 (s.raise a t).1:=by
 unfold MS.raise;split;.exact h
 rename_i x b;have c:=h.look b;split;.exact h
 refine h.eO c.1 ?_;simp only;split <;> omega
theorem E6.hold{s:MS}(h:E6 s)(a:Int)(b:Bool):E6 (s.hold a b).1:=by
 unfold MS.hold;split;.exact h
 rename_i x c;exact h.eO (h.look c).1 (h.look c).2
theorem E6.leave{s:MS}(h:E6 s)(a:Int):E6 (s.leave a).1:=by
 unfold MS.leave;split;.exact h
 exact⟨h.l1,h.l2,h.n,h.v1,h.v2,te h.nd,λp b=>h.rows p (nt.1 b).1⟩
theorem LK{lim:Int}{m:FM}(hm:∀p∈m,Fx p.2.t):∀(a:List Int) (s:Int×Bool),(s.1<=4611686018427387903)->(jY lim m a s).1<=4611686018427387903
 | [],s,h=>h
 | k::r,s,h=>by
  refine LK hm r _ ?_;unfold oW
  split
  .simp only
   cases hk:aK k m with
   | none=>simp[Fl.z]
   | some x=>exact (hm _ (eD hk)).2
  .exact h
theorem E6.tick{s:MS}(h:E6 s)(now:Int):E6 (s.tick now).1:=by
 unfold MS.tick;split;.exact h
 rename_i d;have:=h.l1;have:=h.v1;have:=h.v2;have c:=LK (lim:=now-s.h_) (λp a=>(h.rows p a).2) (i_ (aJ s.m)) (now-s.h_,false) (by grind);refine⟨h.l1,h.l2,⟨by grind,by grind⟩,?_,?_,?_,λp a=>?_⟩;.grind
 .grind
 .exact (congrArg List.Nodup (LI (f:=λ_ x=>kS (now-s.h_) x) (m:=s.m))).mpr h.nd
 obtain⟨q,b,rfl⟩:=zb.1 a;exact h.rows q b
def Xg(lim:Int)(m:FM)(l:List Int):FM:=m.map λp=>(p.1,if p.1∈l then kS lim p.2 else p.2)
theorem aeY(lim:Int)(m:FM):Xg lim m []=m:=by unfold Xg;simp_all
theorem aeZ(h:∀x∈aJ L,x∈l):Xg a L l=L.map λp=>(p.1,kS a p.2):=by unfold Xg;apply q2e;grind
theorem LM(lim:Int)(m:FM)(l:List Int):aJ (Xg lim m l)=aJ m:=LI (f:=λk x=>if k∈l then kS lim x else x) (m:=m)
theorem ab6(lim:Int)(m:FM)(l:List Int)(k:Int):aK k (Xg lim m l)=(aK k m).map λx=>if k∈l then kS lim x else x:=yz (f:=λk x=>if k∈l then kS lim x else x) (m:=m)
theorem ab5(b:(aJ L).Nodup)(d:aK a L=some x):(eO a (kS v x) (Xg v L l)).Perm (Xg v L (l++[a])):=by
 have k:a∈aJ (Xg v L l):=by rw[LM];exact zb.2 ⟨_,eD d,rfl⟩
 refine (LH (by grind [LM]) k).symm.trans ?_;have:(Xg v L l).map (λp=>if p.1=a then (a,kS v x) else p)=Xg v L (l++[a]):=by
  unfold Xg;rw[XP];apply q2e;intro p c;simp only[Function.comp_def,DA,CS];by_cases e:p.1=a
  .have f:p.2=x:=by have:=oG b (show (p.1,p.2)∈L from c);grind
   grind
  grind
 rw[this]
theorem LN(lim:Int)(m:FM):∀(l r:List Int) (s:Int×Bool),jY lim m (l++r) s=jY lim m r (jY lim m l s)
 | [],_,_=>rfl
 | k::l,r,s=>LN lim m l r _
theorem Vj(h:l.Nodup):(i_ l).Nodup:=(qi l).nodup_iff.2 h
theorem LO:a∈i_ l↔a∈l:=(qi l).mem_iff
theorem Vk(h:l.Nodup)(a:i<l.length):l[i]∉l.take i:=by grind [List.getElem_of_mem,List.pairwise_iff_getElem]
namespace Ma
theorem HI:jB Tryz.prog 292 2 260 nS Fl.z:=ny Tryz.underlying292 kf
theorem Fm:lH Tryz.prog 2 aB:=xb Tryz.underlying2
abbrev eY(mb rb:Nat)(s:MS):aF:=ax mb [aB s.h_,aB s.now,aB s.value,.map (some rb)] 294
abbrev j_(rb:Nat)(m:FM):aF:=mapA aB nS rb m
theorem l_:bX Tryz.prog 390 #[aB a] H (.bool (decide (Fx a))):=by refine cM 390 28 ⟨congrArg Value.bool ?_,rfl⟩;grind
theorem LP:bX Tryz.prog 391 #[aB a] H (.bool (decide (Xi a))):=by refine cM 391 28 ⟨congrArg Value.bool ?_,rfl⟩;grind
theorem Xw(h:aA H F)(i:Nat)(a:aX i F=eY c b s):bX Tryz.prog 74 #[.pointer (some ⟨c,0,none⟩)] H (aB s.now):=by unfold bX;refine cM 74 28 ⟨_,h.rd i a _,rfl,rfl⟩
theorem F7(h:aA H F)(i:Nat)(a:aX i F=eY c b s):bX Tryz.prog 76 #[.pointer (some ⟨c,0,none⟩)] H (aB s.value):=by unfold bX;refine cM 76 28 ⟨_,h.rd i a _,rfl,rfl⟩
theorem D_(h:aA H F)(k1:v<1\/1099511627776<v->K (.tuple #[.pointer none,aB 11]) H) (k2:1<=v->v<=1099511627776->∀mb rb b,aA b (eY mb rb (MS.new v)::j_ rb []::F)->K (.tuple #[.pointer (some ⟨mb,0,none⟩),aB 0]) b) : CF 311 #[aB v] H K:=by
 refine cM 311 476 ⟨λa=>k1 (by grind),λa=>?_⟩;have a:1<=v/\v<=1099511627776:=by grind
 refine h.YF aB nS λrb _ h=>?_;rw[aN (x:=0-v)];refine h.al λmb _ h=>k2 a.1 a.2 mb rb _ ?_;have e:(0:Int)-v=-v:=ez;rw[e]at h;exact h
theorem Fj(h:aA H (eY i c s::j_ c s.m::F)) (k:∀b,aA b (eY i c s::j_ c s.m::F)->K (.tuple #[nS ((aK a s.m).getD Fl.z),.bool (aK a s.m).isSome]) b) : CF 136 #[.pointer (some ⟨i,0,none⟩),aB a] H K:=by
 refine cM 136 284 (h.al λ_ _ h=>⟨_,Xv,⟨_,_,_,_,_,h.x_ HI Fm 2 rfl,?_⟩⟩);repeat (first| refine h.al λ_ _ h=>?_| refine St3 h λ_ h=>?_| refine⟨_,_,_,_,Rs3,?_⟩)
 exact k _ h.tl.tl
theorem Hj{t:Int}(h:aA H (eY i c s::j_ c s.m::F)) (k:∀rb,aA rb (eY i c (s.join a t).1::j_ c (s.join a t).1.m::F)->K (aB (s.join a t).2) rb) : CF 357 #[.pointer (some ⟨i,0,none⟩),aB a,aB t] H K:=by
 refine cM 357 30546716 ⟨_,LP,_,λ_=>l_,λd=>?_,λd=>?_⟩;.have e:s.join a t=(s,11):=c_ (by grind);rw[e]at k;exact k _ h
 have f:¬(¬Xi a\/¬Fx t):=by grind
 refine⟨_,SH,⟨_,_,_,_,_,h.x_ HI Fm 1 rfl,h.al λ_ _ h=>S_ h λ_ h=>?_⟩⟩;cases hl:aK a s.m with
  | some x=>
  have e:s.join a t=(s,18):=by unfold MS.join;grind
  rw[e]at k;exact⟨λ_=>k _ h.tl,λb=>by cases b⟩
  | none=>
  have e:s.join a t=({ s with m:=eO a ⟨t,false,false,false⟩ s.m },0):=by unfold MS.join;grind
  rw[e]at k;refine⟨λb=>(by cases b),λ_=>⟨_,Xv,h.ji (α:=Fl) (v:=⟨t,false,false,false⟩) HI Fm 2 rfl λrb h=>k _ h.tl⟩⟩
theorem C2(h:aA H (eY i c s::j_ c s.m::F)) (k:∀rb,aA rb (eY i c (s.leave a).1::j_ c (s.leave a).1.m::F)->K (aB (s.leave a).2) rb) : CF 355 #[.pointer (some ⟨i,0,none⟩),aB a] H K:=by
 refine cM 355 1186588 ⟨_,SH,⟨_,_,_,_,_,h.x_ HI Fm 1 rfl,h.al λ_ _ h=>S_ h λ_ h=>?_⟩⟩;cases hl:aK a s.m with
  | none=>
  have e:s.leave a=(s,19):=by grind [MS.leave]
  rw[e]at k;exact⟨λ_=>k _ h.tl,λb=>by cases b⟩
  | some x=>
  have e:s.leave a=({ s with m:=bF a s.m },0):=by grind [MS.leave]
  rw[e]at k;refine⟨λb=>(by cases b),λ_=>⟨_,Xv,h.DN HI Fm 2 rfl λrb h=>k _ h.tl⟩⟩
theorem F9(h:aA H (eY i c s::j_ c s.m::F)) (k:∀a b rb,aA rb (eY a b s::j_ b s.m::eY i c s::j_ c s.m::F)->K (.pointer (some ⟨a,0,none⟩)) rb) : CF 220 #[.pointer (some ⟨i,0,none⟩)] H K:=by
 refine cM 220 4380 ⟨_,_,_,_,h.q 0,?_⟩;repeat (first| refine h.al λ_ _ h=>?_| refine⟨_,Xv,?_⟩| refine HA h λ_ h=>?_)
 refine Js h 2 rfl λrb h _=>⟨_,rfl,h.st 1 rfl rfl λ_ h=>k _ _ _ (h.o [1,0,2,3] 4)⟩
theorem Co{f:FuncId}(rb:bK f X.calls=true)(h:aA H (eY i c s::j_ c s.m::F)) (k1:aK a s.m=none->∀j,aA j (eY i c s::j_ c s.m::F)->K (aB 19) j) (hb:∀x,aK a s.m=some x->∀b y,aA y (ax b (RX x) 260::eY i c s::j_ c s.m::F)->CF f ⟨(.pointer (some ⟨b,0,none⟩))::N⟩ y λu k=>(∃r:Int,u=aB r/\r≠0/\K (aB r) k)\/ (u=aB 0/\∃d n,aA k (ax b (RX d) 260::eY i c s::j_ c s.m::n)/\∀w,aA w (eY i c s::j_ c (eO a d s.m)::n)->K (aB 0) w)) : CF 362 #[.pointer (some ⟨i,0,none⟩),aB a,.func (.func f) #[] ⟨N⟩] H K:=by
 refine cM 362 298982172 ⟨_,SH,?_⟩;have e:=h.x_ HI Fm 1 rfl (x:=a);cases hm:aK a s.m with
  | none=>rw[hm]at e;refine⟨_,_,_,_,_,e,h.al λ_ _ h=>S_ h λ_ h=>⟨λ_=>k1 hm _ h.tl,λrb=>by cases rb⟩⟩
  | some x=>
  rw[hm]at e;refine⟨_,_,_,_,_,e,h.al λ_ _ h=>S_ h λ_ h=>⟨λrb=>(by cases rb),λ_=>⟨rb,(hb x hm _ _ h).mono λu k A=>?_⟩⟩⟩;rcases A with ⟨r,rfl,B,t⟩|⟨rfl,d,n,mb,t⟩;.exact⟨r,rfl,λ_=>t,λrb=>cS (by grind) B⟩
  refine⟨0,rfl,λrb=>by simp at rb,λ_=>⟨_,mb.r 1,_,_,_,_,mb.q 0,mb.ji (α:=Fl) (v:=d) HI Fm 2 rfl λj h=>t _ h.tl⟩⟩
theorem HN{F:List aF}{t:Int}(h:aA H (eY i c s::j_ c s.m::F)) (k:∀d,aA d (eY i c (s.raise a t).1::j_ c (s.raise a t).1.m::F)->K (aB (s.raise a t).2) d) : CF 368 #[.pointer (some ⟨i,0,none⟩),aB a,aB t] H K:=by
 refine cM 368 28 (h.al λrb _ h=>Co (F:=ax rb [aB t] 2::F) kf (h.o [1,2,0] 3) (λj d h=>⟨_,rfl,?_⟩) λx n b v h=>?_)
 .have e:s.raise a t=(s,19):=by grind [MS.raise]
  rw[e]at k;exact k _ (h.o [0,1] 3)
 refine cM 416 7452 ⟨_,h.r 3,_,l_,λmb=>?_,λmb=>?_⟩
 .have f:¬Fx t:=by grind
  have e:s.raise a t=(s,11):=by unfold MS.raise;grind
  rw[e]at k;exact .inl ⟨11,rfl,ee,_,rfl,k _ (h.o [1,2] 4)⟩
 have f:¬¬Fx t:=by grind
 have e:s.raise a t=({ s with m:=eO a ⟨if t>x.t then t else x.t,x.out,x.r_,x.held⟩ s.m },0):=by unfold MS.raise;grind
 rw[e]at k;refine⟨_,h.r 0,_,h.r 3,h.st 0 rfl rfl λ_ h=>.inr ⟨rfl,⟨if t>x.t then t else x.t,x.out,x.r_,x.held⟩,_,h,λu h=>⟨_,rfl,k _ (h.o [0,1] 3)⟩⟩⟩
theorem aaC{F:List aF}{v:Bool}(h:aA H (eY i c s::j_ c s.m::F)) (k:∀d,aA d (eY i c (s.hold a v).1::j_ c (s.hold a v).1.m::F)->K (aB (s.hold a v).2) d) : CF 288 #[.pointer (some ⟨i,0,none⟩),aB a,.bool v] H K:=by
 refine cM 288 28 (h.al λrb _ h=>Co (F:=ax rb [.bool v] 4::F) kf (h.o [1,2,0] 3) (λf d h=>⟨_,rfl,?_⟩) λx mb b n h=>?_)
 .have e:s.hold a v=(s,19):=by grind [MS.hold]
  rw[e]at k;exact k _ (h.o [0,1] 3)
 refine cM 363 284 ?_;have e:s.hold a v=({ s with m:=eO a ⟨x.t,x.out,x.r_,v⟩ s.m },0):=by grind [MS.hold]
 rw[e]at k;refine⟨_,h.r 3,h.st 0 rfl rfl λ_ h=>.inr ⟨rfl,⟨x.t,x.out,x.r_,v⟩,_,h,λj h=>⟨_,rfl,k _ (h.o [0,1] 3)⟩⟩⟩
section
variable {mb rb:Nat}{s:MS}{F:List aF}{H:aC}{K:KE}
theorem HR(h:aA H F)(k:∀c0 a,aA a (ax c0 [.pointer (some ⟨mb,0,none⟩)] 160::F)->K (.func (.func 450) #[] #[.pointer (some ⟨c0,0,none⟩)]) a) : CF 417 #[.pointer (some ⟨mb,0,none⟩)] H K:=by refine cM 417 28 (h.al λ_ _ h=>k _ _ h)
abbrev dH(s:MS):List Int:=i_ (aJ s.m)
abbrev atF(s:MS)(a:Int):Fl:=(aK a s.m).getD Fl.z
theorem ahp:(dH s).length=s.m.length:=by simp[dH,tg,aJ]
theorem Hl{l c0:Nat}(ok:E6 s)(A:Nat->aF)(C:aF)(B:aF) (h:aA H (eY mb rb s::j_ rb s.m::B::ax c0 [.pointer (some ⟨mb,0,none⟩)] 160::F)) (u:∀G b,aA b (eY mb rb s::j_ rb s.m::B::G)->aA b (A 0::G)) (J:∀j (Q:j<(dH s).length) (G:List aF) (y:aC) (v:KE),aA y (A j::G)->(∀d,aA d (A (j+1)::G)->v (.bool true) d)->(∀d,aA d (C::G)->v (.bool false) d)->fu Tryz.prog l [aB (dH s)[j],nS (atF s (dH s)[j])] y v) (k:∀b,aA b (A (dH s).length::ax c0 [.pointer (some ⟨mb,0,none⟩)] 160::F)->K (.tuple #[]) b) (L:∀b,aA b (C::ax c0 [.pointer (some ⟨mb,0,none⟩)] 160::F)->K (.tuple #[]) b) : CF 450 #[.func (.yield l) #[] #[],.pointer (some ⟨c0,0,none⟩)] H K:=by
 refine cN 450 0x11561239925113994 [[(15,sI)]] ?_;have O:=ok.le;have P:(dH s).length=s.m.length:=ahp;refine⟨_,Ra4,?_⟩;refine⟨_,Ra4,Js h 1 rfl λy E _=>⟨_,rfl,Sc ⟨_,_,rfl,Sd E 0 rfl ok.wf ez λa c d n _=>⟨_,_,_,rfl,?_⟩⟩⟩⟩;have n:=u _ _ (n.o [2,3,4,0,1] 5);refine⟨λt b=>∃j:Nat,t=j/\j<=(dH s).length/\aA b (A j::ay 2 1 a s.m.length c ((dH s).map aB)::j_ H.size s.m::ax c0 [.pointer (some ⟨mb,0,none⟩)] 160::F),λt _=>(dH s).length-t.toNat,⟨0,rfl,EA _,n⟩,?_⟩;rintro t M ⟨j,rfl,Q,f⟩;refine⟨λN=>?_,λN=>?_⟩
 .have e:j<(dH s).length:=by grind
  have DH:=(f.a_ 1 rfl).at e;have i:=f.B_ HI Fm 2 rfl (x:=(dH s)[j]);refine⟨⟨ez,ez⟩,_,_,DH.1,_,DH.2,_,_,_,_,i,J j e _ M _ f (λI D=>⟨true,rfl,λw=>(by cases w),λ_=>?_⟩) λI D=>⟨false,rfl,λ_=>?_,λw=>(by cases w)⟩⟩
  .conv=>whnf
   rw[aN];grind
  exact L _ (D.o [0,3] 4)
 obtain rfl:j=(dH s).length:=by grind
 exact k _ (f.o [0,3] 4)
theorem Vl{b c0 c1 c2 c3:Nat}{x:Fl}{now least:Int}{a:Bool}(j:1<=s.h_/\s.h_<=1099511627776)(i:Fx now) (h:aA H (ax b (RX x) 260::eY mb rb s::ax c0 [aB now] 2::ax c1 [.pointer (some ⟨mb,0,none⟩)] 160::ax c2 [.bool a] 4::ax c3 [aB least] 2::F)) (k:∀d,aA d (ax b (RX (kS (now-s.h_) x)) 260::eY mb rb s::ax c0 [aB now] 2::ax c1 [.pointer (some ⟨mb,0,none⟩)] 160::ax c2 [.bool (oW (now-s.h_) (least,a) x).2] 4::ax c3 [aB (oW (now-s.h_) (least,a) x).1] 2::F)->K (aB 0) d) : CF 418 #[.pointer (some ⟨b,0,none⟩),.pointer (some ⟨c0,0,none⟩),.pointer (some ⟨c1,0,none⟩),.pointer (some ⟨c2,0,none⟩),.pointer (some ⟨c3,0,none⟩)] H K:=by
 refine Ra ⟨_,h.r 0,_,h.r 2,_,h.r 3,dj ⟨_,h.r 1,?_⟩⟩;dsimp only;rw[aN (x:=now-s.h_)];refine h.st 0 rfl rfl λ_ h=>⟨_,h.r 0,λ_=>trivial,_,λ_=>h.r 0,h.st 0 rfl rfl λ_ h=>⟨_,h.r 0,λ_=>trivial,_,λ_=>h.r 0,_,λ_=>h.r 4,λ_=>trivial,_,λ_=>h.r 0,_,λ_=>h.r 5,?_⟩⟩;intro m c;refine⟨λf=>?_,λf=>?_⟩;.have e:oW (now-s.h_) (least,a) x=(x.t,true):=c_ (by grind);rw[e]at k;refine⟨_,h.r 0,h.st 5 rfl rfl λ_ h=>h.st 4 rfl rfl λ_ h=>c _ (k _ h)⟩
 have e:oW (now-s.h_) (least,a) x=(least,a):=b_ (λn=>by grind);rw[e]at k;exact c _ (k _ h)
def tkA(mb rb b b1 lb fb l:Nat)(R:Loop)(s:MS)(now:Int)(j:Nat):aF:=
 star [eY mb rb { s with now:=now },j_ rb (Xg (now-s.h_) s.m ((dH s).take j)),ax b [.pointer (some ⟨mb,0,none⟩)] 160,ax b1 [aB now] 2,
  ax lb [aB (jY (now-s.h_) s.m ((dH s).take j) (now-s.h_,false)).1] 2,ax fb [.bool (jY (now-s.h_) s.m ((dH s).take j) (now-s.h_,false)).2] 4,pt l (.loop R)]
theorem Vm{b b1 lb fb j:Nat}{now:Int}{a i:aC}{R:Loop}{G:List aF}{d:KE}(ok:E6 s)(k:Fx now)(e:j<(dH s).length) (h:aA i (tkA mb rb b b1 lb fb (a.size+1) R s now j::G)) (t:∀c,aA c (tkA mb rb b b1 lb fb (a.size+1) R s now (j+1)::G)->d (.bool true) c) : AO.y1 b b1 lb 0 fb 0 a R [aB (dH s)[j],nS (atF s (dH s)[j])] i d:=by
 have h:=h.open;unfold AO.y1;refine⟨_,_,_,_,_,rfl,h.hN 6 rfl,h.hN 6 rfl,h.FK 6 rfl λF h=>⟨_,h.r 2,?_⟩⟩;obtain⟨x,y⟩:∃x,aK (dH s)[j] s.m=some x:=by cases hm:aK (dH s)[j] s.m with
   | some x=>grind
   | none=>grind [LO,List.getElem_mem,dX]
 have n:=Vk (Vj ok.nd) e;have u:aK (dH s)[j] (Xg (now-s.h_) s.m ((dH s).take j))=some x:=by grind [ab6]
 have A:(dH s).take (j+1)=(dH s).take j++[(dH s)[j]]:=q1c e;refine Co (s:={ s with now:=now,m:=Xg (now-s.h_) s.m ((dH s).take j) }) (f:=418) kf h (λC=>by grind) λv w bb H h=>?_;obtain rfl:x=v:=by grind
 refine Vl (s:={ s with now:=now }) ⟨ok.l1,ok.l2⟩ k (h.o [0,1,4,3,6,5,2,7] 8) λD h=>.inr ⟨rfl,kS (now-s.h_) x,_,h.o [0,1,6,2,3,4,5,7] 8,λE h=>⟨_,rfl,⟨h.hN 6 rfl,t _ ?_⟩⟩⟩;have h:=h.qc 6 rfl (.loop R);unfold tkA;refine aA.shut [_,_,_,_,_,_,_] ?_;have em:j_ rb (eO (dH s)[j] (kS (now-s.h_) x) (Xg (now-s.h_) s.m ((dH s).take j)))=j_ rb (Xg (now-s.h_) s.m ((dH s).take j++[(dH s)[j]])):=oH (ab5 ok.nd y);rw[A,LN,<-em];have B:jY (now-s.h_) s.m [(dH s)[j]] (jY (now-s.h_) s.m ((dH s).take j) (now-s.h_,false))=oW (now-s.h_) (jY (now-s.h_) s.m ((dH s).take j) (now-s.h_,false)) x:=by show oW _ _ ((aK _ s.m).getD Fl.z)=_;grind
 rw[B];exact h.o [0,1,3,2,5,4,6] 7
theorem Hh{now:Int}(ok:E6 s)(h:aA H (eY mb rb s::j_ rb s.m::F)) (k:∀a,aA a (eY mb rb (s.tick now).1::j_ rb (s.tick now).1.m::F)->K (aB (s.tick now).2) a) : CF 369 #[.pointer (some ⟨mb,0,none⟩),aB now] H K:=by
 refine Rk (h.al λb _ h=>h.al λb1 _ h=>⟨_,h.r 0,_,l_,_,λ_=>h.r 0,_,λ_=>h.rd (1) rfl _,λ_=>trivial,_,λ_=>h.r 2,λB=>?_,λB=>?_⟩);.have e:s.tick now=(s,11):=c_ (by grind);rw[e]at k;exact k _ h.tl.tl
 have c:¬(¬Fx now\/now<s.now):=by grind
 have t:Fx now:=by
  rcases Classical.em (Fx now) with h|h;.exact h
  exact cS (Or.inl h) c
 have e:s.tick now=({ s with now:=now,value:=ae2 s.value (jY (now-s.h_) s.m (i_ (aJ s.m)) (now-s.h_,false)).1,m:=s.m.map λp=>(p.1,kS (now-s.h_) p.2) },0):=b_ c;rw[e]at k;have E:=ok.l1;have C:=ok.l2;refine⟨_,h.r 1,_,h.r 0,dj (h.st 2 rfl rfl λ_ h=>?_)⟩;intro y D;have fin:∀lb fb a,aA a (ax b1 [aB now] 2::ax b [.pointer (some ⟨mb,0,none⟩)] 160::ax lb [aB (now-s.h_)] 2::ax fb [.bool false] 4::eY mb rb { s with now:=now }::j_ rb s.m::F)->y lb 0 fb 0 a:=by
  intro lb fb a h;refine D _ _ _ _ _ ⟨_,h.r 1,HR h λc0 d h=>⟨_,_,rfl,rfl,λR n i w=>?_⟩⟩;have h:=h.F1 R;have h:aA _ (eY mb rb { s with now:=now }::j_ rb s.m::star [ax b [.pointer (some ⟨mb,0,none⟩)] 160,ax b1 [aB now] 2,ax lb [aB (now-s.h_)] 2,ax fb [.bool false] 4,pt (d.size+1) (.loop R)]::ax c0 [.pointer (some ⟨mb,0,none⟩)] 160::pt d.size (.deferred (some []))::F):=(aA.shut [_,_,_,_,_] (h.o [4,3,5,6,0,7,8,2,1] 9)).o [1,2,0] 3;refine Hl (s:={ s with now:=now }) ⟨ok.l1,ok.l2,t,ok.v1,ok.v2,ok.nd,ok.rows⟩ (λj=>tkA mb rb b b1 lb fb (d.size+1) R s now j) (DB False) _ h (λG a h=>?_) (λj L G O N v u _=>w _ _ _ (Vm ok t L v u)) (λI f=>?_) (λI f=>(aA.B2 f).1.elim);.unfold tkA;rw[q26,aeY];refine aA.shut [_,_,_,_,_,_,_] (((h.o [2,0,1] 3).open).o [5,6,0,1,2,3,4] 7)
  have h:=aA.open (A:=[_,_,_,_,_,_,_]) f;have e1:(dH { s with now:=now }).length=(dH s).length:=rfl;rw[e1,FL (w_ _),aeZ (λx J=>LO.2 J)]at h;refine⟨.ready,none,ee,by rw[lp n i];exact h.hN 6 rfl,h.FK 6 rfl λM h=>⟨rfl,⟨_,h.r 2,_,h.r 2,dj ⟨_,h.r 0,_,h.r 4,dj (h.st 0 rfl rfl λ_ h=>⟨h.hN 8 rfl,?_⟩)⟩⟩⟩⟩;have h:=h.qc 8 rfl (.deferred none);exact k _ (h.o [0,1] 9)
 refine⟨_,h.r 0,_,h.r 1,dj ⟨_,h.r 2,?_⟩⟩;dsimp only;rw[aN (x:=now-s.h_)];refine⟨h.al λlb _ h=>⟨h.r 3,h.r 2,h.r 1,h.al λfb _ h=>⟨h.r 4,h.r 3,h.r 2,h.st 1 rfl rfl λ_ h=>h.st 0 rfl rfl λ_ h=>?_⟩⟩,h.al λfb _ h=>⟨h.r 3,h.r 2,h.r 1,h.al λlb _ h=>⟨h.r 4,h.r 3,h.r 2,h.st 0 rfl rfl λ_ h=>h.st 1 rfl rfl λ_ h=>?_⟩⟩⟩;.exact fin lb fb _ (h.o [2,3,1,0] 4)
 exact fin lb fb _ (h.o [2,3,0,1] 4)
end
theorem HM{value:Int}(A:Fx a)(I:1<=s.h_/\s.h_<=1099511627776)(E:a-s.h_<=value/\value<=a)(x:∀p∈L,Xi p.1/\Fx p.2.t) (h:aA H (eY i c s::j_ c s.m::j_ b L::F)) (k:∀d rb,aA rb (eY i d ⟨s.h_,a,value,L⟩::j_ d L::j_ b L::F)->K (aB 0) rb) : CF 326 #[.pointer (some ⟨i,0,none⟩),aB a,aB value,.map (some b)] H K:=by
 refine cN 326 0x1d121561239951d41c [[]] ?_;have e1:i64.wrap (a-s.h_)=a-s.h_:=aN;refine⟨_,l_,λ_=>trivial,_,λ_=>h.r 0,?_⟩;dsimp only;conv=>whnf
 rw[e1,RD A,decide_eq_false (show ¬value<a-s.h_ by omega),decide_eq_false (show ¬a<value by omega)];refine⟨λnow=>(by cases now),λ_=>h.YF aB nS λab _ h=>h.F2 HI 3 rfl λn M h=>⟨n,rfl,⟨λrb=>∃dn:FM,aA rb (j_ ab dn::eY i c s::j_ c s.m::jt aB nS n b L dn::F),λrb=>L.length-pu rb n,⟨[],h⟩,?_⟩⟩⟩;intro J ⟨dn,h⟩;let⟨C,B⟩:=h.k_ 3 rfl;refine h.Fe 3 rfl (λD=>Or.inl ⟨rfl,λnow=>(by cases now),λ_=>?_⟩) λp j w ag h=>Or.inr ⟨_,_,rfl,λ_=>?_,λnow=>(by cases now)⟩;.have h:=h.F3 3 rfl;refine h.st 1 rfl rfl λ_ h=>h.st 1 rfl rfl λ_ h=>h.st 1 rfl rfl λ_ h=>k ab _ ?_;have em:j_ ab dn=j_ ab L:=oH D;have h:=h.o [1,0,3] 4;simp only[aao,aX,sZ,put,em]at h;exact h
 have f:=aA.DP (P:=Tryz.prog) h 3 rfl;let⟨mb,e⟩:=h.k_ 3 rfl;rw[qa,q29]at mb e;refine⟨_,_,_,_,_,f,h.al λb2 _ h=>h.st 0 rfl rfl λ_ h=>?_⟩;have u:=x p j;refine⟨_,LP,_,λ_=>h.r 0,_,λ_=>l_,?_⟩;rw[RD u.1,RD u.2];refine⟨λnow=>(by cases now),λ_=>⟨_,_,_,_,h.q 0,h.ji (α:=Fl) (v:=p.2) HI Fm 1 rfl λG h=>⟨⟨dn++[p],?_⟩,?_⟩⟩⟩;.have em:j_ ab (eO p.1 p.2 dn)=j_ ab (dn++[p]):=oH (by grind [eO,lG,dX]);have h:=h.tl;simp only[put,em]at h;exact h
 let⟨y,_⟩:=h.k_ 4 rfl;grind
end Ma
theorem Vn{P:Program}{t e:TypeId}{n:Nat}{f:Nat->Int}(c:P.underlying t=some (.array n e))(d:∀w,(Go.sizeOf e).run P w=.ok 1 w)(b:∀w,(Go.isAgg e).run P w=.ok false w)(h0:0<=v)(h:v<n) : ne P (Instr.index t (.agg ⟨cq .u64 f n 0⟩) (aB v)) (.int .u64 (f v.toNat)):=by intro w;have a:=vi .u64 f n 0 v.toNat ez;rw[iE]at a;simp only[Instr.index,asIntOf,Sem.run_bind,Sem.run_pure,Result.andThen_ok,fD c];rw[c_ ⟨h0,h⟩];simp only[Sem.run_bind,d,Result.andThen_ok,q25,part,b];simp[a]
def nT:Nat->RS->List (Nat×Nat)×RS
 | 0,s=>([],s)
 | n+1,s=>(((bQ s).1,(bQ (bQ s).2).1)::(nT n (bQ (bQ s).2).2).1,(nT n (bQ (bQ s).2).2).2)
def qC(prev:Option Nat)(p:Nat):Bool:=match prev with|some x=>decide (p<=x)|none=>false
def nU:List (Nat×Nat)->Option Nat->(Nat->Int)->Option (Nat->Int)
 | [],_,h=>some h
 | (p,q)::r,prev,h=>if qC prev p=true\/65<=p then none else if q=0\/9223372036854775807<q then none else nU r (some p) (fO h p q)
def rU(ps:List (Nat×Nat))(q:Nat):Option Nat:=if q=0 then none else some (ps.getD (q-1) (0,0)).1
def tW(n0 n1 n2:Nat)(lo hi:Int)(t:List Int)(ps:List (Nat×Nat)):Cl×Int:=
 if 9223372036854775807<n0\/9223372036854775807<n1\/9223372036854775807<n2 then (Cl.z,10) else
 if t.length≠16 then (Cl.z,10) else
 match nU ps none Z0 with
 | none=>(Cl.z,10)
 | some h=>if gr ⟨n0,jF t,lo,hi,n1,n2,h⟩ then (⟨n0,jF t,lo,hi,n1,n2,h⟩,0) else (Cl.z,10)
def kT(bs:List Int):Cl×Int:=
 let a:=bQ ⟨0,bs⟩
 let b:=bQ a.2
 let c:=bQ b.2
 let lo:=dC c.2
 let hi:=dC lo.2
 let t:=bg 16 hi.2
 let n:=cx 65 t.2
 let p:=nT n.1.toNat n.2
 if (dG p.2).e≠0 then (Cl.z,(dG p.2).e) else tW a.1 b.1 c.1 lo.1 hi.1 t.1 p.1
theorem y4(h:aI O.bs):aI (dC O).2.bs:=ij h
theorem LQ(s:RS):(dC s).2.bs.length<=s.bs.length:=kN s
theorem LR:∀{l:List (Nat×Nat)} {a:Option Nat} {h g:Nat->Int},wfH h->nU l a h=some g->wfH g
 | [],_,h,g,hw,e=>by cases e;exact hw
 | (p,q)::r,a,h,g,hw,e=>by
  unfold nU at e
  split at e
  .cases e
  .split at e
   .cases e
   .rename_i b c;refine LR (l:=r) ?_ e;intro i hi;unfold fO
    split
    .unfold aG;omega
    .exact hw i hi
theorem Vo{ps:List (Nat×Nat)}(hb:aI l)(hi:aG v)(n2:aG a):WC (tW i c b v a l ps).1:=by
 unfold tW;split;.exact WC.z
 split;.exact WC.z
 split;.exact WC.z
 rename_i d _ g n1;split;.exact⟨by unfold aG;grind,Kb l hb,hi,n2,by unfold aG;grind,by unfold aG;grind,LR vj n1⟩
 exact WC.z
theorem Vp(hb:aI l):WC (kT l).1:=by
 unfold kT;dsimp only;split;.exact WC.z
 exact Vo (mJ (y4 (y4 (ij (ij (ij (s:=⟨0,l⟩) hb)))))).2 (tM _) (tM _)
theorem Vq(h:(kT l).2=0):gr (kT l).1=true:=by
 unfold kT at h ⊢;dsimp only at h ⊢;split;.grind
 rename_i a;rw[b_ a]at h;unfold tW at h ⊢;grind
theorem Cp{m:Int}(h:aI O.bs)(hm:0<=m):0<=(cx m O).1/\(cx m O).1<=m:=by unfold cx;grind
theorem aiS:Fh Tryz.prog 650 651 2 16:=fU kf
abbrev X_(p:Nat×Nat):Xa:=[PV p.1,PV p.2]
theorem y5(p:Nat×Nat):(X_ p).length=2:=rfl
def f3(a b c:Nat):Nat->Int:=λi=>match i with|0=>(a:Int)|1=>(b:Int)|_=>(c:Int)
theorem ahs(h0:0<=v)(d:v<3):ne Tryz.prog (Instr.index 649 (.agg #[PV i,PV b,PV c]) (aD v)) (.int .u64 (f3 i b c v.toNat)):=Vn (f:=f3 i b c) (n:=3) Tryz.underlying649 Tryz.sizeOf407 Tryz.isAgg407 h0 ez
theorem Vr{bs:List Int}(hn:bs.length=i)(hb:aI bs)(h:aA H F)(ha:∀H,aA H F->aQ H I (bs.map U8))(hl:i<=10000000000) (k:∀A,aA A F->K (.tuple #[Fv (kT bs).1,aD (kT bs).2]) A):CF 392 #[.slice I i c] H K:=by
 subst hn;refine Rf ?_;unfold kT at k;dsimp only at k;refine h.al λb _ h=>tD (bs:=bs) h (λH h=>ha H h.tl) ez λrb H1 h=>⟨_,rfl,?_⟩;have P:aI (⟨0,bs⟩:RS).bs:=hb;have hL0:(⟨0,bs⟩:RS).bs.length<=10000000000:=hl;refine oT h P ez λH2 h=>⟨_,rfl,?_⟩;have E:=ij P;have y2:=kN (⟨0,bs⟩:RS);generalize bQ ⟨0,bs⟩=r1 at *;refine oT h E ez λH3 h=>⟨_,rfl,?_⟩;have N:=ij E;have r8:=kN r1.2;generalize bQ r1.2=r2 at *;refine oT h N ez λH4 h=>⟨_,rfl,?_⟩;have O:=ij N;have l5:=kN r2.2;generalize bQ r2.2=r3 at *;refine h.al λb1 _ h=>h.zy 0 rfl rfl λH6 h=>?_;have h:=h.o [1,0] 2;refine xW h O ez λH7 h=>⟨_,rfl,?_⟩;have L:=y4 O;have r0:=LQ r3.2;have Z:aG (dC r3.2).1:=tM _;generalize dC r3.2=r4 at *;refine xW h L ez λH8 h=>⟨_,rfl,?_⟩;have M:=y4 L;have hL5:=LQ r4.2;have h7:aG (dC r4.2).1:=tM _;generalize dC r4.2=r5 at *;refine oQ (most:=16) h M ez ee λH9 h=>⟨_,rfl,?_⟩;have v:=(mJ (m:=16) M);have hL6:=(pD r5.2 16);generalize bg 16 r5.2=r6 at *;refine uY (most:=65) h v.1 ez ee λH10 h=>⟨_,rfl,?_⟩;have h3:=tN (m:=65) v.1;have hL7:=tO r6.2 65;have h9:=Cp (m:=65) v.1 ee;generalize cx 65 r6.2=r7 at *;refine⟨λpa pn pc n A=>∃(j:Nat) (d:List (Nat×Nat)) (s:RS),n=j/\(j:Int)<=r7.1/\pn=d.length/\d.length=j/\aI s.bs/\s.bs.length<=10000000000/\ nT r7.1.toNat r7.2=(d++(nT (r7.1.toNat-j) s).1,(nT (r7.1.toNat-j) s).2)/\ aA A (kb rb s::ay 651 2 pa d.length pc (flat X_ d)::ax b1 [PV r1.1,PV r2.1,PV r3.1] 649::ax b (dF Cl.z) 181::F),λ_ _ _ n _=>(r7.1-n).toNat,⟨0,[],r7.2,rfl,h9.1,rfl,rfl,h3,ez,rfl,?_⟩,?_⟩;.exact ((h.cp 651 2).o [1,0] 2)
 rintro pa pn pc n y3 ⟨j,d,s,rfl,hj,rfl,j3,w,hsl,e,h⟩;refine⟨λW=>?_,λW=>?_⟩
 .have f:=ke W;have hu1:=xU w;have r9:=xU (ij w);refine oT h w ez λH12 h=>⟨_,rfl,?_⟩;have hl1:=kN s;refine oT h (ij w) ez λH13 h=>⟨_,rfl,?_⟩;have u8:=kN (bQ s).2;intro b2 _ rfl rfl;refine h.CA (ws:=X_ ((bQ s).1,(bQ (bQ s).2).1)) aiS 1 rfl rfl rfl ez ez λa' c' H15 h=>⟨_,_,_,rfl,?_⟩;rw[show i64.wrap ((j:Int)+1)=((j+1:Nat):Int) by grind [aN]];refine⟨⟨j+1,d++[((bQ s).1,(bQ (bQ s).2).1)],(bQ (bQ s).2).2,rfl,ez,eh,by simp[j3],ij (ij w),ez,?_,?_⟩,?_⟩;.rw [e,show r7.1.toNat-j=(r7.1.toNat-(j+1))+1 by omega,nT,Fw];rfl
  .rw [iX,nv,qa];exact h
  grind
 have hge:=ix W;have Y:r7.1.toNat-j=0:=ez;rw[Y,nT,Hz]at e;rw[e]at k;dsimp only at k;refine xX h λH16 h=>⟨_,rfl,λhe=>?_,λhe=>?_⟩;.rw [c_ (by grind)]at k;refine h.zy 3 rfl rfl λu h=>⟨_,_,_,_,_,_,_,_,h.u_ 3 rfl,k _ h.tl.tl.tl.tl⟩
 rw[b_ (by grind)]at k;unfold tW at k;refine⟨_,_,_,h.u_ 2 rfl,?_⟩;have h:=h.tl;refine⟨λn A=>∃t:Nat,n=t/\t<=3/\(∀q,q<t->f3 r1.1 r2.1 r3.1 q<=9223372036854775807)/\aA A (ay 651 2 pa d.length pc (flat X_ d)::ax b1 [PV r1.1,PV r2.1,PV r3.1] 649::ax b (dF Cl.z) 181::F),λn _=>3-n.toNat,⟨0,rfl,ez,λ_ h=>ez,h⟩,?_⟩;rintro n l6 ⟨t,rfl,ht,hq,h⟩;refine⟨λR=>?_,λR=>?_⟩
 .have f:t<3:=by grind
  refine⟨_,ahs ez ez,?_⟩;rw[Fu];refine⟨λy=>?_,λy=>?_⟩
  .have y:=ke y;have:9223372036854775807<r1.1\/9223372036854775807<r2.1\/9223372036854775807<r3.1:=by unfold f3 at y;grind
   rw[c_ this]at k;refine h.zy 2 rfl rfl λu h=>⟨_,_,_,_,_,_,_,_,h.u_ 2 rfl,k _ h.tl.tl.tl⟩
  have y:=ix y;rw[show i64.wrap ((t:Int)+1)=((t+1:Nat):Int) by grind [aN]];grind
 have:t=3:=by grind
 subst this;have g0:(r1.1:Int)<=9223372036854775807:=hq 0 ee;have g1:(r2.1:Int)<=9223372036854775807:=hq 1 ee;have g2:(r3.1:Int)<=9223372036854775807:=hq 2 ee;rw[nO]at k;refine⟨ee,_,h.r 1,ee,_,h.r 1,ee,_,h.r 1,?_⟩;dsimp only;rw[aN (x:=(r1.1:Int)) ez g0,aN (x:=(r2.1:Int)) ez g1,aN (x:=(r3.1:Int)) ez g2];refine h.al λb3 _ h=>h.zy 0 rfl (by grind) λH21 h=>h.st 0 rfl rfl λH22 h=>h.st 0 rfl rfl λh8 h=>?_;have h:aA h8 (ax b3 (dF ⟨r1.1,0,r4.1,r5.1,r2.1,r3.1,Z0⟩) 181::ay 651 2 pa d.length pc (flat X_ d)::ax b1 [PV r1.1,PV r2.1,PV r3.1] 649::ax b (dF Cl.z) 181::F):=h;refine xF v.2 h λa' c' H24 h=>⟨_,_,_,rfl,TA (bs:=r6.1) rfl v.2 h (λH h=>h.a_ 0 rfl) ez (λC j2 h=>⟨_,_,_,rfl,?_⟩) (λC j2 h=>⟨_,_,_,rfl,?_⟩)⟩;.rw [c_ C]at k;refine h.al λb4 _ h=>h.zy 0 rfl rfl λU h=>⟨λ_=>?_,λhf=>by cases hf⟩;refine h.zy 5 rfl rfl λu h=>⟨_,_,_,_,_,_,_,_,h.u_ 5 rfl,k _ h.tl.tl.tl.tl.tl.tl⟩
 rw [b_ (λhh=>hh C)]at k;refine h.al λb4 _ h=>h.zy 0 rfl rfl λU h=>⟨λhf=>(by cases hf),λ_=>⟨_,_,h.u_ 0 rfl,h.st 2 rfl rfl λT h=>?_⟩⟩;have h:aA T (ax b4 [aD (C3 (jF r6.1)),.int .u64 (C_ (jF r6.1))] 177::ay 5 1 a' r6.1.length c' (r6.1.map U8)::ax b3 (dF ⟨r1.1,jF r6.1,r4.1,r5.1,r2.1,r3.1,Z0⟩) 181::ay 651 2 pa d.length pc (flat X_ d)::ax b1 [PV r1.1,PV r2.1,PV r3.1] 649::ax b (dF Cl.z) 181::F):=h;have h:=h.o [2,3,5] 6;refine⟨λn A=>∃(q:Nat) (g:Nat->Int),n=q/\q<=d.length/\wfH g/\nU d none Z0=nU (d.drop q) (rU d q) g/\aA A (ax b3 (dF ⟨r1.1,jF r6.1,r4.1,r5.1,r2.1,r3.1,g⟩) 181::ay 651 2 pa d.length pc (flat X_ d)::ax b (dF Cl.z) 181::F),λn _=>d.length-n.toNat,⟨0,Z0,rfl,EA _,vj,rfl,h⟩,?_⟩;rintro n H30 ⟨q,g,rfl,hq2,y,e2,h⟩;refine⟨λh1=>?_,λh1=>?_⟩
 .have f:q<d.length:=by grind
  have B:=h.a_ 1 rfl;rw[RF f,nU]at e2;refine⟨⟨ez,ez⟩,_,_,B.some y5 ez f,_,_,B.E8 y5 f,h.al λb6 _ h=>h.zy 0 rfl rfl λS h=>?_⟩;have B:=h.a_ 2 rfl;have D:((decide (0<(q:Int)))=true)->aM S (aV pa) (aS pa+(i64.wrap ((q:Int)-1)).toNat*2+0)=some (.int .u64 ((d.getD (q-1) (0,0)).1:Nat)):=by intro h0;have h0:=ke h0;rw[aN (x:=(q:Int)-1),show ((q:Int)-1).toNat=q-1 by omega];have j1:q-1<d.length:=ez;have:=(B.E8 y5 j1).1;grind
  refine⟨λ_=>ee,_,λ_=>h.r 0,λh0=>by have h0:=ke h0;rw[aN (x:=(q:Int)-1)];omega,_,_,λ_=>B.some y5 ez f,λ_=>ee,_,D,λ_=>ee,_,λ_=>h.r 0,?_⟩;have V:((decide (0<(q:Int))&&decide (((d[q].1:Nat):Int)<=(((d.getD (q-1) (0,0)).1:Nat):Int)))||decide (65<=((d[q].1:Nat):Int)))=(qC (rU d q) d[q].1||decide (65<=d[q].1)):=by
   unfold rU;rcases Nat.eq_zero_or_pos q with h0|h0;.subst h0;rw[c_ rfl];grind [qC]
   rw [nO];rw[q24];simp only[qC,HW,q_,v_,q2y];omega
  dsimp only;rw[V];have Q:(qC (rU d q) d[q].1||decide (65<=d[q].1))=true↔(qC (rU d q) d[q].1=true\/65<=d[q].1):=by grind
  refine⟨λJ=>?_,λJ=>?_⟩;.rw [c_ (Q.1 J)]at e2;rw[e2]at k;refine h.zy 3 rfl rfl λu h=>⟨_,_,_,_,_,_,_,_,h.u_ 3 rfl,k _ h.tl.tl.tl.tl⟩
  have h6:¬(qC (rU d q) d[q].1=true\/65<=d[q].1):=λhh=>by grind
  rw[b_ h6]at e2;refine⟨ee,_,h.r 0,λ_=>ee,_,λ_=>h.r 0,λh2=>?_,λh2=>?_⟩
  .have:d[q].2=0\/9223372036854775807<d[q].2:=by grind
   rw[c_ this]at e2;rw[e2]at k;refine h.zy 3 rfl rfl λu h=>⟨_,_,_,_,_,_,_,_,h.u_ 3 rfl,k _ h.tl.tl.tl.tl⟩
  have l0:¬(d[q].2=0\/9223372036854775807<d[q].2):=by grind
  rw[b_ l0]at e2;have a:d[q].1<65:=ez;refine⟨ee,_,h.r 0,ee,_,h.rd 0 rfl _,⟨ez,ez⟩,?_⟩;rw[aN (x:=((d[q].2:Nat):Int)),Fu];have G:cu (dF ⟨r1.1,jF r6.1,r4.1,r5.1,r2.1,r3.1,g⟩) (7+d[q].1) [aD (d[q].2:Nat)]=dF ⟨r1.1,jF r6.1,r4.1,r5.1,r2.1,r3.1,fO g d[q].1 (d[q].2:Nat)⟩:=by
   refine (uK [aD (d[q].2:Nat)] [_,_,_,_,_,_,_] (cq .i64 g 65 0) d[q].1).trans ?_;have e3:cu (cq .i64 g 65 0) d[q].1 [aD (d[q].2:Nat)]=cq .i64 (fO g d[q].1 (d[q].2:Nat)) 65 0:=by show (cq .i64 g 65 0).set d[q].1 (aD (d[q].2:Nat))=_;rw[Bb _ _ _ _ _ _ a,CB]
   rw[e3]
  refine⟨h.can 1 rfl _ _ (by rw[lN];simp;omega),?_⟩;intro H35 h5;have h:=h.set 1 rfl (7+d[q].1) [aD (d[q].2:Nat)];rw[G,<-h5]at h;rw[show i64.wrap ((q:Int)+1)=((q+1:Nat):Int) by grind [aN]];refine⟨⟨q+1,fO g d[q].1 (d[q].2:Nat),rfl,f,?_,?_,h.tl⟩,by grind⟩
  .intro n hi;unfold fO;split;.unfold aG;omega
   exact y n hi
  rw [e2];congr 1;unfold rU;grind
 have h4:q=d.length:=by grind
 subst h4;rw[V_,nU]at e2;rw[e2]at k;dsimp only at k;refine⟨_,_,_,_,_,_,_,_,h.u_ 0 rfl,?_⟩;have wc:WC ⟨r1.1,jF r6.1,r4.1,r5.1,r2.1,r3.1,g⟩:=⟨by unfold aG;grind,Kb _ v.2,Z,h7,by unfold aG;grind,by unfold aG;grind,y⟩;refine vk wc h λH36 h=>⟨_,rfl,λB=>?_,λB=>?_⟩;.rw [b_ (by grind)]at k;refine h.zy 2 rfl rfl λu h=>⟨_,_,_,_,_,_,_,_,h.u_ 2 rfl,k _ h.tl.tl.tl⟩
 rw [c_ (by grind)]at k;refine⟨_,_,_,_,_,_,_,_,h.u_ 0 rfl,h.zy 2 rfl (by rw[lN];grind [lN]) λu h=>⟨_,_,_,_,_,_,_,_,h.u_ 2 rfl,k _ h.tl.tl.tl⟩⟩
structure bM where
 width:Int
 po:Int
 most:Int
 h_:Int
 kl:Int
 za:Int
 agents:Int
 cells:Int
 hold:Int
variable {M:bM}
abbrev bM.gd(c:bM):Gd:=⟨c.width,c.po,c.most⟩
abbrev pI(c:bM):Xa:=[aB c.width,aB c.po,aB c.most,aB c.h_,aB c.kl,aB c.za,aB c.agents,aB c.cells,aB c.hold]
structure bC where
 ck:Ck
 hs:HS Pv
 last:Int
variable {E:bC}
structure aL where
 cfg:bM
 now:Int
 boots:Int
 sunk:Int
 rows:List En
 ms:MS
 cm:CM
 sts:List (Option bC)
 kept:List Ot
variable {B:aL}
section
variable {α:Type}
def de:Nat->List (Option α)->List (Int×Option α)
 | _,[]=>[]
 | i,none::r=>de (i+1) r
 | i,some b::r=>((i:Int),some b)::de (i+1) r
theorem y6:∀{l:List (Option α)} {i:Nat} {p:Int×Option α},p∈de i l->(i:Int)<=p.1/\p.1<i+l.length
 | [],i,p,h=>by grind [de]
 | none::r,i,p,h=>by
  have a:=y6 (l:=r) (i:=i+1) h
  grind
 | some b::r,i,p,h=>by
  simp only[CU]
  rcases DL.1 h with rfl|h
  .grind
  .have a:=y6 (l:=r) (i:=i+1) h;omega
theorem Cq{l:List (Option α)}{i k:Nat}(h:k<i):((k:Nat):Int)∉aJ (de i l):=λhm=>by let⟨p,a,b⟩:=zb.1 hm;have:=y6 a;omega
theorem vK:∀{l:List (Option α)} {i k:Nat},aK ((i+k:Nat):Int) (de i l)=match l[k]? with|some (some b)=>some (some b)|_=>none
 | [],i,k=>by simp[de,aK]
 | none::r,i,0=>by simp only[List.getElem?_cons_zero];exact dX.2 (Cq (l:=r) ez)
 | some b::r,i,0=>by simp[de,aK]
 | none::r,i,k+1=>by have a:=vK (l:=r) (i:=i+1) (k:=k);grind [de]
 | some b::r,i,k+1=>by have a:=vK (l:=r) (i:=i+1) (k:=k);rw[show i+1+k=i+(k+1) by omega]at a;simp only[de,List.getElem?_cons_succ,aK];grind
theorem LS{β:Type}{k:Int}{l:List (Int×β)}(h:k∉aJ l):bF k l=l:=lG (dX.2 h)
theorem y7{b:α}:∀{l:List (Option α)} {i k:Nat},k<l.length->(de i (l.set k (some b))).Perm (eO ((i+k:Nat):Int) (some b) (de i l))
 | none::r,i,0,_=>by
  simp only[q37,de];unfold eO;rw[LS (Cq ez)]
  simp_all
 | some c::r,i,0,_=>by
  simp only[q37,de];unfold eO;have:bF ((i+0:Nat):Int) (((i:Int),some c)::de (i+1) r)=bF ((i+0:Nat):Int) (de (i+1) r):=by simp[bF]
  rw[this,LS (Cq ez)]
  simp_all
 | none::r,i,k+1,h=>by
  have a:=y7 (b:=b) (l:=r) (i:=i+1) (k:=k) (eu h);rw[show i+1+k=i+(k+1) by omega]at a;exact a
 | some c::r,i,k+1,h=>by
  have a:=y7 (b:=b) (l:=r) (i:=i+1) (k:=k) (eu h);rw[show i+1+k=i+(k+1) by omega]at a;simp only[List.set_cons_succ,de];refine (a.cons _).trans ?_;unfold eO;have:bF ((i+(k+1):Nat):Int) (((i:Int),some c)::de (i+1) r)=((i:Int),some c)::bF ((i+(k+1):Nat):Int) (de (i+1) r):=by
   have d:¬(i:Int)=((i+(k+1):Nat):Int):=ez
   simp[bF,q1x,d];omega
  rw[this];exact .swap _ _ _
end
abbrev KL(p:Option Nat):Value:=match p with|some b=>PA b 0|none=>.pointer none
theorem rV:jB Tryz.prog 162 2 303 KL none:=ny Tryz.underlying162 kf
def Fp(Q:aF)(b:Nat)(s:bC):aF:=F6 λp:Nat×Nat=>star [ax b [PA p.1 0,PA p.2 0,aD s.last] 310,FH p.1 s.ck,C1 Q p.2 s.hs]
def A_(Q:aF):List (Option Nat)->List (Option bC)->aF
 | some b::bs,some s::ss=>Fp Q b s*A_ Q bs ss
 | _::bs,_::ss=>A_ Q bs ss
 | _,_=>emp
theorem qD{Q:aF}{b:Nat}{s:bC}:∀{bl:List (Option Nat)} {sts:List (Option bC)} {k:Nat},bl[k]?=some none->sts[k]?=some none->Fp Q b s*A_ Q bl sts=A_ Q (bl.set k (some b)) (sts.set k (some s))
 | [],_,k,h,_=>by simp at h
 | _::_,[],k,_,h=>by simp at h
 | x::bs,y::ss,0,h1,h2=>by simp at h1 h2;subst h1;subst h2;rfl
 | none::bs,y::ss,k+1,h1,h2=>qD (bl:=bs) (sts:=ss) (k:=k) (by grind) (by grind)
 | some x::bs,none::ss,k+1,h1,h2=>qD (bl:=bs) (sts:=ss) (k:=k) (by grind) (by grind)
 | some x::bs,some y::ss,k+1,h1,h2=>by have a:=qD (Q:=Q) (b:=b) (s:=s) (bl:=bs) (sts:=ss) (k:=k) (eu h1) (eu h2);show Fp Q b s*(Fp Q x y*A_ Q bs ss)=Fp Q x y*A_ Q (bs.set k (some b)) (ss.set k (some s));rw[<-a,<-nr,wW (Fp Q b s),nr]
theorem Cr{Q:aF}:∀{n:Nat},A_ Q (List.replicate n none) (List.replicate n none)=emp
 | 0=>rfl
 | n+1=>Cr (n:=n)
section
variable {F L:List aF}{H:aC}{K KP:KE}{Q Q':aF}
theorem io{b:Nat}{s:bC}:aA H (Fp Q b s::F)↔∃cb hb,aA H (ax b [PA cb 0,PA hb 0,aD s.last] 310::FH cb s.ck::C1 Q hb s.hs::F):=by
 constructor;.intro h;let⟨⟨cb,hb⟩,h⟩:=cw.1 h;exact⟨cb,hb,aA.open (A:=[_,_,_]) h⟩
 intro⟨cb,hb,h⟩;exact cw.2 ⟨(cb,hb),aA.shut [_,_,_] h⟩
theorem abb{b:Nat}{s:bC}(hs:aH Q Q')(h:aA H (Fp Q b s::F)):aA H (Fp Q' b s::F):=by let⟨cb,hb,h⟩:=io.1 h;have h:=h.o [2,0,1] 3;have h:=Bx hs h;exact io.2 ⟨cb,hb,h.o [1,2,0] 3⟩
theorem vL(hs:aH Q Q'):∀{bl:List (Option Nat)} {sts:List (Option bC)} {F:List aF},aA H (A_ Q bl sts::F)->aA H (A_ Q' bl sts::F)
 | [],_,F,h=>h
 | none::_,[],F,h=>h
 | some _::_,[],F,h=>h
 | none::bs,y::ss,F,h=>vL (bl:=bs) (sts:=ss) hs h
 | some x::bs,none::ss,F,h=>vL (bl:=bs) (sts:=ss) hs h
 | some x::bs,some y::ss,F,h=>by have h:aA H (Fp Q x y::A_ Q bs ss::F):=gZ.1 h;have h:=abb hs h;have h:=h.o [1,0] 2;have h:=vL (bl:=bs) (sts:=ss) hs h;have h:=h.o [1,0] 2;exact gZ.2 h
def my(Q:aF)(tm:Nat)(sts:List (Option bC)):aF:=F6 λbl:List (Option Nat)=>star [mapA aD KL tm (de 0 bl),A_ Q bl sts,DB (bl.map Option.isSome=sts.map Option.isSome)]
abbrev nV(Q:aF)(bl:List (Option Nat))(sts:List (Option bC))(k:Nat):aF:=A_ Q (bl.set k none) (sts.set k none)
structure ah6(bl:List (Option Nat))(sts:List (Option bC))(k b:Nat):Prop where
 lt:k<sts.length
 m:bl.map Option.isSome=sts.map Option.isSome
 at_:bl[k]?=some (some b)
theorem lW{tm:Nat}{sts:List (Option bC)}:aA H (my Q tm sts::F)↔∃bl,bl.map Option.isSome=sts.map Option.isSome/\aA H (mapA aD KL tm (de 0 bl)::A_ Q bl sts::F):=by
 constructor;.intro h;let⟨bl,h⟩:=cw.1 h;have h:=aA.open (A:=[_,_,_]) h;have a:=aA.B2 (h.o [2,0,1] 3);exact⟨bl,a.1,a.2⟩
 intro⟨bl,a,h⟩;exact cw.2 ⟨bl,aA.shut [_,_,_] ((h.DB a).o [1,2,0] 3)⟩
theorem rW{bl:List (Option Nat)}{sts:List (Option bC)}(h:bl.map Option.isSome=sts.map Option.isSome)(k:Nat):(bl[k]?).map Option.isSome=(sts[k]?).map Option.isSome:=by rw[<-List.getElem?_map,<-List.getElem?_map,h]
theorem rX{tm k:Nat}{sts:List (Option bC)}{s:bC}(h:aA H (my Q tm sts::F))(f:sts[k]?=some (some s)) : ∃b bl,ah6 bl sts k b/\aA H (mapA aD KL tm (de 0 bl)::Fp Q b s::nV Q bl sts k::F):=by
 let⟨bl,hm,h⟩:=lW.1 h;have a:k<sts.length:=(List.getElem?_eq_some_iff.1 f).1;have i:bl.length=sts.length:=by have:=congrArg List.length hm;grind
 have c:=rW hm k;rw[f,List.getElem?_eq_getElem (show k<bl.length by omega)]at c;simp only[HV,Option.isSome_some,Option.some.injEq]at c;let⟨b,hb⟩:=Option.isSome_iff_exists.1 c;have d:bl[k]?=some (some b):=by grind
 refine⟨b,bl,⟨a,hm,d⟩,?_⟩;have e:=qD (Q:=Q) (b:=b) (s:=s) (bl:=bl.set k none) (sts:=sts.set k none) (k:=k) (by grind) (by grind);rw[q2v,q2v]at e;have e1:bl.set k (some b)=bl:=by grind [List.set_getElem_self]
 have e2:sts.set k (some s)=sts:=by grind [List.set_getElem_self]
 rw[e1,e2]at e;rw[<-e]at h;have h:=h.o [1,0] 2;have h:=gZ.1 h;exact h.o [2,0,1] 3
theorem tX{tm k b:Nat}{bl:List (Option Nat)}{sts:List (Option bC)}{s:bC}(o:ah6 bl sts k b)(h:aA H (mapA aD KL tm (de 0 bl)::Fp Q b s::nV Q bl sts k::F)) : aA H (my Q tm (sts.set k (some s))::F):=by
 have d:bl.length=sts.length:=by have:=congrArg List.length o.m;grind
 have a:=o.lt;have e:=qD (Q:=Q) (b:=b) (s:=s) (bl:=bl.set k none) (sts:=sts.set k none) (k:=k) (by grind) (by grind);rw[q2v,q2v]at e;have hb:bl[k]'ez=some b:=by have:=o.at_;grind
 have e1:bl.set k (some b)=bl:=by grind [List.set_getElem_self]
 rw[e1]at e;refine lW.2 ⟨bl,?_,?_⟩
 .rw [o.m,List.map_set];have c:=rW o.m k;rw[o.at_,List.getElem?_eq_getElem a]at c;simp only[HV,Option.isSome_some,Option.some.injEq]at c;have:(sts.map Option.isSome)[k]'(by grind)=true:=by grind
  grind [List.set_getElem_self]
 rw [<-e];have h:=h.o [1,2,0] 3;have h:=gZ.2 h;exact h.o [1,0] 2
theorem rY{tm k b:Nat}{bl:List (Option Nat)}{sts:List (Option bC)}(o:ah6 bl sts k b)(h:aA H F)(i:Nat)(c:aX i F=mapA aD KL tm (de 0 bl)) : dt Tryz.prog (Instr.lookup 162 (.map (some tm)) (aD (k:Int)) false) H (PA b 0):=by have a:=vK (l:=bl) (i:=0) (k:=k);rw[o.at_,CB]at a;exact ((h.yb (x:=((k:Nat):Int)) rV Fm i c).1 _ a).2
theorem aei{tm:Nat}{a:Int}{sts:List (Option bC)}(h:aA H (my Q tm sts::F))(e:a<0\/sts[a.toNat]?=some none\/sts[a.toNat]?=none) : dt Tryz.prog (Instr.lookup 162 (.map (some tm)) (aD a) false) H (.pointer none):=by
 let⟨bl,hm,h⟩:=lW.1 h;have b:aK a (de 0 bl)=none:=by
  rcases (ez:a<0\/0<=a) with h0|h0;.exact dX.2 λhm=>by let⟨p,c,f⟩:=zb.1 hm;have:=y6 c;omega
  have d:=vK (l:=bl) (i:=0) (k:=a.toNat);rw[CB,show ((a.toNat:Nat):Int)=a by omega]at d;grind [rW]
 exact ((h.yb (x:=a) rV Fm 0 rfl).2 b).2
end
structure ahK(c:Cl):Prop where
 n0:0<=c.n
 afA:0<=c.GG
 aeE:0<=c.pos
 mm:c.mn<=c.mx
 v:∀i,i<65->0<=c.h i
 sum:XD c.h=c.n
 z:c.n=0->c.sum=0/\c.mn=0/\c.mx=0
 nz:c.n≠0->c.h (cy c.mn).toNat≠0/\c.h (cy c.mx).toNat≠0/\∀i,i<65->c.h i=0\/(cy c.mn<=i/\(i:Int)<=cy c.mx)
theorem vM:gr J=true↔ahK J:=by
 unfold gr;constructor
 .intro h;simp only[q_,SO,E5,C5,v_]at h;let⟨⟨⟨⟨⟨⟨f,j⟩,k⟩,m⟩,d⟩,e⟩,b⟩:=h;refine⟨ez,ez,ez,ez,rH.1 d,e,λa=>?_,λa=>?_⟩;.grind
  rw [b_ a]at b;simp only[q_,SO,E5,C5]at b;refine⟨b.1.1,b.1.2,λi hi=>?_⟩;have:=b.2;unfold inB at this;grind
 intro h;simp only[q_,SO,E5,C5,v_];refine⟨⟨⟨⟨⟨⟨by have:=h.n0;omega,by have:=h.afA;omega⟩,by have:=h.aeE;omega⟩,by have:=h.mm;omega⟩,rH.2 h.v⟩,h.sum⟩,?_⟩;by_cases a:J.n=0;.rw [c_ a];have:=h.z a;grind
 rw [b_ a];have:=h.nz a;simp only[q_,SO,E5,C5];refine⟨⟨this.1,this.2.1⟩,?_⟩;unfold inB;grind
theorem Vs(h:(ii J D).2=0):gr (ii J D).1=true:=by
 unfold ii at h ⊢;split at h;.simp at h
 rename_i e;rw[b_ e];have a:=vM.1 (eu e);split at h
 .rename_i hb;rw[c_ hb];split at h;.simp at h
  rename_i d;rw[b_ d];exact vM.2 ⟨a.n0,by have:=a.afA;grind,a.aeE,a.mm,a.v,a.sum,a.z,a.nz⟩
 rename_i hb;rw[b_ hb];split at h;.simp at h
 rename_i d;rw[b_ d];exact vM.2 ⟨a.n0,a.afA,by have:=a.aeE;grind,a.mm,a.v,a.sum,a.z,a.nz⟩
theorem Vt{a:Nat}(h:a<=b):bitLen a<=bitLen b:=by
 unfold bitLen;split;.omega
 rename_i c;rw[nO];grind [Nat.log2_self_le,Nat.le_log2,Nat.le_trans]
theorem y8{w:Int}(h:v<=w):cy v<=cy w:=by have e:∀x:Int,cy x=if x<0 then 0 else if x=0 then 1 else 1+((bitLen x.toNat:Nat):Int):=λ_=>rfl;have hm:=Vt (a:=v.toNat) (b:=w.toNat) ez;grind
abbrev nW(f:Nat->Int)(n:Nat):Int:=((List.range n).map f).sum
theorem y9(f:Nat->Int)(n:Nat):nW f (n+1)=nW f n+f n:=by unfold nW;grind [List.range_succ]
theorem LT(f:Nat->Int)(j:Nat):∀n,nW (fO f j (f j+1)) n=nW f n+if j<n then 1 else 0
 | 0=>by simp[nW]
 | n+1=>by rw[y9,y9,LT f j n];unfold fO;grind
theorem LU{f:Nat->Int}:∀{n:Nat},(∀i,i<n->0<=f i)->nW f n<=0->∀i,i<n->f i=0
 | 0,_,_,i,hi=>ez
 | n+1,h,hs,i,hi=>by
  rw[y9]at hs;have h0:0<=nW f n:=YP λi hi=>h i ez
  have b:=h n ez
  rcases (ez:i<n\/i=n) with a|rfl
  .exact LU (λi hi=>h i ez) ez i a
  .omega
where YP {f:Nat->Int}:∀{n:Nat},(∀i,i<n->0<=f i)->0<=nW f n
 | 0,_=>by simp[nW]
 | n+1,h=>by
  rw[y9];have:=YP (n:=n) λi hi=>h i ez
  grind
theorem Vu{v:Int}(wc:WC J)(m:aG v)(h:(kG J v).2=0):gr (kG J v).1=true:=by
 unfold kG at h ⊢;split at h;.simp at h
 rename_i f;rw[b_ f];have a:=vM.1 (eu f);split at h;.simp at h
 rename_i d;rw[b_ d];split at h;.simp at h
 rename_i t;rw[b_ t];split at h;.simp at h
 rename_i j;rw[b_ j];have e1:(jS J.n 1).1=J.n+1:=by unfold jS at d ⊢;grind
 have bv:=qq m;have e3:(jD J.h v).1=fO J.h (cy v).toNat (J.h (cy v).toNat+1):=by unfold jD at j ⊢;grind
 have k:∀i,i≠(cy v).toNat->fO J.h (cy v).toNat (J.h (cy v).toNat+1) i=J.h i:=λi hi=>by unfold fO;grind
 have hs:fO J.h (cy v).toNat (J.h (cy v).toNat+1) (cy v).toNat=J.h (cy v).toNat+1:=by unfold fO;grind
 have B:=a.v (cy v).toNat ez;have y:=a.n0;refine vM.2 ?_;dsimp only;rw[e1,e3];have F:J.n=0->∀i,i<65->J.h i=0:=λh0=>LU (n:=65) a.v (by have:=a.sum;grind [XD,RC]);refine⟨?_,a.afA,a.aeE,?_,λi hi=>?_,?_,λh0=>?_,λ_=>?_⟩;.grind
 .grind
 .dsimp only;by_cases e:i=(cy v).toNat;.grind
  rw [k i e];exact a.v i hi
 .have C:=LT J.h (cy v).toNat 65;rw[pO]at C;have G:=a.sum;show nW _ 65=J.n+1;grind [XD,RC]
 .grind
 dsimp only;by_cases h0:J.n=0;.grind
 rw [b_ h0,b_ h0];have A:=a.nz h0;have u:∀i,J.h i≠0->i<65->fO J.h (cy v).toNat (J.h (cy v).toNat+1) i≠0:=λi hi E=>by grind
 have s:=qq wc.mn;have D:=qq wc.mx;have m1:∀x,x<=J.mn->cy x<=cy J.mn:=λx b=>y8 b;have m2:∀x,J.mx<=x->cy J.mx<=cy x:=λx b=>y8 b;refine⟨?_,?_,λi hi=>?_⟩;.grind
 .grind
 by_cases e:i=(cy v).toNat
 .right;subst e;constructor;.grind [y8]
  split;.omega
  have:=y8 (v:=v) (w:=J.mx) ez;omega
 grind
theorem ly{κ α:Type}[DecidableEq κ]{x:κ}{v:α}{m:List (κ×α)}{p:κ×α}(h:p∈eO x v m):p=(x,v)\/p∈m:=by
 unfold eO at h;rcases DL.1 h with h|h;.grind
 exact .inr (q2s.1 h).1
structure tY(m:CM):Prop where
 nd:(aJ m).Nodup
 wc:∀p∈m,WC p.2
 rt:∀p∈m,gr p.2=true
 wn:∀p∈m,aG p.1.win
theorem tY.eO{m:CM}(h:tY m){k:Ky}{c:Cl}(b:WC c)(d:gr c=true)(e:aG k.win):tY (eO k c m):=⟨qh h.nd,λp a=>by
 rcases ly a with rfl|a;.exact b
 exact h.wc p a,λp a=>by
 rcases ly a with rfl|a;.exact d
 exact h.rt p a,λp a=>by
 rcases ly a with rfl|a;.exact e
 exact h.wn p a⟩
theorem Cs{m:CM}{g_:Fb}{b:Bool}:∀{ws:List Int} {p:Ky×Cl},p∈(iZ m g_ b ws).1->∃w∈ws,p.1=⟨w,g_⟩/\p.2=(ii (fZ m ⟨w,g_⟩) b).1/\(ii (fZ m ⟨w,g_⟩) b).2=0
 | [],p,h=>by grind [iZ]
 | w::r,p,h=>by
  unfold iZ at h
  split at h
  .simp at h
  .rename_i h0
   rcases DL.1 h with rfl|h
   .grind
   .let⟨a,c,d⟩:=Cs h;exact⟨a,DG _ c,d⟩
theorem LV{m:CM}{g_:Fb}{b:Bool}:∀{ws:List Int},(iZ m g_ b ws).2=0->aJ (iZ m g_ b ws).1=ws.map λw=>(⟨w,g_⟩:Ky)
 | [],_=>rfl
 | w::r,h=>by
  unfold iZ at h ⊢
  split at h
  .grind
  .rename_i h0;rw[b_ h0];have a:=LV (ws:=r) h
   grind
theorem LW:∀{l:CM} {m:CM},tY m->(∀p∈l,WC p.2/\gr p.2=true/\aG p.1.win)->tY (mG l m)
 | [],m,h,_=>h
 | p::r,m,h,hl=>by have a:=hl p (DT ..);exact LW (l:=r) (h.eO a.1 a.2.1 a.2.2) λq b=>hl q (DG _ b)
theorem Vv{κ α:Type}[DecidableEq κ]{x:κ}{v:α}{m:List (κ×α)}(a:(aJ m).Nodup):(eO x v m).length=m.length+(if (aK x m).isNone then 1 else 0):=by
 cases h:aK x m with
 | none=>grind [Ar]
 | some u=>grind [Iy]
theorem LX:∀{l:CM} {m:CM},(aJ m).Nodup->(aJ l).Nodup->((mG l m).length:Int)=m.length+((aJ l).filter λk=>(aK k m).isNone).length
 | [],m,_,_=>by simp[mG]
 | p::r,m,hn,hl=>by
  have a:p.1∉aJ r/\(aJ r).Nodup:=q2d.1 hl;show ((mG r (eO p.1 p.2 m)).length:Int)=_;rw[LX (l:=r) (qh hn) a.2,Vv hn];have e:(aJ r).filter (λk=>(aK k (eO p.1 p.2 m)).isNone)=(aJ r).filter (λk=>(aK k m).isNone):=by
   apply List.filter_congr;intro k b;rw[pm,b_ (λe:k=p.1=>a.1 (e▸b))]
  grind
theorem ad_(b:aG v)(c:aG a):∀w∈cC v a,aG w:=by intro w last;unfold cC at last;obtain⟨i,hi,rfl⟩:=zb.1 last;have:=List.mem_range.1 hi;unfold aG at *;omega
theorem Vw(first last:Int)(g_:Fb):((cC first last).map λw=>(⟨w,g_⟩:Ky)).Nodup:=by unfold cC;rw[XP];refine List.pairwise_map.2 (List.nodup_range.imp λ{a b} c e=>c ?_);grind
theorem eI.Xj(h:eI a m):tY m:=⟨h.nd,h.wc,h.rt,h.wn⟩
theorem yA{m:CM}{last:Int}(h:eI v m)(n:aG a)(j:aG last):eI v (kI v m a last P).1:=by
 unfold kI;split;.exact h
 split;.exact h
 split;.exact h
 rename_i i u d;have d:(iZ m P (decide (a=last)) (cC a last)).2=0:=by grind
 have c:=LW (l:=(iZ m P (decide (a=last)) (cC a last)).1) h.Xj λp t=>by let⟨w,s,e1,e2,e3⟩:=Cs t;rw[e2,e1];exact⟨JD (h.cell _) _,Vs e3,ad_ n j w s⟩
 have f:=LV d;have first:=LX (l:=(iZ m P (decide (a=last)) (cC a last)).1) (m:=m) h.nd (by rw[f];exact Vw a last P);rw[f]at first;refine⟨h.m1,h.m2,c.nd,c.wc,c.rt,c.wn,?_⟩;dsimp only;rw[first];have b:rI v m a last P=true:=by grind
 unfold rI at b;rw[b_ i]at b;split at b;.cases b
 have b:=ke b;have e:((((cC a last).map λw=>(⟨w,P⟩:Ky)).filter λk=>(aK k m).isNone).length:Int)=kH m P (cC a last):=by unfold kH;rw[List.filter_map,FW];rfl
 grind
theorem Vx{k:Ky}(h:eI a m)(b:aG v)(e:aG k.win):eI a (nI m k v).1:=by
 unfold nI;split;.exact h
 rename_i c d;split;.exact h
 rename_i h0;have h0:(kG c v).2=0:=by grind
 have wc:=h.wc _ (eD d);have most:=h.Xj.eO (k:=k) (afQ wc b) (Vu wc b h0) e;refine⟨h.m1,h.m2,most.nd,most.wc,most.rt,most.wn,?_⟩;dsimp only;rw[Iy h.nd d];exact h.len
theorem aer{k:Ky}(h:eI v m)(wc:WC J)(b:aG k.win):eI v (kJ v m k J).1:=by
 unfold kJ;split;.exact h
 split;.exact h
 split;.exact h
 rename_i d e f;have a:=h.Xj.eO (k:=k) wc (by grind) b;refine⟨h.m1,h.m2,a.nd,a.wc,a.rt,a.wn,?_⟩;dsimp only;have:aK k m=none:=by simp_all
 grind [Ar]
theorem yB:∀{l:List Ot} {m:CM} {p:Ky×Cl},p∈mI m l->p∈m
 | [],m,p,h=>h
 | o::r,m,p,h=>(q2s.1 (yB (l:=r) h)).1
theorem LY:∀{l:List Ot} {m:CM},(aJ m).Nodup->(aJ (mI m l)).Nodup/\(mI m l).length<=m.length
 | [],m,h=>⟨h,w_ _⟩
 | o::r,m,h=>by have b:(aJ (bF o.1 m)).Nodup:=h.sublist (List.filter_sublist.map _);have a:=LY (l:=r) b;have c:(bF o.1 m).length<=m.length:=List.length_filter_le _ _;exact⟨a.1,DC a.2 c⟩
theorem Vy(h:eI v m):eI v (oS m a):=by have c:=LY (l:=ja m a) h.nd;exact⟨h.m1,h.m2,c.1,λp b=>h.wc p (yB b),λp b=>h.rt p (yB b),λp b=>h.wn p (yB b),by have:=c.2;have:=h.len;grind [oS]⟩
def cW(ck:Ck)(fl:Fl)(now stamp:Int):Gp×Int:=
 if (Xt ck stamp).2≠0 then (Gp.z,(Xt ck stamp).2)
 else if (lK [(Xt ck stamp).1,⟨fl.t,now⟩]).2≠0 then (Gp.z,13) else ((lK [(Xt ck stamp).1,⟨fl.t,now⟩]).1,0)
abbrev bJ(ms:MS)(a:Int):Fl:=(aK a ms.m).getD Fl.z
structure JR where
 st:bC
 ms:MS
 cm:CM
 reason:Int
 win:Int
 Xz:Gp
def eW(c:bM)(now a:Int)(st:bC)(ms:MS)(cm:CM)(e:Pv):JR:=
 if e.stamp<st.last then ⟨st,ms,cm,6,0,Gp.z⟩ else
 if (cW st.ck (bJ ms a) now e.stamp).2≠0\/st.ck.held=true then ⟨{ st with last:=e.stamp },ms,cm,2,0,Gp.z⟩ else
 if (cW st.ck (bJ ms a) now e.stamp).1.lo<(ms.raise a (cW st.ck (bJ ms a) now e.stamp).1.lo).1.value then
  ⟨{ st with last:=e.stamp },(ms.raise a (cW st.ck (bJ ms a) now e.stamp).1.lo).1,cm,1,0,(cW st.ck (bJ ms a) now e.stamp).1⟩ else
 if (kI c.cells cm (dT c.gd (cW st.ck (bJ ms a) now e.stamp).1).1 (dT c.gd (cW st.ck (bJ ms a) now e.stamp).1).2.1 (gP e.name e.labs)).2≠0 then
  ⟨{ st with last:=e.stamp },(ms.raise a (cW st.ck (bJ ms a) now e.stamp).1.lo).1,
   (kI c.cells cm (dT c.gd (cW st.ck (bJ ms a) now e.stamp).1).1 (dT c.gd (cW st.ck (bJ ms a) now e.stamp).1).2.1 (gP e.name e.labs)).1,4,0,(cW st.ck (bJ ms a) now e.stamp).1⟩ else
 if (nG c.gd (cW st.ck (bJ ms a) now e.stamp).1).2≠0 then
  ⟨{ st with last:=e.stamp },(ms.raise a (cW st.ck (bJ ms a) now e.stamp).1.lo).1,
   (kI c.cells cm (dT c.gd (cW st.ck (bJ ms a) now e.stamp).1).1 (dT c.gd (cW st.ck (bJ ms a) now e.stamp).1).2.1 (gP e.name e.labs)).1,3,0,(cW st.ck (bJ ms a) now e.stamp).1⟩ else
 ⟨{ st with last:=e.stamp },(ms.raise a (cW st.ck (bJ ms a) now e.stamp).1.lo).1,
  (nI (kI c.cells cm (dT c.gd (cW st.ck (bJ ms a) now e.stamp).1).1 (dT c.gd (cW st.ck (bJ ms a) now e.stamp).1).2.1 (gP e.name e.labs)).1 ⟨(nG c.gd (cW st.ck (bJ ms a) now e.stamp).1).1,gP e.name e.labs⟩ e.value).1,
  if (nI (kI c.cells cm (dT c.gd (cW st.ck (bJ ms a) now e.stamp).1).1 (dT c.gd (cW st.ck (bJ ms a) now e.stamp).1).2.1 (gP e.name e.labs)).1 ⟨(nG c.gd (cW st.ck (bJ ms a) now e.stamp).1).1,gP e.name e.labs⟩ e.value).2≠0 then 4 else 0,
  if (nI (kI c.cells cm (dT c.gd (cW st.ck (bJ ms a) now e.stamp).1).1 (dT c.gd (cW st.ck (bJ ms a) now e.stamp).1).2.1 (gP e.name e.labs)).1 ⟨(nG c.gd (cW st.ck (bJ ms a) now e.stamp).1).1,gP e.name e.labs⟩ e.value).2≠0 then 0 else (nG c.gd (cW st.ck (bJ ms a) now e.stamp).1).1,
  (cW st.ck (bJ ms a) now e.stamp).1⟩
theorem LZ{mm cb hb:Nat}{ck:Ck}{now a stamp:Int}(f:ck.eb.length<=8)(ms:aT N 9=some (aD now))(sb:aT N 16=some (PA b 0)) (h:aA H (ax i N 165::Ma.eY b mm s::Ma.j_ mm s.m::ax c [PA cb 0,PA hb 0,aD v] 310::FH cb ck::F)) (k:∀e,aA e (ax i N 165::Ma.eY b mm s::Ma.j_ mm s.m::ax c [PA cb 0,PA hb 0,aD v] 310::FH cb ck::F)->K (.tuple #[kF (cW ck (bJ s a) now stamp).1,aD (cW ck (bJ s a) now stamp).2]) e) : CF 367 #[PA i 0,aD a,PA c 0,aD stamp] H K:=by
 refine cN 367 298920156 [[(11,sI),(14,sA)]] (h.al λmb _ h=>⟨_,h.r 4,?_⟩);have h:=h.o [5,0,1,2,3,4] 6;refine S3 f h λB h=>⟨_,_,_,rfl,?_⟩;unfold cW at k;generalize Xt ck stamp=C at *;refine h.al λb1 _ h=>h.st 0 rfl rfl ?_;intro A h;refine⟨λn=>?_,λn=>?_⟩;.rw [c_ (by grind)]at k;refine h.st 2 rfl rfl ?_;intro j h;refine⟨_,_,h.q 2,k _ (h.o [3,4,5,6,1] 7)⟩
 rw[b_ (by grind)]at k;refine⟨_,(h.r 3).trans sb,?_⟩;have h:=h.o [4,5,0,1,2,3,6] 7;refine Ma.Fj (a:=a) h λj h=>⟨_,_,_,_,_,rfl,h.al λb2 _ h=>h.st 0 rfl rfl ?_⟩;intro y h;intro w x;generalize hM:lK [C.1,⟨(bJ s a).t,now⟩]=M at *;have d:∀pb e,aA e (ax pb [aD M.1.lo,aD M.1.hi] 54::ax mb [aD 0,aD 0] 54::ax i N 165::Ma.eY b mm s::Ma.j_ mm s.m::ax c [PA cb 0,PA hb 0,aD v] 310::FH cb ck::F)->w M.2 pb 0 e:=by
  intro pb e h;refine x _ _ _ _ ⟨λn=>?_,λn=>?_⟩;.rw [c_ (by grind)]at k;refine h.st 1 rfl rfl ?_;intro j h;exact⟨_,_,h.q 1,k _ h.tl.tl⟩
  rw [b_ (by grind)]at k;refine⟨_,_,h.q 0,h.st 1 rfl rfl ?_⟩;intro j h;exact⟨_,_,h.q 1,k _ h.tl.tl⟩
 refine⟨_,_,h.q 3,_,h.r 0,_,(h.r 6).trans ms,?_,?_⟩
 .refine h.al λb3 _ h=>⟨?_,?_⟩;.refine vf (gs:=[C.1,⟨(bJ s a).t,now⟩]) h (λH h=>h.ew 0 rfl) eh λu h=>⟨_,_,_,rfl,?_⟩;rw[hM];refine h.al λb4 _ h=>h.st 0 rfl rfl ?_;intro last h;exact d _ _ (h.o [0,7,8,3,4,9,6] 10)
  refine h.al λb5 _ h=>vf (gs:=[C.1,⟨(bJ s a).t,now⟩]) h (λH h=>h.ew 1 rfl) eh λu h=>⟨_,_,_,rfl,?_⟩;rw[hM];refine h.st 0 rfl rfl ?_;intro last h;exact d _ _ (h.o [0,7,8,3,4,9,6] 10)
 refine h.al λb6 _ h=>⟨(h.r 7).trans ms,h.r 1,h.q 4,h.al λb7 _ h=>vf (gs:=[C.1,⟨(bJ s a).t,now⟩]) h (λH h=>h.ew 0 rfl) eh λu h=>⟨_,_,_,rfl,?_⟩⟩;rw[hM];refine h.st 1 rfl rfl ?_;intro last h;exact d _ _ (h.o [1,7,8,3,4,9,6] 10)
theorem Vz(g:Gd)(t:Int):aG (fY g t):=by
 unfold fY;split;.split <;> exact ZB _
 unfold aG;decide
theorem aaR(g:Gd)(x:Gp):aG (dT g x).1/\aG (dT g x).2.1:=by grind [dT,Vz,aG]
theorem V0{c:bM}{mm cb:Nat}{p_mb p_hb p_hm v:Nat}{st:bC}{now a:Int}{e:Ev}(E:st.ck.eb.length<=8)(ok:eI c.cells m)(O:aG e.value) (U:aT N 9=some (aD now)) (w:(N.drop 12).take 3=[aD c.width,aD c.po,aD c.most]) (j:aT N 16=some (PA p_mb 0)) (A:aT N 17=some (PA p_hb 0)) (Y:∀H,aA H F->aQ H e.la (flat cJ e.labs)) (h:aA H (ax i N 165::Ma.eY p_mb mm s::Ma.j_ mm s.m::DI p_hb p_hm c.cells::cG p_hm m::ax b [PA cb 0,PA v 0,aD st.last] 310::FH cb st.ck::F)) (k:∀J,aA J (ax i N 165::Ma.eY p_mb mm (eW c now a st s m e.p).ms::Ma.j_ mm (eW c now a st s m e.p).ms.m::DI p_hb p_hm c.cells::cG p_hm (eW c now a st s m e.p).cm::ax b [PA cb 0,PA v 0,aD (eW c now a st s m e.p).st.last] 310::FH cb st.ck::F)->K (.tuple #[.agg #[aD (eW c now a st s m e.p).reason,aD (eW c now a st s m e.p).win],kF (eW c now a st s m e.p).Xz]) J) : CF 366 #[PA i 0,aD a,PA b 0,LD e] H K:=by
 refine cM 366 8182367178792412 ?_;unfold eW at k;have f:e.p.stamp=e.stamp:=rfl;have y:e.p.value=e.value:=rfl;have ms:e.p.name=e.name:=rfl;have n:e.p.labs=e.labs:=rfl;rw[f,y,ms,n]at k;refine h.al λu _ h=>h.al λb1 _ h=>h.al λb2 _ h=>⟨_,h.r 2,_,h.r 8,λd=>?_,λd=>?_⟩;.have d:=ke d;simp only[c_ d]at k;refine h.st 1 rfl rfl ?_;intro R h;refine h.st 0 rfl rfl ?_;intro S h;exact⟨_,_,h.q 1,_,_,h.q 0,k _ h.tl.tl.tl⟩
 have d:=ix d;simp only[b_ d]at k;refine⟨_,h.r 2,h.st 8 rfl rfl ?_⟩;intro R h;refine⟨_,h.r 2,?_⟩;have h:=h.o [3,4,5,8,9,0,1,2,6,7] 10;refine LZ (a:=a) (stamp:=e.stamp) E U j h λS h=>⟨_,_,_,rfl,?_⟩;generalize cW st.ck (bJ s a) now e.stamp=T at *;refine h.al λb3 _ h=>h.st 0 rfl rfl ?_;intro H4 h;refine⟨_,h.rd 4 rfl 0,_,vh (h.o [5] 6),λd=>?_,λd=>?_⟩
 .have d:T.2≠0\/st.ck.held=true:=by grind
  simp only[c_ d]at k;refine h.st 7 rfl rfl ?_;intro Z h;refine h.st 6 rfl rfl ?_;intro L h;exact⟨_,_,h.q 7,_,_,h.q 6,k _ (h.o [1,2,3,9,10,4,5] 11)⟩
 have d:¬(T.2≠0\/st.ck.held=true):=by grind
 simp only[b_ d]at k;refine⟨_,(h.r 1).trans j,_,h.r 0,?_⟩;have h:=h.o [2,3,0,1,4,5,6,7,8,9,10] 11;refine Ma.HN (a:=a) (t:=T.1.lo) h λZ h=>⟨_,rfl,?_⟩;generalize (s.raise a T.1.lo).1=M at *;refine⟨_,h.r 2,_,(h.r 3).trans j,_,Ma.F7 h 0 rfl,λd=>?_,λd=>?_⟩;.have d:=ke d;simp only[c_ d]at k;refine⟨_,_,h.q 2,h.st 7 rfl rfl ?_⟩;intro L h;refine⟨h.q 2,h.st 6 rfl rfl ?_⟩;intro V h;exact⟨_,_,h.q 7,_,_,h.q 6,k _ (h.o [3,0,1,9,10,4,5] 11)⟩
 have d:=ix d;simp only[b_ d]at k;refine⟨_,_,_,_,h.q 8,Tu h (λH h=>Y H (h.o [] 11)) λL h=>⟨_,rfl,?_⟩⟩;generalize gP e.name e.labs=g_ at *;refine⟨_,_,_,h.rds 3 rfl w,_,_,h.q 2,J4 (g:=c.gd) (x:=T.1) h λV h=>⟨_,_,_,rfl,?_⟩⟩;have sb:=aaR c.gd T.1;generalize dT c.gd T.1=W at *;refine⟨_,(h.r 3).trans A,?_⟩;have h:=h.o [9,10,0,1,2,3,4,5,6,7,8] 11;refine Tb ok sb.1 sb.2 h λH8 h=>⟨_,rfl,?_⟩;have G:eI c.cells (kI c.cells m W.1 W.2.1 g_).1:=yA ok sb.1 sb.2;generalize kI c.cells m W.1 W.2.1 g_=cs at *;refine⟨λd=>?_,λd=>?_⟩
 .have d:cs.2≠0:=by grind
  simp only[c_ d]at k;refine⟨_,_,h.q 4,h.st 9 rfl rfl ?_⟩;intro Q h;refine⟨h.q 4,h.st 8 rfl rfl ?_⟩;intro B h;exact⟨_,_,h.q 9,_,_,h.q 8,k _ (h.o [5,2,3,0,1,6,7] 11)⟩
 have d:¬cs.2≠0:=by grind
 simp only[b_ d]at k;refine⟨_,_,_,h.rds 5 rfl w,_,_,h.q 4,Sy (g:=c.gd) (x:=T.1) h λQ h=>⟨_,_,rfl,?_⟩⟩;generalize nG c.gd T.1=P at *;refine⟨λd=>?_,λd=>?_⟩
 .have d:P.2≠0:=by grind
  simp only[c_ d]at k;refine⟨_,_,h.q 4,h.st 9 rfl rfl ?_⟩;intro B h;refine⟨h.q 4,h.st 8 rfl rfl ?_⟩;intro D h;exact⟨_,_,h.q 9,_,_,h.q 8,k _ (h.o [5,2,3,0,1,6,7] 11)⟩
 have d:¬P.2≠0:=by grind
 simp only[b_ d]at k;refine⟨_,(h.r 5).trans A,_,h.r 10,SY G (key:=⟨P.1,g_⟩) O h λB h=>⟨_,rfl,?_⟩⟩;generalize nI cs.1 ⟨P.1,g_⟩ e.value=C at *;refine⟨λd=>?_,λd=>?_⟩
 .have d:C.2≠0:=by grind
  simp only[c_ d]at k;refine⟨_,_,h.q 4,h.st 9 rfl rfl ?_⟩;intro D h;refine⟨h.q 4,h.st 8 rfl rfl ?_⟩;intro I h;exact⟨_,_,h.q 9,_,_,h.q 8,k _ (h.o [5,2,3,0,1,6,7] 11)⟩
 have d:¬C.2≠0:=by grind
 simp only[b_ d]at k;refine⟨_,_,h.q 4,h.st 9 rfl rfl ?_⟩;intro D h;refine⟨h.q 4,h.st 8 rfl rfl ?_⟩;intro I h;exact⟨_,_,h.q 9,_,_,h.q 8,k _ (h.o [5,2,3,0,1,6,7] 11)⟩
structure DF where
 kind:Int:=0
 agent:Int:=0
 epoch:Int:=0
 boot:Int:=0
 next:Int:=0
 number:Int:=0
 ida:Int:=0
 ide:Int:=0
 seq:Int:=0
 reason:Int:=0
 win:Int:=0
 Xz:Gp:=Gp.z
 out:Ot:=(⟨0,⟨#[]⟩⟩,Cl.z)
abbrev dV(e:DF):Xa:=[aB e.kind,aB e.agent,aB e.epoch,aB e.boot,aB e.next,aB e.number,aB e.ida,aB e.ide,aB e.seq,aB e.reason,aB e.win,aB e.Xz.lo,aB e.Xz.hi,
 aB e.out.1.win,.string e.out.1.g_,aB e.out.2.n,aB (C3 e.out.2.sum),.int .u64 (C_ e.out.2.sum),aB e.out.2.mn,aB e.out.2.mx,aB e.out.2.GG,aB e.out.2.pos]++cq .i64 e.out.2.h 65 0
theorem Mb(e:DF):(dV e).length=87:=rfl
theorem vN(e:DF):cU (dV e)=true:=rfl
structure SAd where
 rb:Nat
 rm:Nat
 mb:Nat
 mm:Nat
 hb:Nat
 hm:Nat
 tm:Nat
 ka:KQ
 kc:Nat
abbrev dx(s:aL)(p:SAd):Xa:=[aB s.cfg.width,aB s.cfg.po,aB s.cfg.most,aB s.cfg.h_,aB s.cfg.kl,aB s.cfg.za,aB s.cfg.agents,aB s.cfg.cells,aB s.cfg.hold,aB s.now,aB s.boots,aB s.sunk,
 aB s.cfg.width,aB s.cfg.po,aB s.cfg.most,PA p.rb 0,PA p.mb 0,PA p.hb 0,.map (some p.tm),.slice p.ka s.kept.length p.kc]
structure jZ(c:bM):Prop where
 gd:c.gd.ok
 h_:1<=c.h_/\c.h_<=1099511627776
 aky:ju c.kl/\0<=c.za/\c.za<=100
 ag:1<=c.agents/\c.agents<=64
 cl:1<=c.cells/\c.cells<=1024
 hd:1<=c.hold/\c.hold<=256
structure mN(c:bM)(s:bC):Prop where
 ck:agf s.ck
 kl:s.ck.kl=c.kl
 least:s.ck.least=c.za
 hs:s.hs.Ok
 most:s.hs.most=c.hold
 next:s.hs.next<=1099511627776
 rows:∀p∈s.hs.rows,p.1<1099511627776/\gw p.2=true/\aG p.2.value
 last:-1<=s.last/\s.last<=4611686018427387903
structure cY(s:aL):Prop where
 cfg:jZ s.cfg
 now:Fx s.now
 boots:0<=s.boots/\s.boots<=1099511627776
 sunk:0<=s.sunk
 rows:gj s.rows
 ms:E6 s.ms
 h_:s.ms.h_=s.cfg.h_
 sh:eI s.cfg.cells s.cm
 len:s.sts.length=64
 sts:∀st,some st∈s.sts->mN s.cfg st
 CL:∀k:Nat,(∃st:bC,s.sts[k]?=some (some st))↔∃e:En,s.rows[k]?=some e/\0<e.epoch
 kept:∀o∈s.kept,WC o.2
theorem abm:Fh Tryz.prog 405 523 87 704:=fU kf
abbrev ago(Q:aF)(sb:Nat)(s:aL)(p:SAd):List aF:=[ax sb (dx s p) 165,Ro.mv p.rb p.rm s.cfg.agents,Ro.t_ p.rm s.rows,Ma.eY p.mb p.mm s.ms,Ma.j_ p.mm s.ms.m,DI p.hb p.hm s.cfg.cells,cG p.hm s.cm,my Q p.tm s.sts,ay 184 74 p.ka s.kept.length p.kc (flat cR s.kept)]
def p_(Q:aF)(sb:Nat)(s:aL):aF:=F6 λp:SAd=>star (ago Q sb s p)
theorem di:aA H (p_ Q i B::F)↔∃p:SAd,aA H (ax i (dx B p) 165::Ro.mv p.rb p.rm B.cfg.agents::Ro.t_ p.rm B.rows::Ma.eY p.mb p.mm B.ms::Ma.j_ p.mm B.ms.m::DI p.hb p.hm B.cfg.cells::cG p.hm B.cm::my Q p.tm B.sts::ay 184 74 p.ka B.kept.length p.kc (flat cR B.kept)::F):=by
 constructor;.intro h;let⟨p,h⟩:=cw.1 h;exact⟨p,aA.open h⟩
 intro⟨p,h⟩;exact cw.2 ⟨p,aA.shut (ago Q i B p) h⟩
theorem Mc{Q':aF}{sts:List (Option bC)}(hs:aH Q Q')(h:aA H (my Q i sts::F)):aA H (my Q' i sts::F):=by let⟨bl,a,h⟩:=lW.1 h;have h:=h.o [1,0] 2;have h:=vL hs h;exact lW.2 ⟨bl,a,h.o [1,0] 2⟩
theorem tZ{Q':aF}(hs:aH Q Q')(h:aA H (p_ Q i B::F)):aA H (p_ Q' i B::F):=by let⟨p,h⟩:=di.1 h;have h:=h.o [7,0,1,2,3,4,5,6,8] 9;have h:=Mc hs h;exact di.2 ⟨p,h.o [1,2,3,4,5,6,7,0,8] 9⟩
theorem V1(h:aA H (Q::F))(W:∀H,aA H (Q::F)->aQ H I (flat bH C))(U:∀e∈C,ge Q e)(O:C.length<=1000000)(evs:∀e∈C,e.labs.length<=1000000) (k:∀Q' L G b B,aH Q Q'->b.map Ev.p=C.map Ev.p->(∀e∈b,ge Q' e)->aA B (Q'::ay 69 4 L b.length G (flat bH b)::F)->K (.slice L b.length G) B) : CF 365 #[.slice I C.length c] H K:=by
 refine Rl (TU h W O λa1 c1 H1 h=>⟨_,_,_,rfl,⟨λi B=>∃(j:Nat) (Q':aF) (b:List Ev),i=j/\j<=C.length/\aH Q Q'/\b.map Ev.p=C.map Ev.p/\(∀q (w:q<b.length),q<j->ge Q' b[q])/\(∀q (w:q<b.length) (D:q<C.length),j<=q->b[q]=C[q])/\ aA B (Q'::ay 69 4 a1 C.length c1 (flat bH b)::F),λi _=>C.length-i.toNat,⟨0,Q,C,rfl,ez,aH.refl Q,rfl,λq _ h=>ez,λ_ _ _ _=>rfl,h.o [1,0] 2⟩,?_⟩⟩);rintro i H2 ⟨j,Q',b,rfl,hj,f,m,s,t,h⟩;have A:b.length=C.length:=by have:=congrArg List.length m;grind
 refine⟨λT=>?_,λT=>?_⟩
 .have n:j<C.length:=by grind
  have d:j<b.length:=ez;have a:=h.a_ 1 rfl;have y:=t j d n (w_ _);refine⟨ez,_,_,a.some dU ez d,_,_,_,(by have:=a.el dU d 3 (v:=.slice b[j].la b[j].labs.length b[j].lc) rfl;rw[show aS a1+((j:Nat):Int).toNat*4+2+1=aS a1+j*4+3 by simp];exact this),?_⟩;rw[y];refine Bu h (λH h=>((U _ (s_ n)).sub f).at h 0 rfl) (evs _ (s_ n)) λP a2 c2 H3 u E h=>⟨_,_,_,rfl,ez,?_⟩;let⟨M,N,J⟩:=h.FC 1 rfl (j*4+3) [.slice a2 C[j].labs.length c2] (by rw[dS dU];simp;omega) eh;refine⟨_,_,M,by rw[show aS a1+((j:Nat):Int).toNat*4+2+1=aS a1+(j*4+3) by grind];exact N,?_⟩;intro H4 V;rw[aN (x:=(j:Int)+1)];have e:=xh dU (⟨C[j].stamp,C[j].value,C[j].name,C[j].labs,a2,c2⟩:Ev) [.slice a2 C[j].labs.length c2] 3 (xs:=b) (k:=j) d eh (by rw[y];rfl);rw[e]at J;refine⟨⟨j+1,P,b.set j ⟨C[j].stamp,C[j].value,C[j].name,C[j].labs,a2,c2⟩,ez,n,f.trans u,?_,λq w R=>?_,λq w D Z=>?_,?_⟩,by grind⟩
  .rw [List.map_set,m];apply XO;.simp
   grind [Ev.p]
  .rw [List.getElem_set];split;.exact E
   exact (s q (by grind) ez).sub u
  .grind
  rw [V,show aS a1+((j:Nat):Int).toNat*4+2+1=aS a1+(j*4+3) by grind];exact J
 have Y:C.length<=j:=by grind
 rw[<-A]at h ⊢;exact k Q' a1 c1 b _ f m (λe S=>by obtain⟨q,w,rfl⟩:=XR S;exact s q w ez) h
def Pv.z:Pv:=⟨0,0,⟨#[]⟩,[]⟩
structure JS where
 st:bC
 ms:MS
 cm:CM
def vO(c:bM)(now a ep seq:Int)(x:JS)(e:Pv):JS×DF:=
 (⟨(eW c now a x.st x.ms x.cm e).st,(eW c now a x.st x.ms x.cm e).ms,(eW c now a x.st x.ms x.cm e).cm⟩,
  { kind:=3,ida:=a,ide:=ep,seq:=seq,reason:=(eW c now a x.st x.ms x.cm e).reason,win:=(eW c now a x.st x.ms x.cm e).win,Xz:=(eW c now a x.st x.ms x.cm e).Xz })
def dI(c:bM)(now a ep first:Int)(evs:List Pv)(x:JS):Nat->JS×List DF
 | 0=>(x,[])
 | n+1=>((vO c now a ep (first+n) (dI c now a ep first evs x n).1 (evs.getD n Pv.z)).1,(dI c now a ep first evs x n).2++[(vO c now a ep (first+n) (dI c now a ep first evs x n).1 (evs.getD n Pv.z)).2])
def nX(s:aL)(r:Rp)(st:bC):JS×List DF:=dI s.cfg r.nw r.ag r.ep st.hs.next (st.hs.offer r.nx r.evs).2.1 ⟨{ st with hs:=(st.hs.offer r.nx r.evs).1 },s.ms,s.cm⟩ (st.hs.offer r.nx r.evs).2.1.length
def iN(s:aL)(r:Rp):aL×List DF:=match s.sts[r.ag.toNat]? with
 | some (some st)=>({ s with now:=r.nw,ms:=(nX s r st).1.ms,cm:=(nX s r st).1.cm,sts:=s.sts.set r.ag.toNat (some (nX s r st).1.st) },
   (nX s r st).2++[{ kind:=2,agent:=r.ag,epoch:=r.ep,next:=(st.hs.offer r.nx r.evs).1.next }])
 | _=>(s,[])
theorem Ct(c:bM)(now a:Int)(st:bC)(ms:MS)(cm:CM)(e:Pv):(eW c now a st ms cm e).st.ck=st.ck/\(eW c now a st ms cm e).st.hs=st.hs/\ ((eW c now a st ms cm e).st.last=st.last\/(eW c now a st ms cm e).st.last=e.stamp):=by unfold eW;grind
theorem aaQ(g:Gd)(t:Int):aG (fY g t):=by
 unfold fY;split;.split <;> exact ZB _
 unfold aG;decide
theorem Md(g:Gd)(x:Gp):aG (dT g x).1/\aG (dT g x).2.1:=by grind [dT,aaQ,aG]
theorem aea(g:Gd)(x:Gp):aG (nG g x).1:=by
 have h:=Md g x;have z:aG 0:=by unfold aG;decide
 unfold nG;split;.exact z
 split;.exact z
 split;.exact h.1
 split;.exact h.2
 split;.exact aaQ _ _
 split;.exact z
 exact h.1
theorem V2{e:Pv}(h:eI M.cells m)(d:aG e.value):eI M.cells (eW M v a E s m e).cm:=by
 have b:=Md M.gd (cW E.ck (bJ s a) v e.stamp).1;have f:=aea M.gd (cW E.ck (bJ s a) v e.stamp).1;unfold eW;split;.exact h
 split;.exact h
 split;.exact h
 split;.exact yA h b.1 b.2
 split;.exact yA h b.1 b.2
 exact Vx (yA h b.1 b.2) d f
theorem Cu{c:bM}{now a ep first:Int}{evs:List Pv}{x:JS}(h:eI c.cells x.cm)(d:∀e∈evs,aG e.value):∀n,n<=evs.length->
  eI c.cells (dI c now a ep first evs x n).1.cm/\(dI c now a ep first evs x n).1.st.ck=x.st.ck/\(dI c now a ep first evs x n).1.st.hs=x.st.hs/\(dI c now a ep first evs x n).2.length=n
 | 0,_=>⟨h,rfl,rfl,rfl⟩
 | n+1,hn=>by
  have b:=Cu (now:=now) (a:=a) (ep:=ep) (first:=first) h d n ez;have f:=Ct c now a (dI c now a ep first evs x n).1.st (dI c now a ep first evs x n).1.ms (dI c now a ep first evs x n).1.cm (evs.getD n Pv.z);refine⟨V2 b.1 ?_,f.1.trans b.2.1,f.2.1.trans b.2.2.1,?_⟩
  .rw [xS _ ez];exact d _ (s_ _)
  .show (_++[_]).length=_;rw[qa,b.2.2.2];rfl
structure pJ(Q:aF)(F:List aF)(r:Rp)(a:KQ)(evs:List Ev):Prop where
 eq:r.evs=evs.map Ev.p
 rd:∀H,aA H F->aQ H a (flat bH evs)
 labs:∀e∈evs,ge Q e
 len:evs.length<=1000000
 GJ:∀e∈r.evs,aG e.value
theorem acP{e:Pv}(h:gw e=true):e.labs.length<=8:=by
 unfold gw at h;rw[q_]at h;conv=>whnf
 exact (lQ h.2).len
theorem V3{s:aL}{a:KQ}{c:Nat}{evs:List Ev}{st:bC}(ok:cY s)(l5:0<=r.ag)(C:s.sts[r.ag.toNat]?=some (some st))(I:pJ Q F r a evs)(Z:∀e∈r.evs,gw e=true) (j3:evs.length<=64) (h:aA H (Q::p_ Q i s::F)) (k:∀Q' a' c' Y,aH Q Q'->aA Y (Q'::ay 523 87 a' (iN s r).2.length c' (flat dV (iN s r).2)::p_ Q' i (iN s r).1::F)->K (.slice a' (iN s r).2.length c') Y) : CF 289 #[PA i 0,.agg ⟨dq r a c⟩] H K:=by
 have S:((r.ag.toNat:Nat):Int)=r.ag:=ez;have f:=ok.sts st (KI C);have h6:r.evs.length=evs.length:=by rw[I.eq,FW]
 unfold iN at k;rw[C]at k;dsimp only at k;refine Rv (h.al λb _ h=>⟨_,h.r 0,?_⟩);have h:=h.o [2,1,0] 3;let⟨p,h⟩:=di.1 h;refine h.st 0 rfl rfl ?_;intro H1 h;have h:=h.o [7,0,1,2,3,4,5,6,8,9,10] 11;let⟨W,bl,B,h⟩:=rX h C;have h:=h.o [1,0,2,3,4,5,6,7,8,9,10,11,12] 13;let⟨cb,hb,h⟩:=io.1 h;have A:=rY B h 3 rfl;rw[S]at A;refine⟨_,h.r 5,_,h.r 14,_,A,dj ⟨_,h.r 0,_,vx (h.o [2] 3),dj ⟨_,h.r 0,_,h.r 14,_,_,_,h.r 14,?_⟩⟩⟩;have h:=h.o [13,0,1,2,3,4,5,6,7,8,9,10,11,12,14] 15;rw[h6];refine V1 h (λH h=>I.rd H (h.o [] 15)) I.labs ez (λe he=>?_) λE a1 c1 t H2 D N h7 h=>⟨_,_,_,rfl,h.r 15,h.r 2,?_⟩;.have:=acP (Z e.p (by rw[I.eq];grind));show e.p.labs.length<=1000000;omega
 have j2:t.length=evs.length:=by have:=congrArg List.length N;grind
 have h:=h.o [4,0,1,2,3,5,6,7,8,9,10,11,12,13,14,15] 16;have h:=Bx D h;have M:t.map Ev.p=r.evs:=by rw[N,I.eq]
 refine KH (items:=t) h f.hs (by have:=f.next;omega) (λH h=>h.a_ 1 rfl) h7 ez λa2 c2 ready H3 y V h=>⟨_,_,_,_,rfl,?_⟩;rw[M]at y h;have R:(st.hs.offer r.nx r.evs).2.1.length=ready.length:=by grind
 unfold nX at k;rw[R]at k;generalize hO:st.hs.offer r.nx r.evs=O at *;have hv:∀e∈O.2.1,aG e.value:=by
  intro e he;rw[<-hO]at he;rcases (vw (s:=st.hs) (first:=r.nx) (items:=r.evs)).1 e he with h|⟨q,h,rfl⟩;.exact I.GJ e h
  exact (f.rows q h).2.2
 have l6:ready.length<=1000000:=by have h1:=KF (s:=st.hs) (first:=r.nx) (items:=r.evs);rw[hO,R]at h1;have h2:=f.hs.rows.length;have h3:=f.hs.GV;omega
 have T:=λn hn=>Cu (c:=s.cfg) (now:=r.nw) (a:=r.ag) (ep:=r.ep) (first:=st.hs.next) (evs:=O.2.1) (x:=⟨{ st with hs:=O.1 },s.ms,s.cm⟩) ok.sh hv n hn;generalize hG:dI s.cfg r.nw r.ag r.ep st.hs.next O.2.1 ⟨{ st with hs:=O.1 },s.ms,s.cm⟩=G at *;refine⟨λla d lc sb Y=>∃j:Nat,sb=j/\j<=ready.length/\d=j/\ aA Y (ax i (dx { s with now:=r.nw } p) 165::Ma.eY p.mb p.mm (G j).1.ms::Ma.j_ p.mm (G j).1.ms.m::DI p.hb p.hm s.cfg.cells::cG p.hm (G j).1.cm::ax W [PA cb 0,PA hb 0,aD (G j).1.st.last] 310::FH cb st.ck:: ay 523 87 la j lc (flat dV (G j).2)::ay 69 4 a2 ready.length c2 (flat bH ready)::C1 E hb O.1::E::mapA aD KL p.tm (de 0 bl)::nV Q bl s.sts r.ag.toNat::Ro.mv p.rb p.rm s.cfg.agents::Ro.t_ p.rm s.rows::ay 184 74 p.ka s.kept.length p.kc (flat cR s.kept)::ax b (dq r a c) 281::F),λ_ _ _ sb _=>ready.length-sb.toNat,⟨0,rfl,ez,rfl,?_⟩,?_⟩
 .have h0:G 0=(⟨{ st with hs:=O.1 },s.ms,s.cm⟩,[]):=by rw[<-hG];rfl
  rw[h0];exact (h.cp 523 87).o [9,12,13,14,15,5,6,0,1,2,3,7,8,10,11,16,17] 18
 rintro la d lc sb H4 ⟨j,rfl,hj,rfl,h⟩;let⟨h4,v,h8,P⟩:=T d ez;refine⟨λhc=>?_,λhc=>?_⟩
 .have w:d<ready.length:=by grind
  have DH:=h.a_ 8 rfl;refine⟨ez,_,_,DH.some dU ez w,_,_,_,_,_,_,DH.E8 dU w,h.al λb2 _ h=>h.st 0 rfl rfl ?_⟩;intro H5 h;refine⟨_,h.r 17,_,_,_,_,_,_,h.q 0,?_⟩;have h:=h.o [1,2,3,4,5,6,7,0,8,9,10,11,12,13,14,15,16,17] 18;have j1:O.2.1.getD d Pv.z=ready[d].p:=by grind
  have h5:aG ready[d].value:=by have:=hv ready[d].p (by grind);exact this
  have U:(G d).1.st.ck.eb.length<=8:=by rw[v];exact f.ck.len
  rw[<-show (G d).1.st.ck=st.ck from v]at h;refine V0 (c:=s.cfg) (now:=r.nw) (a:=r.ag) (st:=(G d).1.st) (e:=ready[d]) (mm:=p.mm) (p_mb:=p.mb) (p_hb:=p.hb) (p_hm:=p.hm) U h4 h5 rfl rfl rfl rfl (λH h=>(V _ (s_ w)).at h 4 rfl) h λH6 h=>⟨_,_,_,_,rfl,?_⟩;rw[show (G d).1.st.ck=st.ck from v]at h;have L:G (d+1)=((vO s.cfg r.nw r.ag r.ep (st.hs.next+d) (G d).1 ready[d].p).1,(G d).2++[(vO s.cfg r.nw r.ag r.ep (st.hs.next+d) (G d).1 ready[d].p).2]):=by rw[<-j1,<-hG];rfl
  unfold vO at L;generalize eW s.cfg r.nw r.ag (G d).1.st (G d).1.ms (G d).1.cm ready[d].p=J at *;refine h.al λb3 _ h=>h.al λb4 _ h=>h.st 1 rfl rfl ?_;intro H7 h;refine h.st 0 rfl rfl ?_;intro H8 h;refine⟨_,h.r 19,_,h.r 19,h.al λb5 _ h=>h.st 0 rfl rfl ?_⟩;intro H9 h;refine⟨_,_,_,h.q 0,_,_,h.q 2,_,_,h.q 1,h.al λb6 _ h=>?_⟩;have r0:=f.next;have l0:=f.hs.GS;have hw:i64.wrap (st.hs.next+(d:Int))=st.hs.next+d:=aN;rw[hw]at h;refine h.append (m:=1) (ws:=dV { kind:=3,ida:=r.ag,ide:=r.ep,seq:=st.hs.next+d,reason:=J.reason,win:=J.win,Xz:=J.Xz }) abm 12 rfl (h.ew 0 rfl) rfl (vN _) ez ez λa5 c5 u h=>⟨_,_,_,rfl,?_⟩;rw[aN (x:=(d:Int)+1)];refine⟨⟨d+1,ez,w,rfl,?_⟩,by grind⟩;rw[L];have e:flat dV ((G d).2++[{ kind:=3,ida:=r.ag,ide:=r.ep,seq:=st.hs.next+d,reason:=J.reason,win:=J.win,Xz:=J.Xz }])=flat dV (G d).2++dV { kind:=3,ida:=r.ag,ide:=r.ep,seq:=st.hs.next+d,reason:=J.reason,win:=J.win,Xz:=J.Xz }:=by grind [flat]
  dsimp only;rw[e];exact h.o [4,5,6,7,8,9,10,12,13,14,15,16,17,18,19,20,21] 22
 have h9:d=ready.length:=by grind
 subst h9;refine⟨_,h.r 16,_,h.r 16,dj ⟨_,h.r 5,_,vx (h.o [9] 10),h.al λb7 _ h=>h.append (m:=1) (ws:=dV { kind:=2,agent:=r.ag,epoch:=r.ep,next:=O.1.next }) abm 8 rfl (h.ew 0 rfl) rfl (vN _) ez ez λa5 c5 u h=>⟨_,_,_,rfl,?_⟩⟩⟩;have e:flat dV ((G ready.length).2++[{ kind:=2,agent:=r.ag,epoch:=r.ep,next:=O.1.next }])=flat dV (G ready.length).2++dV { kind:=2,agent:=r.ag,epoch:=r.ep,next:=O.1.next }:=by grind [flat]
 have hk:=k E a5 c5 u D;rw[qa,P,e]at hk;refine hk ?_;have h:=h.o [13,6,7,10,12,1,14,15,2,3,4,5,16,11,8] 18;have h:aA u (nV E bl s.sts r.ag.toNat::_):=vL D h;have h:=h.o [1,2,3,4,0,5,6,7,8,9,10,11,12,13,14] 15;have h:aA u (Fp E W (G ready.length).1.st::_):=io.2 ⟨cb,hb,by rw[v,h8];exact h⟩;have h:=h.o [1,0,2,3,4,5,6,7,8,9,10,11,12] 13;have h:=tX B h;have h:=h.o [1,2,3,4,5,6,7,0,8,9,10] 11;have h:aA u (p_ E i { s with now:=r.nw,ms:=(G ready.length).1.ms,cm:=(G ready.length).1.cm,sts:=s.sts.set r.ag.toNat (some (G ready.length).1.st) }::_):=di.2 ⟨p,h⟩;exact h.o [1,2,0] 3
def Ot.z:Ot:=(⟨0,⟨#[]⟩⟩,Cl.z)
def ip(first:Int)(outs:List Ot):Nat->List DF
 | 0=>[]
 | n+1=>ip first outs n++[{ kind:=4,number:=first+n,out:=outs.getD n Ot.z }]
theorem qE(first:Int)(a:List Ot):∀n,(ip first a n).length=n
 | 0=>rfl
 | n+1=>by show (ip first a n++[_]).length=_;rw[qa,qE first a n];rfl
abbrev aL.next(s:aL):Int:=s.sunk+(s.kept.length:Int)
def gD(s:aL)(now:Int):List Ot:=ja s.cm (fY s.cfg.gd (s.ms.tick now).1.value)
def lz(s:aL)(now:Int):aL×List DF:=
 ({ s with now:=now,ms:=(s.ms.tick now).1,cm:=oS s.cm (fY s.cfg.gd (s.ms.tick now).1.value),kept:=s.kept++gD s now },ip s.next (gD s now) (gD s now).length)
def oX(s:aL)(r:Rp):aL:=match s.sts[r.ag.toNat]? with
 | some (some st)=>if r.nx≠st.hs.next\/r.st<st.last\/st.ck.held=true then { s with now:=r.nw } else
   if (cW st.ck (bJ s.ms r.ag) r.nw r.st).2≠0 then { s with now:=r.nw } else
   { s with now:=r.nw,ms:=(s.ms.raise r.ag (cW st.ck (bJ s.ms r.ag) r.nw r.st).1.lo).1,sts:=s.sts.set r.ag.toNat (some { st with last:=r.st }) }
 | _=>s
theorem Me{s:aL}{p:SAd}(h:aA H F)(i:Nat)(a:aX i F=ax c (dx s p) 165)(h0:0<=s.sunk)(hs:s.sunk<=4611686018427387903)(b:s.kept.length<=1000000000000) : bX Tryz.prog 352 #[PA c 0] H (aD s.next):=by refine cM 352 28 ⟨_,h.rd i a _,_,_,_,h.rd i a _,?_,rfl⟩;rw[aN];rfl
theorem Hh{F:List aF}{H:aC}{K:KE}{Q:aF}{sb:Nat}{s:aL}{now:Int}(ok:cY s)(hs:s.sunk<=4611686018427387903)(G:s.kept.length<=100000000000)(h:aA H (p_ Q sb s::F)) (k:∀v t d,aA d (ay 523 87 v (lz s now).2.length t (flat dV (lz s now).2)::p_ Q sb (lz s now).1::F)->K (.slice v (lz s now).2.length t) d) : CF 291 #[PA sb 0,aD now] H K:=by
 let⟨p,h⟩:=di.1 h;refine Rt (h.st 0 rfl rfl ?_);intro U h;refine⟨_,h.r 0,?_⟩;have h:=h.o [3,4,0,1,2,5,6,7,8] 9;refine Ma.Hh ok.ms h λS h=>⟨_,rfl,_,h.r 2,_,_,_,h.q 2,_,h.r 2,_,Ma.F7 h 0 rfl,?_⟩;unfold lz gD at k;generalize hM:(s.ms.tick now).1=M at *;refine xI (g:=s.cfg.gd) h λV h=>⟨_,rfl,h.r 2,?_⟩;have I:=ok.sh.len;have D:=ok.sh.m2;generalize fY s.cfg.gd M.value=W at *;have h:=h.o [5,6,0,1,2,3,4,7,8] 9;refine Tw ez h λE B P h=>⟨_,_,_,rfl,?_⟩;have y:(ja s.cm W).length<=1024:=by
  have L:(ja s.cm W).length<=(bB s.cm).length:=by grind [ja,List.takeWhile_sublist]
  have N:(bB s.cm).length=s.cm.length:=by unfold bB;rw[FW,vl];grind
  omega
 generalize hO:ja s.cm W=O at *;generalize oS s.cm W=C at *;refine⟨λla a lc i d=>∃(j:Nat) (ka:KQ) (kc:Nat),i=j/\j<=O.length/\a=j/\ aA d (ay 523 87 la j lc (flat dV (ip s.next O j))::ay 184 74 E O.length B (flat cR O)::ax sb (dx { s with now:=now,kept:=s.kept++O.take j } { p with ka:=ka,kc:=kc }) 165::Ro.mv p.rb p.rm s.cfg.agents::Ro.t_ p.rm s.rows::Ma.eY p.mb p.mm M::Ma.j_ p.mm M.m::DI p.hb p.hm s.cfg.cells::cG p.hm C::my Q p.tm s.sts:: ay 184 74 ka (s.kept++O.take j).length kc (flat cR (s.kept++O.take j))::F),λ_ _ _ i _=>O.length-i.toNat,⟨0,p.ka,p.kc,rfl,ez,rfl,?_⟩,?_⟩;.rw [q26,Hz];exact (h.cp 523 87).o [0,1,6,7,8,4,5,2,3,9,10] 11
 rintro la a lc i w ⟨j,ka,kc,rfl,hj,rfl,h⟩;have J:(O.take a).length=a:=by grind
 refine⟨λA=>?_,λA=>?_⟩
 .have b:a<O.length:=by grind
  have DH:=h.a_ 1 rfl;have c:=DH.E8 jx b;refine⟨ez,_,_,DH.some jx ez b,_,_,_,_,_,_,_,_,_,_,c,h.al λb1 _ h=>h.zy 0 rfl rfl λT h=>?_⟩;have e:=ok.sunk;refine⟨_,Me (s:=({ s with now:=now,kept:=s.kept++O.take a }:aL)) (p:={ p with ka:=ka,kc:=kc }) h 3 rfl e hs (by grind),?_⟩;have f:({ s with now:=now,kept:=s.kept++O.take a }:aL).next=s.next+a:=by grind
  rw[f];refine⟨_,_,_,_,_,_,_,_,_,_,h.u_ 0 rfl,h.al λb2 _ h=>h.append (m:=1) (ws:=dV { kind:=4,number:=s.next+a,out:=O[a] }) abm 2 rfl (h.ew 0 rfl) rfl (vN _) ez ez λa5 c5 Y h=>⟨_,_,_,rfl,⟨_,_,_,h.r 4,_,_,_,_,_,_,_,_,_,_,h.u_ 1 rfl,h.al λb3 _ h=>⟨h.r 5,h.append (m:=1) (ws:=cR O[a]) XH 13 rfl (h.ew 0 rfl) rfl (tG _) (by grind) (by grind) λa6 c6 Z h=>⟨_,_,_,rfl,h.st 5 rfl rfl ?_⟩⟩⟩⟩⟩;intro R h;rw[aN (x:=(a:Int)+1)];refine⟨⟨a+1,a6,c6,ez,b,rfl,?_⟩,by grind⟩;have e1:ip s.next O (a+1)=ip s.next O a++[{ kind:=4,number:=s.next+a,out:=O[a] }]:=by grind [ip]
  have e2:flat dV (ip s.next O (a+1))=flat dV (ip s.next O a)++dV { kind:=4,number:=s.next+a,out:=O[a] }:=by grind [flat]
  have e3:s.kept++O.take (a+1)=(s.kept++O.take a)++[O[a]]:=by simp_all
  have e4:flat cR (s.kept++O.take (a+1))=flat cR (s.kept++O.take a)++cR O[a]:=by grind [flat]
  have e5:(s.kept++O.take (a+1)).length=(s.kept++O.take a).length+1:=by grind
  have e6:dx ({ s with now:=now,kept:=s.kept++O.take (a+1) }:aL) { p with ka:=a6,kc:=c6 }=cu (dx ({ s with now:=now,kept:=s.kept++O.take a }:aL) { p with ka:=ka,kc:=kc }) 19 [.slice a6 ((s.kept++O.take a).length+1) c6]:=by simp only[dx,e5];rfl
  rw[e2,e4,e5,e6];exact h.o [3,4,5,6,7,8,9,10,11,12,13] 14
 have n:a=O.length:=by grind
 subst n;rw[FE]at h;have u:=k la lc w;rw[qE]at u;refine u ?_;have h:=h.o [2,3,4,5,6,7,8,9,10,0] 11;have h:aA w (p_ Q sb { s with now:=now,ms:=M,cm:=C,kept:=s.kept++O }::_):=di.2 ⟨{ p with ka:=ka,kc:=kc },h⟩;exact h.o [1,0] 2
theorem V4{a:KQ}(ok:cY B)(A:0<=r.ag)(n:B.sts[r.ag.toNat]?=some (some E))(h:aA H (p_ Q i B::F)) (k:∀v,aA v (p_ Q i (oX B r)::F)->K (.tuple #[]) v) : CF 290 #[PA i 0,.agg ⟨dq r a c⟩] H K:=by
 have w:((r.ag.toNat:Nat):Int)=r.ag:=ez;have x:=ok.sts E (KI n);unfold oX at k;rw[n]at k;dsimp only at k;refine Ru (h.al λb _ h=>⟨_,h.r 0,?_⟩);have h:=h.o [1,0] 2;let⟨p,h⟩:=di.1 h;refine h.st 0 rfl rfl ?_;intro G h;have h:=h.o [7,0,1,2,3,4,5,6,8,9] 10;let⟨y,bl,j,h⟩:=rX h n;have h:=h.o [1,0,2,3,4,5,6,7,8,9,10,11] 12;let⟨cb,hb,h⟩:=io.1 h;have sb:=rY j h 3 rfl;rw[w]at sb;have d:∀(ms:MS) (f:bC) v,aA v (ax y [PA cb 0,PA hb 0,aD f.last] 310::FH cb f.ck::C1 Q hb f.hs::mapA aD KL p.tm (de 0 bl)::nV Q bl B.sts r.ag.toNat::ax i (dx { B with now:=r.nw } p) 165::Ro.mv p.rb p.rm B.cfg.agents::Ro.t_ p.rm B.rows::Ma.eY p.mb p.mm ms::Ma.j_ p.mm ms.m::DI p.hb p.hm B.cfg.cells::cG p.hm B.cm::ay 184 74 p.ka B.kept.length p.kc (flat cR B.kept)::F)->aA v (p_ Q i { B with now:=r.nw,ms:=ms,sts:=B.sts.set r.ag.toNat (some f) }::F):=by intro ms f v h;have h:=io.2 ⟨cb,hb,h⟩;have h:=h.o [1,0,2,3,4,5,6,7,8,9,10] 11;have h:=tX j h;exact di.2 ⟨p,h.o [1,2,3,4,5,6,7,0,8] 9⟩
 have e:B.sts.set r.ag.toNat (some E)=B.sts:=by grind [List.set_getElem_self]
 refine⟨_,h.r 5,_,h.r 13,_,sb,_,h.r 13,dj ⟨_,h.r 0,_,vx (h.o [2] 3),_,λ_=>h.r 13,λ_=>trivial,_,λ_=>h.r 0,λ_=>trivial,_,λ_=>h.rd 0 rfl 0,_,λ_=>vh (h.o [1] 2),λu=>?_,λu=>?_⟩⟩
 .have u:r.nx≠E.hs.next\/r.st<E.last\/E.ck.held=true:=by grind
  rw[c_ u]at k;have h:=d B.ms E _ (h.o [0,1,2,3,4,5,6,7,8,9,10,11,12] 14);rw[e]at h;exact k _ h
 have u:¬(r.nx≠E.hs.next\/r.st<E.last\/E.ck.held=true):=by grind
 rw[b_ u]at k;refine⟨_,h.r 13,_,h.r 13,?_⟩;have h:=h.o [5,8,9,0,1,2,3,4,6,7,10,11,12,13] 14;refine LZ (a:=r.ag) (stamp:=r.st) (now:=r.nw) x.ck.len rfl rfl h λD h=>⟨_,_,_,rfl,?_⟩;generalize cW E.ck (bJ B.ms r.ag) r.nw r.st=T at *;refine h.al λb1 _ h=>h.st 0 rfl rfl ?_;intro C h;refine⟨λu=>?_,λu=>?_⟩;.rw [c_ (by grind)]at k;have h:=d B.ms E _ (h.o [4,5,6,7,8,1,9,10,2,3,11,12,13] 15);rw[e]at h;exact k _ h
 rw [b_ (by grind)]at k;refine⟨_,h.r 14,dj (h.st 4 rfl rfl ?_)⟩;intro s h;refine⟨_,h.r 1,_,h.r 14,_,h.r 0,?_⟩;have h:=h.o [2,3,0,1,4,5,6,7,8,9,10,11,12,13,14] 15;refine Ma.HN (a:=r.ag) (t:=T.1.lo) h λst h=>⟨_,rfl,k _ (d _ { E with last:=r.st } _ (h.o [4,5,6,7,8,3,9,10,0,1,11,12,13] 15))⟩
def isE(s:aL)(a ep:Int):Bool:=decide (0<(bI s.rows a).epoch)&&decide ((bI s.rows a).epoch=ep)
def iO(s:aL)(a:Int):Option bC:=if a<0 then none else (s.sts[a.toNat]?).join
def vP(s:aL)(r:Rp)(now:Int):Int:=
 if 0<r.ep/\isE s r.ag r.ep=false then 22 else
 if now<s.now then 11 else
 if r.kind=4 then (match iO s r.ag with
  | some st=>if st.ck.eb.length=0/\st.ck.held=false then 19 else 0
  | none=>0) else 0
def gE(s:aL)(r:Rp):Int:=
 if r.kind=1 then (if 1099511627776<=s.boots then 17 else 0) else
 if r.kind=7 then (if s.next<r.nx then 11 else 0) else
 vP s r (if r.kind=3 then r.sm.came else r.nw)
structure adA(r:Rp):Prop where
 kind:1<=r.kind/\r.kind<=7
 ag:0<=r.ag/\r.ag<=63
 ep:(r.kind=3\/r.kind=4\/r.kind=5->1<=r.ep)/\0<=r.ep/\r.ep<=1099511627776
 bt:(r.kind=2->1<=r.bt)/\0<=r.bt/\r.bt<=1099511627776
 nx:0<=r.nx/\r.nx<=1099511627776
 st:0<=r.st/\r.st<=4611686018427387903
 nw:Fx r.nw
 sm:r.sm.ok
 evs:r.kind=4->gy r.nx r.evs=true
 none:r.kind≠4->r.evs=[]
theorem kU(h:r.right=true):adA r:=by
 unfold Rp.right at h;rw[q_,q_,q_]at h;let⟨⟨⟨e,n⟩,s⟩,c⟩:=h;unfold Rp.lim at c;simp only[Hp,q_,v_]at e c;let⟨⟨⟨⟨⟨⟨j,k⟩,i⟩,f⟩,m⟩,a⟩,d⟩:=c;refine⟨e,j,⟨λb=>?_,?_,k.2⟩,⟨λb=>?_,?_,i.2⟩,f,m,a,d,λb=>?_,λb=>?_⟩;.grind
 .grind
 .grind
 .grind
 .grind
 grind
theorem aex(h:0<(bI A a).epoch):0<=a/\∃e,A[a.toNat]?=some e/\0<e.epoch:=by
 unfold bI at h;split at h;.grind [En.z]
 refine⟨ez,?_⟩;cases e:A[a.toNat]? with
  | none=>grind [En.z]
  | some x=>grind
theorem cY.str(ok:cY B)(h:0<(bI B.rows a).epoch):0<=a/\∃st,B.sts[a.toNat]?=some (some st):=by let⟨h0,e,b,c⟩:=aex h;exact⟨h0,(ok.CL a.toNat).2 ⟨e,b,c⟩⟩
theorem yC(h0:0<=a)(h:B.sts[a.toNat]?=some (some E)):iO B a=some E:=by unfold iO;grind
theorem V5(ok:cY B)(hs:B.sunk<=4611686018427387903)(Z:B.kept.length<=100000000000)(U:r.right=true)(h:aA H (p_ Q i B::F)) (k:∀d,aA d (p_ Q i B::F)->K (aD (gE B r)) d) : CF 285 #[PA i 0,.agg ⟨dq r I c⟩] H K:=by
 refine cN 285 0x1121513dc13dc17492283c9d2171b9c [[],[(44,sB)],[(5,sI)]] (h.al λb H0 h=>⟨_,h.r 0,?_⟩);have h:=h.o [1,0] 2;let⟨p,h⟩:=di.1 h;have fin:∀d,aA d (ax i (dx B p) 165::Ro.mv p.rb p.rm B.cfg.agents::Ro.t_ p.rm B.rows::Ma.eY p.mb p.mm B.ms::Ma.j_ p.mm B.ms.m::DI p.hb p.hm B.cfg.cells::cG p.hm B.cm::my Q p.tm B.sts::ay 184 74 p.ka B.kept.length p.kc (flat cR B.kept)::ax b (dq r I c) 281::F)->aA d (p_ Q i B::F):=λd h=>by have h:=di.2 ⟨p,h⟩;exact h.o [0] 2
 unfold gE at k;refine⟨_,h.r 9,λG=>?_,λG=>⟨λn=>?_,λn=>?_⟩⟩
 .rw [c_ (ke G)]at k;refine⟨_,h.r 0,λhb=>?_,λhb=>?_⟩;.rw [c_ (ke hb)]at k;exact k _ (fin _ h)
  rw [b_ (ix hb)]at k;exact k _ (fin _ h)
 .rw [b_ (ix G),c_ (ke n)]at k;refine⟨_,h.r 9,_,Me h 0 rfl ok.sunk hs ez,λhb=>?_,λhb=>?_⟩;.rw [c_ (ke hb)]at k;exact k _ (fin _ h)
  rw [b_ (ix hb)]at k;exact k _ (fin _ h)
 rw[b_ (ix G),b_ (ix n)]at k;have S:=kU U;intro T W;have f:∀now,(∀d,aA d (p_ Q i B::F)->K (aD (vP B r now)) d)->T now H0:=by
  intro now k;refine W _ _ ?_;intro M a;unfold vP at k;have E:∀(t:Bool) d,t=decide (0<r.ep/\isE B r.ag r.ep=false)->aA d (ax i (dx B p) 165::Ro.mv p.rb p.rm B.cfg.agents::Ro.t_ p.rm B.rows::Ma.eY p.mb p.mm B.ms::Ma.j_ p.mm B.ms.m::DI p.hb p.hm B.cfg.cells::cG p.hm B.cm::my Q p.tm B.sts::ay 184 74 p.ka B.kept.length p.kc (flat cR B.kept)::ax b (dq r I c) 281::F)->M t d:=by
   intro t d rfl h;refine a _ _ ⟨λs=>?_,λs=>?_⟩;.rw [c_ (ke s)]at k;exact k _ (fin _ h)
   have s:=ix s;rw[b_ s]at k;refine⟨_,h.r 0,λN=>?_,λN=>?_⟩;.rw [c_ (ke N)]at k;exact k _ (fin _ h)
   rw[b_ (ix N)]at k;refine⟨_,h.r 9,?_⟩;intro V D;refine⟨λx=>?_,λx=>?_⟩
   .have x:=ke x;rw[c_ x]at k;have R:=S.ep.1 (.inr (.inl x));have v:isE B r.ag r.ep=true:=by grind
    unfold isE at v;rw[q_]at v;let⟨J,st,e⟩:=ok.str (ke v.1);rw[yC J e]at k;dsimp only at k;have A:=ok.sts st (KI e);have y:((r.ag.toNat:Nat):Int)=r.ag:=ez;have h:=h.o [7,0,1,2,3,4,5,6,8,9] 10;let⟨h0,bl,j,h⟩:=rX h e;have h:=h.o [1,0,2,3,4,5,6,7,8,9,10,11] 12;let⟨cb,hb,h⟩:=io.1 h;have sb:=rY j h 3 rfl;rw[y]at sb;have u:B.sts.set r.ag.toNat (some st)=B.sts:=by
     have Y:r.ag.toNat<B.sts.length:=(List.getElem?_eq_some_iff.1 e).1;have:B.sts[r.ag.toNat]=some st:=by grind
     grind [List.set_getElem_self]
    conv=>whnf
    refine⟨_,h.r 5,_,h.r 13,_,sb,⟨_,h.rd 0 rfl 0,?_⟩⟩;have h:=h.o [1,0,2,3,4,5,6,7,8,9,10,11,12,13] 14;have P:=A.ck.len;refine Ba h ez λsa sc O h=>⟨_,_,_,rfl,λ_=>trivial,_,λ_=>h.rd 2 rfl 0,_,λ_=>vh (h.o [1] 2),?_⟩;have back:aA O (ax i (dx B p) 165::Ro.mv p.rb p.rm B.cfg.agents::Ro.t_ p.rm B.rows::Ma.eY p.mb p.mm B.ms::Ma.j_ p.mm B.ms.m::DI p.hb p.hm B.cfg.cells::cG p.hm B.cm::my Q p.tm B.sts::ay 184 74 p.ka B.kept.length p.kc (flat cR B.kept)::ax b (dq r I c) 281::F):=by have h:=h.o [2,1,3,4,5,6,7,8,9,10,11,12,13,14] 15;have h:=io.2 ⟨cb,hb,h⟩;have h:=h.o [1,0,2,3,4,5,6,7,8,9,10,11] 12;have h:=tX j h;rw[u]at h;exact h.o [1,2,3,4,5,6,7,0,8,9] 10
    refine⟨λw=>?_,λw=>?_⟩
    .have w:st.ck.eb.length=0/\st.ck.held=false:=by grind
     rw[c_ w]at k;exact k _ (fin _ back)
    have w:¬(st.ck.eb.length=0/\st.ck.held=false):=by grind
    rw[b_ w]at k;refine D _ (k _ (fin _ back))
   rw [b_ (ix x)]at k;refine D _ (k _ (fin _ h))
  refine⟨_,h.r 9,λ_=>trivial,_,λ_=>h.r 0,_,λ_=>h.r 9,_,λ_=>h.r 9,λC=>?_,λC=>?_⟩;.have C:=ke C;have h:=h.o [1,2,0,3,4,5,6,7,8,9] 10;refine Ro.af2 ok.rows (agent:=r.ag) (epoch:=r.ep) h λO h=>⟨_,rfl,E _ _ ?_ (h.o [2,0,1,3,4,5,6,7,8,9] 10)⟩;show (!isE B r.ag r.ep)=_;grind
  have C:¬0<r.ep:=λw=>C (RD w);refine E _ _ ?_ h;grind
 refine⟨λL=>?_,λL=>?_⟩;.rw [c_ (ke L)]at k;exact⟨_,h.r 9,f _ k⟩
 rw [b_ (ix L)]at k;exact f _ k
end Go.Proofs.YtlmphkpeajnhjaaGreatDoor
