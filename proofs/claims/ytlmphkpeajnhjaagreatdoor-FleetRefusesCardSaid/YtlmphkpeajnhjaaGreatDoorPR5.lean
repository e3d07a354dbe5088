/-
  Lemmas for FleetRefuses: part 5 of what it rests on. Conditions: none.
-/
import Derived.Test.YtlmphkpeajnhjaaGreatDoorPR4
set_option linter.unusedVariables false
set_option linter.unusedSimpArgs false
set_option maxRecDepth 100000
set_option maxHeartbeats 16000000
open Go.IntKind (i64 u64 i8 u8 i32 u32 i16 u16)
namespace Go.Proofs.YtlmphkpeajnhjaaGreatDoor
open Go
def gw(e:Pv):Bool:=decide (0<=e.stamp)&&decide (e.stamp<=4611686018427387903)&&dB e.name e.labs
def gy(next:Int)(evs:List Pv):Bool:=decide (0<=next)&&decide (next<=4611686018427387903)&&(decide (1<=evs.length)&&decide (evs.length<=64)&&decide (next<=1099511627776-evs.length)&&evs.all gw)
structure Rp where
 kind:Int
 ag:Int
 ep:Int
 bt:Int
 nx:Int
 st:Int
 nw:Int
 sm:bT
 evs:List Pv
def cA(k:Int):List Nat:=if k=2 then [1,3,6] else if k=3 then [1,2,7,8,9,10] else if k=4 then [1,2,4,6] else if k=5 then [1,2,4,5,6] else if k=6 then [6] else if k=7 then [4] else []
def HT(k:Int)(i:Nat)(x:Int):Int:=if i∈cA k then 0 else x
abbrev Hp(x least most:Int):Bool:=decide (least<=x)&&decide (x<=most)
def Rp.HG(r:Rp):Bool:=(decide (HT r.kind 1 r.ag=0)&&decide (HT r.kind 2 r.ep=0)&&decide (HT r.kind 3 r.bt=0)&&decide (HT r.kind 4 r.nx=0)&&decide (HT r.kind 5 r.st=0)&&decide (HT r.kind 6 r.nw=0)) &&
 (decide (HT r.kind 7 r.sm.asked=0)&&decide (HT r.kind 8 r.sm.CV=0)&&decide (HT r.kind 9 r.sm.hY=0)&&decide (HT r.kind 10 r.sm.came=0))
def Rp.lim(r:Rp):Bool:=Hp r.ag 0 63&&Hp r.ep (if r.kind=3\/r.kind=4\/r.kind=5 then 1 else 0) 1099511627776&&Hp r.bt (if r.kind=2 then 1 else 0) 1099511627776&&Hp r.nx 0 1099511627776&&Hp r.st 0 4611686018427387903&&Hp r.nw 0 4611686018427387903&&decide (r.sm.ok)
def Rp.right(r:Rp):Bool:=Hp r.kind 1 7&&r.HG&&(if r.kind=4 then gy r.nx r.evs else decide (r.evs.length=0))&&r.lim
abbrev dq(r:Rp)(a:KQ)(c:Nat):Xa:=[aB r.kind,aB r.ag,aB r.ep,aB r.bt,aB r.nx,aB r.st,aB r.nw,aB r.sm.asked,aB r.sm.CV,aB r.sm.hY,aB r.sm.came,.slice a r.evs.length c]
variable {H:aC}{F:List aF}{K:KE}{f:Int}{n c j:Nat}{a:KQ}{b:List Int}{d:FrameMode->aC->Prop}{B:List Ev}{G:Xa}{I:Rp}
theorem kinds(a:¬f<1)(b:¬7<f):f=1\/f=2\/f=3\/f=4\/f=5\/f=6\/f=7:=ez
section
variable {F L:List aF}{H:aC}{K:KE}
theorem yh{next:Int}{evs:List Ev}:nP next evs=gy next (evs.map Ev.p):=by unfold nP jc gy;rw[FW,List.all_map];rfl
theorem pE{x a b:Int}:bX Tryz.prog 350 #[aB x,aB a,aB b] H (.bool (Hp x a b)):=cM 350 28 ⟨rfl,rfl⟩
theorem B0{b e:Nat}{k0:Int}{cs:Xa}(h:aA H F)(i:Nat)(j:aX i F=ax b cs e)(m:aT cs 0=some (aB k0)) (k:∀a c f,aA f (ay 339 1 a (cA k0).length c ((cA k0).map λi=>PA b i)::F)->K (.slice a (cA k0).length c) f):CF 293 #[PA b 0] H K:=by
 refine cM 293 0x121513c131c13c13c13cbc ?_;have fin:∀(l:List Nat) p f,cA k0=l->aA f (ax p (l.map λi=>PA b i) 339::F)->K (.slice (some ⟨p,0,none⟩) l.length l.length) f:=by intro l p f e h;subst e;refine k _ _ _ (aA.EG h 1 _ eh)
 refine⟨k0,(h.rd i j 0).trans m,λd=>?_,λd=>⟨λd=>?_,λd=>⟨λd=>?_,λd=>⟨λd=>?_,λd=>⟨λd=>?_,λd=>⟨λd=>?_,λd=>?_⟩⟩⟩⟩⟩⟩;.have d:=ke d;subst d;exact h.al λp _ h=>fin [1,3,6] p _ rfl h
 .have d:=ke d;subst d;exact h.al λp _ h=>fin [1,2,7,8,9,10] p _ rfl h
 .have d:=ke d;subst d;exact h.al λp _ h=>fin [1,2,4,6] p _ rfl h
 .have d:=ke d;subst d;exact h.al λp _ h=>fin [1,2,4,5,6] p _ rfl h
 .have d:=ke d;subst d;exact h.al λp _ h=>fin [6] p _ rfl h
 .have d:=ke d;subst d;exact h.al λp _ h=>fin [4] p _ rfl h
 have e:cA k0=[]:=by unfold cA;grind
 have:=k none 0 H (by rw[e];exact h.cp 339 1);rw[e]at this;exact this
def zrL(cs:Xa)(is:List Nat):Xa:=is.foldl (λcs i=>cu cs i [aB 0]) cs
theorem ad7(cs:Xa):∀is,(zrL cs is).length=cs.length:=by
 intro is
 induction is generalizing cs with
 | nil=>rfl
 | cons i r ih=>show (zrL (cu cs i [aB 0]) r).length=_;grind [oF]
theorem aaO(cs:Xa)(is:List Nat)(j:Nat)(h:j<is.length):zrL cs (is.take (j+1))=cu (zrL cs (is.take j)) is[j] [aB 0]:=by grind [zrL,List.take_succ_eq_append_getElem]
theorem B4{k:Int}:∀i∈cA k,i<11:=by grind [cA]
theorem yi(k:Int):(cA k).length<=6:=by
 unfold cA;split;.decide
 split;.decide
 split;.decide
 split;.decide
 grind
theorem ad8{r:Rp}{a:KQ}{c:Nat}(b:¬r.kind<1)(d:¬7<r.kind):zrL (dq r a c) (cA r.kind) =[aB r.kind,aB (HT r.kind 1 r.ag),aB (HT r.kind 2 r.ep),aB (HT r.kind 3 r.bt),aB (HT r.kind 4 r.nx),aB (HT r.kind 5 r.st),aB (HT r.kind 6 r.nw),aB (HT r.kind 7 r.sm.asked),aB (HT r.kind 8 r.sm.CV),aB (HT r.kind 9 r.sm.hY),aB (HT r.kind 10 r.sm.came),.slice a r.evs.length c]:=by let⟨kind,ag,ep,bt,nx,st,nw,sm,evs⟩:=r;dsimp only at b d;rcases kinds b d with rfl|rfl|rfl|rfl|rfl|rfl|rfl <;> rfl
theorem aju{a b c d e f:Int}:i8 Tryz.prog .neq 580 (.agg #[aB a,aB b,aB c,aB d,aB e,aB f]) (.agg #[aB 0,aB 0,aB 0,aB 0,aB 0,aB 0]) (!(decide (a=0)&&decide (b=0)&&decide (c=0)&&decide (d=0)&&decide (e=0)&&decide (f=0))):=by
 have h:=(xp (P:=Tryz.prog) (t:=580) (xs:=[aB a,aB b,aB c,aB d,aB e,aB f]) (ys:=[aB 0,aB 0,aB 0,aB 0,aB 0,aB 0]) (r:=(a == 0&&(b == 0&&(c == 0&&(d == 0&&(e == 0&&(f == 0&&true))))))) kf).2;have e:(a == 0&&(b == 0&&(c == 0&&(d == 0&&(e == 0&&(f == 0&&true))))))=(decide (a=0)&&decide (b=0)&&decide (c=0)&&decide (d=0)&&decide (e=0)&&decide (f=0)):=by grind
 rw[e]at h;exact h
theorem ak4{a b c d:Int}:i8 Tryz.prog .neq 279 (.agg #[aB a,aB b,aB c,aB d]) (.agg #[aB 0,aB 0,aB 0,aB 0]) (!(decide (a=0)&&decide (b=0)&&decide (c=0)&&decide (d=0))):=by
 have h:=(uN (P:=Tryz.prog) (t:=279) (xs:=[aB a,aB b,aB c,aB d]) (ys:=[aB 0,aB 0,aB 0,aB 0]) (r:=(a == 0&&(b == 0&&(c == 0&&(d == 0&&true))))) kf).2;have e:(a == 0&&(b == 0&&(c == 0&&(d == 0&&true))))=(decide (a=0)&&decide (b=0)&&decide (c=0)&&decide (d=0)):=by grind
 rw[e]at h;exact h
theorem B5{r:Rp}{a:KQ}{c:Nat}{evs:List Ev}(N:r.evs=evs.map Ev.p)(h:aA H F)(Y:mK F a evs)(R:evs.length<=1099511627776) (k:∀C,aA C F->K (.bool r.right) C):CF 284 #[.agg ⟨dq r a c⟩] H K:=by
 have w:r.evs.length=evs.length:=by grind
 refine cN 284 0x1d1215612399251441d2171bb121517421791794749289 [[(2,sB)],[(8,sI)],[(70,sB)],[(70,sB)],[(8,sI),(9,sI)],[],[(21,sI)]] (h.al λb _ h=>⟨_,h.r 0,_,λ_=>h.r 0,λB=>?_,λB=>?_⟩)
 .have:r.right=false:=by unfold Rp.right Hp;grind
  rw[this]at k;exact k _ h.tl
 simp only[E5,C5]at B;have P:Hp r.kind 1 7=true:=by grind
 refine⟨_,_,_,_,_,_,_,_,_,_,_,_,_,_,h.q 0,h.al λb1 _ h=>h.st 0 rfl rfl ?_⟩;intro H2 h;refine B0 h 0 rfl rfl λp pc H3 h=>⟨_,_,_,rfl,⟨λi C=>∃j:Nat,i=j/\j<=(cA r.kind).length/\aA C (ay 339 1 p (cA r.kind).length pc ((cA r.kind).map λi=>PA b1 i)::ax b1 (zrL (dq r a c) ((cA r.kind).take j)) 281::ax b (dq r a c) 281::F),λi _=>(cA r.kind).length-i.toNat,⟨0,rfl,ez,h⟩,?_⟩⟩;rintro i H4 ⟨j,rfl,hj,h⟩;refine⟨λe=>?_,λe=>?_⟩
 .have e:j<(cA r.kind).length:=by grind
  have O:=(h.a_ 0 rfl).at e;have hi:=B4 _ (s_ e);have ho:=yi r.kind;refine⟨ez,_,_,O.1,_,O.2,h.st 1 rfl (by rw[ad7];exact Nat.ble_eq_true_of_le (by show (cA r.kind)[j]+1<=12;omega)) ?_⟩;intro Z h;conv=>whnf
  rw[aN (x:=(j:Int)+1)];refine⟨⟨j+1,ez,e,?_⟩,by grind⟩;rw[aaO _ _ _ e];exact h
 have L:(cA r.kind).length<=j:=by grind
 rw[FL L,ad8 B.1 B.2]at h;refine⟨_,h.r 1,_,h.r 1,_,h.r 1,_,h.r 1,_,h.r 1,_,h.r 1,h.al λb3 _ h=>h.st 0 rfl rfl ?_⟩;intro Z h;refine⟨_,_,_,_,_,_,h.q 0,_,aju,_,_,_,_,λ_=>h.q 2,_,λ_=>ak4,λhz=>?_,λhz=>?_⟩
 .have:r.right=false:=by
   have:r.HG=false:=by unfold Rp.HG;grind
   grind [Rp.right]
  rw[this]at k;exact k _ h.tl.tl.tl.tl
 have h0:r.HG=true:=by grind [Rp.HG]
 have A:r.right=((if r.kind=4 then gy r.nx r.evs else decide (r.evs.length=0))&&r.lim):=by grind [Rp.right]
 refine⟨_,h.r 3,?_⟩;intro S W;have fin:∀m,(if r.kind=4 then gy r.nx r.evs else decide (r.evs.length=0))=true->aA m (ax b (dq r a c) 281::F)->S m:=by
  intro m hb h;rw[hb,Bool.true_and]at A;refine W _ ⟨_,h.r 0,?_⟩;intro I D;have f:∀ep bt,ep=(if r.kind=3\/r.kind=4\/r.kind=5 then (1:Int) else 0)->bt=(if r.kind=2 then (1:Int) else 0)->I ep bt m:=by
   intro _ _ rfl rfl;refine D _ _ _ ?_;intro U u;refine⟨_,h.r 0,_,pE,_,λ_=>h.r 0,_,λ_=>pE,_,λ_=>h.r 0,_,λ_=>pE,_,λ_=>h.r 0,_,λ_=>pE,_,λ_=>h.r 0,_,λ_=>pE,_,λ_=>h.r 0,_,λ_=>pE,_,_,_,_,λ_=>h.q 0,λhw=>?_,λhw=>?_⟩
   .refine xJ (s:=r.sm) h λV h=>⟨_,rfl,u _ _ ?_⟩;have:r.right=decide r.sm.ok:=by rw[A];unfold Rp.lim;grind
    rw[this]at k;exact k _ h.tl
   refine u _ _ ?_;have:r.right=false:=by rw[A];unfold Rp.lim;grind
   rw[this]at k;exact k _ h.tl
  refine⟨λd=>?_,λd=>?_⟩;.have d:=ke d;exact f _ _ (by grind) (by grind)
  intro J G;have h2:=ix d;have f3:∀t:Bool,t=decide (r.kind=3\/r.kind=4\/r.kind=5)->J t m:=by
   intro t rfl;refine G _ _ ?_;intro h1 n;refine⟨λQ=>?_,λQ=>?_⟩;.refine n _ _ (f _ _ (by grind) (by grind))
   refine n _ _ (f _ _ (by grind) (by grind))
  refine⟨λd=>?_,λd=>?_⟩;.have M:=ke d;exact f3 _ (by grind)
  intro T y;have M:=ix d;refine⟨λd=>?_,λd=>?_⟩;.have E:=ke d;refine y _ _ (f3 _ (by grind))
  have E:=ix d;refine y _ _ (f3 _ ?_);grind
 refine⟨λd=>?_,λd=>?_⟩
 .have d:=ke d;refine⟨_,h.r 3,_,_,_,h.r 3,h.al λb4 _ h=>h.st 0 rfl rfl ?_⟩;intro m h;refine⟨_,_,_,_,_,_,_,_,_,_,_,_,_,_,_,_,_,_,_,_,h.q 0,?_⟩;rw[w]at h ⊢;refine K3 (evs:=evs) h (((((Y.cons _).cons _).cons _).cons _).cons _) R λV h=>⟨_,rfl,λhb=>?_,λhb=>?_⟩
  .have:r.right=false:=by rw[A,c_ d,N,<-yh];grind
   rw[this]at k;exact k _ h.tl.tl.tl.tl.tl
  refine fin _ ?_ ?_;.rw [c_ d,N,<-yh];grind
  rw [<-w]at h;exact h.o [4] 5
 have d:=ix d;refine⟨_,_,_,h.r 3,λv=>?_,λv=>?_⟩
 .have v:=ke v;have:r.right=false:=by grind
  rw[this]at k;exact k _ h.tl.tl.tl.tl
 have v:=ix v;refine fin _ ?_ (h.o [3] 4);grind
end
def GK(v:Int):Nat:=(u64.wrap v).toNat
def aP(l:List Int):List Int:=l.flatMap λv=>bS (GK v)
theorem gR(l:List Int):aI (aP l):=jU λ_ _=>qk _
abbrev Rd(α:Type):=RS->Except Int (α×RS)
def FO{α:Type}(s:RS)(x:α):Except Int (α×RS):=if s.e≠0 then .error s.e else .ok (x,s)
def eT:Rd Int:=λs=>FO (bQ s).2 ((bQ s).1:Int)
def cQ:Rd Int:=λs=>FO (bQ s).2 (i64.wrap ((bQ s).1:Int))
def gz:Rd Int:=λs=>FO (dC s).2 (dC s).1
def dZ(m:Int):Rd Int:=λs=>FO (cx m s).2 (cx m s).1
def Hb(m:Int):Rd Int:=λs=>match cQ s with
 | .ok (v,s')=>if Hp v 0 m then .ok (v,s') else .error 10
 | .error e=>.error e
def j0:Rd Pv:=λs=>match cQ s with
 | .error e=>.error e
 | .ok (a,s1)=>match gz s1 with
  | .error e=>.error e
  | .ok (b,s2)=>FO ⟨(cV s2).e,(cV s2).rest.bs⟩ ⟨a,b,(cV s2).name,(cV s2).labs⟩
def E7(e:Pv):List Int:=(aP [e.stamp]++dg [e.value])++gQ e.name e.labs
theorem vy(e:Pv):aI (E7 e):=dM (dM (gR _) (vr _)) (yc _ _)
def Rp.nums(r:Rp)(i:Nat):Int:=match i with|1=>r.ag|2=>r.ep|3=>r.bt|4=>r.nx|5=>r.st|6=>r.nw|7=>r.sm.asked|8=>r.sm.CV|9=>r.sm.hY|10=>r.sm.came|_=>0
def Rp.bytes(r:Rp):List Int:=if r.right then (aP [r.kind]++(cA r.kind).flatMap (λi=>aP [r.nums i]))++(if r.kind=4 then aP [(r.evs.length:Int)] else [])++r.evs.flatMap E7 else []
theorem rN(v:Int):GK v<18446744073709551616:=by have:=vp v;grind [GK]
theorem yj(v:Int):u64.wrap v=(GK v:Nat):=by have:=vp v;grind [GK]
theorem dP(l:List Int):(aP l).length<=10*l.length:=by induction l with
  | nil=>simp[aP]
  | cons v r ih=>grind [pz,rN,aP]
theorem yk(e:Pv):(E7 e).length<=1320:=by grind [dP,nK,vv,E7]
section
variable {F L:List aF}{H:aC}{K KP:KE}{Q:aF}
theorem qv{a:KQ}{c:Nat}{vs:List Int}(h:aA H F)(B:∀H,aA H F->aQ H a (vs.map aB))(D:vs.length<=1000000) (k:∀m d n,aA n (ay 5 1 m (aP vs).length d ((aP vs).map U8)::F)->K (.slice m (aP vs).length d) n) : CF 73 #[.slice a vs.length c] H K:=by
 refine cN 73 0x1121561239925144c [[(3,sS),(8,sI)]] ⟨λm u d i n=>∃j:Nat,i=j/\j<=vs.length/\u=(aP (vs.take j)).length/\aA n (ay 5 1 m (aP (vs.take j)).length d ((aP (vs.take j)).map U8)::F),λ_ _ _ i _=>vs.length-i.toNat,⟨0,rfl,EA _,rfl,h.cp 5 1⟩,?_⟩;rintro a1 n1 c1 i J ⟨j,rfl,G,rfl,h⟩;refine⟨λy=>?_,λy=>?_⟩
 .have b:j<vs.length:=by grind
  have t:=(B _ h.tl).at b;refine⟨ez,_,_,t.1,vs[j],t.2,?_⟩;dsimp only;conv=>whnf
  rw[yj];have C:=dP (vs.take j);have w:=pz (rN vs[j]);have A:(vs.take j).length<=vs.length:=by grind
  refine h.al λb1 _ h=>rL (us:=[GK vs[j]]) h (λH h=>h.ew 0 rfl) (by grind [rN]) eh λa2 c2 E h=>⟨_,_,_,rfl,?_⟩;rw[yd]at h ⊢;conv=>whnf
  refine dw h (i:=2) rfl rfl rfl (h.a_ 0 rfl) ez λa3 c3 I h=>⟨_,_,_,rfl,?_⟩;conv=>whnf
  rw[aN (x:=(j:Int)+1)];have e:aP (vs.take (j+1))=aP (vs.take j)++bS (GK vs[j]):=kM (f:=λv=>bS (GK v)) b;rw[<-e]at h ⊢;exact⟨⟨j+1,ez,b,rfl,h.o [2] 3⟩,by grind⟩
 have s:vs.length<=j:=by grind
 have e:vs.take j=vs:=FL s;rw[e]at h ⊢;exact k _ _ _ h
theorem oU{b:Nat}{v:Int}(h:aA H F)(i:Nat)(e:aX i F=ax b [aB v] 2) (k:∀a c d,aA d (ay 5 1 a (aP [v]).length c ((aP [v]).map U8)::F)->K (.slice a (aP [v]).length c) d) : CF 73 #[.slice (some ⟨b,0,none⟩) 1 1] H K:=qv (vs:=[v]) h (λH h=>h.ew i e) eh k
theorem rO{b:Nat}{v:Int}(h:aA H F)(i:Nat)(e:aX i F=ax b [aB v] 2) (k:∀a c d,aA d (ay 5 1 a (dg [v]).length c ((dg [v]).map U8)::F)->K (.slice a (dg [v]).length c) d) : CF 75 #[.slice (some ⟨b,0,none⟩) 1 1] H K:=JY (vs:=[v]) h (λH h=>h.ew i e) eh k
theorem KK{e:Ev}(h:aA H F)(v:∀H,aA H F->aQ H e.la (flat cJ e.labs)) (k:∀t n f,aA f (ay 5 1 t (E7 e.p).length n ((E7 e.p).map U8)::F)->K (.slice t (E7 e.p).length n) f) : CF 145 #[LD e] H K:=by
 refine cN 145 4748 [[(3,sS)]] (h.al λb _ h=>?_);intro w u;have l1:=dP [e.stamp];have l2:=nK [e.value];have l3:=vv e.name e.labs;simp only[CU,HE]at l1 l2;have d:∀a c f,aA f (ay 5 1 a (aP [e.stamp]++dg [e.value]).length c ((aP [e.stamp]++dg [e.value]).map U8)::ax b (bH e) 69::F)->w a (aP [e.stamp]++dg [e.value]).length c f:=by
  intro a c f h;refine u _ _ _ _ ⟨_,_,_,_,h.q 1,Bp h (λH h=>v H h.tl.tl) λa2 c2 j h=>⟨_,_,_,rfl,?_⟩⟩;conv=>whnf
  refine dw h (i:=1) rfl rfl rfl (h.a_ 0 rfl) (by grind) λa3 c3 m h=>⟨_,_,_,rfl,k _ _ _ (h.o [1] 3)⟩
 refine⟨_,h.r 0,_,h.r 0,?_,?_⟩
 .refine h.al λb1 _ h=>⟨h.r 1,?_,?_⟩
  .refine oU h 0 rfl λa1 c1 j h=>⟨_,_,_,rfl,h.r 2,h.al λb2 _ h=>rO h 0 rfl λa2 c2 s h=>⟨_,_,_,rfl,?_⟩⟩;conv=>whnf
   refine dw h (i:=2) rfl rfl rfl (h.a_ 0 rfl) ez λa3 c3 m h=>⟨_,_,_,rfl,d _ _ _ (h.o [2,4] 5)⟩
  refine h.al λb2 _ h=>oU h 1 rfl λa1 c1 j h=>⟨_,_,_,rfl,rO h 1 rfl λa2 c2 s h=>⟨_,_,_,rfl,?_⟩⟩;conv=>whnf
  refine dw h (i:=1) rfl rfl rfl (h.a_ 0 rfl) ez λa3 c3 m h=>⟨_,_,_,rfl,d _ _ _ (h.o [1,4] 5)⟩
 refine h.al λb2 _ h=>⟨h.r 1,h.al λb1 _ h=>oU h 0 rfl λa1 c1 j h=>⟨_,_,_,rfl,rO h 2 rfl λa2 c2 s h=>⟨_,_,_,rfl,?_⟩⟩⟩;conv=>whnf
 refine dw h (i:=1) rfl rfl rfl (h.a_ 0 rfl) ez λa3 c3 m h=>⟨_,_,_,rfl,d _ _ _ (h.o [1,4] 5)⟩
abbrev HF(e:Int):Value:=.iface 58 (aB e)
def tQ{α:Type}(rb:Nat)(F:List aF)(enc:α->Value)(K KP:KE):Except Int (α×RS)->Prop
 | .ok (x,s)=>∀H',s.e=0->aI s.bs->s.bs.length<=1099511627776->aA H' (kb rb s::F)->K (enc x) H'
 | .error e=>∀H',e≠0->aA H' F->KP (HF e) H'
theorem jV{e:Int}(k:e=0->K (.tuple #[]) H)(kp:e≠0->KP (HF e) H):CP 325 #[aB e] H K KP:=by refine cNP 325 5961 [[]] λc a=>⟨λb=>kp (by grind),λb=>a _ (k (by grind))⟩
theorem vz{rb:Nat}{s:RS}(h:aA H (kb rb s::F))(hb:aI s.bs)(d:s.bs.length<=1099511627776)(k:tQ rb F (λv:Int=>.int .u64 v) K KP (eT s)) : CP 329 #[.agg #[PA rb 0]] H K KP:=by
 refine cMP 329 4380 (h.al λb _ h=>⟨_,h.r 0,?_⟩);have h:=h.o [1,0] 2;refine oT h hb d λf h=>⟨_,rfl,_,h.r 1,_,nE h,?_⟩;have a:=ij hb;have c:=kN s;unfold eT FO at k;refine jV (λe=>⟨rfl,?_⟩) λe=>?_;.rw [b_ (by grind)]at k;exact k _ e a ez (h.o [0] 2)
 rw [c_ e]at k;exact k _ e h.tl.tl
theorem kP{rb:Nat}{s:RS}(h:aA H (kb rb s::F))(hb:aI s.bs)(a:s.bs.length<=1099511627776)(k:tQ rb F aB K KP (cQ s)) : CP 323 #[.agg #[PA rb 0]] H K KP:=by
 refine cMP 323 28 (h.al λb _ h=>⟨_,h.rd 0 rfl 0,?_⟩);have h:=h.o [1,0] 2;refine vz h hb a ?_;unfold eT FO;unfold cQ FO at k;split;.rename_i e;rw[c_ e]at k;exact λd c h=>k _ c h.tl
 rename_i e;rw[b_ e]at k;exact λd c hb a h=>⟨_,rfl,k _ c hb a (h.o [0] 2)⟩
theorem vA{rb:Nat}{s:RS}(h:aA H (kb rb s::F))(hb:aI s.bs)(d:s.bs.length<=1099511627776)(k:tQ rb F aB K KP (gz s)) : CP 321 #[.agg #[PA rb 0]] H K KP:=by
 refine cMP 321 4380 (h.al λb _ h=>⟨_,h.r 0,?_⟩);have h:=h.o [1,0] 2;refine xW h hb d λf h=>⟨_,rfl,_,h.r 1,_,nE h,?_⟩;have a:aI (dC s).2.bs:=ij hb;have c:(dC s).2.bs.length<=s.bs.length:=kN s;unfold gz FO at k;refine jV (λe=>⟨rfl,?_⟩) λe=>?_;.rw [b_ (by grind)]at k;exact k _ e a ez (h.o [0] 2)
 rw [c_ e]at k;exact k _ e h.tl.tl
theorem vB{rb:Nat}{s:RS}{m:Int}(hm:aG m)(h:aA H (kb rb s::F))(hb:aI s.bs)(d:s.bs.length<=1099511627776)(k:tQ rb F aB K KP (dZ m s)) : CP 322 #[.agg #[PA rb 0],aB m] H K KP:=by
 refine cMP 322 4380 (h.al λb _ h=>⟨_,h.r 0,?_⟩);have h:=h.o [1,0] 2;refine uY (most:=m) h hb d hm λf h=>⟨_,rfl,_,h.r 1,_,nE h,?_⟩;have a:=tN (m:=m) hb;have c:=tO s m;unfold dZ FO at k;refine jV (λe=>⟨rfl,?_⟩) λe=>?_;.rw [b_ (by grind)]at k;exact k _ e a ez (h.o [0] 2)
 rw [c_ e]at k;exact k _ e h.tl.tl
theorem tR{rb:Nat}{s:RS}{m:Int}(h:aA H (kb rb s::F))(hb:aI s.bs)(a:s.bs.length<=1099511627776)(k:tQ rb F aB K KP (Hb m s)) : CP 320 #[.agg #[PA rb 0],aB m] H K KP:=by
 refine cNP 320 287405212 [[]] (h.al λb _ h=>⟨_,h.rd 0 rfl 0,?_⟩);have h:=h.o [1,0] 2;refine kP h hb a ?_;unfold Hb at k;cases hr:cQ s with
  | error e=>rw[hr]at k;exact λf c h=>k _ c h.tl
  | ok p=>
  let⟨v,s1⟩:=p;rw[hr]at k;dsimp only at k;intro f c hb a h;refine⟨_,rfl,_,pE,λj d=>⟨λi=>?_,λi=>d _ ?_⟩⟩;.rw [b_ (by grind)]at k;exact k _ ee h.tl.tl
  skip;rw[c_ (by grind)]at k;exact k _ c hb a (h.o [0] 2)
theorem tS{s:RS}(h:(cV s).e=0):(⟨(cV s).e,(cV s).rest.bs⟩:RS)=(cV s).rest:=by
 unfold cV at h ⊢;split at h;.grind
 rename_i a;rw[b_ a];have a:(dO (cx 8 (bg 64 s).2).1.toNat (cx 8 (bg 64 s).2).2).2.e=0:=by grind
 generalize dO (cx 8 (bg 64 s).2).1.toNat (cx 8 (bg 64 s).2).2=W at *;let⟨w1,w2,w3⟩:=W;grind
def EPost(rb:Nat)(Q:aF)(F:List aF)(K KP:KE):Except Int (Pv×RS)->Prop
 | .ok (x,s)=>∀Q' (e:Ev) H',aH Q Q'->ge Q' e->e.p=x->s.e=0->aI s.bs->s.bs.length<=1099511627776->aA H' (Q'::kb rb s::F)->K (LD e) H'
 | .error e=>∀Q' H',e≠0->aH Q Q'->aA H' (Q'::F)->KP (HF e) H'
theorem yl{rb:Nat}{s:RS}(h:aA H (Q::kb rb s::F))(hb:aI s.bs)(B:s.bs.length<=1099511627776)(k:EPost rb Q F K KP (j0 s)) : CP 332 #[.agg #[PA rb 0]] H K KP:=by
 refine cMP 332 69916 (h.al λb _ h=>h.al λb1 _ h=>⟨_,h.rd 1 rfl 0,_,h.rd 1 rfl 0,?_⟩);have h:=h.o [3,0,1,2] 4;refine kP h hb B ?_;unfold j0 at k;cases hr:cQ s with
  | error e=>rw[hr]at k;exact λj n h=>k _ _ n (aH.refl Q) (h.o [2] 3)
  | ok p=>
  let⟨v,s1⟩:=p;rw[hr]at k;dsimp only at k;intro j x i f h;refine⟨_,rfl,h.rd 2 rfl 0,vA h i f ?_⟩;cases hr:gz s1 with
   | error e=>rw[hr]at k;exact λj n h=>k _ _ n (aH.refl Q) (h.o [2] 3)
   | ok p=>
   let⟨u,s2⟩:=p;rw[hr]at k;dsimp only at k;intro j y d w h;refine⟨_,rfl,_,h.r 2,Ko h d w λa c D h=>⟨_,_,_,_,_,rfl,?_⟩⟩;have m:=Bn d;have A:=Bo s2;refine h.al λb2 _ h=>h.st 0 rfl rfl ?_;intro E h;unfold FO at k;refine jV (λe=>?_) λe=>?_
   .rw [b_ (by grind),tS e]at k;refine⟨rfl,_,_,_,_,h.q 0,h.st 3 rfl rfl ?_⟩;intro C h;refine⟨_,_,_,_,_,_,h.q 3,?_⟩;have t:(cV s2).rest.e=0:=by grind [tS]
    refine k _ ⟨v,u,(cV s2).name,(cV s2).labs,a,c⟩ _ (aH.add (ay 223 2 a (cV s2).labs.length c (flat cJ (cV s2).labs)) Q) (DE.sl (c:=c)) rfl t m ez ?_;have h:=h.o [2,5,1] 6;exact gZ.2 h
   rw [c_ e]at k;have h:=h.o [5] 6;exact k _ _ e (aH.refl Q) h
end
theorem Rp.DK(h:I.right=true):I.evs.length<=64:=by
 unfold Rp.right at h;rw[q_,q_,q_]at h;have h:=h.1.2;split at h;.unfold gy at h;grind
 grind
theorem abN:∀i∈cA f,1<=i:=by grind [cA]
theorem acS(b:1<=n)(d:n<11):aT (dq I a c) n=some (aB (I.nums n)):=by rcases (ez:n=1\/n=2\/n=3\/n=4\/n=5\/n=6\/n=7\/n=8\/n=9\/n=10) with rfl|rfl|rfl|rfl|rfl|rfl|rfl|rfl|rfl|rfl <;> rfl
abbrev nmB(r:Rp)(is:List Nat):List Int:=is.flatMap λi=>aP [r.nums i]
theorem KM(r:Rp)(is:List Nat):(nmB r is).length<=10*is.length:=by induction is with
  | nil=>simp
  | cons i l ih=>have:=dP [r.nums i];grind
theorem B6(l:List Pv):(l.flatMap E7).length<=1320*l.length:=by induction l with
  | nil=>simp
  | cons i l ih=>grind [yk]
theorem Uc(D:I.evs=B.map Ev.p)(h:aA H F)(evs:mK F a B)(L:B.length<=1099511627776) (k:∀s f m,aA m (ay 5 1 s I.bytes.length f (I.bytes.map U8)::F)->K (.slice s I.bytes.length f) m):CF 215 #[.agg ⟨dq I a c⟩] H K:=by
 have S:I.evs.length=B.length:=by grind
 refine cN 215 0x1d1215612399251442174921561239925144c [[(3,sS),(42,sI)],[(3,sS)],[(3,sS),(17,sI)]] (h.al λb _ h=>⟨_,_,_,_,_,_,_,_,_,_,_,_,_,_,h.q 0,B5 D h (evs.cons _) L λH1 h=>⟨_,rfl,λQ=>?_,λQ=>?_⟩⟩)
 .have e:I.bytes=[]:=by unfold Rp.bytes;grind
  rw[e]at k;exact k none 0 _ (h.tl.cp 5 1)
 have E:I.right=true:=by grind
 have N:=Rp.DK E;unfold Rp.bytes at k;rw[c_ E]at k;have U:=dP [I.kind];have lo:=yi I.kind;simp only[CU,HE]at U;refine⟨_,h.r 0,h.al λb1 _ h=>oU h 0 rfl λa1 c1 Y h=>⟨_,_,_,rfl,B0 h 2 rfl rfl λp pc Z h=>⟨_,_,_,rfl,⟨λs A f i m=>∃j:Nat,i=j/\j<=(cA I.kind).length/\A=(aP [I.kind]++nmB I ((cA I.kind).take j)).length/\ aA m (ay 5 1 s (aP [I.kind]++nmB I ((cA I.kind).take j)).length f ((aP [I.kind]++nmB I ((cA I.kind).take j)).map U8)::ay 339 1 p (cA I.kind).length pc ((cA I.kind).map λi=>PA b i)::ax b (dq I a c) 281::F),λ_ _ _ i _=>(cA I.kind).length-i.toNat,⟨0,rfl,ez,eh,?_⟩,?_⟩⟩⟩⟩;.rw [show aP [I.kind]++nmB I ((cA I.kind).take 0)=aP [I.kind] by simp[nmB]];exact h.o [1,0,3] 4
 rintro a2 n2 c2 i V ⟨j,rfl,T,rfl,h⟩;have t:=KM I ((cA I.kind).take j);have C:((cA I.kind).take j).length<=(cA I.kind).length:=by grind
 refine⟨λd=>?_,λd=>?_⟩
 .have d:j<(cA I.kind).length:=by grind
  have u:=(h.a_ 1 rfl).at d;have hi:=B4 _ (s_ d);have y:=abN _ (s_ d);conv=>whnf
  refine⟨ez,_,_,u.1,_,u.2,⟨I.nums (cA I.kind)[j],(h.r 2).trans (acS y hi),h.al λb3 _ h=>oU h 0 rfl λa3 c3 r h=>⟨_,_,_,rfl,?_⟩⟩⟩;have l1:=dP [I.nums (cA I.kind)[j]];simp only[CU,HE]at l1;refine dw h (i:=2) rfl rfl rfl (h.a_ 0 rfl) (by grind) λa4 c4 G h=>⟨_,_,_,rfl,?_⟩;conv=>whnf
  rw[aN (x:=(j:Int)+1)];have e:aP [I.kind]++nmB I ((cA I.kind).take (j+1))=(aP [I.kind]++nmB I ((cA I.kind).take j))++aP [I.nums (cA I.kind)[j]]:=by unfold nmB;grind [kM]
  rw[<-e]at h ⊢;exact⟨⟨j+1,ez,d,rfl,h.o [2,3,4] 5⟩,by grind⟩
 have n:(cA I.kind).length<=j:=by grind
 rw[FL n]at h t ⊢;have h:=h.o [0,2] 3;refine⟨_,h.r 1,?_⟩;intro M R;have w:∀(O:List Int) a3 f m,O=(aP [I.kind]++nmB I (cA I.kind))++(if I.kind=4 then aP [(I.evs.length:Int)] else [])->aA m (ay 5 1 a3 O.length f (O.map U8)::ax b (dq I a c) 281::F)->M a3 O.length f m:=by
  intro O a3 c3 r P h;refine R _ _ _ _ ?_;have lO:O.length<=80:=by grind [dP]
  refine⟨_,_,_,h.r 1,?_⟩;rw[<-P]at k;refine⟨λs A f i m=>∃j:Nat,i=j/\j<=B.length/\A=(O++(I.evs.take j).flatMap E7).length/\ aA m (ay 5 1 s (O++(I.evs.take j).flatMap E7).length f ((O++(I.evs.take j).flatMap E7).map U8)::ax b (dq I a c) 281::F),λ_ _ _ i _=>B.length-i.toNat,⟨0,rfl,ez,eh,eu h⟩,?_⟩;rintro a4 n4 c4 i G ⟨j,rfl,T,rfl,h⟩;have t:=B6 (I.evs.take j);have C:(I.evs.take j).length<=I.evs.length:=by grind
  refine⟨λd=>?_,λd=>?_⟩
  .have d:j<B.length:=by grind
   have u:=evs.rd _ h.tl.tl;refine⟨ez,_,_,u.some dU ez d,_,_,_,_,_,_,u.E8 dU d,h.al λb5 _ h=>h.st 0 rfl rfl ?_⟩;intro H7 h;refine⟨_,_,_,_,_,_,h.q 0,KK (e:=B[j]) h (λH h=>evs.labs _ (s_ d) H h.tl.tl.tl) λa6 c6 H8 h=>⟨_,_,_,rfl,?_⟩⟩;have l1:=yk B[j].p;conv=>whnf
   refine dw h (i:=2) rfl rfl rfl (h.a_ 0 rfl) (by grind) λa7 c7 W h=>⟨_,_,_,rfl,?_⟩;conv=>whnf
   rw[aN (x:=(j:Int)+1)];have J:j<I.evs.length:=ez;have ej:I.evs[j]=B[j].p:=by simp[D]
   have e:O++(I.evs.take (j+1)).flatMap E7=(O++(I.evs.take j).flatMap E7)++E7 B[j].p:=by grind [kM]
   rw[<-e]at h ⊢;exact⟨⟨j+1,ez,d,rfl,h.o [2,3] 4⟩,by grind⟩
  have n:I.evs.length<=j:=by grind
  rw[FL n]at h ⊢;exact k _ _ _ (h.o [0] 2)
 refine⟨λv=>?_,λv=>?_⟩
 .have v:=ke v;refine⟨_,_,_,h.r 1,h.al λb6 _ h=>oU h 0 rfl λa3 c3 r h=>⟨_,_,_,rfl,?_⟩⟩;have l1:=dP [(I.evs.length:Int)];simp only[CU,HE]at l1;conv=>whnf
  refine dw h (i:=2) rfl rfl rfl (h.a_ 0 rfl) (by grind) λa4 c4 G h=>⟨_,_,_,rfl,w _ _ _ _ (by grind) (h.o [2,3] 4)⟩
 have v:=ix v;refine w _ _ _ _ (by grind) h
structure Fq where
 kind:Int
 ag:Int:=0
 ep:Int:=0
 bt:Int:=0
 ct:Int:=0
 CV:Int:=0
 hY:Int:=0
 next:Int:=0
 stamp:Int:=0
 win:Int:=0
 evs:List Pv:=[]
 sn:Fb:=⟨#[]⟩
 sl:List bO:=[]
 data:List Int:=[]
variable {D:Fq}
def aU(k:Int):List Nat:=if k=1 then [1,3] else if k=2 then [1,3,2] else if k=3 then [1,3,4] else if k=4 then [1,2,3,4,5,6] else
 if k=5\/k=6 then [1,2,7] else if k=7 then [1,2,7,8] else if k=8 then [9] else []
def Fq.nums(f:Fq)(i:Nat):Int:=match i with
 | 1=>f.ag|2=>f.ep|3=>f.bt|4=>f.ct|5=>f.CV|6=>f.hY|7=>f.next|8=>f.stamp|9=>f.win|_=>0
structure QA where
 ea:KQ:=none
 ec:Nat:=0
 la:KQ:=none
 lc:Nat:=0
 da:KQ:=none
 dc:Nat:=0
variable {x:QA}
abbrev cT(f:Fq)(x:QA):Xa:=
 [aB f.kind,aB f.ag,aB f.ep,aB f.bt,aB f.ct,aB f.CV,aB f.hY,aB f.next,aB f.stamp,aB f.win,.slice x.ea f.evs.length x.ec,.string f.sn,.slice x.la f.sl.length x.lc,.slice x.da f.data.length x.dc]
structure Fq.Sh(f:Fq)(x:QA):Prop where
 ev:f.kind≠5->f.evs=[]/\x.ea=none/\x.ec=0
 em:f.kind≠8->f.sn=⟨#[]⟩/\f.sl=[]/\x.la=none/\x.lc=0/\f.data=[]/\x.da=none/\x.dc=0
 nm:∀i,1<=i->i<=9->i∉aU f.kind->f.nums i=0
structure jW(F:List aF)(f:Fq)(x:QA)(evs:List Ev):Prop where
 eq:f.evs=evs.map Ev.p
 ev:mK F x.ea evs
 lab:∀H,aA H F->aQ H x.la (flat cJ f.sl)
 dat:∀H,aA H F->aQ H x.da (f.data.map U8)
 dA:x.da=none\/∃k o,x.da=some ⟨k,o,none⟩
 sh:f.Sh x
 el:evs.length<=1000000
 ll:∀e∈evs,e.labs.length<=1000000
 sl:f.sl.length<=1000000
 dl:f.data.length<=1000000000
theorem jW.cons{F:List aF}{f:Fq}{x:QA}{evs:List Ev}(h:jW F f x evs)(A:aF):jW (A::F) f x evs:=⟨h.eq,h.ev.cons A,λH a=>h.lab H a.tl,λH a=>h.dat H a.tl,h.dA,h.sh,h.el,h.ll,h.sl,h.dl⟩
theorem jW.len(h:jW F D x B):D.evs.length=B.length:=by rw[h.eq,FW]
def gg(f:Fq):Bool:=if f.kind=4 then decide (f.CV<=f.hY) else if f.kind=5 then gy f.next f.evs else
 if f.kind=6\/f.kind=7 then decide (f.next<=1099511627776) else if f.kind=8 then dB f.sn f.sl&&decide (f.data.length<=4096) else true
def dQ(f:Fq):Bool:=Hp f.kind 1 8&&(Hp f.ag 0 63&&Hp f.ep 0 1099511627776)&&(aU f.kind).all (λi=>Hp (f.nums i) 0 4611686018427387903)&&gg f
theorem B7:∀i∈aU f,1<=i/\i<=9:=by grind [aU]
theorem vC(k:Int):(aU k).length<=6:=by
 unfold aU;split;.decide
 split;.decide
 split;.decide
 split;.decide
 grind
theorem acn(a:1<=f)(b:f<=8):f=1\/f=2\/f=3\/f=4\/f=5\/f=6\/f=7\/f=8:=ez
theorem KN:aU f=[]↔¬(1<=f/\f<=8):=by
 constructor;.intro h a;rcases acn a.1 a.2 with rfl|rfl|rfl|rfl|rfl|rfl|rfl|rfl <;> exact cS h ee
 intro h;unfold aU;grind
theorem KR(a:1<=n)(b:n<=9):aT (cT D x) n=some (aB (D.nums n)):=by rcases (ez:n=1\/n=2\/n=3\/n=4\/n=5\/n=6\/n=7\/n=8\/n=9) with rfl|rfl|rfl|rfl|rfl|rfl|rfl|rfl|rfl <;> rfl
def qw(f:Fq)(is:List Nat):Xa:=is.foldl (λcs i=>cu cs i [aB (f.nums i)]) (cT { kind:=f.kind } {})
theorem Ud(f:Fq):∀is,(qw f is).length=14:=by
 have:∀(is:List Nat) (cs:Xa),cs.length=14->(is.foldl (λcs i=>cu cs i [aB (f.nums i)]) cs).length=14:=by intro is;induction is with
   | nil=>grind
   | cons i is ih=>grind [oF]
 exact λis=>this is _ rfl
theorem Ue(f:Fq)(is:List Nat)(i:Nat):qw f (is++[i])=cu (qw f is) i [aB (f.nums i)]:=by grind [qw]
theorem Uf(b:1<=D.kind)(c:D.kind<=8)(a:∀i,1<=i->i<=9->i∉aU D.kind->D.nums i=0) : qw D (aU D.kind)=[aB D.kind,aB D.ag,aB D.ep,aB D.bt,aB D.ct,aB D.CV,aB D.hY,aB D.next,aB D.stamp,aB D.win,.slice none 0 0,.string ⟨#[]⟩,.slice none 0 0,.slice none 0 0]:=by
 let⟨kind,ag,ep,bt,ct,CV,hY,next,stamp,win,evs,sn,sl,data⟩:=D;dsimp only at b c;have n1:1∉aU kind->ag=0:=a 1 ee ee;have n2:2∉aU kind->ep=0:=a 2 ee ee;have n3:3∉aU kind->bt=0:=a 3 ee ee;have n4:4∉aU kind->ct=0:=a 4 ee ee;have n5:5∉aU kind->CV=0:=a 5 ee ee;have n6:6∉aU kind->hY=0:=a 6 ee ee;have n7:7∉aU kind->next=0:=a 7 ee ee;have n8:8∉aU kind->stamp=0:=a 8 ee ee;have n9:9∉aU kind->win=0:=a 9 ee ee;clear a;rcases acn b c with rfl|rfl|rfl|rfl|rfl|rfl|rfl|rfl;.rw [n2 ee,n4 ee,n5 ee,n6 ee,n7 ee,n8 ee,n9 ee];rfl
 .rw [n4 ee,n5 ee,n6 ee,n7 ee,n8 ee,n9 ee];rfl
 .rw [n2 ee,n5 ee,n6 ee,n7 ee,n8 ee,n9 ee];rfl
 .rw [n7 ee,n8 ee,n9 ee];rfl
 .rw [n3 ee,n4 ee,n5 ee,n6 ee,n8 ee,n9 ee];rfl
 .rw [n3 ee,n4 ee,n5 ee,n6 ee,n8 ee,n9 ee];rfl
 .rw [n3 ee,n4 ee,n5 ee,n6 ee,n9 ee];rfl
 rw [n1 ee,n2 ee,n3 ee,n4 ee,n5 ee,n6 ee,n7 ee,n8 ee];rfl
theorem ym{k0:Int}(h:aA H F)(i:Nat)(C:aX i F=ax n G c)(D:aT G 0=some (aB k0))
  (k:∀a e j,(a.isNone=true↔aU k0=[])->aA j (ay 339 1 a (aU k0).length e ((aU k0).map λi=>PA n i)::F)->K (.slice a (aU k0).length e) j):CF 159 #[PA n 0] H K:=by
 refine cN 159 0x121513c13c13c13c217943c13cbc [[(68,sB)]] ?_;have fin:∀(l:List Nat) p j,aU k0=l->l≠[]->aA j (ax p (l.map λi=>PA n i) 339::F)->K (.slice (some ⟨p,0,none⟩) l.length l.length) j:=by
  intro l p j c y h;subst c;refine k _ _ _ ⟨λw=>(by cases w),λw=>cS w y⟩ (aA.EG h 1 _ eh)
 refine⟨k0,(h.rd i C 0).trans D,λd=>?_,λd=>⟨λd=>?_,λd=>⟨λd=>?_,λd=>⟨λd=>?_,λd=>?_⟩⟩⟩⟩
 .obtain rfl:=ke d;exact h.al λp _ h=>fin [1,3] p _ rfl ee h
 .obtain rfl:=ke d;exact h.al λp _ h=>fin [1,3,2] p _ rfl ee h
 .obtain rfl:=ke d;exact h.al λp _ h=>fin [1,3,4] p _ rfl ee h
 .obtain rfl:=ke d;exact h.al λp _ h=>fin [1,2,3,4,5,6] p _ rfl ee h
 simp only[C5]at *;intro A x;have m:∀t:Bool,t=decide (k0=5\/k0=6)->A t H:=by
  intro t v;refine x _ _ ⟨λf=>?_,λf=>⟨λs=>?_,λs=>⟨λu=>?_,λu=>?_⟩⟩⟩
  .rw [f]at v;have b:=ke v.symm;refine h.al λp _ h=>fin [1,2,7] p _ ?_ ee h
   rcases b with rfl|rfl <;> rfl
  .obtain rfl:=ke s;exact h.al λp _ h=>fin [1,2,7,8] p _ rfl ee h
  .obtain rfl:=ke u;exact h.al λp _ h=>fin [9] p _ rfl ee h
  .rw [f]at v;have b:=ix v.symm;simp only[C5]at *;have c:aU k0=[]:=by
    unfold aU
    grind
   have:=k none 0 H ⟨λ_=>c,λ_=>rfl⟩ (by rw[c];exact h.cp 339 1)
   rw[c]at this;exact this
 refine⟨λB=>m _ ?_,λB=>m _ ?_⟩
 .grind
 grind
theorem ada(h:0<=f/\f<=4611686018427387903):gy f (B.map Ev.p)=jc f B:=by rw[<-yh,TT,RD h.1,Bool.true_and]
theorem Ug(h:aA H F)(r:jW F D x B)(k:∀d,aA d F->K (.bool true) d) : CF 244 #[.agg ⟨cT D x⟩,.agg ⟨cT D x⟩] H K:=by refine cN 244 4745 [[(4,sB)]] (h.al λb _ h=>h.al λb1 _ h=>?_);intro m i;have r2:=(r.cons (ax b (cT D x) 99)).cons (ax b1 (cT D x) 99);have c:=r.len;refine⟨_,_,_,h.q 1,_,_,_,h.q 0,true,agC,_,_,_,_,_,_,_,_,_,_,_,_,_,_,_,_,_,_,_,_,λ_=>h.q 1,_,_,_,_,_,_,_,_,_,_,_,_,_,_,_,_,_,_,_,_,λ_=>h.q 0,λ_=>?_,λa=>cS rfl a⟩;refine yf h λj h=>⟨_,_,_,_,_,_,_,rfl,λ_=>h.q 0,yf h λn h=>⟨_,_,_,_,_,_,_,rfl,true,agz,_,_,_,λ_=>h.r 1,_,_,_,λ_=>h.r 0,λ_=>?_,λa=>cS rfl a⟩⟩;rw[c]at *;refine Kx h r2.ev r.el r.ll λt h=>⟨_,rfl,_,_,_,_,λ_=>h.q 1,_,_,_,_,λ_=>h.q 0,λ_=>?_,λa=>cS rfl a⟩;refine Bs h r2.lab r.sl λs h=>⟨_,rfl,_,_,_,λ_=>h.r 1,_,_,_,λ_=>h.r 0,λ_=>?_,λa=>cS eh a⟩;refine Bt r.dA r.dA (r2.dat _ h) (r2.dat _ h) ⟨_,rfl,i _ _ ?_⟩;have:=k _ h.tl.tl;have e:((bN D.data).toList == (bN D.data).toList)=true:=eh;rw[e];exact this
theorem KU(h:aA H F)(r:jW F D x B)(k:∀m,aA m F->K (.bool (dQ D)) m):CF 167 #[.agg ⟨cT D x⟩] H K:=by
 refine cN 167 0x11d11215612399251d4421517b171b217947b171b9c [[],[],[(88,sB)],[],[],[(43,sI)]] ?_;have U:=r.len;refine h.al λb _ h=>ym h 0 rfl rfl λp pc H1 hp h=>⟨_,_,_,rfl,_,λ_=>h.r 1,_,λ_=>h.r 1,_,λ_=>h.r 1,_,λ_=>h.r 1,λd=>?_,λd=>?_⟩
 .have:dQ D=false:=by
   unfold dQ;simp only[HW,v_]at d
   rcases d with (((d|d)|d)|d)|d
   .have h0:=KN.1 (hp.1 d)
    grind
   .grind
   .grind
   .grind
   grind
  rw[this]at k;exact k _ h.tl.tl
 simp only[E5,C5]at d;let⟨⟨⟨⟨l0,h9⟩,h1⟩,h3⟩,j2⟩:=d;have u:1<=D.kind/\D.kind<=8:=by
  apply Classical.byContradiction
  grind [KN]
 have P:(Hp D.kind 1 8&&(Hp D.ag 0 63&&Hp D.ep 0 1099511627776))=true:=by
  grind
 refine⟨_,h.r 1,h.al λb1 _ h=>h.st 0 rfl rfl ?_⟩;intro H2 h;have h:aA H2 (ax b1 (qw D []) 99::ay 339 1 p (aU D.kind).length pc ((aU D.kind).map λi=>PA b i)::ax b (cT D x) 99::F):=h
 refine ym (k0:=D.kind) h 0 rfl rfl λp1 evs H3 h2 h=>⟨_,_,_,rfl,?_⟩
 have lo:=vC D.kind;refine⟨λi m=>∃j:Nat,i=j/\j<=(aU D.kind).length/\(∀q,q<j->∀L:q<(aU D.kind).length,Hp (D.nums (aU D.kind)[q]) 0 4611686018427387903=true)/\
  aA m (ay 339 1 p1 (aU D.kind).length evs ((aU D.kind).map λi=>PA b1 i)::ax b1 (qw D ((aU D.kind).take j)) 99::ay 339 1 p (aU D.kind).length pc ((aU D.kind).map λi=>PA b i)::ax b (cT D x) 99::F),
  λi _=>(aU D.kind).length-i.toNat,⟨0,rfl,ez,λq L=>cS L ez,h⟩,?_⟩
 rintro i H4 ⟨j,rfl,hj,W,h⟩;refine⟨λc=>?_,λc=>?_⟩
 .have c:j<(aU D.kind).length:=by grind
  have hr:=(h.a_ 2 rfl).at c;have E:=(h.a_ 0 rfl).at c;have hi:=B7 _ (s_ c);have S:∀{m},aA m (ay 339 1 p1 (aU D.kind).length evs ((aU D.kind).map λi=>PA b1 i)::ax b1 (qw D ((aU D.kind).take j)) 99::ay 339 1 p (aU D.kind).length pc ((aU D.kind).map λi=>PA b i)::ax b (cT D x) 99::F)->
   aM m b (aU D.kind)[j]=some (aB (D.nums (aU D.kind)[j])):=λh=>(h.r 3).trans (KR hi.1 hi.2)
  refine⟨ez,_,_,hr.1,_,hr.2,⟨_,S h,λ_=>trivial,_,λ_=>S h,λd=>?_,λd=>?_⟩⟩
  .have:dQ D=false:=by
    unfold dQ
    grind
   rw[this]at k;exact k _ h.tl.tl.tl.tl
  .simp only[E5,C5]at d;refine⟨ez,_,_,E.1,_,E.2,⟨_,S h,h.st 1 rfl (by rw[Ud];exact Nat.ble_eq_true_of_le (by show (aU D.kind)[j]+1<=14;omega)) ?_⟩⟩;intro Y h;have hw:i64.wrap ((j:Int)+1)=((j+1:Nat):Int):=by grind [aN]
   refine⟨⟨j+1,hw,c,λq L j1=>?_,?_⟩,by grind⟩
   .grind
   .rw [q1c c,Ue];exact h
 have V:j=(aU D.kind).length:=by grind
 subst V;have Z:(aU D.kind).all (λi=>Hp (D.nums i) 0 4611686018427387903)=true:=by
  rw[XQ];intro i hi;obtain⟨q,L,rfl⟩:=XR hi
  grind
 have hR:dQ D=gg D:=by grind [dQ]
 rw[hR]at k;rw[FE,Uf u.1 u.2 r.sh.nm]at h;have G:∀i∈aU D.kind,0<=D.nums i/\D.nums i<=4611686018427387903:=by
  grind
 refine⟨_,h.r 3,?_⟩;intro Jn hJ;have fin:gg D=true->∀m,aA m (ay 339 1 p1 (aU D.kind).length evs ((aU D.kind).map λi=>PA b1 i)::ax b1 (cT D x) 99::ay 339 1 p (aU D.kind).length pc ((aU D.kind).map λi=>PA b i)::ax b (cT D x) 99::F)->Jn m:=by
  intro Q m h;refine hJ _ ⟨_,_,_,_,_,_,_,_,_,_,_,_,_,_,_,_,_,_,_,_,h.q 3,_,_,_,_,_,_,_,_,_,_,_,_,_,_,_,_,_,_,_,_,h.q 1,?_⟩;rw[Q]at k;refine Ug h ((((r.cons _).cons _).cons _).cons _) λH7 h=>⟨_,rfl,k _ h.tl.tl.tl.tl⟩
 have a:D.kind≠5->D.kind≠8->[aB D.kind,aB D.ag,aB D.ep,aB D.bt,aB D.ct,aB D.CV,aB D.hY,aB D.next,aB D.stamp,aB D.win,.slice none 0 0,.string ⟨#[]⟩,.slice none 0 0,.slice none 0 0]=cT D x:=by
  intro n v;obtain⟨e1,e2,e3⟩:=r.sh.ev n;obtain⟨d1,d2,d3,d4,d5,d6,d7⟩:=r.sh.em v
  grind
 refine⟨λC=>?_,λC=>?_⟩
 .have C:=ke C;refine⟨_,h.r 3,_,h.r 3,λM=>?_,λM=>?_⟩
  .have e:gg D=false:=by unfold gg;grind
   rw[e]at k;exact k _ h.tl.tl.tl.tl
  .rw [a ez ez]at h;refine fin ?_ _ h;unfold gg;grind
 have C:=ix C;intro j3 s;refine⟨λn=>?_,λn=>?_⟩
 .have n:=ke n;have T:0<=D.next/\D.next<=4611686018427387903:=G 7 (by rw[n];decide);have I:gg D=jc D.next B:=by unfold gg;rw[b_ C,c_ n,r.eq,ada T]
  refine⟨_,_,_,h.r 3,h.st 1 rfl rfl ?_⟩;intro Y h;refine⟨_,h.r 3,_,_,_,h.r 3,?_⟩;rw[U];refine Kz h ((((r.ev.cons _).cons _).cons _).cons _) (by have:=r.el;omega) λH6 h=>⟨_,rfl,λhb=>?_,λhb=>s _ ?_⟩
  .rw [I,show jc D.next B=false by grind]at k;exact k _ h.tl.tl.tl.tl
  .refine fin (by grind) _ ?_;obtain⟨d1,d2,d3,d4,d5,d6,d7⟩:=r.sh.em ez;have e:cT D x=[aB D.kind,aB D.ag,aB D.ep,aB D.bt,aB D.ct,aB D.CV,aB D.hY,aB D.next,aB D.stamp,aB D.win,.slice x.ea D.evs.length x.ec,.string ⟨#[]⟩,.slice none 0 0,.slice none 0 0]:=by
    grind
   rw[e]at h ⊢;exact h
 have n:=ix n;intro O N;have w:∀t:Bool,t=decide (D.kind=6\/D.kind=7)->O t H4:=by
  intro t J;refine N _ _ ?_;intro h7 A;refine⟨λy=>?_,λy=>?_⟩
  .rw [y]at J;have R:=ke J.symm;refine⟨_,h.r 3,λM=>?_,λM=>A _ (s _ ?_)⟩
   .have e:gg D=false:=by unfold gg;grind
    rw[e]at k;exact k _ h.tl.tl.tl.tl
   .rw [a ez ez]at h;refine fin ?_ _ h;unfold gg;grind
  rw[y]at J;have R:=ix J.symm;intro l5 f;refine⟨λv=>?_,λv=>f _ (A _ (s _ ?_))⟩
  .have v:=ke v;have I:gg D=(dB D.sn D.sl&&decide (D.data.length<=4096)):=by unfold gg;grind
   refine⟨_,_,_,_,h.q 3,_,_,_,h.r 3,h.st 1 rfl rfl ?_⟩;intro Y h;refine h.st 1 rfl rfl ?_;intro H6 h;refine⟨_,_,_,_,h.q 3,qt h (λH h=>r.lab H h.tl.tl.tl.tl) λH7 h=>⟨_,rfl,_,_,_,λ_=>h.r 3,λhb=>?_,λhb=>f _ (A _ (s _ ?_))⟩⟩
   .have e:gg D=false:=by
     grind
    rw[e]at k;exact k _ h.tl.tl.tl.tl
   .simp only[E5,q2p,C5]at hb;refine fin (by grind) _ ?_;obtain⟨e1,e2,e3⟩:=r.sh.ev ez;have e:cT D x=[aB D.kind,aB D.ag,aB D.ep,aB D.bt,aB D.ct,aB D.CV,aB D.hY,aB D.next,aB D.stamp,aB D.win,.slice none 0 0,.string D.sn,.slice x.la D.sl.length x.lc,.slice x.da D.data.length x.dc]:=by
     grind
    rw[e]at h ⊢;exact h
  .have v:=ix v;rw[a n v]at h;refine fin ?_ _ h;unfold gg;grind
 refine⟨λh6=>w _ ?_,λh6=>w _ ?_⟩
 .grind
 grind
theorem Uh{a:List aF}(h:F.Perm a):star F=star a:=by
 induction h with
 | nil=>rfl
 | cons x _ ih=>grind [star]
 | swap x y F=>grind [star]
 | trans _ _ ih1 ih2=>grind
section
variable {κ α:Type}[DecidableEq κ]
theorem Ui{x:κ}{v:α}{m:List (κ×α)}(b:(aJ m).Nodup)(h:aK x m=some v):m.Perm ((x,v)::bF x m):=by
 let⟨i,d,_⟩:=nc h;have a:=I0 (u:=v) b d;have c:m.set i (x,v)=m:=by apply q2b;grind
 rw[c]at a;exact a
end
structure Fy where
 a:KQ
 c:Nat
 bs:List Int
variable {y:Fy}{A:List Fy}
def Fy.z:Fy:=⟨none,0,[]⟩
abbrev cD(y:Fy):Value:=.slice y.a y.bs.length y.c
abbrev YM:=List (Int×Fy)
variable {m:YM}
def FD(y:Fy):aF:=ay 5 1 y.a y.bs.length y.c (y.bs.map U8)
def sN(m:YM):aF:=star (m.map λp=>FD p.2)
theorem Uj{m':YM}(h:m.Perm m'):sN m=sN m':=Uh (h.map _)
theorem KV(k:Int)(y:Fy)(m:YM):sN ((k,y)::m)=FD y*sN m:=rfl
theorem B8:aA H (emp::F)↔aA H F:=by grind [aA,star,qd]
theorem aA.DJ(a:(aJ m).Nodup)(b:aK f m=some y):aA H (sN m::F)↔aA H (FD y::sN (bF f m)::F):=by rw[Uj (Ui a b),KV];exact gZ
theorem aA.T_{k:Int}:aA H (sN (eO k y m)::F)↔aA H (FD y::sN (bF k m)::F):=by grind [eO,KV,gZ]
abbrev DR:=List (Int×Int)
variable {t:DR}
def bytesOf(f:Int)(rows:DR):List Int:=(rows.filter λr=>decide (r.1=f)).map Prod.snd
theorem rP(f:Int)(a b:DR):bytesOf f (a++b)=bytesOf f a++bytesOf f b:=by simp[bytesOf]
theorem B9(f:Int)(bs:List Int):bytesOf f (bs.map λb=>(f,b))=bs:=by
 induction bs with
 | nil=>rfl
 | cons b r ih=>simp only[bytesOf,Hy,q1x,decide_true,if_true]at ih ⊢;rw[ih]
theorem BA{g:Int}(h:f≠g)(bs:List Int):bytesOf f (bs.map λb=>(g,b))=[]:=by induction bs with
  | nil=>rfl
  | cons b r ih=>grind [bytesOf]
theorem Uk(h:∀r∈t,r.1=f):bytesOf f t=t.map Prod.snd:=by grind [bytesOf,List.filter_eq_self]
theorem Ul{g:Int}(h:∀r∈t,r.1=f)(a:g≠f):bytesOf g t=[]:=by grind [bytesOf,List.filter_eq_nil_iff]
theorem Um(f g:Int)(rows:DR):bytesOf g (rows.filter λr=>decide (r.1≠f))=if g=f then [] else bytesOf g rows:=by unfold bytesOf;rw[List.filter_filter];grind [List.filter_eq_nil_iff]
theorem vD(f:Int)(rows:DR):(bytesOf f rows).length<=rows.length:=by grind [bytesOf]
theorem KW:bytesOf f t≠[]↔f∈t.map Prod.fst:=by unfold bytesOf;simp_all
structure FU(m:YM)(rows:DR):Prop where
 nd:(aJ m).Nodup
 is:∀f,(aK f m).map Fy.bs=if bytesOf f rows=[] then none else some (bytesOf f rows)
theorem FU.new:FU [] []:=⟨eh,λf=>by simp[bytesOf,aK]⟩
theorem FU.get(h:FU m t)(f:Int):((aK f m).getD Fy.z).bs=bytesOf f t:=by
 have:=h.is f;cases hm:aK f m with
  | none=>
  rw[hm]at this;split at this;.rename_i e;rw[e];rfl
  grind
  | some y=>grind
theorem FU.some(h:FU m t)(hm:aK f m=some y):y.bs=bytesOf f t/\y.bs≠[]:=by have:=h.is f;grind
theorem FU.none{m:YM}{rows:DR}(h:FU m rows){f:Int}:aK f m=none↔bytesOf f rows=[]:=by
 have:=h.is f;constructor;.grind
 intro hb;simp_all
theorem FU.keys(h:FU m t):f∈aJ m↔f∈t.map Prod.fst:=by rw[<-KW,Ne,<-h.none,dX,Classical.not_not]
theorem FU.append(h:FU m t)(hb:b≠[])(a:y.bs=bytesOf f t++b):FU (eO f y m) (t++b.map λbs=>(f,bs)):=by
 refine⟨qh h.nd,λg=>?_⟩;rw[pm,rP];by_cases e:g=f;.subst e;rw[c_ rfl,B9,b_ (by simp[hb])];simp[a]
 rw [b_ e,BA e,Hz];exact h.is g
theorem FU.cut{a:DR}(h:FU m (a++t))(c:∀r∈t,r.1=f) : (bytesOf f a=[]->FU (bF f m) a)/\(∀y,y.bs=bytesOf f a->bytesOf f a≠[]->FU (eO f y m) a):=by
 have b:∀g,g≠f->bytesOf g (a++t)=bytesOf g a:=λg d=>by rw[rP,Ul c d,Hz]
 constructor
 .intro hb;refine⟨te h.nd,λg=>?_⟩;rw[xa];by_cases e:g=f;.grind
  rw [b_ e,<-b g e];exact h.is g
 intro y i hb;refine⟨qh h.nd,λg=>?_⟩;rw[pm];by_cases e:g=f;.grind
 rw [b_ e,<-b g e];exact h.is g
theorem FU.delete(h:FU m t)(f:Int):FU (bF f m) (t.filter λr=>decide (r.1≠f)):=by
 refine⟨te h.nd,λg=>?_⟩;rw[xa,Um];by_cases e:g=f;.grind
 rw [b_ e,b_ e];exact h.is g
theorem BB:∀(rows:DR) (a:List Int),a.Nodup->(∀r∈rows,r.1∈a)->(a.map λk=>(bytesOf k rows).length).sum=rows.length
 | [],a,_,_=>by
  have:∀l:List Int,(l.map λk=>(bytesOf k []).length).sum=0:=by
   intro l
   induction l with
   | nil=>rfl
   | cons k r c=>rw[Hy,List.sum_cons,c];rfl
  grind
 | x::rows,a,hn,h=>by
  have c:=BB rows a hn (λr f=>h r (DG _ f))
  have i:=h x DT;have key:∀l:List Int,l.Nodup->(l.map λk=>(bytesOf k (x::rows)).length).sum=(l.map λk=>(bytesOf k rows).length).sum+(if x.1∈l then 1 else 0):=by
   intro l
   induction l with
   | nil=>grind
   | cons k r ih2=>
    intro d;rw[q2d]at d;have i2:=ih2 d.2;simp only[Hy,List.sum_cons]
    by_cases e:x.1=k
    .have b:¬x.1∈r:=by grind
     rw[b_ b]at i2;have:(bytesOf k (x::rows)).length=(bytesOf k rows).length+1:=by grind [bytesOf]
     grind
    .have:(bytesOf k (x::rows)).length=(bytesOf k rows).length:=by grind [bytesOf]
     grind
  grind
theorem FU.size(h:FU m t):(m.map λp=>p.2.bs.length).sum=t.length:=by have a:=BB t (aJ m) h.nd (λr b=>h.keys.2 (zb.2 ⟨r,b,rfl⟩));rw[<-a];unfold aJ;rw[XP];congr 1;apply q2e;intro p c;have:=h.some (oG h.nd (show (p.1,p.2)∈m from c));grind
theorem FU.le(h:FU m t):m.length<=t.length:=by
 rw[<-h.size];have:∀l:YM,(∀p∈l,p.2.bs≠[])->l.length<=(l.map λp=>p.2.bs.length).sum:=by intro l;induction l with
   | nil=>grind
   | cons p r ih=>grind [List.length_pos_iff]
 exact this m λp a=>(h.some (oG h.nd (show (p.1,p.2)∈m from a))).2
def pF:List Int->List Int
 | []=>[]
 | a::r=>if a∈r then pF r else a::pF r
theorem BC{x:Int}:∀{l:List Int},x∈pF l↔x∈l
 | []=>Iff.rfl
 | a::r=>by
  have b:=BC (x:=x) (l:=r);unfold pF
  split
  .rename_i h;rw[b,DL];exact⟨Or.inr,λc=>c.elim (λe=>by rw[e];exact h) id⟩
  .rw [DL,DL,b]
theorem BE:∀{l:List Int},(pF l).Nodup
 | []=>List.nodup_nil
 | a::r=>by
  unfold pF
  split
  .exact BE
  .rename_i h;rw[q2d];exact⟨λhm=>h (BC.1 hm),BE⟩
def bG(rows:DR):List Int:=i_ (pF (rows.map Prod.fst))
theorem BF:∀{l r:List Int},l.Pairwise (·< ·)->r.Pairwise (·< ·)->(∀x,x∈l↔x∈r)->l=r
 | [],[],_,_,_=>rfl
 | [],b::r,_,_,h=>cS ((h b).2 DT) eh
 | a::l,[],_,_,h=>cS ((h a).1 DT) eh
 | a::l,b::r,hl,hr,h=>by
  rw[YV]at hl hr;have e:a=b:=by
   rcases DL.1 ((h a).1 DT) with e|f
   .exact e
   .rcases DL.1 ((h b).2 DT) with e|d
    .exact e.symm
    .have:=hl.1 _ d;have:=hr.1 _ f;omega
  subst e;rw[BF hl.2 hr.2 λx=>?_]
  constructor
  .intro c
   rcases DL.1 ((h x).1 (DG _ c)) with e|d
   .have:=hl.1 _ c;omega
   .exact d
  .intro c
   rcases DL.1 ((h x).2 (DG _ c)) with e|d
   .have:=hr.1 _ c;omega
   .exact d
theorem KX(h:b.Nodup):(i_ b).Pairwise (·< ·):=by have a:=I5 b;have l:(i_ b).Nodup:=(qi b).nodup_iff.2 h;exact (a.and l).imp λc=>by grind
theorem qx(rows:DR):(bG rows).Pairwise (·< ·):=KX BE
theorem lw:f∈bG t↔f∈t.map Prod.fst:=by grind [bG,qi,BC]
theorem FU.files(h:FU m t):i_ (aJ m)=bG t:=BF (KX h.nd) (qx t) λx=>by rw[(qi _).mem_iff,lw];exact h.keys
structure Pc where
 file:Int
 size:Int
variable {C:List Pc}
abbrev mL(p:Pc):Xa:=[.int .i64 p.file,.int .i64 p.size]
theorem pG(p:Pc):(mL p).length=2:=rfl
def jd(pend:List Pc):List Int:=pend.flatMap λp=>List.replicate p.size.toNat p.file
theorem KY(a b:List Pc):jd (a++b)=jd a++jd b:=by simp[jd]
theorem KZ(p:Pc):jd [p]=List.replicate p.size.toNat p.file:=by simp[jd]
def cK(pend:List Pc):Int:=(pend.map Pc.size).sum
theorem qy:∀{pend:List Pc},(∀p∈pend,1<=p.size)->((jd pend).length:Int)=cK pend
 | [],_=>rfl
 | p::r,h=>by have a:=qy (pend:=r) λq b=>h q (DG _ b);have c:=h p DT;simp only[jd,cK,O_,qa,List.length_replicate,Hy,List.sum_cons]at a ⊢;omega
theorem BG:∀{pend:List Pc},(∀p∈pend,1<=p.size)->pend.length<=(jd pend).length
 | [],_=>w_ _
 | p::r,h=>by have a:=BG (pend:=r) λq b=>h q (DG _ b);have c:=h p DT;simp only[jd,O_,qa,List.length_replicate,CU]at a ⊢;omega
structure DOk(m:YM)(pend:List Pc)(rows:DR)(syn:Nat):Prop where
 f:FU m rows
 sle:syn<=rows.length
 p:jd pend=(rows.drop syn).map Prod.fst
 pos:∀q∈pend,1<=q.size
 keys:∀r∈rows,0<=r.1/\r.1<=2147483647
theorem DOk.new:DOk [] [] [] 0:=⟨FU.new,w_ _,rfl,λ_ h=>(by cases h),λ_ h=>(by cases h)⟩
theorem DOk.len(h:DOk m C t n):cK C=(t.length:Int)-n:=by have a:=qy h.pos;rw[h.p,FW,WD]at a;have:=h.sle;omega
theorem DOk.ple(h:DOk m C t n):C.length<=t.length:=by have a:=BG h.pos;rw[h.p,FW,WD]at a;omega
def j4:Nat->Rd (List Int)
 | 0,s=>.ok ([],s)
 | n+1,s=>match j4 n s with
  | .error e=>.error e
  | .ok (vs,s1)=>match cQ s1 with
   | .error e=>.error e
   | .ok (v,s2)=>.ok (vs++[v],s2)
def lS:Nat->Rd (List Pv)
 | 0,s=>.ok ([],s)
 | n+1,s=>match lS n s with
  | .error e=>.error e
  | .ok (vs,s1)=>match j0 s1 with
   | .error e=>.error e
   | .ok (v,s2)=>.ok (vs++[v],s2)
def Rp.z:Rp:=⟨0,0,0,0,0,0,0,bT.z,[]⟩
def atV(k:Int)(vs:List Int)(i:Nat):Int:=if i∈cA k then vs.getD ((cA k).idxOf i) 0 else 0
def lT(k:Int)(vs:List Int)(evs:List Pv):Rp:=⟨k,atV k vs 1,atV k vs 2,atV k vs 3,atV k vs 4,atV k vs 5,atV k vs 6,⟨atV k vs 7,atV k vs 8,atV k vs 9,atV k vs 10⟩,evs⟩
def Xl(k:Int):Rd (List Pv):=λs=>if k=4 then (match dZ 64 s with
 | .error e=>.error e
 | .ok (n,s3)=>lS n.toNat s3) else .ok ([],s)
def aak(bs:List Int):Except Int Rp:=match eT ⟨0,bs⟩ with
 | .error e=>.error e
 | .ok (k,s1)=>if k<1\/7<k then .error 16 else match j4 (cA k).length s1 with
  | .error e=>.error e
  | .ok (vs,s2)=>match Xl k s2 with
   | .error e=>.error e
   | .ok (evs,s4)=>if (dG s4).e≠0 then .error (dG s4).e else if (lT k vs evs).right then .ok (lT k vs evs) else .error 10
theorem BH:∀{n:Nat} {s:RS} {vs:List Int} {s':RS},j4 n s=.ok (vs,s')->vs.length=n
 | 0,s,vs,s',h=>by cases h;rfl
 | n+1,s,vs,s',h=>by
  unfold j4 at h
  split at h
  .cases h
  .rename_i b s1 a
   split at h
   .cases h
   .cases h
    rw[qa,BH a];rfl
theorem La:∀{n:Nat} {s:RS} {vs:List Pv} {s':RS},lS n s=.ok (vs,s')->vs.length=n
 | 0,s,vs,s',h=>by cases h;rfl
 | n+1,s,vs,s',h=>by
  unfold lS at h
  split at h
  .cases h
  .rename_i b s1 a
   split at h
   .cases h
   .cases h
    rw[qa,La a];rfl
theorem BI{s:RS}{e:Int}:∀{n j:Nat},j4 j s=.error e->j<=n->j4 n s=.error e
 | 0,j,h,hj=>by
  grind
 | n+1,j,h,hj=>by
  rcases HU n j with a|a
  .grind
  .unfold j4;rw[BI h a]
theorem Lb{s:RS}{e:Int}:∀{n j:Nat},lS j s=.error e->j<=n->lS n s=.error e
 | 0,j,h,hj=>by
  grind
 | n+1,j,h,hj=>by
  rcases HU n j with a|a
  .grind
  .unfold lS;rw[Lb h a]
def stL:Xa->List Nat->List Int->Xa
 | cs,i::is,v::vs=>stL (cu cs i [aB v]) is vs
 | cs,_,_=>cs
theorem BJ:∀(is:List Nat) (vs:List Int) (cs:Xa),(stL cs is vs).length=cs.length
 | [],_,_=>rfl
 | _::_,[],_=>rfl
 | i::is,v::vs,cs=>by show (stL (cu cs i [aB v]) is vs).length=_;rw[BJ is vs,oF]
theorem Lc:∀{is:List Nat} {vs:List Int} {cs:Xa} {i:Nat} {v:Int},is.length=vs.length->stL cs (is++[i]) (vs++[v])=cu (stL cs is vs) i [aB v]
 | [],[],cs,i,v,_=>rfl
 | a::is,b::vs,cs,i,v,h=>by show stL (cu cs a [aB b]) (is++[i]) (vs++[v])=cu (stL (cu cs a [aB b]) is vs) i [aB v];exact Lc (eu h)
 | [],b::vs,cs,i,v,h=>by simp at h
 | a::is,[],cs,i,v,h=>by simp at h
abbrev zR(k:Int):Xa:=[aB k,aB 0,aB 0,aB 0,aB 0,aB 0,aB 0,aB 0,aB 0,aB 0,aB 0,.slice none 0 0]
theorem abf(i:¬f<1)(j:¬7<f)(h:b.length=(cA f).length):stL (zR f) (cA f) b=dq (lT f b []) none 0:=by
 rcases kinds i j with rfl|rfl|rfl|rfl|rfl|rfl|rfl
 .match b,h with
  | [],_=>rfl
 .match b,h with
  | [a,vs,c],_=>rfl
 .match b,h with
  | [a,vs,c,d,e,k],_=>rfl
 .match b,h with
  | [a,vs,c,d],_=>rfl
 .match b,h with
  | [a,vs,c,d,e],_=>rfl
 .match b,h with
  | [a],_=>rfl
 .match b,h with
  | [a],_=>rfl
theorem Ld:i8 Tryz.prog .eql 20 .nilIface .nilIface true:=by intro b a w;cases b <;> cases a <;> kernel_rfl
theorem ak3:i8 Tryz.prog .eql 20 (HF f) .nilIface false:=by intro b a w;kernel_rfl
theorem ade:ne Tryz.prog (Instr.typeAssert (HF f) 20 58 true) (.tuple #[(aB f),(.bool true)]):=by intro w;kernel_rfl
theorem Le(k:K (aB 0) H):CF 319 #[.nilIface] H K:=cM 319 304646796286996 ⟨true,Ld,λ_=>k,λh=>cS h eh⟩
theorem Lf(k:K (aB f) H):CF 319 #[HF f] H K:=cM 319 304646796286996 ⟨false,ak3,λh=>cS h eh,λ_=>⟨f,true,ade,λ_=>k,λh=>cS h eh⟩⟩
theorem Un{v1:Int}(t:f≠0)(i:G.length=12)(h:aA H (ax c [aB v1] 58::ax n G 281::F)) (k:∀a,aA a (ax c [aB f] 58::ax n (zR 0) 281::F)->d (br (HF f) true) a):cH Tryz.prog 331 [(PA c 0),(PA n 0)] (br (HF f) false) H d:=by
 have hd:cH Tryz.prog 331 [(PA c 0),(PA n 0)] (br (HF f) false) H λb1 a=>b1=br (HF f) true/\aA a (ax c [aB f] 58::ax n (zR 0) 281::F):=by refine tA.Xn (.inr ⟨rfl,rfl⟩) ?_;unfold tA.code;refine Lf ⟨_,rfl,h.st 0 rfl rfl ?_⟩;intro u h;refine⟨_,h.r 0,?_⟩;intro v e;refine⟨λ_=>?_,λm=>cS m (by grind)⟩;refine h.st 1 rfl (by simp_all) ?_;intro y h;refine e _ ?_;skip;rw[xg _ G (by simp_all)]at h;exact h
 intro w j;refine (hd w j).mono λs x A b=>?_;cases s <;> simp only at b ⊢;grind
theorem Uo(h:aA H (ax c [aB f] 58::ax n G 281::F)) (k:∀a,aA a (ax c [aB 0] 58::ax n G 281::F)->d .returning a):cH Tryz.prog 331 [(PA c 0),(PA n 0)] .returning H d:=by
 have hd:cH Tryz.prog 331 [(PA c 0),(PA n 0)] .returning H λb1 a=>b1=.returning/\aA a (ax c [aB 0] 58::ax n G 281::F):=by refine tA.Xn (.inl ⟨rfl,rfl,rfl⟩) ?_;unfold tA.code;refine Le ⟨_,rfl,h.st 0 rfl rfl ?_⟩;intro b h;refine⟨_,h.r 0,?_⟩;intro s e;refine⟨λi=>cS i eh,λ_=>e _ ?_⟩;skip;exact h
 intro w v1;refine (hd w v1).mono λm t u j=>?_;cases m <;> simp only at j ⊢;grind
abbrev aD:=Value.int .i64
theorem RN:jB Tryz.prog 283 3 63 cD Fy.z:=ny Tryz.underlying283 kf
theorem ko3:lH Tryz.prog 3 aD:=xb Tryz.underlying3
theorem tT:Fh Tryz.prog 63 5 1 1:=fU kf
theorem aiJ:Fh Tryz.prog 284 288 2 16:=fU kf
theorem aiK:Fh Tryz.prog 501 3 1 8:=fU kf
structure DS where
 fb:Nat
 pa:KQ
 pc:Nat
 pend:List Pc
 m:YM
abbrev B1(db:Nat)(s:DS):aF:=ax db [.map (some s.fb),.slice s.pa s.pend.length s.pc] 286
abbrev jX(s:DS):aF:=mapA aD cD s.fb s.m
abbrev jG(s:DS):aF:=ay 288 2 s.pa s.pend.length s.pc (flat mL s.pend)
def eG(db:Nat)(rows:DR)(syn:Nat):aF:=F6 λs:DS=>star [DB (DOk s.m s.pend rows syn),B1 db s,jX s,sN s.m,jG s]
theorem rQ(h:aA H (eG n t c::F)):∃s:DS,DOk s.m s.pend t c/\aA H (B1 n s::jX s::sN s.m::jG s::F):=by let⟨s,h⟩:=cw.1 h;let⟨ok,h⟩:=aA.B2 h.open;exact⟨s,ok,h⟩
theorem nQ(s:DS)(ok:DOk s.m s.pend t c)(h:aA H (B1 n s::jX s::sN s.m::jG s::F)):aA H (eG n t c::F):=cw.2 ⟨s,aA.shut [_,_,_,_,_] (aA.DB h ok)⟩
theorem D_(h:aA H F)(k:∀db a,aA a (eG db [] 0::F)->K (.pointer (some ⟨db,0,none⟩)) a):CF 89 #[] H K:=by refine cM 89 28 (h.YF aD cD λfb _ h=>h.al λdb _ h=>k db _ ?_);have h:=(h.cp 288 2).o [1,2,0] 3;refine nQ ⟨fb,none,0,[],[]⟩ DOk.new ?_;have b:aA _ (emp::B1 db ⟨fb,none,0,[],[]⟩::jX ⟨fb,none,0,[],[]⟩::jG ⟨fb,none,0,[],[]⟩::F):=B8.2 h;exact b.o [1,2,0,3] 4
theorem Up(h:aA H (eG n t c::F))(k:∀a,aA a (eG n t t.length::F)->K (.tuple #[]) a):CF 207 #[.pointer (some ⟨n,0,none⟩)] H K:=by let⟨s,ok,h⟩:=rQ h;refine cM 207 4 (h.st 0 rfl rfl λ_ h=>k _ ?_);have h:=(h.cp 288 2).o [1,2,3,0] 5;exact nQ ⟨s.fb,none,0,[],s.m⟩ ⟨ok.f,w_ _,by simp[jd],λ_ b=>(by cases b),ok.keys⟩ h
theorem Uq{F:List aF}(u:t.length<=1099511627776)(h:aA H (eG n t c::F)) (k1:bytesOf f t=[]->∀b,aA b (eG n t c::F)->K (.tuple #[.slice none 0 0,aD 23]) b) (k2:bytesOf f t≠[]->∀a syn b,aA b (ay 5 1 a (bytesOf f t).length syn ((bytesOf f t).map U8)::eG n t c::F)->K (.tuple #[.slice a (bytesOf f t).length syn,aD 0]) b) : CF 282 #[.pointer (some ⟨n,0,none⟩),aD f] H K:=by let⟨s,ok,h⟩:=rQ h;refine cM 282 4572 ?_;have d:=h.x_ RN ko3 1 rfl (x:=f);refine⟨_,h.r 0,?_⟩;cases hm:aK f s.m with
  | none=>rw[hm]at d;refine⟨_,_,_,_,d,λ_=>?_,λi=>(by cases i)⟩;exact k1 (ok.f.none.1 hm) _ (nQ s ok h)
  | some y=>rw[hm]at d;let⟨e,rows⟩:=ok.f.some hm;refine⟨_,_,_,_,d,λi=>(by cases i),λ_=>?_⟩;have k:=(aA.DJ ok.f.nd hm).1 (h.o [2,0,1,3] 4);refine tC k (λH h=>h.a_ 0 rfl) (by grind [vD]) λw v b db=>⟨_,_,_,rfl,?_⟩;have j:=(aA.DJ ok.f.nd hm).2 (db.o [1,2,3,4,5,0] 6);simp only[Option.getD_some]at j ⊢;rw[e]at j ⊢;exact k2 (by grind) _ _ _ ((nQ (F:=_::F) s ok (j.o [1,2,0,3,4] 5)).o [1,0] 2)
theorem Ur(h:aA H (eG n t c::F)) (k1:bytesOf f t=[]->∀a,aA a (eG n t c::F)->K (aD 23) a) (k2:bytesOf f t≠[]->c<t.length->∀a,aA a (eG n t c::F)->K (aD 21) a) (k3:bytesOf f t≠[]->¬c<t.length->∀a,aA a (eG n (t.filter λr=>decide (r.1≠f)) (t.filter λr=>decide (r.1≠f)).length::F)->K (aD 0) a) : CF 279 #[.pointer (some ⟨n,0,none⟩),aD f] H K:=by
 let⟨s,ok,h⟩:=rQ h;refine cM 279 18988316 ?_;have syn:=h.x_ RN ko3 1 rfl (x:=f);refine⟨_,h.r 0,?_⟩;have i:=ok.len;cases hm:aK f s.m with
  | none=>rw[hm]at syn;refine⟨_,_,_,_,syn,λ_=>?_,λd=>(by cases d)⟩;exact k1 (ok.f.none.1 hm) _ (nQ s ok h)
  | some y=>
  rw[hm]at syn;have b:bytesOf f t≠[]:=λe=>by rw[ok.f.none.2 e]at hm;cases hm
  refine⟨_,_,_,_,syn,λd=>(by cases d),λ_=>⟨_,_,_,h.r 0,λu=>?_,λu=>?_⟩⟩
  .refine k2 b ?_ _ (nQ s ok h);have j:0<s.pend.length:=by grind
   have k:=BG ok.pos;rw[ok.p,FW,WD]at k;omega
  have j:s.pend=[]:=by simp_all
  have hs:¬c<t.length:=by grind [cK]
  refine⟨_,h.r 0,h.DN RN ko3 1 rfl λa h=>k3 b hs _ ?_⟩;have db:=((aA.DJ ok.f.nd hm).1 (h.o [2,0,1,3] 4)).o [2,3,1,4] 5;refine nQ ⟨s.fb,s.pa,s.pc,s.pend,bF f s.m⟩ ⟨ok.f.delete f,w_ _,?_,ok.pos,λr rows=>ok.keys r (q2s.1 rows).1⟩ db;rw[j,V_];rfl
theorem BK(v:t.length<=1099511627776)(h:aA H (eG n t c::F))(k:∀d,aA d (eG n t c::F)->K (aD ((t.length:Int)-c)) d):CF 69 #[.pointer (some ⟨n,0,none⟩)] H K:=by
 let⟨s,ok,h⟩:=rQ h;refine cN 69 0x1121561239925144c [[(3,sI),(11,sI)]] ?_;have b:=ok.len;have i:=ok.ple;have syn:∀j,0<=cK (s.pend.take j)/\cK (s.pend.take j)<=cK s.pend:=by
  intro j;have e:cK s.pend=cK (s.pend.take j)+cK (s.pend.drop j):=by grind [cK,List.take_append_drop]
  have p1:=qy (pend:=s.pend.take j) λq f=>ok.pos q (RE f);have p2:=qy (pend:=s.pend.drop j) λq f=>ok.pos q (q22 f);omega
 refine⟨_,_,_,h.r 0,λsum rows d=>∃j:Nat,rows=j/\j<=s.pend.length/\sum=cK (s.pend.take j)/\aA d (B1 n s::jX s::sN s.m::jG s::F),λ_ rows _=>s.pend.length-rows.toNat,⟨0,rfl,EA _,rfl,h⟩,?_⟩;rintro sum rows A ⟨j,rfl,w,rfl,h⟩;refine⟨λu=>?_,λu=>?_⟩
 .have a:j<s.pend.length:=by grind
  have db:=h.a_ 3 rfl;refine⟨⟨ez,ez⟩,_,_,db.some pG ez a,_,_,db.E8 pG a,h.al λb1 _ h=>h.st 0 rfl rfl λ_ h=>⟨_,h.r 0,?_⟩⟩;have e1:cK (s.pend.take (j+1))=cK (s.pend.take j)+s.pend[j].size:=by grind [cK,List.take_succ_eq_append_getElem]
  have:=syn (j+1);have:=syn j;have y:=ok.pos _ (s_ a);conv=>whnf
  rw[aN (x:=(j:Int)+1),aN (x:=cK (s.pend.take j)+s.pend[j].size),<-e1];exact⟨⟨j+1,rfl,a,rfl,h.tl⟩,by grind⟩
 obtain rfl:j=s.pend.length:=by grind
 rw[FE,b];exact k _ (nQ s ok h)
section
variable {F L:List aF}{H:aC}{K KP:KE}{Q:aF}
def ahL(Q:aF)(F:List aF)(K:KE):Except Int Rp->Prop
 | .ok r=>∀Q' evs a' c' H',aH Q Q'->r.evs=evs.map Ev.p->(∀e∈evs,ge Q' e)->aA H' (Q'::ay 69 4 a' evs.length c' (flat bH evs)::F)->K (.tuple #[.agg ⟨dq r a' c'⟩,aD 0]) H'
 | .error e=>∀Q' H',e≠0->aH Q Q'->aA H' (Q'::F)->K (.tuple #[.agg ⟨zR 0⟩,aD e]) H'
theorem acT{r:Rp}{evs:List Ev}{a:KQ}{c:Nat}(b:r.evs=evs.map Ev.p):dq r a c=[aD r.kind,aD r.ag,aD r.ep,aD r.bt,aD r.nx,aD r.st,aD r.nw,aD r.sm.asked,aD r.sm.CV,aD r.sm.hY,aD r.sm.came,.slice a evs.length c]:=by grind
theorem BL(s:RS):0<=(cx 64 s).1/\(cx 64 s).1<=64:=by grind [cx]
theorem Us{a:KQ}{c:Nat}{bs:List Int}(h:aA H (Q::F))(ha:∀H,aA H (Q::F)->aQ H a (bs.map U8))(hb:aI bs)(hl:bs.length<=1099511627776)
  (k:ahL Q F K (aak bs)):CF 254 #[.slice a bs.length c] H K:=by
 refine R4 (h.al λb _ h=>h.al λb1 _ h=>?_)
 have CX:∀e Q' R cs v1,aak bs=.error e->e≠0->aH Q Q'->cs.length=12->aA R (ax b1 [aD v1] 58::ax b cs 281::Q'::F)->
   bK 331 X.calls=true/\cH Tryz.prog 331 [(PA b1 0),(PA b 0)] (br (HF e) false) R λu16 V=>u16=br (HF e) true/\
    ∃L P O J E N M D I G B A w y,bE V b 0 [(aD L),(aD P),(aD O),(aD J),(aD E),(aD N),(aD M),(aD D),(aD I),(aD G),(aD B),(.slice A w y)]/\
    ∃W,aM V b1 0=some (aD W)/\
    K (.tuple #[(.agg #[(aD L),(aD P),(aD O),(aD J),(aD E),(aD N),(aD M),(aD D),(aD I),(aD G),(aD B),(.slice A w y)]),(aD W)]) V:=by
  intro e Q' R cs v1 hr d hs hcs h;refine⟨rfl,Un d hcs h λH2 h=>⟨rfl,_,_,_,_,_,_,_,_,_,_,_,_,_,_,h.q 1,_,h.r 0,?_⟩⟩
  rw[hr]at k;exact k Q' _ d hs h.tl.tl
 refine tD h (λH h=>ha H h.tl.tl) hl λrb H2 h=>⟨_,rfl,h.al λb2 _ h=>h.st 0 rfl rfl ?_⟩;intro H3 h;refine⟨_,h.q 0,?_⟩;have h:=h.o [1,0,2,3,4] 5;refine vz h hb hl ?_;unfold aak at k CX
 cases hr0:eT ⟨0,bs⟩ with
 | error e=>
  rw[hr0]at CX;exact λR d h=>CX _ Q _ _ _ rfl d (aH.refl Q) rfl (h.o [1,2] 3)
 | ok p=>
 let⟨s,s1⟩:=p;rw[hr0]at CX k;dsimp only at CX k;intro H4 j3 y2 hl1 h;refine⟨_,rfl,?_⟩;intro Jn hJ;refine⟨λhc=>?_,λhc=>hJ _ ?_⟩
 .simp only[HW,v_]at hc;rw[c_ hc]at CX;exact CX _ Q _ _ _ rfl ee (aH.refl Q) rfl (h.o [2,3] 4)
 simp only[E5,C5]at hc;rw[nO]at CX k;have hkw:i64.wrap s=s:=aN;rw[hkw];refine h.st 3 rfl rfl ?_;intro H5 h;refine B0 h 3 rfl rfl λp pc H6 h=>⟨_,_,_,rfl,?_⟩
 have ho:=yi s;refine⟨λi R=>∃(j:Nat) (U:List Int) (s2:RS),i=j/\j<=(cA s).length/\j4 j s1=.ok (U,s2)/\s2.e=0/\aI s2.bs/\s2.bs.length<=1099511627776/\
  aA R (kb rb s2::ay 339 1 p (cA s).length pc ((cA s).map λi=>PA b i)::ax b2 [PA rb 0] 556::ax b1 [aD 0] 58::ax b (stL (zR s) ((cA s).take j) U) 281::Q::F),
  λi _=>(cA s).length-i.toNat,⟨0,[],s1,rfl,ez,rfl,j3,y2,hl1,h.o [1,0,2,3,4] 5⟩,?_⟩
 rintro i H7 ⟨j,U,s2,rfl,hj,h6,he2,h1,h2,h⟩;have hvl:=BH h6;refine⟨λf=>?_,λf=>?_⟩
 .have f:j<(cA s).length:=by grind
  have DH:=(h.a_ 1 rfl).at f;have hi:=B4 _ (s_ f);refine⟨ez,_,_,DH.1,_,DH.2,_,h.q 2,kP h h1 h2 ?_⟩;have C:j4 (j+1) s1=match cQ s2 with|.error e=>.error e|.ok (v,s2)=>.ok (U++[v],s2):=by
   grind [j4]
  cases GF:cQ s2 with
  | error e=>
   rw[GF]at C;rw[BI C f]at CX;exact λR d h=>CX _ Q _ _ _ rfl d (aH.refl Q) (by rw[BJ];rfl) (h.o [2,3] 4)
  | ok q=>
  let⟨v,s3⟩:=q;rw[GF]at C;intro H8 j2 h4 h5 h;refine⟨_,rfl,dj (h.st 4 rfl (by rw[BJ];exact Nat.ble_eq_true_of_le (by show (cA s)[j]+1<=12;omega)) ?_)⟩;intro H9 h;rw[aN (x:=(j:Int)+1)];refine⟨⟨j+1,_,s3,ez,f,C,j2,h4,h5,?_⟩,by grind⟩;rw[q1c f,Lc (by grind)];exact h
 have h9:j=(cA s).length:=by grind
 subst h9;rw[h6]at CX k;dsimp only at CX k;rw[FE,abf ez ez hvl]at h;refine⟨_,h.r 4,?_⟩;intro SK l5;have fin:∀(Q':aF) (evs:List Ev) (S:KQ) (T:Nat) (s4:RS) R,aH Q Q'->Xl s s2=.ok (evs.map Ev.p,s4)->(∀e∈evs,ge Q' e)->evs.length<=64->aI s4.bs->s4.bs.length<=1099511627776->
   aA R (kb rb s4::ay 69 4 S evs.length T (flat bH evs)::ax b2 [PA rb 0] 556::ax b1 [aD 0] 58::ax b (dq (lT s U (evs.map Ev.p)) S T) 281::Q'::F)->SK R:=by
  intro Q' evs S T s4 H10 t u Z hlen h3 h0 h;rw[u]at CX k;dsimp only at CX k;refine l5 _ ⟨_,h.r 2,xX h λr9 h=>⟨_,rfl,jV (λd=>⟨rfl,?_⟩) λd=>?_⟩⟩
  .rw [b_ (by grind)]at CX k;refine⟨_,_,_,_,_,_,_,_,_,_,_,_,_,_,h.q 4,?_⟩;have l0:mK (kb rb (dG s4)::ay 69 4 S evs.length T (flat bH evs)::ax b2 [PA rb 0] 556::ax b1 [aD 0] 58::ax b (dq (lT s U (evs.map Ev.p)) S T) 281::Q'::F) S evs:=
    ⟨λH h=>h.a_ 1 rfl,λe d H h=>(Z e d).at h 5 rfl⟩
   refine B5 (r:=lT s U (evs.map Ev.p)) rfl h l0 ez λy3 h=>⟨_,rfl,?_⟩
   intro YG l6;refine⟨λhr=>?_,λhr=>l6 _ ?_⟩
   .rw [b_ (by grind)]at CX;exact CX _ Q' _ _ _ rfl ee t rfl (h.o [3,4] 5)
   .rw [c_ (by grind)]at k;refine⟨_,_,_,_,_,_,_,_,_,_,_,_,_,_,h.q 4,h.st 4 rfl rfl ?_⟩;intro H13 h;refine h.st 3 rfl rfl ?_;intro H14 h;have h:=h.o [3,4,0,1,2,5] 6;refine⟨rfl,Uo h λH15 h=>⟨rfl,_,_,_,_,_,_,_,_,_,_,_,_,_,_,h.q 1,_,h.r 0,k Q' evs S T _ t rfl Z (h.o [5,3] 6)⟩⟩
  .rw [c_ d]at CX;exact CX _ Q' _ _ _ rfl d t rfl (h.o [3,4] 5)
 refine⟨λhk=>?_,λhk=>?_⟩
 .have hk:s=4:=ke hk;have u:Xl s s2=match dZ 64 s2 with|.error e=>.error e|.ok (n,s3)=>lS n.toNat s3:=by
   unfold Xl;grind
  refine⟨_,h.q 2,vB (by unfold aG;decide) h h1 h2 ?_⟩
  cases GF:dZ 64 s2 with
  | error e=>
   rw[GF]at u;rw[u]at CX;exact λR d h=>CX _ Q _ _ _ rfl d (aH.refl Q) rfl (h.o [2,3] 4)
  | ok q=>
  let⟨n,s3⟩:=q;rw[GF]at u;dsimp only at u;have aly:0<=n/\n<=64:=by
   unfold dZ FO at GF
   split at GF
   .cases GF
   .cases GF
    exact BL _
  intro H8 j2 h4 h5 h;refine⟨_,rfl,⟨λi R=>∃(j:Nat) (evs:List Ev) (Q':aF) (S:KQ) (T:Nat) (s4:RS),i=j/\(j:Int)<=n/\lS j s3=.ok (evs.map Ev.p,s4)/\aH Q Q'/\(∀e∈evs,ge Q' e)/\aI s4.bs/\s4.bs.length<=1099511627776/\
   aA R (Q'::kb rb s4::ay 69 4 S evs.length T (flat bH evs)::ax b2 [PA rb 0] 556::ax b1 [aD 0] 58::ax b (dq (lT s U (evs.map Ev.p)) S T) 281::F),
   λi _=>n.toNat-i.toNat,⟨0,[],Q,none,0,s3,rfl,ez,rfl,aH.refl Q,λe d=>cS d eh,h4,h5,(h.cp 69 4).o [6,1,0,3,4,5] 7⟩,?_⟩⟩
  rintro i H9 ⟨j,evs,Q',S,T,s4,rfl,hj,r8,t,h7,h3,h0,h⟩;have hel:=La r8;rw[FW]at hel;refine⟨λf=>?_,λf=>?_⟩
  .have f:=ke f;refine⟨_,_,_,h.r 5,_,h.q 3,yl h h3 h0 ?_⟩;have C:lS (j+1) s3=match j0 s4 with|.error e=>.error e|.ok (v,s2)=>.ok (evs.map Ev.p++[v],s2):=by
    grind [lS]
   cases hr4:j0 s4 with
   | error e=>
    rw[hr4]at C;rw[u,Lb C ez]at CX;exact λQ2 R d Y h=>CX _ Q2 _ _ _ rfl d (t.trans Y) rfl (h.o [3,4,0] 5)
   | ok q=>
   let⟨pv,s5⟩:=q;rw[hr4]at C;intro Q2 ev H10 Y j1 h8 he5 hb5 hl5 h;subst h8;refine⟨_,_,_,_,_,_,rfl,h.r 5,h.al λb4 _ h=>⟨h.r 6,?_⟩⟩
   have r0:(lT s U (evs.map Ev.p)).evs.length=evs.length:=FW ..;rw[r0];refine h.append (m:=1) (ws:=bH ev) Q_ 3 rfl (h.ew 0 rfl) rfl (xM ev) ez ez λa5 c5 r9 h=>⟨_,_,_,rfl,h.st 6 rfl rfl ?_⟩;intro y3 h;rw[aN (x:=(j:Int)+1)];refine⟨⟨j+1,evs++[ev],Q2,a5,c5,s5,ez,ez,by grind,t.trans Y,λe d=>?_,hb5,hl5,?_⟩,by grind⟩
   .rcases DA.1 d with d|d
    .exact (h7 e d).sub Y
    .rw [CS]at d;subst d;exact j1
   .have e:flat bH (evs++[ev])=flat bH evs++bH ev:=by grind [flat]
    have e2:dq (lT s U ((evs++[ev]).map Ev.p)) a5 c5=cu (dq (lT s U (evs.map Ev.p)) S T) 11 [.slice a5 (evs.length+1) c5]:=by
     rw[acT (r:=lT s U ((evs++[ev]).map Ev.p)) rfl,qa];rfl
    rw[e,e2,qa];exact h.o [1,2,3,4,5,6] 7
  .have h9:=ix f;have u8:j=n.toNat:=ez
   subst u8;refine fin Q' evs S T s4 _ t (by grind) h7 ez h3 h0 (h.o [1,2,3,4,5,0] 6)
 .have hk:¬s=4:=ix hk;have u:Xl s s2=.ok ([],s2):=by unfold Xl;grind
  refine fin Q [] none 0 s2 _ (aH.refl Q) u (λe d=>cS d eh) eh h1 h2 ((h.cp 69 4).o [1,0,3,4,5,6] 7)
end
def jH(f:Int)(parts:List Fy):DR:=(parts.flatMap Fy.bs).map λb=>(f,b)
theorem Lg(f:Int)(a b:List Fy):jH f (a++b)=jH f a++jH f b:=by simp[jH]
theorem Lh(f:Int)(p:Fy):jH f [p]=p.bs.map λb=>(f,b):=by simp[jH]
theorem Ut(f:Int)(bs:List Int):(bs.map λb=>(f,b)).map Prod.fst=List.replicate bs.length f:=by
 induction bs with
 | nil=>rfl
 | cons b r ih=>grind
theorem Uu{s:DS}{f n:Int}(V:1<=n)(R:n<=1099511627776)(e:∀q∈s.pend,1<=q.size)(S:cK s.pend<=1099511627776)(N:s.pend.length<=1099511627776)(h:aA H (B1 c s::jG s::F)) (k:∀(pa:KQ) (pc:Nat) (pend:List Pc) G,jd pend=jd s.pend++List.replicate n.toNat f->(∀q∈pend,1<=q.size)->aA G (B1 c ⟨s.fb,pa,pc,pend,s.m⟩::jG ⟨s.fb,pa,pc,pend,s.m⟩::F)->K (.tuple #[]) G) : CF 349 #[.pointer (some ⟨c,0,none⟩),aD f,aD n] H K:=by
 refine Rq ?_;have push:∀H,aA H (B1 c s::jG s::F)->∀(b3:Nat) (Hw:aC),b3=H.size->Hw=H.push (.cells #[aD f,aD n] 288)->cv Tryz.prog (Builtin.append_ #[284,284] 284 #[.slice s.pa s.pend.length s.pc,.slice (some ⟨b3,0,none⟩) 1 1]) Hw λu B=>∃(sa:KQ) (sn sc:Nat),u=.slice sa sn sc/\eA B c (0+1) [.slice sa sn sc]/\∀A:aC,A=fw B c (0+1) [.slice sa sn sc]->K (.tuple #[]) A:=by
  intro H h;refine h.al λb3 _ h=>aA.append (m:=1) (ws:=mL ⟨f,n⟩) aiJ h 2 rfl (h.ew 0 rfl) rfl rfl ez ez λa2 c2 U h=>⟨_,_,_,rfl,h.st 1 rfl rfl λQ h=>k a2 c2 (s.pend++[⟨f,n⟩]) _ (by rw[KY,KZ]) (λq L=>?_) ?_⟩;.grind
  have w:aA Q (ax c [.map (some s.fb),.slice a2 (s.pend.length+1) c2] 286::ay 288 2 a2 (s.pend.length+1) c2 (flat mL s.pend++mL ⟨f,n⟩)::F):=h.o [1,2] 3;rw[show flat mL s.pend++mL ⟨f,n⟩=flat mL (s.pend++[⟨f,n⟩]) by rw[iX,nv]]at w;simp only[B1,jG,qa,q29];exact w
 refine⟨_,_,_,h.r 0,λ_=>trivial,?_⟩;rcases List.eq_nil_or_concat s.pend with J|⟨a,last,J⟩
 .have I:¬((0:Int)<(s.pend.length:Int)):=by grind
  rw[decide_eq_false I];exact⟨none,0,0,λdb=>(by cases db),λdb=>(by cases db),0,0,λdb=>(by cases db),0,λdb=>(by cases db),λdb=>(by simp at db),λ_=>⟨_,_,_,h.r 0,push H h⟩⟩
 rw [List.concat_eq_append]at J;have M:s.pend.length=a.length+1:=by grind
 have e1:i64.wrap ((s.pend.length:Int)-1)=(a.length:Int):=by grind [aN]
 rw[e1,RD (show (0:Int)<(s.pend.length:Int) by omega)];have D:=h.a_ 1 rfl;have d:a.length<s.pend.length:=ez;have C:s.pend[a.length]=last:=by simp[J]
 have i:=D.some pG ez d;have j:=D.el0 pG d (v:=aD last.file) (by rw[C];rfl);have t:=D.el pG d 1 (v:=aD last.size) (by rw[C];rfl);have E:=e last (by grind);have T:cK s.pend=cK a+last.size:=by grind [cK]
 have P:0<=cK a:=by rw[<-qy λq L=>e q (by grind)];omega
 refine⟨_,_,_,λ_=>h.r 0,λ_=>⟨ez,ez⟩,_,_,λ_=>i,_,λ_=>j,λO=>?_,λO=>⟨_,_,_,h.r 0,push H h⟩⟩;have db:last.file=f:=by grind
 refine⟨_,_,_,h.rd 0 rfl _,⟨ez,ez⟩,_,_,i,_,t,⟨ez,ez⟩,_,_,i,?_⟩;rw[aN (x:=last.size+n)];have b:=h.FC 1 rfl (a.length*2+1) [aD (last.size+n)] (by rw[dS pG];grind) eh;rw[<-q2x]at b;refine⟨b.2.1,?_⟩;intro G rfl;have w:=b.2.2;rw[xh pG (y:=⟨f,last.size+n⟩) (vs:=[aD (last.size+n)]) (f:=1) d eh (by rw[C,<-db];rfl)]at w;have e2:s.pend.set a.length ⟨f,last.size+n⟩=a++[⟨f,last.size+n⟩]:=by grind
 rw[e2]at w;have e3:s.pend.length=(a++[(⟨f,last.size+n⟩:Pc)]).length:=by grind
 refine k s.pa s.pc (a++[⟨f,last.size+n⟩]) _ ?_ (λq L=>?_) ?_;.grind [KY,KZ,List.replicate_append_replicate]
 .grind
 simp only[B1,jG];rw[<-e3];exact w
theorem DOk.abn(ok:DOk m C t n):cK C<=t.length:=by have:=ok.len;omega
theorem Uv{syn:Nat}{F:List aF}{f:Int}{pc:Nat}{parts:List Fy}(hB:t.length+(parts.flatMap Fy.bs).length<=1099511627776)(hP:parts.length<=1099511627776) (R:∀db,aA db F->aQ db a (parts.map cD)/\∀p∈parts,aQ db p.a (p.bs.map U8)) (h:aA H (eG c t syn::F)) (k1:f<0\/2147483647<f->∀db,aA db (eG c t syn::F)->K (aD 11) db) (k2:¬(f<0\/2147483647<f)->∀db,aA db (eG c (t++jH f parts) syn::F)->K (aD 0) db) : CF 283 #[.pointer (some ⟨c,0,none⟩),aD f,.slice a parts.length pc] H K:=by
 refine cN 283 0x1d215612399251171494c [[],[(17,sI)]] ⟨λhc=>k1 (by grind) _ h,λhc=>?_⟩;have hf:¬(f<0\/2147483647<f):=by grind
 refine⟨λrows db=>∃j:Nat,rows=j/\j<=parts.length/\aA db (eG c (t++jH f (parts.take j)) syn::F),λrows _=>parts.length-rows.toNat,⟨0,rfl,EA _,by simpa[jH] using h⟩,?_⟩;rintro rows H1 ⟨j,rfl,hj,h⟩;refine⟨λJ=>?_,λJ=>?_⟩
 .have A:j<parts.length:=by grind
  have w:=(R _ h.tl).1.at (j:=j) A;refine⟨⟨ez,ez⟩,_,_,w.1,_,_,_,w.2,?_⟩;intro Y hJ;have et:parts.take (j+1)=parts.take j++[parts[j]]:=q1c A;have fin:∀db,aA db (eG c (t++jH f (parts.take (j+1))) syn::F)->Y db:=by
   intro db U;refine hJ _ ?_;conv=>whnf
   rw[aN (x:=(j:Int)+1)];grind
  have L:=s_ A;have O:=λdb (U:aA db F)=>(R db U).2 _ L;have D:(parts.take (j+1)).flatMap Fy.bs=(parts.take j).flatMap Fy.bs++parts[j].bs:=by grind
  have C:((parts.take (j+1)).flatMap Fy.bs).length<=(parts.flatMap Fy.bs).length:=by
   have:parts.flatMap Fy.bs=(parts.take (j+1)).flatMap Fy.bs++(parts.drop (j+1)).flatMap Fy.bs:=by grind [List.take_append_drop]
   grind
  rw[D,qa]at C;have h0:(t++jH f (parts.take j)).length=t.length+((parts.take j).flatMap Fy.bs).length:=by simp[jH]
  generalize als:t++jH f (parts.take j)=rows' at *;generalize parts[j]=p at *;refine⟨λG=>?_,λG=>?_⟩
  .have hb:p.bs≠[]:=λe=>by grind
   have V:1<=p.bs.length:=q3c.2 hb;let⟨s,ok,h⟩:=rQ h;have I:=h.B_ RN ko3 1 rfl (x:=f);have S:=ok.f.get f;have T:=vD f rows';refine⟨_,h.r 0,_,h.r 0,_,_,_,I,?_⟩;have Q:aA H1 (FD ((aK f s.m).getD Fy.z)::sN (bF f s.m)::B1 c s::jX s::jG s::F):=by cases hm:aK f s.m with
     | none=>rw[lG hm];exact (h.cp 5 1).o [0,3,1,2,4] 5
     | some y=>exact (aA.DJ ok.f.nd hm).1 (h.o [2,0,1,3] 4)
   generalize hy:(aK f s.m).getD Fy.z=y at *;refine aA.append (m:=p.bs.length) (ws:=p.bs.map U8) tT Q 0 rfl (O _ Q.tl.tl.tl.tl.tl) eh (oK (λ_=>rfl) _) (by grind) (by grind) λu i H3 h=>⟨_,_,_,rfl,h.r 2,?_⟩;have ey:ay 5 1 u (y.bs.length+p.bs.length) i (y.bs.map U8++p.bs.map U8)=FD ⟨u,i,y.bs++p.bs⟩:=by grind [FD]
   have h:aA H3 (FD ⟨u,i,y.bs++p.bs⟩::sN (bF f s.m)::B1 c s::jX s::jG s::F):=by rw[<-ey];exact h
   have ev:(Value.slice u (y.bs.length+p.bs.length) i)=cD ⟨u,i,y.bs++p.bs⟩:=eh;rw[ev];refine h.ji (α:=Fy) (v:=⟨u,i,y.bs++p.bs⟩) RN ko3 3 rfl λH4 h=>?_;have h:=(aA.T_ (m:=s.m) (k:=f)).2 (h.o [0,1,2,3,4] 5);have W:=DOk.abn ok;have Z:=ok.ple;refine Uu (s:=s) (f:=f) (n:=p.bs.length) (F:=sN (eO f ⟨u,i,y.bs++p.bs⟩ s.m)::mapA aD cD s.fb (eO f ⟨u,i,y.bs++p.bs⟩ s.m)::F) ez ez ok.pos ez ez (h.o [1,3,0,2] 4) λM P B H5 N E h=>⟨rfl,fin _ ?_⟩;have d:t++jH f (parts.take (j+1))=rows'++p.bs.map λb=>(f,b):=by grind [Lg,Lh]
   rw[d];refine nQ ⟨s.fb,M,P,B,eO f ⟨u,i,y.bs++p.bs⟩ s.m⟩ ⟨ok.f.append hb (by grind),by rw[qa];have:=ok.sle;omega,?_,E,λr w=>?_⟩ (h.o [0,3,2,1] 4);.rw [N,ok.p,List.drop_append_of_le_length ok.sle,F4,Ut];simp
   rcases DA.1 w with w|w;.exact ok.keys r w
   grind
  have hb:p.bs=[]:=by grind [List.length_eq_zero_iff]
  refine fin _ ?_;have d:t++jH f (parts.take (j+1))=rows':=by grind [Lg,Lh]
  rw[d];exact h
 obtain rfl:j=parts.length:=by grind
 rw[FE]at h;exact k2 hf _ h
theorem Li{F:List aF}(G:t.length<=1099511627776)(h:aA H (eG n t c::F)) (k:∀a syn d,aA d (ay 3 1 a (bG t).length syn ((bG t).map aD)::eG n t c::F)->K (.slice a (bG t).length syn) d) : CF 278 #[.pointer (some ⟨n,0,none⟩)] H K:=by
 let⟨s,ok,h⟩:=rQ h;refine cN 278 0x112156123995141c [[(3,sS)]] ?_;have x:=ok.f.le;refine⟨_,h.r 0,h.F2 RN 1 rfl λdb M h=>⟨_,rfl,?_⟩⟩;have h:=h.cp 3 1;refine⟨λla w lc d=>∃dn:YM,w=dn.length/\aA d (ay 3 1 la dn.length lc ((aJ dn).map aD)::B1 n s::jt aD cD db s.fb s.m dn::sN s.m::jG s::F),λ_ _ _ d=>s.m.length-pu d db,⟨[],rfl,h⟩,?_⟩;rintro la w lc I ⟨dn,rfl,h⟩;let⟨E,D⟩:=h.k_ 2 rfl;refine h.Fe 2 rfl (λL=>Or.inl ⟨rfl,λrows=>(by cases rows),λ_=>?_⟩) λp B y J h=>Or.inr ⟨_,_,rfl,λ_=>?_,λrows=>(by cases rows)⟩
 .have h:=h.F3 2 rfl;have C:(aJ dn).length=dn.length:=by grind
  rw[<-C]at h ⊢;refine Sk h 0 rfl ez λv h=>⟨rfl,?_⟩;have e1:i_ (aJ dn)=bG t:=by rw[<-ok.f.files];grind [I4]
  have e2:(aJ dn).length=(bG t).length:=by grind [tg]
  rw[e1]at h;rw[e2]at h ⊢;exact k la lc _ ((nQ (F:=_::F) s ok (h.o [1,2,3,4,0] 5)).o [1,0] 2)
 have i:=aA.DP (P:=Tryz.prog) h 2 rfl;let⟨j,e⟩:=h.k_ 2 rfl;rw[qa,q29]at j e;refine⟨_,_,i,h.al λb _ h=>aA.append (m:=1) (ws:=[aD p.1]) aiK h 1 rfl (h.ew 0 rfl) rfl rfl ez ez λa2 c2 v h=>⟨_,_,_,rfl,⟨⟨dn++[p],eh,?_⟩,?_⟩⟩⟩;.have u:aA v (ay 3 1 a2 (dn.length+1) c2 ((aJ dn).map aD++[aD p.1])::B1 n s::jt aD cD db s.fb s.m (dn++[p])::sN s.m::jG s::F):=h.o [1,2,3,4,5] 6;rw[show (aJ dn).map aD++[aD p.1]=(aJ (dn++[p])).map aD by grind]at u;simpa only[qa,q29] using u
 let⟨A,_⟩:=h.k_ 3 rfl;grind
theorem Uw(c:j<C.length)(a:(jd (C.take j)).length<=n)(b:n<(jd (C.take j)).length+C[j].size.toNat):(jd C)[n]?=some C[j].file:=by grind [jd,List.drop_eq_getElem_cons,List.take_append_drop]
def eU(rows:DR)(syn:Nat)(eS:Int):DR:=rows.take (syn+(min (max eS 0) ((rows.length:Int)-syn)).toNat)
section
variable {db:Nat}{rows:DR}{syn:Nat}{F L:List aF}{H:aC}{K:KE}
theorem acZ{s:DS}{b t:DR}{f n:Int}(d:FU s.m (b++t))(B:∀r∈t,r.1=f)(R:t≠[])(S:n=t.length)(U:(b++t).length<=1099511627776)(h:aA H (B1 db s::jX s::sN s.m::F)) (k:∀m' C,FU m' b->aA C (B1 db { s with m:=m' }::jX { s with m:=m' }::sN m'::F)->K (.tuple #[]) C) : CF 218 #[.pointer (some ⟨db,0,none⟩),aD f,aD n] H K:=by
 refine R7 ?_;have I:=h.B_ RN ko3 1 rfl (x:=f);have hb:bytesOf f (b++t)=bytesOf f b++t.map Prod.snd:=by rw[rP,Uk B]
 have i:bytesOf f (b++t)≠[]:=by simp_all
 cases hm:aK f s.m with
  | none=>exact cS (d.none.1 hm) i
  | some y=>
  rw[hm]at I;let⟨J,P⟩:=d.some hm;rw[hb]at J;have L:y.bs.length=(bytesOf f b).length+t.length:=by grind
  have A:=vD f (b++t);rw[hb,<-J]at A;refine⟨_,h.r 0,_,_,_,I,λM=>?_,λM=>?_⟩
  .have w:bytesOf f b=[]:=by have:n=(y.bs.length:Int):=ke M;grind [List.length_eq_zero_iff]
   refine⟨_,h.r 0,h.DN RN ko3 1 rfl λC h=>?_⟩;have u:=((aA.DJ d.nd hm).1 (h.o [2,0,1] 3)).o [2,3,1] 4;exact k _ _ ((d.cut B).1 w) u
  have w:bytesOf f b≠[]:=λe=>by grind
  have N:=q3c.2 w;simp only[Option.getD_some];rw[aN (x:=(y.bs.length:Int)-n)];have G:((y.bs.length:Int)-n).toNat=(bytesOf f b).length:=ez;rw[G];have u:=(aA.DJ d.nd hm).1 (h.o [2,0,1] 3);have Q:=u.CD 0 rfl;have D:=(u.a_ 0 rfl).at (j:=0) ez;rw[aiO D.1];refine⟨_,h.rd 0 rfl _,⟨ez,ez,ez⟩,?_⟩;have E:=u.GO 0 rfl (bytesOf f b).length ez;have e3:ay 5 1 y.a (bytesOf f b).length y.c ((y.bs.map U8).take ((bytesOf f b).length*1))=FD ⟨y.a,y.c,bytesOf f b⟩:=by unfold FD;grind
  have E:aA H (FD ⟨y.a,y.c,bytesOf f b⟩::sN (bF f s.m)::B1 db s::jX s::F):=by rw[<-e3];exact E
  refine E.ji (α:=Fy) (v:=⟨y.a,y.c,bytesOf f b⟩) RN ko3 3 rfl λT h=>?_;have O:=((aA.T_ (m:=s.m) (k:=f)).2 h).o [1,2,0] 3;exact k _ _ ((d.cut B).2 _ rfl w) O
theorem Ux{a:KQ}{n c:Nat}(h:aA H F)(k:∀c0 d,aA d (ax c0 [.slice a n c] 284::F)->K (.func (.func 294) #[] #[.pointer (some ⟨c0,0,none⟩)]) d):CF 217 #[.slice a n c] H K:=by refine cM 217 28 (h.al λb _ h=>k b _ h)
theorem Uy{l c0:Nat}{pa:KQ}{pc:Nat}{pend:List Pc}(B:pend.length<=1099511627776)(A:Nat->aF)(m:aF) (h:aA H (A pend.length::ax c0 [.slice pa pend.length pc] 284::ay 288 2 pa pend.length pc (flat mL pend)::F)) (v:∀j (c:j<pend.length) (G:List aF) (d:aC) (e:KE),aA d (A (j+1)::G)->(∀b,aA b (A j::G)->e (.bool true) b)->(∀b,aA b (m::G)->e (.bool false) b)->fu Tryz.prog l [aD j,.agg #[aD pend[j].file,aD pend[j].size]] d e) (k:∀a,aA a (A 0::ax c0 [.slice pa pend.length pc] 284::ay 288 2 pa pend.length pc (flat mL pend)::F)->K (.tuple #[]) a) (w:∀a,aA a (m::ax c0 [.slice pa pend.length pc] 284::ay 288 2 pa pend.length pc (flat mL pend)::F)->K (.tuple #[]) a) : CF 294 #[.func (.yield l) #[] #[],.pointer (some ⟨c0,0,none⟩)] H K:=by
 refine cN 294 96300973186693524 [[(3,sI)]] ?_;have u:i64.wrap ((pend.length:Int)-1)=(pend.length:Int)-1:=aN;refine⟨_,_,_,h.r 1,λi a=>∃j:Nat,i=(j:Int)-1/\j<=pend.length/\aA a (A j::ax c0 [.slice pa pend.length pc] 284::ay 288 2 pa pend.length pc (flat mL pend)::F),λi _=>(i+1).toNat,⟨pend.length,u,w_ _,h⟩,?_⟩;rintro i d ⟨j,rfl,c,h⟩;refine⟨λy=>?_,λy=>?_⟩
 .obtain⟨q,rfl⟩:∃q,j=q+1:=⟨j-1,by grind⟩;have eq:((q+1:Nat):Int)-1=(q:Int):=ez;rw[eq];have n:=h.a_ 2 rfl;refine⟨_,_,_,h.rd 1 rfl _,⟨ez,ez⟩,_,_,n.some pG ez c,_,_,n.E8 pG c,v q c _ d _ h (λt s=>⟨true,rfl,λf=>(by cases f),λ_=>?_⟩) λt s=>⟨false,rfl,λ_=>w _ s,λf=>(by cases f)⟩⟩;conv=>whnf
  rw[aN (x:=(q:Int)-1)];grind
 obtain rfl:j=0:=by grind
 exact k _ h
def crA(db b b1 l:Nat)(R:Loop)(s:DS)(rows:DR)(lost:Int)(j:Nat):aF:=
 F6 λm:YM=>star [DB (FU m (rows.take (rows.length-(min (max lost 0) (cK (s.pend.drop j))).toNat))),B1 db { s with m:=m },jX { s with m:=m },sN m,ax b [.pointer (some ⟨db,0,none⟩)] 130,ax b1 [aD (lost-cK (s.pend.drop j))] 3,pt l (.loop R)]
def crX(db b l:Nat)(R:Loop)(s:DS)(rows:DR)(lost:Int):aF:=
 F6 λm:YM=>star [DB (FU m (rows.take (rows.length-(max lost 0).toNat))),B1 db { s with m:=m },jX { s with m:=m },sN m,ax b [.pointer (some ⟨db,0,none⟩)] 130,pt l (.loop { R with state:=.done,pending:=some (.exit 0) })]
theorem Lj{pend:List Pc}(a:∀q∈pend,1<=q.size)(j:Nat):0<=cK (pend.drop j)/\cK (pend.drop j)+cK (pend.take j)=cK pend/\0<=cK (pend.take j):=by
 have e:cK pend=cK (pend.take j)+cK (pend.drop j):=by grind [cK,List.take_append_drop]
 have p1:=qy (pend:=pend.take j) λq b=>a q (RE b);have p2:=qy (pend:=pend.drop j) λq b=>a q (q22 b);omega
theorem Uz{s:DS}{b b1 j:Nat}{a:Int}{f u:aC}{R:Loop}{G:List aF}{y:KE}(ok:DOk s.m s.pend rows syn)(Z:rows.length<=1099511627776)(L:-9223372036854775808+1099511627776<=a+1099511627776)(V:a<=(rows.length:Int)-syn)(A:j<s.pend.length) (h:aA u (crA db b b1 (f.size+1) R s rows a (j+1)::G)) (F:∀k,aA k (crA db b b1 (f.size+1) R s rows a j::G)->y (.bool true) k) (N:∀k,aA k (crX db b (f.size+1) R s rows a::G)->y (.bool false) k) : AT.y1 b b1 f R [aD j,.agg #[aD s.pend[j].file,aD s.pend[j].size]] u y:=by
 let⟨m,h⟩:=cw.1 h;let⟨n,h⟩:=aA.B2 h.open;have h:aA u (B1 db { s with m:=m }::jX { s with m:=m }::sN m::ax b [.pointer (some ⟨db,0,none⟩)] 130::ax b1 [aD (a-cK (s.pend.drop (j+1)))] 3::pt (f.size+1) (.loop R)::G):=h;have E:=ok.len;have C:=ok.sle;let⟨p1,p2,p3⟩:=Lj ok.pos (j+1);have ed:s.pend.drop j=s.pend[j]::s.pend.drop (j+1):=RF A;have es:cK (s.pend.drop j)=s.pend[j].size+cK (s.pend.drop (j+1)):=by grind [cK]
 let⟨q1,q2,q3⟩:=Lj ok.pos j;have U:=ok.pos _ (s_ A);have T:=qy (pend:=s.pend.take j) λq K=>ok.pos q (RE K);unfold AT.y1;refine⟨_,_,_,rfl,h.hN 5 rfl,h.al λb2 _ h=>h.st 0 rfl rfl λ_ h=>⟨h.hN 6 rfl,h.FK 6 rfl λH6 h=>⟨_,h.r 5,λw=>?_,λw=>?_⟩⟩⟩;.have S:a-cK (s.pend.drop (j+1))<=0:=ke w;refine⟨h.hN 6 rfl,N _ ?_⟩;have h:=h.qc 6 rfl (.loop { R with state:=.done,pending:=some (.exit 0) });rw[show min (max a 0) (cK (s.pend.drop (j+1)))=max a 0 by omega]at n;exact cw.2 ⟨m,aA.shut [_,_,_,_,_,_] (aA.DB (h.o [1,2,3,4,6] 7) n)⟩
 have Q:¬a-cK (s.pend.drop (j+1))<=0:=ix w;refine⟨_,h.r 4,_,h.r 0,_,h.r 0,_,h.r 5,?_⟩;generalize hcv:(if a-cK (s.pend.drop (j+1))<s.pend[j].size then a-cK (s.pend.drop (j+1)) else s.pend[j].size)=c;have J:1<=c/\c<=s.pend[j].size/\c=min (s.pend[j].size) (a-cK (s.pend.drop (j+1))):=by grind
 have e1:(min (max a 0) (cK (s.pend.drop (j+1)))).toNat=(cK (s.pend.drop (j+1))).toNat:=by grind
 rw[e1]at n;generalize hD:(cK (s.pend.drop (j+1))).toNat=D at *;have P:cK (s.pend.drop (j+1))=D:=ez;have W:(rows.take (rows.length-D)).length=rows.length-D:=by grind
 have d:rows.take (rows.length-D)=rows.take (rows.length-D-c.toNat)++(rows.take (rows.length-D)).drop (rows.length-D-c.toNat):=by
  conv=>lhs;rw[<-q1p (rows.length-D-c.toNat) (rows.take (rows.length-D))]
  grind
 have Y:((rows.take (rows.length-D)).drop (rows.length-D-c.toNat)).length=c.toNat:=by grind
 have v:∀r∈(rows.take (rows.length-D)).drop (rows.length-D-c.toNat),r.1=s.pend[j].file:=by
  intro r M;let⟨i,hi⟩:=List.getElem?_of_mem M;have O:i<c.toNat:=by grind
  rw[List.getElem?_drop,List.getElem?_take_of_lt ez]at hi;have H:((rows.drop syn).map Prod.fst)[rows.length-D-c.toNat+i-syn]?=some r.1:=by rw[List.getElem?_map,List.getElem?_drop,show syn+(rows.length-D-c.toNat+i-syn)=rows.length-D-c.toNat+i by omega,hi];rfl
  rw[<-ok.p,Uw A ez ez]at H;grind
 have x:(rows.take (rows.length-D)).drop (rows.length-D-c.toNat)≠[]:=λe=>by grind
 have t:(rows.take (rows.length-D-c.toNat)++(rows.take (rows.length-D)).drop (rows.length-D-c.toNat)).length<=1099511627776:=by grind
 rw[d]at n;refine acZ (s:={ s with m:=m }) n v x (by grind) t (h.o [1,2,3,0,4,5,6] 7) λm' H7 B h=>⟨rfl,_,h.r 5,_,h.r 3,?_⟩;have I:a-cK (s.pend.drop (j+1))-s.pend[j].size=a-cK (s.pend.drop j):=ez;conv=>whnf
 rw[I,aN];refine h.st 5 rfl rfl λH8 h=>⟨h.hN 6 rfl,F _ ?_⟩;have h:=h.qc 6 rfl (.loop R);refine cw.2 ⟨m',aA.shut [_,_,_,_,_,_,_] (aA.DB (h.o [0,1,2,4,5,6] 7) ?_)⟩;have e2:rows.length-(min (max a 0) (cK (s.pend.drop j))).toNat=rows.length-D-c.toNat:=ez;rw[e2];exact B
theorem U0{eS:Int}(O:aG eS)(y:rows.length<=1099511627776)(h:aA H (eG db rows syn::F)) (k:∀e,aA e (eG db (eU rows syn eS) (eU rows syn eS).length::F)->K (.tuple #[]) e):CF 128 #[.pointer (some ⟨db,0,none⟩),aD eS] H K:=by
 refine RG ?_;unfold aG at O;refine h.al λb _ h=>⟨_,h.r 0,BK (F:=ax b [.pointer (some ⟨db,0,none⟩)] 130::F) y (h.o [1,0] 2) λQ h=>⟨_,rfl,?_⟩⟩;have t:(if 0>eS then 0 else eS)=max eS 0:=by grind
 let⟨s,ok,h⟩:=rQ h;have A:=ok.sle;have B:=ok.len;have M:=ok.ple;conv=>whnf
 rw[t,aN (x:=(rows.length:Int)-syn-max eS 0)];generalize alu:(rows.length:Int)-syn-max eS 0=lost;have i:rows.take (rows.length-(max lost 0).toNat)=eU rows syn eS:=by grind [eU]
 refine h.al λb1 _ h=>h.st 0 rfl rfl λ_ h=>⟨_,h.r 5,dj ⟨_,_,_,h.r 1,Ux h λc0 c h=>⟨_,_,rfl,rfl,λR v n E=>?_⟩⟩⟩;have h:=h.F1 R;have h0:aA ((c.push (.deferred (some []))).push (.loop R)) (crA db b b1 (c.size+1) R s rows lost s.pend.length::ax c0 [.slice s.pa s.pend.length s.pc] 284::jG s::pt c.size (.deferred (some []))::F):=by
  refine cw.2 ⟨s.m,aA.shut [_,_,_,_,_,_,_] (aA.DB ?_ ?_)⟩;.rw [V_,show cK []=0 from rfl,Int.sub_zero];exact h.o [4,5,6,8,3,0,2,7,1] 9
  rw [V_,show cK []=0 from rfl,show (min (max lost 0) 0).toNat=0 by omega,Nat.sub_zero,FE];exact ok.f
 have a:∀(m:YM) e,FU m (eU rows syn eS)->aA e (ax db [.map (some s.fb),.slice none 0 0] 286::jX { s with m:=m }::sN m::F)->aA e (eG db (eU rows syn eS) (eU rows syn eS).length::F):=by intro m e d w;have w:=(w.cp 288 2).o [1,2,3,0] 4;exact nQ ⟨s.fb,none,0,[],m⟩ ⟨d,w_ _,by simp[jd],λ_ I=>(by cases I),λr L=>ok.keys r (RE L)⟩ w
 refine Uy ez (λj=>crA db b b1 (c.size+1) R s rows lost j) (crX db b (c.size+1) R s rows lost) h0 (λj P G Q S D C N=>E _ _ _ (Uz ok y ez ez P D C N)) (λu h=>?_) λu h=>?_
 .let⟨m,h⟩:=cw.1 h;let⟨d,h⟩:=aA.B2 h.open;have h:aA u (B1 db { s with m:=m }::jX { s with m:=m }::sN m::ax b [.pointer (some ⟨db,0,none⟩)] 130::ax b1 [aD (lost-cK (s.pend.drop 0))] 3::pt (c.size+1) (.loop R)::ax c0 [.slice s.pa s.pend.length s.pc] 284::jG s::pt c.size (.deferred (some []))::F):=h;have e0:min (max lost 0) (cK (s.pend.drop 0))=max lost 0:=by grind
  rw[e0,i]at d;refine⟨.ready,none,ee,by rw[lp v n];exact h.hN 5 rfl,h.FK 5 rfl λJ h=>Or.inl ⟨rfl,_,h.r 3,dj (h.st 0 rfl rfl λ_ h=>⟨h.hN 8 rfl,?_⟩)⟩⟩;have h:=h.qc 8 rfl (.deferred none);exact k _ (a m _ d (h.o [0,1,2] 9))
 let⟨m,h⟩:=cw.1 h;let⟨d,h⟩:=aA.B2 h.open;have h:aA u (B1 db { s with m:=m }::jX { s with m:=m }::sN m::ax b [.pointer (some ⟨db,0,none⟩)] 130::pt (c.size+1) (.loop { R with state:=.done,pending:=some (.exit 0) })::ax c0 [.slice s.pa s.pend.length s.pc] 284::jG s::pt c.size (.deferred (some []))::F):=h;rw[i]at d;refine⟨.done,some (.exit 0),ee,h.hN 4 rfl,h.FK 4 rfl λJ h=>Or.inr ⟨rfl,_,h.r 3,dj (h.st 0 rfl rfl λ_ h=>⟨h.hN 7 rfl,?_⟩)⟩⟩;have h:=h.qc 7 rfl (.deferred none);exact k _ (a m _ d (h.o [0,1,2] 8))
end
theorem Lk(rows:DR):(bG rows).length<=rows.length:=by
 unfold bG;rw[tg];have:∀l:List Int,(pF l).length<=l.length:=by
  intro l;induction l with
   | nil=>exact w_ _
   | cons a r ih=>
   unfold pF;split;.simp only[CU];omega
   simp only[CU];omega
 have:=this (rows.map Prod.fst);simpa using this
theorem U1(rows:DR)(syn:Nat)(eS:Int):(eU rows syn eS).length<=rows.length:=by unfold eU;rw[q23];omega
theorem vE(h:n<4294967296):(BitVec.ofInt u32.bits (n:Int)).toNat=n:=by rw[BitVec.ofInt_natCast,BitVec.toNat_ofNat];exact q36 h
theorem YK(a:n<4294967296)(hm:c<4294967296):aZ .xor .u32 (n:Int) (c:Int)=((n^^^c:Nat):Int):=by unfold aZ;rw[BitVec.toNat_xor,vE a,vE hm];have:n^^^c<2^32:=Nat.xor_lt_two_pow a hm;grind [I_]
theorem ajJ(a:n<4294967296)(hm:c<4294967296):aZ .and .u32 (n:Int) (c:Int)=((n &&& c:Nat):Int):=by unfold aZ;rw[BitVec.toNat_and,vE a,vE hm];have:n &&& c<2^32:=Nat.and_lt_two_pow n hm;grind [I_]
def TQ(n:Nat):Nat:=if n%2=1 then (n/2)^^^3988292384 else n/2
theorem abc(h:n<4294967296):TQ n<4294967296:=by
 unfold TQ;split;.have:(n/2)^^^3988292384<2^32:=Nat.xor_lt_two_pow ez ee;omega
 omega
def yn:Nat->Nat->Nat
 | 0,n=>n
 | k+1,n=>TQ (yn k n)
theorem BM{n:Nat}(h:n<4294967296):∀k,yn k n<4294967296
 | 0=>h
 | k+1=>abc (BM h k)
def aad(v:Int):Nat:=(u32.wrap v).toNat
theorem BN(v:Int):(aad v:Int)=u32.wrap v/\aad v<4294967296:=by grind [aad,IntKind.wrap,IntKind.bits,IntKind.signed]
def ac6(n:Nat)(v:Int):Nat:=yn 8 (n^^^aad v)
theorem BO(a:n<4294967296)(hm:c<4294967296):n^^^c<4294967296:=by have:n^^^c<2^32:=Nat.xor_lt_two_pow a hm;omega
theorem ac5(h:n<4294967296):ac6 n f<4294967296:=BM (BO h (BN f).2) 8
def kQ(n:Nat)(l:List Int):Nat:=l.foldl ac6 n
theorem vF:∀{l:List Int} {n:Nat},n<4294967296->kQ n l<4294967296
 | [],n,h=>h
 | v::r,n,h=>vF (l:=r) (ac5 h)
def lU(l:List Int):Int:=((4294967295^^^kQ 4294967295 l:Nat):Int)
theorem BP(l:List Int):0<=lU l/\lU l<4294967296:=by grind [BO,vF,lU]
theorem aft(l:List Int):aZ .xor .u32 u32.max (kQ 4294967295 l:Int)=lU l:=by rw[show u32.max=((4294967295:Nat):Int) from rfl,YK ee (vF ee)];rfl
theorem ac0(h:n<4294967296)(v:Int):aZ .xor .u32 (n:Int) (u32.wrap v)=((n^^^aad v:Nat):Int):=by grind [BN,YK]
theorem Ll(n:Nat)(l r:List Int):kQ n (l++r)=kQ (kQ n l) r:=List.foldl_append ..
theorem U2(h:c<b.length):kQ n (b.take (c+1))=ac6 (kQ n (b.take c)) b[c]:=by rw[<-List.take_append_getElem h,Ll];rfl
theorem U3(h:n<4294967296) : aZ .xor .u32 (Int.fdiv (n:Int) (2^(min (Int.toNat 1) (u32.bits)))) (aZ .and .u32 (u32.wrap (0-(aZ .and .u32 (n:Int) 1))) 3988292384)=(TQ n:Int):=by
 have e1:Int.fdiv (n:Int) (2^(min (Int.toNat 1) (u32.bits)))=((n/2:Nat):Int):=by show Int.fdiv (n:Int) 2=_;grind
 have e2:aZ .and .u32 (n:Int) 1=((n%2:Nat):Int):=by rw[show (1:Int)=((1:Nat):Int) from rfl,ajJ h ee,Nat.and_one_is_mod]
 rw[e1,e2];unfold TQ;rcases Nat.mod_two_eq_zero_or_one n with h0|h0;.rw [h0,b_ ee];have:aZ .and .u32 (u32.wrap (0-((0:Nat):Int))) 3988292384=((0:Nat):Int):=ee;rw[this,YK ez ee,Nat.xor_zero]
 rw [h0,c_ rfl];have:aZ .and .u32 (u32.wrap (0-((1:Nat):Int))) 3988292384=((3988292384:Nat):Int):=ee;rw[this,YK ez ee]
theorem BQ(h:j<A.length):(A.take (j+1)).flatMap Fy.bs=(A.take j).flatMap Fy.bs++A[j].bs:=by grind [List.take_succ_eq_append_getElem]
theorem BR{parts:List Fy}(D:aQ H a (parts.map cD))(J:∀y∈parts,aQ H y.a (y.bs.map U8))(L:parts.length<=1099511627776) (C:∀y∈parts,y.bs.length<=1099511627776):bX Tryz.prog 155 #[.slice a parts.length c] H (.int .u32 (lU (parts.flatMap Fy.bs))):=by
 unfold bX;refine cN 155 0x11215612399251156123992511156123992514444c [[(3,.one (.int .u32)),(25,sI)],[(3,.one (.int .u32)),(17,sI)],[(3,.one (.int .u32)),(11,sI)]] ⟨λs i w=>w=H/\∃j:Nat,i=j/\j<=parts.length/\s=(kQ 4294967295 ((parts.take j).flatMap Fy.bs):Nat),λ_ i _=>parts.length-i.toNat,⟨rfl,0,rfl,EA _,rfl⟩,?_⟩;rintro s i w ⟨rfl,j,rfl,N,rfl⟩;refine⟨λv=>?_,λv=>?_⟩
 .have b:j<parts.length:=by grind
  have n:=D.at b;have A:=J _ (s_ b);have t:=C _ (s_ b);have E:i64.wrap ((j:Int)+1)=((j+1:Nat):Int):=aN;have I:=BQ b;obtain⟨y,F⟩:∃y,parts[j]=y:=⟨_,rfl⟩;rw[F]at n A t I;refine⟨⟨ez,ez⟩,_,_,n.1,_,_,_,n.2,⟨λs i h=>h=w/\∃k:Nat,i=k/\k<=y.bs.length/\s=(kQ (kQ 4294967295 ((parts.take j).flatMap Fy.bs)) (y.bs.take k):Nat),λ_ i _=>y.bs.length-i.toNat,⟨rfl,0,rfl,EA _,rfl⟩,?_⟩⟩;rintro s1 i1 K ⟨rfl,k,rfl,M,rfl⟩;have B:kQ (kQ 4294967295 ((parts.take j).flatMap Fy.bs)) (y.bs.take k)<4294967296:=vF (vF ee);refine⟨λv=>?_,λv=>?_⟩
  .have e:k<y.bs.length:=by grind
   have x:=A.at e;have G:=BO B (BN y.bs[k]).2;refine⟨⟨ez,ez⟩,_,_,x.1,_,x.2,?_⟩;conv=>whnf
   rw[ac0 B];refine⟨λs i h=>h=K/\∃m:Nat,i=m/\m<=8/\s=(yn m (kQ (kQ 4294967295 ((parts.take j).flatMap Fy.bs)) (y.bs.take k)^^^aad y.bs[k]):Nat),λ_ i _=>8-i.toNat,⟨rfl,0,rfl,EA _,rfl⟩,?_⟩;rintro s1 i1 h ⟨rfl,m,rfl,hm,rfl⟩;have hs:=BM G m;refine⟨λu=>?_,λu=>?_⟩
   .have f:m<8:=by grind
    have e1:i64.wrap ((m:Int)+1)=((m+1:Nat):Int):=aN;refine⟨ee,?_⟩;conv=>whnf
    rw[U3 hs,e1];exact⟨⟨rfl,m+1,rfl,ez,rfl⟩,by grind⟩
   have f:m=8:=by grind
   subst f;have e1:i64.wrap ((k:Int)+1)=((k+1:Nat):Int):=aN;conv=>whnf
   rw[e1];refine⟨⟨rfl,k+1,rfl,ez,?_⟩,by grind⟩;rw[U2 e];rfl
  have d:k=y.bs.length:=by grind
  subst d;conv=>whnf
  rw[E];refine⟨⟨rfl,j+1,rfl,ez,?_⟩,by grind⟩;grind [Ll]
 have d:j=parts.length:=by grind
 subst d;rw[FE];exact⟨congrArg (Value.int .u32) (aft _),rfl⟩
def XX(s:Int):List Int:=[s%256,s/256%256,s/65536%256,s/16777216%256]
def ei(bs:List Int):List Int:=bs++XX (lU bs)
def eJ(bs:List Int):Int×List Int:=
 if bs.length<4 then (15,[]) else if ei (bs.take (bs.length-4))=bs then (0,bs.take (bs.length-4)) else (14,[])
theorem U4(s:Int):aI (XX s):=by intro x a;simp only[XX,DL,q2j,or_false]at a;grind
theorem BS(h:aI b):aI (ei b):=pA h (U4 _)
theorem rR(bs:List Int):(ei bs).length=bs.length+4:=by simp[ei,XX]
theorem BT(bs:List Int):eJ (ei bs)=(0,bs):=by
 unfold eJ;rw[rR,nO,Nat.add_sub_cancel];have:(ei bs).take bs.length=bs:=by grind [ei]
 grind
theorem BU{p:List Int}(h:eJ b=(0,p)):b=ei p:=by grind [eJ]
theorem ae7(h0:0<=f)(s:f<4294967296){a b c d:Int}(e:0<=a/\a<256)(hb:0<=b/\b<256)(h:0<=c/\c<256)(hd:0<=d/\d<256) : XX f=[a,b,c,d]↔a+256*b+65536*c+16777216*d=f:=by unfold XX;grind
theorem BV{a m p:Nat}(b:a<2^p)(h:a+m*2^p<4294967296):aZ .or .u32 (a:Int) ((m*2^p:Nat):Int)=((a+m*2^p:Nat):Int):=by
 have c:a<4294967296:=ez;have d:m*2^p<4294967296:=ez;have e3:a ||| m*2^p=a+m*2^p:=by grind [Nat.mul_comm,Nat.two_pow_add_eq_or_of_lt]
 show u32.wrap ((BitVec.ofInt u32.bits (a:Int) ||| BitVec.ofInt u32.bits ((m*2^p:Nat):Int)).toNat:Int)=_;grind [vE,I_]
theorem aa6{a c d:Int}(j:0<=a/\a<256)(hb:0<=f/\f<256)(k:0<=c/\c<256)(hd:0<=d/\d<256) : aZ .or .u32 (aZ .or .u32 (aZ .or .u32 (u32.wrap a) (u32.wrap ((u32.wrap f)*2^(min (Int.toNat 8) (u32.bits))))) (u32.wrap ((u32.wrap c)*2^(min (Int.toNat 16) (u32.bits))))) (u32.wrap ((u32.wrap d)*2^(min (Int.toNat 24) (u32.bits)))) = a+256*f+65536*c+16777216*d:=by rw[I_ (x:=a) ez ez,I_ (x:=f) ez ez,I_ (x:=c) ez ez,I_ (x:=d) ez ez];show aZ .or .u32 (aZ .or .u32 (aZ .or .u32 a (u32.wrap (f*256))) (u32.wrap (c*65536))) (u32.wrap (d*16777216))=_;rw[I_ (x:=f*256) ez ez,I_ (x:=c*65536) ez ez,I_ (x:=d*16777216) ez ez];obtain⟨b,rfl⟩:=q3d j.1;obtain⟨e,rfl⟩:=q3d hb.1;obtain⟨h,rfl⟩:=q3d k.1;obtain⟨i,rfl⟩:=q3d hd.1;have e1:=BV (a:=b) (m:=e) (p:=8) ez ez;have e2:=BV (a:=b+e*2^8) (m:=h) (p:=16) ez ez;have e3:=BV (a:=b+e*2^8+h*2^16) (m:=i) (p:=24) ez ez;grind
theorem ajh(h:¬b.length<4):∃a bs c d,b=b.take (b.length-4)++[a,bs,c,d]/\b.drop (b.length-4)=[a,bs,c,d]:=by
 have f:(b.drop (b.length-4)).length=4:=by grind
 obtain⟨a,bs,c,d,e⟩:∃a bs c d,b.drop (b.length-4)=[a,bs,c,d]:=by match hx:b.drop (b.length-4),f with
   | [a,bs,c,d],_=>grind
 grind [List.take_append_drop]
theorem Lm(h0:0<=f)(a:f<4294967296) : [U8 (u8.wrap f),U8 (u8.wrap (Int.fdiv f (2^(min (Int.toNat 8) (u32.bits))))),U8 (u8.wrap (Int.fdiv f (2^(min (Int.toNat 16) (u32.bits))))),U8 (u8.wrap (Int.fdiv f (2^(min (Int.toNat 24) (u32.bits)))))]=(XX f).map U8:=by obtain⟨n,rfl⟩:=q3d h0;show [U8 (u8.wrap (n:Int)),U8 (u8.wrap (Int.fdiv (n:Int) 256)),U8 (u8.wrap (Int.fdiv (n:Int) 65536)),U8 (u8.wrap (Int.fdiv (n:Int) 16777216))]=_;rw[q3a _ ee,q3a _ ee,q3a _ ee];rw[show (n:Int)/256=((n/256:Nat):Int) by omega,show (n:Int)/65536=((n/65536:Nat):Int) by omega,show (n:Int)/16777216=((n/16777216:Nat):Int) by omega];rw[rC,rC,rC,rC];unfold XX;grind
theorem Ln{c:Nat}(h:aA H F)(A:∀H,aA H F->aQ H a (b.map U8))(hb:aI b)(O:b.length<=1099511627776)(Q:b.length<=c) (k1:∀B u p n,eJ b=(0,p)->aA n (ay 5 1 B p.length u (p.map U8)::F)->K (.tuple #[.slice B p.length u,.int .i64 0]) n) (k2:∀e n,e≠0->eJ b=(e,[])->aA n F->K (.tuple #[.slice none 0 0,.int .i64 e]) n) : CF 85 #[.slice a b.length c] H K:=by
 refine RI ⟨λt=>?_,λt=>?_⟩
 .have J:b.length<4:=by grind
  exact k2 15 _ ee (by unfold eJ;grind) h
 have C:¬b.length<4:=by grind
 have en:i64.wrap ((b.length:Int)-4)=((b.length-4:Nat):Int):=by grind [aN]
 rw[en,Fu];have d:y_ a 0 c 1=a:=aeo (A _ h) (by intro t;simp_all);rw[d];let⟨m,i,s,vd,e1,e2⟩:=ajh C;obtain⟨p,G⟩:∃p,b.take (b.length-4)=p:=⟨_,rfl⟩;have w:p.length=b.length-4:=by grind
 rw[G]at e1;have j:=(A _ h).agR (k:=b.length-4) (c:=c) (by grind);rw[<-List.map_drop,e2]at j;have q0:=j 0 _ rfl;have q1:=j 1 _ rfl;have q2:=j 2 _ rfl;have q3:=j 3 _ rfl;refine⟨⟨ez,ez,ez⟩,⟨ez,ez,ez⟩,⟨ez,ez⟩,_,_,q0.1,_,q0.2,⟨ez,ez⟩,_,_,q0.1,_,q1.2,ee,⟨ez,ez⟩,_,_,q0.1,_,q2.2,ee,⟨ez,ez⟩,_,_,q0.1,_,q3.2,ee,?_⟩;rw[<-w];have f:∀H,aA H F->aQ H a (p.map U8):=λH h=>by have:=(A H h).take (b.length-4);rwa[<-List.map_take,G]at this
 refine h.al λb4 R h=>?_;have E:=BR (c:=1) (parts:=[⟨a,c,p⟩]) (h.ew 0 rfl) (λy v=>by rw[CS]at v;subst v;exact f _ h.tl) eh (λy v=>by grind);simp only[O_,List.flatMap_nil,Hz]at E;refine⟨_,E,?_⟩;have bs:∀x∈[m,i,s,vd],0<=x/\x<256:=λx t=>hb x (by grind);have ba:=bs m eh;have bb:=bs i eh;have bc:=bs s eh;have bd:=bs vd eh;rw[aa6 ba bb bc bd];let⟨s0,s1⟩:=BP p;have N:=ae7 s0 s1 ba bb bc bd;have I:eJ b=if ei p=b then (0,p) else (14,[]):=by unfold eJ;grind
 have D:ei p=b↔XX (lU p)=[m,i,s,vd]:=by grind [ei]
 refine⟨λt=>?_,λt=>?_⟩
 .have L:¬m+256*i+65536*s+16777216*vd=lU p:=by grind
  exact k2 14 _ ee (by grind) h.tl
 have M:m+256*i+65536*s+16777216*vd=lU p:=by grind
 refine tC h.tl f ez λB u P h=>⟨_,_,_,rfl,k1 _ _ _ _ ?_ h⟩;grind
theorem U5{c:Nat}{parts:List Fy}(h:aA H F)(P:∀H,aA H F->aQ H (some ⟨n,j,none⟩) (parts.map cD))(R:∀H,aA H F->∀y∈parts,aQ H y.a (y.bs.map U8))(hA:∀y∈parts,y.a=none\/∃n j,y.a=some ⟨n,j,none⟩) (hb:∀y∈parts,aI y.bs) (S:2<=parts.length) (hc:parts.length<=c) (hn:parts.length<=1000) (hl:(parts.flatMap Fy.bs).length<=1099511627776) (h8:0<(parts.flatMap Fy.bs).length) (k:∀a' c' H',aA H' (ay 5 1 a' (ei (parts.flatMap Fy.bs)).length c' ((ei (parts.flatMap Fy.bs)).map U8)::F)->K (.slice a' (ei (parts.flatMap Fy.bs)).length c') H') : CF 272 #[.slice (some ⟨n,j,none⟩) parts.length c] H K:=by
 refine cM 272 4380 ?_;have h3:∀y∈parts,y.bs.length<=1099511627776:=λy u=>by refine DC ?_ hl;obtain⟨s,t,rfl⟩:=List.append_of_mem u;grind
 have hq:=BR (c:=c) (P _ h) (R _ h) ez h3;refine⟨_,hq,?_⟩;obtain⟨bs,d⟩:∃bs,parts.flatMap Fy.bs=bs:=⟨_,rfl⟩;rw[d]at hl h8 k hq ⊢;let⟨s0,s1⟩:=BP bs;have l5:aI bs:=by rw[<-d];intro x A;let⟨y,u,A⟩:=q1z.1 A;exact hb y u x A
 refine .mk λw hw=>?_;subst hw;have j1:∀l:List Fy,Lib.lens (l.map λy=>Lib.bytesOf y.bs)=(l.flatMap Fy.bs).length:=by intro l;induction l with
   | nil=>rfl
   | cons y r ih=>grind [Lib.lens,Lib.bytesOf]
 have o:∀l:List Fy,Lib.join (l.map λy=>Lib.bytesOf y.bs) []=Lib.bytesOf (l.flatMap Fy.bs):=by
  intro l;have:∀l:List Fy,(l.map λy=>Lib.bytesOf y.bs).flatten=Lib.bytesOf (l.flatMap Fy.bs):=by intro l;induction l with
    | nil=>rfl
    | cons y r ih=>grind [Lib.bytesOf]
  cases l with
   | nil=>rfl
   | cons y r=>grind [Lib.join_cons,Lib.joinTail,List.map_id']
 have T:Lib.PartsAt w ⟨n,j,none⟩ (parts.map cD) (parts.map λy=>Lib.bytesOf y.bs):=by
  refine⟨eh,λi v hv=>?_,λi v l hv M=>?_⟩;.rw [iF,nn];exact (P _ h i v (by grind [iE])).2
  rw [List.getElem?_map,Option.map_eq_some_iff]at hv M;obtain⟨y,u,rfl⟩:=hv;obtain⟨y',G,rfl⟩:=M;rw[u]at G;cases G;have hm:y∈parts:=KI u;have f:=R _ h y hm;refine⟨y.a,y.c,by simp[Lib.bytesOf],λh9=>?_,λa' E i x A=>?_⟩;.rw [h9]at f;have:=oJ f;simp at this;grind [Lib.bytesOf]
  have W:i<y.bs.length:=by grind [Lib.bytesOf]
  have D:=f.at W;rw[E]at D;rcases hA y hm with e|⟨b',o',e⟩;.grind
  rw [E]at e;cases e;rw[iF,nn];grind [Lib.bytesOf,rE]
 have hs:Lib.HoldsBytes w (.slice none 0 0) []:=⟨none,0,rfl,λ_=>rfl,λa P=>by cases P⟩;have b:=Any.bytes_Join_many Tryz.ajk n j parts.length c (parts.map cD) (parts.map λy=>Lib.bytesOf y.bs) (.slice none 0 0) [] w eh S T hc hs ez (by grind);refine mF b ?_;rintro e w' ⟨v',rfl,N,B⟩;refine⟨_,rfl,Av B,?_⟩;rw[o,d]at N;obtain⟨g,cap,Q,rfl,Y,I,j2,l6,h7,O,j3,r0⟩:=N;have J:(Lib.bytesOf bs).length=bs.length:=by simp[Lib.bytesOf]
 rw[J]at I O ⊢;have hz:Q.take bs.length=bs:=by
  have h5:(Q.take bs.length).length=bs.length:=by grind
  refine XO h5 λi D S=>?_;have e1:=congrArg (λl:List UInt8=>l[i]?) O;simp only[Lib.bytesOf,List.getElem?_map,List.getElem?_eq_getElem D,List.getElem?_eq_getElem S,HV,Option.some.injEq]at e1;have b1:=rE (xs:=Q.take bs.length) (λx A=>h7 x (RE A)) i D;grind [rE]
 have V:∃(C:Array Value) (U:TypeId) (fr:Nat×Nat),w'.heap[g]?=some (.cells C U fr):=by grind [World.cell?]
 let⟨C,U,fr,V⟩:=V;have Z:∀i,i<cap->C.toList[i]?=some (U8 (Q.getD i 0)):=λi hi=>by grind [nn,aM]
 have l0:cap<=C.toList.length:=by grind
 have h0:C.toList=bs.map U8++C.toList.drop bs.length:=by
  rw[<-q1p bs.length C.toList];congr 1;.refine q2b λi=>?_;grind
  grind
 have L:aA w'.heap (ay 5 1 (some ⟨g,0,none⟩) bs.length cap (bs.map U8)::F):=by
  refine (h.new (xe B) Y V).mono λp R=>⟨eh,.inr ⟨g,[],C.toList.drop bs.length,U,fr,rfl,I,by grind,λ_ i D S hh=>?_,?_⟩⟩;.grind [World.frozen?]
  rw [Hc,<-h0];exact R
 refine⟨_,_,_,rfl,ee,ee,ee,?_⟩;have h6:=Lm s0 s1;refine L.al λb1 H3 h=>aA.append (m:=4) (ws:=(XX (lU bs)).map U8) tT h 1 rfl (h.ew 0 (by rw[<-h6];rfl)) (by simp[XX]) (oK (λ_=>rfl) _) ez ez λa3 c3 H4 h4=>⟨_,_,_,rfl,?_⟩;have:=k a3 c3 H4;unfold ei at this;rw[qa,show (XX (lU bs)).length=4 from rfl]at this;refine this ?_;rw[F4];exact h4.tl
structure Rc where
 kind:Int
 data:List Int
 deriving DecidableEq
variable {r:Rc}{E:List Rc}
def im(r:Rc):List Int:=ei (bS r.kind.toNat++r.data)
def bR(r:Rc):List Int:=bS (im r).length++im r
structure Rc.ok(r:Rc):Prop where
 k0:0<=r.kind
 k1:r.kind<=255
 len:r.data.length<=262144
 by':aI r.data
def lx(b:List Int):Option Rc:=if (eJ b).1≠0 then none else match Ft 0 0 (eJ b).2 with
 | .ok kind j=>if 255<kind\/262144<(eJ b).2.length-j then none else some ⟨kind,(eJ b).2.drop j⟩
 | _=>none
def j5(b:List Int):Option (Rc×Nat):=match Ft 0 0 b with
 | .ok n k=>if b.length<k+n then none else (lx ((b.drop k).take n)).map λr=>(r,k+n)
 | _=>none
def oV:Nat->List Int->List Rc×Nat
 | 0,_=>([],0)
 | f+1,b=>match j5 b with
  | none=>([],0)
  | some (r,n)=>(r::(oV f (b.drop n)).1,n+(oV f (b.drop n)).2)
def eV(b:List Int):List Rc×Nat:=oV b.length b
theorem yo(hb:aI b):aI (eJ b).2:=by
 unfold eJ;split;.intro x a;cases a
 split;.exact uZ _ hb
 intro x a;cases a
theorem Lo{u:Nat}(h:u<=255):(bS u).length<=2:=by grind [px,py]
theorem Lp(hb:aI b)(h:lx b=some r):b=im r/\r.ok:=by
 unfold lx at h;split at h;.cases h
 rename_i h0;have a:=yo hb;have h0:(eJ b).1=0:=Classical.not_not.1 h0;obtain⟨p,d⟩:∃p,eJ b=(0,p):=⟨(eJ b).2,by rw[<-h0]⟩;rw[d]at a h;dsimp only at a h;have e:=BU d;split at h
 .rename_i kind j f;split at h;.cases h
  rename_i k;cases h;let⟨w,c,m,n,i,_,_,_⟩:=xB a f ez;simp only[Nat.mul_zero,Nat.pow_zero,q25,CB]at c;subst c;rw[Nat.sub_zero]at i;refine⟨?_,⟨by grind,by grind,by grind,qm _ a⟩⟩;grind [im,List.take_append_drop]
 cases h
theorem U6(h:r.ok):lx (im r)=some r:=by have h0:=h.k0;have b:=h.k1;have c:=h.len;unfold lx im;rw[BT,b_ eh];dsimp only;rw[xC r.data ez ez (λa=>cS a ez)];simp only[Nat.mul_zero,Nat.pow_zero,q25,CB];rw[b_,List.drop_left,q2i h0];grind
theorem vG(h:r.ok):(im r).length<=262150/\5<=(im r).length:=by have h0:=h.k0;have a:=h.k1;have b:=h.len;grind [im,rR,Lo,xA]
theorem U7(h:r.ok):aI (im r):=BS (pA (qk _) h.by')
theorem tU(h:r.ok):aI (bR r):=pA (qk _) (U7 h)
theorem BW(h:n<=262150):(bS n).length<=3:=by grind [px,py]
theorem rS(h:r.ok):(bR r).length<=262153/\6<=(bR r).length/\(bR r).length<=r.data.length+9:=by have a:=vG h;have b:=BW a.1;have c:=xA (im r).length;have d:=h.k1;grind [im,bS,rR,bR]
theorem U9(hb:aI b)(h:262150<b.length):lx b=none:=by cases hr:lx b with
  | none=>rfl
  | some r=>let⟨a,c⟩:=Lp hb hr;grind [vG]
theorem BX(hb:aI b)(h:j5 b=some (r,n)):r.ok/\n<=b.length/\b.take n=bR r/\0<n:=by
 unfold j5 at h;split at h
 .rename_i m k f;let⟨w,c,v,x,d,_,_,_⟩:=xB hb f ez;simp only[Nat.mul_zero,Nat.pow_zero,q25,CB]at c;subst c;rw[Nat.sub_zero]at d;split at h;.cases h
  rename_i t;rw[Option.map_eq_some_iff]at h;let⟨u,j,s⟩:=h;cases s;let⟨i,e⟩:=Lp (uZ _ (qm _ hb)) j;refine⟨e,ez,?_,ez⟩;have a:(im r).length=m:=by grind
  unfold bR;rw[a,d,<-i,<-List.take_add]
 cases h
theorem abQ(h:r.ok)(rest:List Int):j5 (bR r++rest)=some (r,(bR r).length):=by have b:=vG h;unfold j5 bR;rw[Fw,xC (im r++rest) ez ez (λa=>cS a ez)];simp only[Nat.mul_zero,Nat.pow_zero,q25,CB];rw[b_ (by grind),List.drop_left,List.take_left,U6 h];simp
theorem UA(h:r.ok)(b:n<(bR r).length):j5 ((bR r).take n)=none:=by
 have c:=vG h;have e:=BW c.1;unfold bR at b ⊢;rw[qa]at b;rcases HU n (bS (im r).length).length with a|a;.grind [j5,abD]
 rw [List.take_append,FL a];unfold j5;rw[xC _ ez ez (λd=>cS d ez)];grind
theorem Lq:∀{f:Nat} {b:List Int},aI b->b.length<=f->oV f b=eV b:=by
 have:∀{n f g:Nat} {b:List Int},aI b->b.length<=n->b.length<=f->b.length<=g->oV f b=oV g b:=by intro n;induction n with
   | zero=>intro f g b hb a _ _;have:b=[]:=q2k.1 ez;subst this;cases f <;> cases g <;> rfl
   | succ n ih=>intro f g b hb a c d;cases b with
    | nil=>grind
    | cons x b=>cases f with
     | zero=>simp at c
     | succ f=>cases g with
      | zero=>simp at d
      | succ g=>simp only[oV];cases h:j5 (x::b) with
       | none=>rfl
       | some p=>let⟨r,m⟩:=p;have e:=(BX hb h).2.2.2;grind [qm]
 intro f b hb h;exact this (n:=b.length) hb (w_ _) h (w_ _)
theorem BZ(h:j5 b=none):eV b=([],0):=by
 unfold eV
 cases b with
 | nil=>rfl
 | cons x b=>grind [oV]
theorem Ca(hb:aI b)(h:j5 b=some (r,n)):eV b=(r::(eV (b.drop n)).1,n+(eV (b.drop n)).2):=by have a:=(BX hb h).2.2.2;have e:eV b=oV (b.length+1) b:=(Lq hb ez).symm;grind [oV,Lq,qm]
theorem UB(h:r.ok)(a:aI b):eV (bR r++b)=(r::(eV b).1,(bR r).length+(eV b).2):=by grind [Ca,pA,tU,abQ,List.drop_left]
theorem UC(h:∀r∈E,r.ok):aI (E.flatMap bR):=by intro x a;let⟨r,b,a⟩:=q1z.1 a;exact tU (h r b) x a
theorem Cb:∀{rs:List Rc} {t:List Int},(∀r∈rs,r.ok)->aI t->j5 t=none->eV (rs.flatMap bR++t)=(rs,(rs.flatMap bR).length)
 | [],t,_,_,ht=>by grind [BZ]
 | r::rs,t,h,hb,ht=>by have b:=h r DT;have a:∀x∈rs,x.ok:=λx c=>h x (DG _ c);rw[O_,Fw,UB b (pA (UC a) hb),Cb a hb ht];simp
theorem UD(h:∀r∈E,r.ok):eV (E.flatMap bR)=(E,(E.flatMap bR).length):=by have:=Cb (t:=[]) h (λx a=>by cases a) rfl;grind
theorem Cc:∀{n:Nat} {b:List Int},b.length<=n->aI b->(∀r∈(eV b).1,r.ok)/\(eV b).2<=b.length/\(eV b).1.flatMap bR=b.take (eV b).2
 | n,b,hn,hb=>by cases h:j5 b with
  | none=>rw[BZ h];grind
  | some p=>let⟨r,m⟩:=p;let⟨a,c,d,e⟩:=BX hb h;rw[Ca hb h];cases n with
   | zero=>omega
   | succ n=>let⟨i1,i2,i3⟩:=Cc (n:=n) (b:=b.drop m) (by grind) (qm _ hb);grind
theorem Lr(hb:aI b) : ((∃e,e≠0/\bg 262150 ⟨0,b⟩=([],⟨e,b⟩))/\j5 b=none)\/ ∃k n,(bg 262150 ⟨0,b⟩)=((b.drop k).take n,⟨0,b.drop (k+n)⟩)/\k+n<=b.length/\0<k/\j5 b=(lx ((b.drop k).take n)).map λr=>(r,k+n):=by
 unfold bg j5;simp only[ne_eq,not_true_eq_false,if_false];cases hr:Ft 0 0 b with
  | form=>grind
  | ended=>grind
  | ok n k=>
  have a:=rD hb hr;dsimp only;by_cases h1:(max 262150 0:Int)<n;.rw [c_ h1];refine .inl ⟨⟨17,ee,rfl⟩,?_⟩;grind [U9,uZ,qm]
  grind
theorem UE(hb:aI b)(h0:(eJ b).1=0) : ((∃e,e≠0/\cx 255 ⟨0,(eJ b).2⟩=(0,⟨e,(eJ b).2⟩))/\lx b=none)\/ (∃kind j:Nat,cx 255 ⟨0,(eJ b).2⟩=((kind:Int),⟨0,(eJ b).2.drop j⟩)/\j<=(eJ b).2.length/\lx b=if 262144<(eJ b).2.length-j then none else some ⟨kind,(eJ b).2.drop j⟩):=by
 have a:=yo hb;unfold lx cx;obtain⟨p,c⟩:∃p,eJ b=(0,p):=⟨(eJ b).2,by rw[<-h0]⟩;rw[c]at a ⊢;dsimp only at a ⊢;simp only[ne_eq,not_true_eq_false,if_false];cases hr:Ft 0 0 p with
  | form=>grind
  | ended=>grind
  | ok n k=>
  have d:=rD a hr;dsimp only;by_cases h1:(max 255 0:Int)<n;.rw [c_ h1,c_ (Or.inl ez)];grind
  rw [b_ h1];grind
structure Ry where
 kind:Int
 y:Fy
def Ry.rc(r:Ry):Rc:=⟨r.kind,r.y.bs⟩
abbrev gA(r:Ry):Xa:=[.int .i64 r.kind,cD r.y]
theorem qz(r:Ry):(gA r).length=2:=rfl
def oi(rs:List Ry):aF:=star (rs.map λr=>FD r.y)
theorem Ls(a b:List Ry):oi (a++b)=oi a*oi b:=by grind [oi,uF]
theorem UF(r:Ry):oi [r]=FD r.y:=by grind [oi,star,wX]
theorem Cd:∀{rs:List Ry} {H:aC} {F:List aF},aA H (oi rs::F)->∀r∈rs,aQ H r.y.a (r.y.bs.map U8)
 | [],_,_,_,r,b=>by cases b
 | x::rs,H,F,h,r,b=>by
  have c:aA H (FD x.y::oi rs::F):=gZ.1 h
  rcases DL.1 b with rfl|b
  .exact c.a_ 0 rfl
  .exact Cd c.tl r b
theorem abk:Fh Tryz.prog 344 457 2 32:=fU kf
theorem UG(h:aA H F)(i:∀H,aA H F->aQ H a (b.map U8))(v:b.length<=1099511627776) (k:∀f d e,aA e (ay 5 1 f b.length d (b.map U8)::F)->K (.slice f b.length d) e):CF 424 #[.slice a b.length c] H K:=by
 refine cM 424 476 ⟨λu=>?_,λu=>?_⟩
 .have:a=none:=by simp_all
  subst this;have w:=oJ (i H h);have:b=[]:=by simp_all
  subst this;exact k none 0 H (h.cp 5 1)
 refine h.al λbs x h=>?_;have t:=i _ h.tl;have n:=aA.EG (cs:=[]) h 1 0 rfl;refine aA.append (m:=b.length) tT n 0 rfl t eh (oK (λ_=>rfl) _) ez ez λf d e s=>⟨_,_,_,rfl,?_⟩;have j:aA e (ay 5 1 f (0+b.length) d ([]++b.map U8)::F):=s;rw[CB,Hc]at j;have:=k f d e j;rw[<-CB b.length]at this;exact this
theorem UH{c:Nat}(h:aA H F)(B:∀H,aA H F->aQ H a (b.map U8))(hb:aI b)(w:b.length<=1099511627776)(D:b.length<=c) (k1:∀(r:Ry) i,lx b=some r.rc->aA i (FD r.y::F)->K (.tuple #[.agg #[.int .i64 r.kind,cD r.y],.bool true]) i) (k2:∀i,lx b=none->aA i F->K (.tuple #[.agg #[.int .i64 0,.slice none 0 0],.bool false]) i) : CF 386 #[.slice a b.length c] H K:=by
 refine Rg (h.al λbs N h=>Ln h (λH h=>B H h.tl) hb w D (λa1 c1 p x f h=>?_) λe x t f h=>?_)
 .refine⟨_,_,_,_,rfl,(λu=>by cases u),λ_=>?_⟩;have A:p.length<=b.length:=by have:=congrArg List.length (BU f);grind [rR]
  have n:aI p:=by have:=yo hb;rwa[f]at this
  have d:=UE hb (by rw[f]);rw[f]at d;dsimp only at d;refine tD h (λH h=>h.a_ 0 rfl) ez λrb C h=>⟨_,rfl,uY h n (by grind) (by unfold aG;omega) λL h=>⟨_,rfl,_,nE h,_,λ_=>ql h,λm=>?_,λm=>?_⟩⟩;.refine h.st 2 rfl rfl λE h=>⟨_,_,_,_,h.q 2,k2 _ ?_ h.tl.tl.tl⟩;grind
  rcases d with ⟨⟨e,t,s⟩,_⟩|⟨kind,j,s,J,v⟩;.rw [s]at m;simp[t]at m
  rw [s]at m h ⊢;dsimp only at h ⊢;simp only[WD,decide_true,Bool.not_true,q33,C5]at m;rw[nO]at v;refine⟨_,ql h,?_⟩;dsimp only;have G:i64.wrap ((p.length:Int)-((p.drop j).length:Int))=(j:Nat):=by grind [aN]
  have I:=h.CD 1 rfl;rw[G,Fu];refine⟨⟨ez,ez,ez⟩,?_⟩;rw[show p.length-j=(p.drop j).length by grind];refine UG h (λH h=>by have:=(h.a_ 1 rfl).agR (k:=j) (c:=c1) (by grind);rwa[<-List.map_drop]at this) (by grind) λa5 c5 E h=>⟨_,_,_,rfl,h.st 3 rfl rfl λM h=>⟨_,_,_,_,h.q 3,k1 ⟨kind,⟨a5,c5,p.drop j⟩⟩ _ v (h.o [0] 4)⟩⟩
 refine⟨_,_,_,_,rfl,λ_=>?_,λu=>by simp[t]at u⟩;refine h.st 0 rfl rfl λC h=>⟨_,_,_,_,h.q 0,k2 _ ?_ h.tl⟩;unfold lx;grind
theorem UI(h:aA H F)(R:∀H,aA H F->aQ H a (b.map U8))(hb:aI b)(O:b.length<=1099511627776) (k:∀(rs:List Ry) a' c' f,rs.map Ry.rc=(eV b).1->aA f (ay 457 2 a' rs.length c' (flat gA rs)::oi rs::F)->K (.tuple #[.slice a' rs.length c',.int .i64 (eV b).2]) f) : CF 316 #[.slice a b.length c] H K:=by
 refine cN 316 0x11112a621399512139912139914c [[(4,sS),(5,sI)],[(4,sS),(5,sI)]] (tD h R O λrb Q h=>⟨_,rfl,λP V=>?_⟩);have fin:∀la lc (rs:List Ry) (w:Nat) s t f,j5 t=none->eV b=(rs.map Ry.rc++(eV t).1,w+(eV t).2)->aA f (kb rb s::ay 457 2 la rs.length lc (flat gA rs)::oi rs::F)->P la rs.length lc w f:=by intro la lc rs w s t f C j h';refine V _ _ _ _ _ ?_;rw[BZ C,Hz,q28]at j;have:=k rs la lc f (by rw[j]) h'.tl;rwa[j]at this
 refine⟨λla N lc bs f=>∃(rs:List Ry) (w:Nat),N=rs.length/\bs=w/\w<=b.length/\rs.length<=w/\eV b=(rs.map Ry.rc++(eV (b.drop w)).1,w+(eV (b.drop w)).2)/\ aA f (kb rb ⟨0,b.drop w⟩::ay 457 2 la rs.length lc (flat gA rs)::oi rs::F),λ_ _ _ bs _=>b.length-bs.toNat,⟨[],0,rfl,rfl,EA _,EA _,eh,?_⟩,?_⟩;.have M:aA Q (oi []::kb rb ⟨0,b⟩::F):=B8.2 h;have G:=(M.cp 457 2).o [2,0,1] 3;exact G
 rintro la N lc bs H2 ⟨rs,w,rfl,rfl,hw,Z,j,h⟩;have d:aI (b.drop w):=qm _ hb;refine⟨_,ql h,λm=>?_,λm=>?_⟩
 .refine oQ h d (by grind) (by unfold aG;omega) λH3 h=>⟨_,rfl,_,nE h,λm=>?_,λm=>?_⟩
  .rcases Lr d with ⟨⟨e,u,i⟩,C⟩|⟨kk,n,D,A,I,v⟩;.rw [i]at h;exact fin _ _ _ _ _ _ _ C j h
   rw [D]at m;simp at m
  rcases Lr d with ⟨⟨e,u,i⟩,C⟩|⟨kk,n,D,A,I,v⟩;.rw [i]at m;simp[u]at m
  rw [D]at h ⊢;dsimp only at h ⊢;obtain⟨t,x⟩:∃t,((b.drop w).drop kk).take n=t:=⟨_,rfl⟩;rw[x]at v ⊢;have B:aI t:=by rw[<-x];exact uZ _ (qm _ d)
  have h0:t.length<=b.length:=by grind
  rw[WD]at A;refine xF B h λa4 c4 H4 h=>⟨_,_,_,rfl,?_⟩;have L:=h.CD 0 rfl;refine UH h (λH h=>h.a_ 0 rfl) B ez L (λr Y E h=>⟨_,_,_,_,_,rfl,?_⟩) λY E h=>⟨_,_,_,_,_,rfl,?_⟩
  .refine h.al λb6 H6 h=>h.st 0 rfl rfl λT h=>⟨(λJ=>by cases J),λ_=>⟨_,_,_,_,h.q 0,?_⟩⟩;rw[E,HV]at v;rw[List.drop_drop]at h;intro _ _ rfl rfl;refine h.CA abk 4 rfl rfl rfl ez ez λa8 c8 W h=>⟨_,_,_,rfl,?_⟩;have h:=h.o [3,4,5,1] 6;refine⟨_,ql h,?_⟩;have e1:i64.wrap ((b.length:Int)-((b.drop (w+(kk+n))).length:Int))=((w+(kk+n):Nat):Int):=by grind [aN]
   dsimp only;conv=>whnf
   rw[e1];refine⟨⟨rs++[r],w+(kk+n),eh,rfl,ez,by grind,?_,?_⟩,by grind⟩;.grind [Ca,List.drop_drop]
   rw [Ls,UF,iX,nv,qa,q29];have M:=h.o [0,1,2,3] 4;have G:aA W (ay 457 2 a8 (rs.length+1) c8 (flat gA rs++gA r)::kb rb ⟨0,b.drop (w+(kk+n))⟩::oi rs::FD r.y::F):=h.o [1,0,2,3] 4;have U:=G.o [2,3,1,0] 4;have S:=gZ.2 U;exact S.o [1,2,0] 3
  refine h.al λb6 H6 h=>h.st 0 rfl rfl λT h=>⟨λ_=>?_,(λJ=>by cases J)⟩;rw[E,Option.map_none]at v;exact fin _ _ _ _ _ _ _ v j (h.o [2,3,4] 5)
 have hd:b.drop w=[]:=by grind [List.drop_eq_nil_of_le]
 exact fin _ _ _ _ _ _ _ (by rw[hd];rfl) j h
def je(kind:Int)(n:Nat):Int:=if kind<0\/255<kind then 11 else if 262144<n then 17 else 0
theorem yp(hb:aI b)(h:je f b.length=0):(⟨f,b⟩:Rc).ok:=by
 unfold je at h;split at h;.cases h
 split at h;.cases h
 exact⟨by grind,by grind,by grind,hb⟩
theorem UJ(h:r.ok):je r.kind r.data.length=0:=by have:=h.k0;have:=h.k1;have:=h.len;unfold je;grind
theorem vH{F:List aF}{sz:Nat}(h:aA H (ay j sz a n c G::F)):a=none\/∃b o,a=some ⟨b,o,none⟩:=by
 rcases (kw (F:=star F) h).2 with ⟨d,_⟩|⟨b,pre,post,f,fr,d,_⟩;.grind
 grind
theorem UK(h:aA H F)(A:∀H,aA H F->aQ H a (b.map U8))(T:a=none\/∃bs o,a=some ⟨bs,o,none⟩)(hb:aI b)(O:b.length<=1099511627776) (k1:∀v t i,je f b.length=0->aA i (ay 5 1 v (bR ⟨f,b⟩).length t ((bR ⟨f,b⟩).map U8)::F)->K (.tuple #[.slice v (bR ⟨f,b⟩).length t,.int .i64 0]) i) (k2:∀i,je f b.length≠0->aA i F->K (.tuple #[.slice none 0 0,.int .i64 (je f b.length)]) i) : CF 280 #[.agg #[.int .i64 f,.slice a b.length c]] H K:=by
 refine cM 280 122140 (h.al λbs V h=>⟨_,h.r 0,_,λ_=>h.r 0,λL=>?_,λL=>?_⟩)
 .have B:f<0\/255<f:=by grind
  have e:je f b.length=11:=by unfold je;grind
  have:=k2 _ (by grind) h.tl;rwa[e]at this
 have B:¬(f<0\/255<f):=by grind
 refine⟨_,_,_,h.r 0,λn=>?_,λn=>?_⟩
 .have G:262144<b.length:=by grind
  have e:je f b.length=17:=by unfold je;grind
  have:=k2 _ (by grind) h.tl;rwa[e]at this
 have J:¬262144<b.length:=by grind
 have e:je f b.length=0:=by unfold je;grind
 have k:=yp hb e;have j:=vG k;obtain⟨u,C⟩:∃u:Nat,f=u:=⟨f.toNat,ez⟩;refine⟨_,h.r 0,_,_,_,h.r 0,?_⟩;rw[aac (x:=f) ez ez];refine h.al λb1 P h=>⟨h.r 1,AV (u:=u) h (λH h=>by rw[<-C];exact h.ew 0 rfl) ez λa3 c3 Q h=>⟨_,_,_,rfl,h.r 2,h.al λb2 N h=>?_⟩⟩;have w:=vH h.tl;have s:([⟨a3,c3,bS u⟩,⟨a,c,b⟩]:List Fy).flatMap Fy.bs=bS u++b:=eh;have M:=Lo (u:=u) ez;have up:=xA u;refine U5 (parts:=[⟨a3,c3,bS u⟩,⟨a,c,b⟩]) h (λH h=>h.ew 0 rfl) (λH h y kind=>?_) (λy kind=>?_) (λy kind=>?_) (w_ _) (w_ _) (Nat.le_of_ble_eq_true rfl) (by grind) (by grind) λa5 c5 S h=>⟨_,_,_,rfl,?_⟩
 .simp only[DL,q2j,or_false]at kind;rcases kind with rfl|rfl;.exact h.a_ 1 rfl
  exact A _ h.tl.tl.tl.tl
 .grind
 .simp only[DL,q2j,or_false]at kind;rcases kind with rfl|rfl;.exact qk _
  exact hb
 rw [s]at h ⊢;have I:ei (bS u++b)=im ⟨f,b⟩:=by grind [im]
 rw[I]at h ⊢;conv=>whnf
 rw[aac (x:=(((im ⟨f,b⟩).length:Nat):Int)) ez ez];refine h.al λb3 U h=>AV (u:=(im ⟨f,b⟩).length) h (λH h=>h.ew 0 rfl) ez λa7 c7 R h=>⟨_,_,_,rfl,?_⟩;have D:=BW j.1;refine aA.append (m:=(im ⟨f,b⟩).length) (ws:=(im ⟨f,b⟩).map U8) tT h 0 rfl (h.a_ 2 rfl) eh (oK (λ_=>rfl) _) ez ez λa8 c8 E h=>⟨_,_,_,rfl,?_⟩;have d:=k1 a8 c8 E e;unfold bR at d;rw[qa,F4]at d;exact d (h.o [0] 7)
def gB(rows:DR):Prop:=∀r∈rows,(0<=r.1/\r.1<=2147483647)/\0<=r.2/\r.2<256
theorem gB.bytes(h:gB t)(f:Int):aI (bytesOf f t):=by intro x a;unfold bytesOf at a;obtain⟨r,b,rfl⟩:=zb.1 a;exact (h r (q2s.1 b).1).2
theorem gB.app(h:gB t)(d:0<=f/\f<=2147483647)(hb:aI b):gB (t++b.map λbs=>(f,bs)):=by
 intro r a;rcases DA.1 a with a|a;.exact h r a
 obtain⟨bs,c,rfl⟩:=zb.1 a;exact⟨d,hb bs c⟩
theorem gB.take{rows:DR}(h:gB rows)(n:Nat):gB (rows.take n):=λr a=>h r (RE a)
theorem gB.filter{rows:DR}(h:gB rows)(p:Int×Int->Bool):gB (rows.filter p):=λr a=>h r (q2s.1 a).1
structure RL where
 most:Int
 hS:Int
 next:Nat
 syn:Nat
variable {s:RL}
structure RL.ok(s:RL):Prop where
 hS:0<=s.hS/\s.hS<=2147483647
 most:64<=s.most/\s.most<=1048576
 next:s.next<=1099511627776
 syn:s.syn<=1099511627776
def km(rb db:Nat)(s:RL):aF:=ax rb [.pointer (some ⟨db,0,none⟩),.int .i64 s.most,.int .i64 s.hS,.int .i64 s.next,.int .i64 s.syn] 402
def qA(rows:DR)(s:RL)(n:Nat):Bool:=decide (0<(bytesOf s.hS rows).length)&&decide (s.most<(((bytesOf s.hS rows).length+n:Nat):Int))
def jf(rows:DR)(s:RL)(r:Rc):Int:=
 if je r.kind r.data.length≠0 then je r.kind r.data.length else if qA rows s (bR r).length=true/\s.hS=2147483647 then 20 else 0
def dD(rows:DR)(s:RL)(r:Rc):RL:=if jf rows s r≠0 then s else { s with hS:=if qA rows s (bR r).length then s.hS+1 else s.hS,next:=s.next+1 }
def gS(rows:DR)(s:RL)(r:Rc):DR:=if jf rows s r≠0 then rows else rows++(bR r).map λb=>((dD rows s r).hS,b)
def YE(rows:DR)(s:RL)(r:Rc):Int:=if jf rows s r≠0 then -1 else s.next
theorem Ce(hb:aI r.data)(h:jf t s r=0):r.ok:=by
 unfold jf at h;split at h;.rename_i a;exact cS h a
 rename_i a;let⟨k,d⟩:=r;exact yp hb (Classical.not_not.1 a)
theorem adi{rows:DR}(h:s.ok):0<=(dD rows s r).hS/\(dD rows s r).hS<=2147483647:=by have:=h.hS;grind [dD,jf]
theorem Lt(i:t.length<=1099511627776)(h:aA H (eG n t j::F)) (k:∀a c e b,aA b (ay 5 1 a (bytesOf f t).length c ((bytesOf f t).map U8)::eG n t j::F)->K (.tuple #[.slice a (bytesOf f t).length c,.int .i64 e]) b) : CF 282 #[.pointer (some ⟨n,0,none⟩),.int .i64 f] H K:=by
 refine Uq i h (λd b h=>?_) λd a c b h=>?_;.have:=k none 0 23 b;rw[d]at this;exact this (h.cp 5 1)
 exact k a c 0 b h
theorem UL(h:aA H F)(E:∀H,aA H F->aQ H a (A.map cD))(J:∀H,aA H F->∀y∈A,aQ H y.a (y.bs.map U8))(O:A.length<=1099511627776)(L:(A.flatMap Fy.bs).length<=262144) (k:∀v u n,aA n (ay 5 1 v (A.flatMap Fy.bs).length u ((A.flatMap Fy.bs).map U8)::F)->K (.slice v (A.flatMap Fy.bs).length u) n) : CF 281 #[.slice a A.length c] H K:=by
 refine cN 281 0x1121a6123992512139944c [[(3,sS),(8,sI)],[(3,sS)]] ?_;intro N D;have d:∀j,((A.take j).flatMap Fy.bs).length<=(A.flatMap Fy.bs).length:=by grind [List.take_append_drop]
 refine⟨λparts on w i n=>∃j:Nat,i=j/\j<=A.length/\on=((A.take j).flatMap Fy.bs).length/\aA n (ay 5 1 parts ((A.take j).flatMap Fy.bs).length w (((A.take j).flatMap Fy.bs).map U8)::F),λ_ _ _ i _=>A.length-i.toNat,⟨0,rfl,EA _,rfl,h.cp 5 1⟩,?_⟩;rintro parts on w i M ⟨j,rfl,Q,rfl,h⟩;have G:=d j;refine⟨λI=>?_,λI=>?_⟩
 .have b:j<A.length:=by grind
  have t:=(E _ h.tl).at b;have B:=J _ h.tl _ (s_ b);have f:=BQ b;have e:=d (j+1);rw[f,qa]at e;refine⟨⟨ez,ez⟩,_,_,t.1,_,_,_,t.2,λC=>?_,λ_=>?_⟩;.have:=ke C;omega
  refine aA.append (m:=A[j].bs.length) (ws:=A[j].bs.map U8) tT h 0 rfl B eh (oK (λ_=>rfl) _) ez ez λa8 c8 P h=>⟨_,_,_,rfl,?_⟩;conv=>whnf
  rw[aN (x:=(j:Int)+1)];refine⟨⟨j+1,rfl,b,by grind,?_⟩,by grind⟩;rw[f,qa,F4];exact h
 have s:j=A.length:=by grind
 subst s;rw[FE]at h ⊢;refine D _ _ _ _ (k _ _ _ h)
theorem UM(h:aA H (km n c s::F)):bX Tryz.prog 208 #[.pointer (some ⟨n,0,none⟩)] H (.int .i64 s.syn):=by unfold bX;refine cM 208 28 ⟨_,h.r 0,rfl,rfl⟩
theorem Lu(h:aA H (km n c s::F)):bX Tryz.prog 212 #[.pointer (some ⟨n,0,none⟩)] H (.int .i64 s.hS):=by unfold bX;refine cM 212 28 ⟨_,h.r 0,rfl,rfl⟩
theorem Lv(hs:0<=s.hS/\s.hS<=2147483647)(h:aA H (km n c s::F)) (k1:s.hS=2147483647->∀a,aA a (km n c s::F)->K (.tuple #[.int .i64 (-1),.int .i64 20]) a) (k2:s.hS≠2147483647->∀a,aA a (km n c { s with hS:=s.hS+1 }::F)->K (.tuple #[.int .i64 (s.hS+1),.int .i64 0]) a) : CF 210 #[.pointer (some ⟨n,0,none⟩)] H K:=by
 refine cM 210 7452 ⟨_,h.r 0,λb=>k1 (by grind) _ h,λb=>⟨_,h.r 0,?_⟩⟩;conv=>whnf
 rw[aN (x:=s.hS+1)];exact h.st 0 rfl rfl λa h=>⟨_,h.r 0,k2 (by grind) _ h⟩
theorem Lw{F:List aF}{syn:Nat}(h:aA H (km n c s::eG c t syn::F))(k:∀a,aA a (km n c { s with syn:=s.next }::eG c t t.length::F)->K (.tuple #[]) a) : CF 124 #[.pointer (some ⟨n,0,none⟩)] H K:=by refine cM 124 20 ⟨_,h.r 0,Up (F:=km n c s::F) (h.o [1,0] 2) λb h=>⟨rfl,_,h.r 1,h.st 1 rfl rfl λa h=>k _ (h.o [1,0] 2)⟩⟩
theorem Lx{F:List aF}{rb:Nat}{db:Nat}{syn:Nat}{parts:List Fy}{kind:Int}(hs:s.ok)(W:t.length<=549755813888)(h:aA H (km rb db s::eG db t syn::F)) (A:∀H,aA H F->aQ H a (parts.map cD)) (u:∀H,aA H F->∀y∈parts,aQ H y.a (y.bs.map U8)) (hb:aI (parts.flatMap Fy.bs)) (Q:parts.length<=1099511627776) (C:(parts.flatMap Fy.bs).length<=262144) (k:∀m,aA m (km rb db (dD t s ⟨kind,parts.flatMap Fy.bs⟩)::eG db (gS t s ⟨kind,parts.flatMap Fy.bs⟩) syn::F)->K (.tuple #[.int .i64 (YE t s ⟨kind,parts.flatMap Fy.bs⟩),.int .i64 (jf t s ⟨kind,parts.flatMap Fy.bs⟩)]) m) : CF 211 #[.pointer (some ⟨rb,0,none⟩),.int .i64 kind,.slice a parts.length c] H K:=by
 refine cN 211 80240258818644764 [[]] ?_;have rows:=hs.hS;have I:=hs.most;have S:=hs.next;refine UL h (λH h=>A H h.tl.tl) (λH h=>u H h.tl.tl) Q C λa1 c1 Z h=>⟨_,_,_,rfl,?_⟩;obtain⟨d,hd⟩:∃d,parts.flatMap Fy.bs=d:=⟨_,rfl⟩;rw[hd]at hb C h k ⊢;refine UK h (λH h=>h.a_ 0 rfl) (vH h) hb ez (λa2 c2 D j h=>⟨_,_,_,_,rfl,(λf=>by cases f),λ_=>?_⟩) λD j h=>⟨_,_,_,_,rfl,λ_=>?_,λf=>by simp[j]at f⟩
 .have n:=rS (yp hb j);have B:=tU (yp hb j);dsimp only at n;obtain⟨r,L⟩:∃r:Rc,(⟨kind,d⟩:Rc)=r:=⟨_,rfl⟩;have R:je r.kind r.data.length=0:=by grind
  rw[L]at h n B k ⊢;have P:=vD s.hS t;refine⟨_,h.r 2,_,h.r 2,Lt (F:=ay 5 1 a2 (bR r).length c2 ((bR r).map U8)::ay 5 1 a1 d.length c1 (d.map U8)::km rb db s::F) ez (h.o [3,0,1,2] 4) λa3 c3 e3 H3 h=>⟨_,_,_,_,rfl,λ_=>trivial,_,λ_=>h.r 4,λY G=>?_⟩⟩;have J:i64.wrap (((bytesOf s.hS t).length:Int)+((bR r).length:Int))=(((bytesOf s.hS t).length+(bR r).length:Nat):Int):=by grind [aN]
  have N:(decide ((0:Int)<((bytesOf s.hS t).length:Int))&&decide (s.most<(((bytesOf s.hS t).length+(bR r).length:Nat):Int)))=qA t s (bR r).length:=by unfold qA;grind
  rw[J,N];have e:∀g m,0<=g/\g<=2147483647->jf t s r=0->dD t s r={ s with hS:=g,next:=s.next+1 }->aA m (km rb db { s with hS:=g }::eG db t syn::ay 5 1 a2 (bR r).length c2 ((bR r).map U8)::F)->Jo.r1 rb 0 K a2 (bR r).length c2 m:=by
   intro g m V e0 O h;unfold Jo.r1;refine⟨_,h.r 0,_,h.r 0,h.al λb w h=>⟨h.r 1,h.r 1,?_⟩⟩;have T:([⟨a2,c2,bR r⟩]:List Fy).flatMap Fy.bs=bR r:=eh;refine Uv (F:=ax b [.slice a2 (bR r).length c2] 63::km rb db { s with hS:=g }::ay 5 1 a2 (bR r).length c2 ((bR r).map U8)::F) (pc:=1) (parts:=[⟨a2,c2,bR r⟩]) (by grind) eh (λH h=>⟨h.ew 0 rfl,λp u=>by rw[CS]at u;subst u;exact h.a_ 2 rfl⟩) (h.o [2,0,1,3] 4) (λf=>cS f (by grind)) λ_ H5 h=>⟨_,rfl,(λf=>by cases f),λ_=>⟨_,h.r 2,?_⟩⟩;conv=>whnf
   rw[aN (x:=(s.next:Int)+1)];refine h.st 2 rfl rfl λU h=>⟨_,h.r 2,?_⟩;have i:=k U;rw[show YE t s r=s.next by unfold YE;grind,e0,show gS t s r=t++(bR r).map (λb=>(g,b)) by unfold gS;grind,O]at i;have en:i64.wrap (((s.next:Int)+1)-1)=s.next:=by grind [aN]
   conv=>whnf
   rw[en];refine i ?_;have A:jH g [(⟨a2,c2,bR r⟩:Fy)]=(bR r).map (λb=>(g,b)):=by simp[jH]
   have h:=h.o [2,0] 4;rw[<-A];exact h
  have e0:jf t s r=if qA t s (bR r).length=true/\s.hS=2147483647 then 20 else 0:=by unfold jf;grind
  refine⟨λv=>?_,λv=>?_⟩
  .refine Lv (F:=ay 5 1 a3 (bytesOf s.hS t).length c3 ((bytesOf s.hS t).map U8)::eG db t syn::ay 5 1 a2 (bR r).length c2 ((bR r).map U8)::ay 5 1 a1 d.length c1 (d.map U8)::F) rows (h.o [4,0,1,2,3] 5) (λhm w h=>⟨_,_,rfl,λ_=>?_,(λf=>by cases f)⟩) λhm w h=>⟨_,_,rfl,(λf=>by cases f),λ_=>G _ ?_⟩;.rw [c_ ⟨v,hm⟩]at e0;have i:=k w;unfold YE dD gS at i;rw[e0,c_ ee,c_ ee,c_ ee]at i;exact i (h.o [0,2] 5)
   rw [b_ (λE=>hm E.2)]at e0;exact e (s.hS+1) _ ez e0 (by unfold dD;grind) (h.o [0,2,3] 5)
  have M:qA t s (bR r).length=false:=v;rw[b_ (λE=>by grind)]at e0;exact G _ (e s.hS _ rows e0 (by unfold dD;grind) (h.o [4,1,2] 5))
 have e0:jf t s ⟨kind,d⟩=je kind d.length:=by unfold jf;grind
 have i:=k D;unfold YE dD gS at i;rw[e0,c_ j,c_ j,c_ j]at i;exact i (h.o [1,2] 3)
def du(rows:DR):List Rc:=(bG rows).flatMap λf=>(eV (bytesOf f rows)).1
def jI(rows:DR):Int:=match (bG rows)[(bG rows).length-1]? with
 | none=>0
 | some f=>f+1
def gh(most:Int)(rows:DR):Int:=if most<64\/1048576<most then 11 else if 2147483647<jI rows then 20 else 0
def jg(below:Int)(rows:DR):DR:=rows.filter λr=>decide (below<=r.1)
theorem Ly(hb:aI b):(eV b).1.length<=b.length:=by
 let⟨e,f,c⟩:=Cc (w_ _) hb;have d:=congrArg List.length c;rw[q23]at d;have:∀a:List Rc,(∀r∈a,r.ok)->a.length<=(a.flatMap bR).length:=by intro a;induction a with
   | nil=>grind
   | cons r a ih=>grind [rS]
 grind
theorem UN(rows:DR):(bG rows).Nodup:=(qx rows).imp λh=>ez
theorem Cf(h:gB t):(du t).length<=t.length:=by have a:=BB t (bG t) (UN t) λr b=>lw.2 (zb.2 ⟨r,b,rfl⟩);rw[<-a];unfold du;generalize bG t=l;induction l with
  | nil=>simp
  | cons f l ih=>rw[O_,qa,Hy,List.sum_cons];have:=Ly (h.bytes f);omega
theorem Lz{α β:Type}(f:α->List β)(l:List α)(j:Nat):((l.take j).flatMap f).length<=(l.flatMap f).length:=by grind [List.take_append_drop]
theorem UO{α β:Type}(f:α->List β){l:List α}(h:j<l.length):(l.take (j+1)).flatMap f=(l.take j).flatMap f++f l[j]:=by grind [List.take_succ_eq_append_getElem]
theorem vI(h:n+1=(bG t).length):∃f,(bG t)[n]?=some f/\jI t=f+1/\f∈bG t:=by have a:n<(bG t).length:=ez;refine⟨_,List.getElem?_eq_getElem a,?_,s_ a⟩;grind [jI]
theorem yq(h:(bG t).length=0):jI t=0:=by grind [jI]
theorem gB.file(h:gB t)(b:f∈bG t):0<=f/\f<=2147483647:=by obtain⟨r,a,rfl⟩:=zb.1 (lw.1 b);exact (h r a).1
theorem L0(h:gB t):0<=jI t/\jI t<=2147483648:=by cases hn:(bG t).length with
  | zero=>grind [yq]
  | succ n=>let⟨f,b,c,a⟩:=vI hn.symm;have:=h.file a;omega
def kR(below:Int)(rows:DR)(j:Nat):DR:=rows.filter λr=>!(decide (r.1∈(bG rows).take j)&&decide (r.1<below))
theorem UP(below:Int)(rows:DR):kR below rows 0=rows:=by unfold kR;simp
theorem UQ(below:Int)(rows:DR):kR below rows (bG rows).length=jg below rows:=by unfold kR jg;refine List.filter_congr λr a=>?_;rw[FE,RD (lw.2 (zb.2 ⟨r,a,rfl⟩)),Bool.true_and,<-decide_not];grind
theorem US{below:Int}(h:j<(bG t).length) : kR below t (j+1)=if (bG t)[j]<below then (kR below t j).filter (λr=>decide (r.1≠(bG t)[j])) else kR below t j:=by
 have hm:∀x,decide (x∈(bG t).take (j+1))=(decide (x∈(bG t).take j)||decide (x=(bG t)[j])):=by intro x;rw[<-Bool.decide_or];refine decide_eq_decide.2 ?_;grind [List.take_succ_eq_append_getElem]
 split;.rename_i a;unfold kR;rw[List.filter_filter];grind
 rename_i b;unfold kR;grind
theorem UT{F:List aF}{below:Int}(rb:t.length<=1099511627776)(hs:j<=t.length)(h:aA H (km n c s::eG c t j::F)) (k1:j<t.length->∀b,aA b (km n c s::eG c t j::F)->K (.int .i64 21) b) (k2:¬j<t.length->∀b,aA b (km n c s::eG c (jg below t) (jg below t).length::F)->K (.int .i64 0) b) : CF 209 #[.pointer (some ⟨n,0,none⟩),.int .i64 below] H K:=by
 refine cN 209 0x1d21561239925117494c [[],[(19,sI)]] ⟨_,h.r 0,BK (F:=km n c s::F) rb (h.o [1,0] 2) λG h=>⟨_,rfl,λd=>?_,λd=>?_⟩⟩;.have:=ke d;exact k1 ez _ (h.o [1,0] 2)
 have d:=ix d;have k:j=t.length:=ez;refine⟨_,h.r 1,Li rb h λfa fc C h=>⟨_,_,_,rfl,?_⟩⟩;have w:=Lk t;refine⟨λi b=>∃syn:Nat,i=syn/\syn<=(bG t).length/\aA b (ay 3 1 fa (bG t).length fc ((bG t).map aD)::eG c (kR below t syn) (kR below t syn).length::km n c s::F),λi _=>(bG t).length-i.toNat,⟨0,rfl,EA _,?_⟩,?_⟩;.rw [UP,<-k];exact h
 rintro i D ⟨syn,rfl,E,h⟩;refine⟨λd=>?_,λd=>?_⟩
 .have f:syn<(bG t).length:=by grind
  have rows:=(h.a_ 0 rfl).at f;refine⟨⟨ez,ez⟩,_,_,rows.1,_,rows.2,λv y=>?_⟩;have a:=US (below:=below) f;have next:∀b,aA b (ay 3 1 fa (bG t).length fc ((bG t).map aD)::eG c (kR below t (syn+1)) (kR below t (syn+1)).length::km n c s::F)->v b:=by
   intro b h;refine y _ ?_;conv=>whnf
   rw[aN (x:=(syn:Int)+1)];grind
  refine⟨λdb=>⟨_,h.r 2,?_⟩,λdb=>?_⟩
  .have db:(bG t)[syn]<below:=ke db;rw[c_ db]at a;refine Ur (F:=ay 3 1 fa (bG t).length fc ((bG t).map aD)::km n c s::F) (h.o [1,0,2] 3) (λB u h=>⟨_,rfl,next _ ?_⟩) (λ_ A=>cS A (Nat.lt_irrefl _)) λB _ u h=>⟨_,rfl,next _ ?_⟩
   .have e:(kR below t syn).filter (λr=>decide (r.1≠(bG t)[syn]))=kR below t syn:=by grind [List.filter_eq_self,KW]
    rw[a,e];exact h.o [1,0,2] 3
   rw [a];exact h.o [1,0,2] 3
  have db:¬(bG t)[syn]<below:=ix db;rw[b_ db]at a;refine next _ ?_;rw[a];exact h
 have m:syn=(bG t).length:=by grind
 subst m;rw[UQ]at h;exact k2 ez _ (h.o [2,1] 3)
section
variable {F L:List aF}{H:aC}{K:KE}{rb db pb:Nat}{rows:DR}{syn:Nat}{s:RL}{most:Int}
abbrev KT(most:Int)(rows:DR):RL:=⟨most,jI rows,(du rows).length,(du rows).length⟩
def rT(rows:DR)(j:Nat):List Rc:=((bG rows).take j).flatMap λf=>(eV (bytesOf f rows)).1
theorem L2(h:gB rows)(j:Nat):(rT rows j).length<=rows.length:=DC (Lz _ _ _) (Cf h)
theorem UU{j:Nat}(h:j<(bG rows).length):rT rows (j+1)=rT rows j++(eV (bytesOf (bG rows)[j] rows)).1:=UO _ h
theorem adm:rT rows (bG rows).length=du rows:=by grind [rT,du]
theorem UV{a b:List Ry}(h:aA H (oi a::oi b::F)):aA H (oi (a++b)::F):=by rw[Ls];exact gZ.2 h
theorem L3(r:Ry):cU (gA r)=true:=rfl
theorem UW(ok:gB rows)(D:rows.length<=1099511627776)(h:aA H (eG db rows syn::F)) (k1:gh most rows=0->∀(rs:List Ry) a c rb b,rs.map Ry.rc=du rows->aA b (km rb db (KT most rows)::ay 457 2 a rs.length c (flat gA rs)::oi rs::eG db rows syn::F)->K (.tuple #[.pointer (some ⟨rb,0,none⟩),.slice a rs.length c,.int .i64 0]) b) (k2:gh most rows≠0->∀b,aA b (eG db rows syn::F)->K (.tuple #[.pointer none,.slice none 0 0,.int .i64 (gh most rows)]) b) : CF 246 #[.pointer (some ⟨db,0,none⟩),.int .i64 most] H K:=by
 refine cN 246 0x1d1121749d12156123992511144c [[(9,sS),(38,sI)],[(8,sI)]] ⟨λk=>?_,λk=>?_⟩
 .have hm:most<64\/1048576<most:=by grind
  have e:gh most rows=11:=by unfold gh;grind
  have:=k2 (by grind) _ h;rwa[e]at this
 have hm:¬(most<64\/1048576<most):=by grind
 have J:=L0 ok;refine Li D h λfa fc H1 h=>⟨_,_,_,rfl,λM Q=>?_⟩;have P:=Lk rows;have rest:∀b,aA b (ay 3 1 fa (bG rows).length fc ((bG rows).map aD)::eG db rows syn::F)->M (jI rows) b:=by
  intro b h;refine Q _ _ ⟨λk=>?_,λk=>?_⟩
  .have d:2147483647<jI rows:=ke k;have e:gh most rows=20:=by unfold gh;grind
   have:=k2 (by grind) _ h.tl;rwa[e]at this
  have S:¬2147483647<jI rows:=ix k;have e:gh most rows=0:=by unfold gh;grind
  refine⟨λla E lc i b=>∃(j:Nat) (rs:List Ry),i=j/\j<=(bG rows).length/\E=rs.length/\rs.map Ry.rc=rT rows j/\ aA b (ay 457 2 la rs.length lc (flat gA rs)::oi rs::ay 3 1 fa (bG rows).length fc ((bG rows).map aD)::eG db rows syn::F),λ_ _ _ i _=>(bG rows).length-i.toNat,⟨0,[],rfl,EA _,rfl,rfl,?_⟩,?_⟩;.have v:aA b (oi []::ay 3 1 fa (bG rows).length fc ((bG rows).map aD)::eG db rows syn::F):=B8.2 h;exact v.cp 457 2
  rintro la E lc i H2 ⟨j,rs,rfl,hj,rfl,t,h⟩;have T:rs.length<=rows.length:=by have:=congrArg List.length t;grind [L2]
  refine⟨λk=>?_,λk=>?_⟩
  .have d:j<(bG rows).length:=by grind
   have u:=(h.a_ 2 rfl).at d;refine⟨⟨ez,ez⟩,_,_,u.1,_,u.2,?_⟩;have I:=vD (bG rows)[j] rows;refine Lt (F:=ay 457 2 la rs.length lc (flat gA rs)::oi rs::ay 3 1 fa (bG rows).length fc ((bG rows).map aD)::F) D (h.o [3,0,1,2] 4) λa3 c3 e3 H3 h=>⟨_,_,_,_,rfl,UI h (λH h=>h.a_ 0 rfl) (ok.bytes _) ez λy a4 c4 Z O h=>⟨_,_,_,_,rfl,?_⟩⟩;have W:=Ly (ok.bytes (bG rows)[j]);have s:(rs++y).map Ry.rc=rT rows (j+1):=by grind [UU]
   have C:rs.length+y.length<=rows.length:=by have:=congrArg List.length s;grind [L2]
   refine aA.append (m:=y.length) (ws:=flat gA y) abk h 4 rfl (h.a_ 0 rfl) (dS qz _) (kz L3 _) ez ez λa8 c8 H8 h=>⟨_,_,_,rfl,?_⟩;conv=>whnf
   rw[aN (x:=(j:Int)+1)];refine⟨⟨j+1,rs++y,rfl,d,by grind,s,?_⟩,by grind⟩;have v:=UV (h.o [5,1,4,6,3] 7);rw[iX,qa];exact v.o [1,0,2,3] 4
  have B:j=(bG rows).length:=by grind
  subst B;rw[adm]at t;refine h.al λb1 V h=>?_;have A:=k1 e rs la lc b1 V t;have w:rs.length=(du rows).length:=by grind
  unfold km at A;dsimp only at A;rw[<-w]at A;exact A (h.o [0,1,2,4] 5)
 refine⟨λk=>?_,λk=>?_⟩
 .have G:0<(bG rows).length:=by grind
  obtain⟨n,R⟩:∃n,n+1=(bG rows).length:=⟨(bG rows).length-1,ez⟩;let⟨f,Y,v,N⟩:=vI R;have hf:=ok.file N;have en:i64.wrap (((bG rows).length:Int)-1)=(n:Nat):=by grind [aN]
  have d:n<(bG rows).length:=ez;have u:=(h.a_ 0 rfl).at d;conv=>whnf
  rw[en];have L:(bG rows)[n]=f:=by grind
  rw[L]at u;refine⟨⟨ez,ez⟩,_,_,u.1,_,u.2,?_⟩;conv=>whnf
  rw[aN (x:=f+1),<-v];exact rest _ h
 have U:(bG rows).length=0:=by grind
 have:=rest _ h;rwa[yq U]at this
end
end Go.Proofs.YtlmphkpeajnhjaaGreatDoor
