/-
  Lemmas for FleetKeeps: part 4 of what it rests on. Conditions: none.
-/
import Derived.Test.YtlmphkpeajnhjaaGreatDoorPK3
set_option linter.unusedVariables false
set_option linter.unusedSimpArgs false
set_option maxRecDepth 100000
set_option maxHeartbeats 16000000
open Go.IntKind (i64 u64 i8 u8 i32 u32 i16 u16)
namespace Go.Proofs.YtlmphkpeajnhjaaGreatDoor
open Go
variable {H:aC}{K:KE}{F:List aF}{a:KQ}{c j i:Nat}{s:RS}{Q:aF}{l:bO}{v x:Int}{f:Nat->Int}{b:List Int}{t:Fb}{A:List bO}{B:Type}{D:List Ev}{E:List Fb}{G:Cl}{I:aC->Prop}
theorem JH(c:Cl)(a:j<65):aT (dF c) (7+j)=some (aB (c.h j)):=by refine (A0 (l:=[aB c.n,aB (C4 c.sum),.int .u64 (C6 c.sum),aB c.mn,aB c.mx,aB c.GH,aB c.pos]) j).trans ?_;rw[vi _ _ _ _ _ a,CO]
theorem eqW(x y:Int):i8 Tryz.prog .neq 177 (lM x) (lM y) (!decide (x=y))/\i8 Tryz.prog .eql 177 (lM x) (lM y) (decide (x=y)):=by
 have h:=uN (P:=Tryz.prog) (t:=177) (xs:=[aB (C4 x),.int .u64 (C6 x)]) (ys:=[aB (C4 y),.int .u64 (C6 y)]) (r:=(C4 x == C4 y&&(C6 x == C6 y&&true))) kf;have e:(C4 x == C4 y&&(C6 x == C6 y&&true))=decide (x=y):=by grind
 grind
theorem vk{F:List aF}(wc:WC G)(h:aA H F)(k:∀w,aA w F->K (.bool (gr G)) w):CF 233 #[Fx G] H K:=by
 refine cL 233 (.r (.seq (.r (.cond (.r .no) .no)) (.seq (.r (.DT (.loop [(30,sI)] (.r (.seq (.cond .no .no) (.seq (.DT (.r (.r (.cond (.r .no) .no)))) .CA)))))) (.seq (.r (.cond (.r .no) .no)) (.seq (.r (.cond (.r .no) .no)) (.seq (.RO [(5,sA),(6,sA)]) (.seq (.r (.cond (.r .no) .no)) (.seq (.r (.DT (.FH [sI,sI] [none,(some .ret)] .CA (.DT (.r (.cond (.r .no) .no)))))) (.r .no))))))))) ?_;unfold gr at k;refine h.al λb _ h=>h.al λb1 _ h=>⟨_,h.r 1,_,λ_=>h.r 1,_,λ_=>h.r 1,_,λ_=>h.r 1,_,λ_=>h.r 1,λB=>?_,λB=>?_⟩;.rw [B]at k;refine h.z_ 0 rfl rfl λs h=>⟨_,h.r 0,k _ h.tl.tl⟩
 rw[B]at k;refine⟨G.h,h.rdt (l:=[_,_,_,_,_,_,_]) 1 rfl rfl,⟨λi w=>∃j:Nat,i=j/\j<=65/\(∀q,q<j->0<=G.h q)/\aA w (ax b1 [.bool false] 4::ax b (dF G) 181::F),λi _=>65-i.toNat,⟨0,rfl,ez,λ_ h=>ez,h⟩,?_⟩⟩;rintro i H1 ⟨j,rfl,N,hp,h⟩;refine⟨λx=>?_,λx=>?_⟩
 .have h0:j<65:=by grind
  refine⟨_,acF ez ez,?_⟩;rw[Fw];refine⟨λu=>?_,λu=>?_⟩
  .have u:=j_ u;have:pB G.h=false:=by rw[q2q];grind [rH]
   rw[this]at k;refine h.z_ 0 rfl rfl λs h=>⟨_,h.r 0,k _ h.tl.tl⟩
  have u:=h_ u;conv=>whnf
  rw[show i64.wrap ((j:Int)+1)=((j+1:Nat):Int) by grind [aN]];grind
 have t:j=65:=by grind
 subst t;have S:pB G.h=true:=rH.2 hp;rw[S]at k;refine⟨G.h,h.rdt (l:=[_,_,_,_,_,_,_]) 1 rfl rfl,_,h.r 1,SQ wc.h h λs h=>⟨_,_,rfl,h.r 1,Bc wc.n h λH3 h=>⟨_,_,rfl,_,(eqW _ _).1,λE=>?_,λE=>?_⟩⟩⟩
 .have:decide (XI G.h=G.n)=false:=by grind
  rw[this]at k;refine h.z_ 0 rfl rfl λs h=>⟨_,h.r 0,k _ h.tl.tl⟩
 have hs:decide (XI G.h=G.n)=true:=by grind
 rw[hs]at k;simp only[Bool.not_false,Bool.true_and]at k;refine⟨_,h.r 1,λd=>?_,λd=>?_⟩;.rw [c_ (j_ d)]at k;have e0:=(eqW G.sum 0).2;refine⟨_,_,h.rdv (l:=[_]) (vs:=[_,_]) 1 rfl rfl,_,e0,_,λ_=>h.r 1,_,λ_=>h.r 1,h.z_ 0 rfl rfl λs h=>⟨_,h.r 0,k _ h.tl.tl⟩⟩
 rw [b_ (h_ d)]at k;have bl:=qq wc.mn;have bh:=qq wc.mx;intro W Y;have fin:∀lb hb m,aA m (ax lb [aB (cy G.mn)] 3::ax hb [aB (cy G.mx)] 3::ax b1 [.bool false] 4::ax b (dF G) 181::F)->W lb 0 hb 0 m:=by
  intro lb hb m h;refine Y _ _ _ _ _ ?_;have g1:aM m b (7+(cy G.mn).toNat)=some (aB (G.h (cy G.mn).toNat)):=by rw[h.rd 3 rfl];grind [JH]
  have g2:aM m b (7+(cy G.mx).toNat)=some (aB (G.h (cy G.mx).toNat)):=by rw[h.rd 3 rfl];grind [JH]
  refine⟨_,h.r 0,bl,_,g1,_,λ_=>h.r 1,λ_=>bh,_,λ_=>g2,λe=>?_,λe=>?_⟩;.rw [e]at k;refine h.z_ 2 rfl rfl λs h=>⟨_,h.r 2,k _ h.tl.tl.tl.tl⟩
  rw[e]at k;simp only[Bool.not_false,Bool.true_and]at k;refine⟨G.h,h.rdt (l:=[_,_,_,_,_,_,_]) 3 rfl rfl,JE h λfb I h=>⟨_,_,rfl,rfl,λR L C U=>?_⟩⟩;have h:=h.FH R;refine JG (f:=G.h) (λj=>star [ax lb [aB (cy G.mn)] 3,ax hb [aB (cy G.mx)] 3,ax b1 [.bool false] 4,pt (I.size+1) (.loop R),DA (∀q,q<j->G.h q=0\/cy G.mn<=q/\(q:Int)<=cy G.mx)]) (star [ax lb [aB (cy G.mn)] 3,ax hb [aB (cy G.mx)] 3,ax b1 [.bool false] 4,pt (I.size+1) (.loop { R with state:=.done,pending:=some .ret }),DA (inB G=false)]) (F:=pt I.size (.deferred (some []))::ax b (dF G) 181::F) ?_ ?_ ?_ ?_ ?_;.refine aA.shut [_,_,_,_,_] ?_;have T:=((h.o [3,4,5,0,2,1,6] 7).DA (p:=∀q:Nat,q<0->G.h q=0\/cy G.mn<=q/\(q:Int)<=cy G.mx) (λq v=>cS v (Nat.not_lt_zero q)));exact T.o [1,2,3,4,0] 5
  .intro j N hz;have:(∀q,q<j->G.h q=0\/cy G.mn<=q/\(q:Int)<=cy G.mx)=(∀q,q<j+1->G.h q=0\/cy G.mn<=q/\(q:Int)<=cy G.mx):=propext ⟨λM q v=>by grind,λM q v=>M q ez⟩;grind
  .intro j N h1 c O K1 h P Q;have h:=aA.open (A:=[_,_,_,_,_]) h;have y:=(aA.B3 (h.o [4,0,1,2,3] 5)).1;refine U _ _ _ ⟨_,_,rfl,h.eY 3 rfl,h.eY 3 rfl,h.Fu 3 rfl λH7 h=>⟨_,h.r 0,_,λ_=>h.r 1,λJ=>?_,λJ=>?_⟩⟩
   .refine h.z_ 2 rfl rfl λH8 h=>⟨h.eY 3 rfl,Q _ ?_⟩;have h:=h.n_ 3 rfl (.loop { R with state:=.done,pending:=some .ret });have a:inB G=false:=by rw[q2q];intro a;unfold inB at a;grind
    refine aA.shut [_,_,_,_,_] ((h.DA a).o [1,2,3,4,0] 6)
   refine⟨h.eY 3 rfl,P _ ?_⟩;have h:=h.n_ 3 rfl (.loop R);refine aA.shut [_,_,_,_,_] ?_;have D:∀q,q<j+1->G.h q=0\/cy G.mn<=q/\(q:Int)<=cy G.mx:=λq v=>by grind
   exact ((h.DA D).o [1,2,3,4,0] 6)
  .intro O h;have h:=aA.open (A:=[_,_,_,_,_]) h;have y:=(aA.B3 (h.o [4,0,1,2,3] 5)).1;have a:inB G=true:=by unfold inB;grind
   rw[a]at k;refine⟨.ready,none,ee,by rw[lp L C];exact h.eY 3 rfl,h.Fu 3 rfl λV h=>.inl ⟨rfl,h.z_ 2 rfl rfl λZ h=>⟨h.eY 6 rfl,?_⟩⟩⟩;have h:=h.n_ 6 rfl (.deferred none);exact⟨_,h.r 2,k _ (h.o [7] 8).tl⟩
  intro O h;have h:=aA.open (A:=[_,_,_,_,_]) h;have a:=(aA.B3 (h.o [4,0,1,2,3] 5)).1;rw[a]at k;refine⟨.done,some .ret,ee,h.eY 3 rfl,h.Fu 3 rfl λV h=>.inr ⟨rfl,h.eY 6 rfl,?_⟩⟩;have h:=h.n_ 6 rfl (.deferred none);exact⟨_,h.r 2,k _ (h.o [7] 8).tl⟩
 refine⟨_,h.r 1,_,nH wc.mn,_,h.r 1,_,nH wc.mx,?_,?_⟩;.refine h.al λlb _ h=>⟨nH wc.mx,h.r 2,nH wc.mn,h.r 2,h.al λhb _ h=>⟨nH wc.mx,h.r 3,nH wc.mn,h.r 3,h.z_ 1 rfl rfl λ_ h=>h.z_ 0 rfl rfl λ_ h=>fin _ _ _ (h.o [1,0] 2)⟩⟩
 refine h.al λlb _ h=>⟨nH wc.mx,h.r 2,nH wc.mn,h.r 2,h.al λhb _ h=>⟨nH wc.mx,h.r 3,nH wc.mn,h.r 3,h.z_ 0 rfl rfl λ_ h=>h.z_ 1 rfl rfl λ_ h=>fin _ _ _ h⟩⟩
theorem aA.stv{n o:Nat}(h:aA H F)(e:Nat)(b:aX e F=ax c (cq .i64 f n 0) i)(m:j<n)(d:o=0+j)(k:∀a,aA a (put e (ax c (cq .i64 (fO f j x) n 0) i) F)->I a) : eA H c o [aB x]/\∀a,a=fw H c o [aB x]->I a:=by
 subst d;rw[CO];refine⟨h.can e b j _ (by grind [xN]),?_⟩;intro a rfl;have:=h.set e b j [aB x];have e2:cu (cq .i64 f n 0) j [aB x]=cq .i64 (fO f j x) n 0:=by show (cq .i64 f n 0).set j (aB x)=_;rw[Bb _ _ _ _ _ _ m,CO]
 rw[e2]at this;exact k _ this
theorem aA.stt{l r vs:Xa}(h:aA H F)(o:Nat)(e:aX o F=ax j (l++r) c)(d:i=l.length)(f:vs.length=r.length)(k:∀a,aA a (put o (ax j (l++vs) c) F)->I a) : eA H j i vs/\∀a,a=fw H j i vs->I a:=by
 subst d;refine⟨h.can o e _ _ (by grind),?_⟩;intro a rfl;have:=h.set o e l.length vs;have e2:cu (l++r) l.length vs=l++vs:=by have:=uK vs l r 0;rw[q28]at this;grind [xg]
 rw[e2]at this;exact k _ this
theorem SR(t:wfH f)(m:aG v)(h:aA H F)(k:∀n,aA n F->K (.tuple #[.agg ⟨cq .i64 (jD f v).1 65 0⟩,aB (jD f v).2]) n) : CF 470 #[.agg ⟨cq .i64 f 65 0⟩,aB v] H K:=by
 refine cM 470 1907996 ?_;unfold jD at k;refine h.al λb _ h=>h.al λb1 _ h=>⟨f,h.x_ 1 rfl,SG h λs h=>⟨_,rfl,λu=>?_,λu=>?_⟩⟩;.rw [c_ (by grind)]at k;refine h.z_ 0 rfl rfl λe h=>⟨_,h.x_ 0 rfl,k _ h.tl.tl⟩
 rw[b_ (by grind)]at k;have hb:=qq m;have d:(cy v).toNat<65:=ez;have a:aM s b (0+(cy v).toNat)=some (aB (f (cy v).toNat)):=by rw[h.rd 1 rfl,CO,vi _ _ _ _ _ d,CO]
 refine⟨_,nH m,hb,_,a,λc=>?_,λc=>?_⟩;.rw [c_ (j_ c)]at k;refine h.z_ 0 rfl rfl λe h=>⟨_,h.x_ 0 rfl,k _ h.tl.tl⟩
 have i:=h_ c;rw[b_ i]at k;have j:=t _ d;unfold aG at j;refine⟨hb,_,a,hb,?_⟩;rw[aN (x:=f (cy v).toNat+1)];refine h.stv 1 rfl d rfl λe h=>⟨_,h.x_ 1 rfl,h.z_ 0 rfl rfl λe h=>⟨_,h.x_ 0 rfl,k _ h.tl.tl⟩⟩
theorem JI{a:Bool}(wc:WC G)(h:aA H F)(k:∀f,aA f F->K (.tuple #[Fx (ii G a).1,aB (ii G a).2]) f) : CF 446 #[Fx G,.bool a] H K:=by
 refine cN 446 1997721083164 [[(6,sP)]] ?_;unfold ii at k;have wn:=JD wc;refine h.al λb _ h=>h.al λb1 _ h=>⟨_,_,_,_,_,_,_,_,h.x_ 1 rfl,vk wc h λj h=>⟨_,rfl,λi=>?_,λi=>?_⟩⟩;.rw [c_ (by grind)]at k;refine h.z_ 0 rfl rfl λd h=>⟨_,_,_,_,_,_,_,_,h.x_ 0 rfl,k _ h.tl.tl⟩
 rw[b_ (by grind)]at k;refine λm e=>⟨λhb=>e _ _ ?_,λhb=>e _ _ ?_⟩
 .rw [c_ hb]at k;refine⟨_,h.r 1,λhm=>?_,λhm=>?_⟩;.rw [c_ (j_ hm)]at k;refine h.z_ 0 rfl rfl λd h=>⟨_,_,_,_,_,_,_,_,h.x_ 0 rfl,k _ h.tl.tl⟩
  have hm:=h_ hm;rw[b_ hm]at k;have:=wc.GH;unfold aG at this;refine⟨_,h.r 1,?_⟩;conv=>whnf
  rw[aN (x:=G.GH+1)];refine h.st 1 rfl rfl λd h=>?_;have h:aA d (ax b1 (dF Cl.z) 181::ax b (dF { G with GH:=G.GH+1 }) 181::F):=h;refine⟨_,_,_,_,_,_,_,_,h.x_ 1 rfl,h.z_ 0 rfl rfl λd h=>⟨_,_,_,_,_,_,_,_,h.x_ 0 rfl,k _ h.tl.tl⟩⟩
 rw [b_ (by grind)]at k;refine⟨_,h.r 1,λhm=>?_,λhm=>?_⟩;.rw [c_ (j_ hm)]at k;refine h.z_ 0 rfl rfl λd h=>⟨_,_,_,_,_,_,_,_,h.x_ 0 rfl,k _ h.tl.tl⟩
 have hm:=h_ hm;rw[b_ hm]at k;have:=wc.pos;unfold aG at this;refine⟨_,h.r 1,?_⟩;conv=>whnf
 rw[aN (x:=G.pos+1)];refine h.st 1 rfl rfl λd h=>?_;have h:aA d (ax b1 (dF Cl.z) 181::ax b (dF { G with pos:=G.pos+1 }) 181::F):=h;refine⟨_,_,_,_,_,_,_,_,h.x_ 1 rfl,h.z_ 0 rfl rfl λd h=>⟨_,_,_,_,_,_,_,_,h.x_ 0 rfl,k _ h.tl.tl⟩⟩
theorem SU(wc:WC G)(j:aG v)(h:aA H F)(k:∀A,aA A F->K (.tuple #[Fx (kG G v).1,aB (kG G v).2]) A) : CF 449 #[Fx G,aB v] H K:=by
 refine cN 449 0x1d1d28d1d2174911c [[],[(7,sI),(8,sA)]] ?_;unfold kG at k;refine h.al λb _ h=>h.al λb1 _ h=>⟨_,_,_,_,_,_,_,_,h.x_ 1 rfl,vk wc h λM h=>⟨_,rfl,λC=>?_,λC=>?_⟩⟩;.rw [c_ (by grind)]at k;refine h.z_ 0 rfl rfl λf h=>⟨_,_,_,_,_,_,_,_,h.x_ 0 rfl,k _ h.tl.tl⟩
 rw[b_ (by grind)]at k;refine⟨_,h.r 1,_,_,Jx wc.n ee,λE=>?_,λE=>?_⟩;.rw [c_ (by grind)]at k;refine h.z_ 0 rfl rfl λf h=>⟨_,_,_,_,_,_,_,_,h.x_ 0 rfl,k _ h.tl.tl⟩
 rw[b_ (by grind)]at k;intro B c;have a:gq v:=by unfold aG at j;unfold gq;omega
 have fin:∀sb e,aA e (ax sb [aB (C4 (ig G.sum v).1),.int .u64 (C6 (ig G.sum v).1)] 177::ax b1 (dF Cl.z) 181::ax b (dF G) 181::F)->B (ig G.sum v).2 sb 0 e:=by
  intro sb e h;refine c _ _ _ _ ⟨λL=>?_,λL=>?_⟩;.rw [c_ (by grind)]at k;refine h.z_ 1 rfl rfl λf h=>⟨_,_,_,_,_,_,_,_,h.x_ 1 rfl,k _ h.tl.tl.tl⟩
  rw[b_ (by grind)]at k;refine⟨G.h,h.rdt (l:=[_,_,_,_,_,_,_]) 2 rfl rfl,SR wc.h j h λx h=>⟨_,_,rfl,h.al λb2 _ h=>h.z_ 0 rfl rfl λN h=>⟨λD=>?_,λD=>?_⟩⟩⟩;.rw [c_ (by grind)]at k;refine h.z_ 2 rfl rfl λf h=>⟨_,_,_,_,_,_,_,_,h.x_ 2 rfl,k _ h.tl.tl.tl.tl⟩
  rw[b_ (by grind)]at k;refine⟨_,h.r 3,λu m=>?_⟩;dsimp only at k;have d:∀(mn mx:Int) t,mn=(if G.n=0 then v else G.mn)->mx=(if G.n=0 then v else G.mx)->aA t (ax b2 (cq .i64 (jD G.h v).1 65 0) 179::ax sb [aB (C4 (ig G.sum v).1),.int .u64 (C6 (ig G.sum v).1)] 177::ax b1 (dF Cl.z) 181::ax b (dF { G with mn:=mn,mx:=mx }) 181::F)->u t:=by intro mn mx t e1 e2 h;refine m _ ?_;rw[<-e1,<-e2]at k;refine⟨_,_,h.x_ 1 rfl,_,h.x_ 0 rfl,h.st 3 rfl rfl λI h=>⟨h.x_ 0 rfl,h.x_ 1 rfl,h.st 3 rfl rfl λy h=>⟨h.x_ 0 rfl,?_⟩⟩⟩;have h:aA y (ax b2 (cq .i64 (jD G.h v).1 65 0) 179::ax sb [aB (C4 (ig G.sum v).1),.int .u64 (C6 (ig G.sum v).1)] 177::ax b1 (dF Cl.z) 181::ax b (dF { G with n:=(jS G.n 1).1,sum:=(ig G.sum v).1,mn:=mn,mx:=mx }) 181::F):=h;refine h.stt (l:=[_,_,_,_,_,_,_]) 3 rfl rfl rfl λw h=>?_;have h:aA w (ax b2 (cq .i64 (jD G.h v).1 65 0) 179::ax sb [aB (C4 (ig G.sum v).1),.int .u64 (C6 (ig G.sum v).1)] 177::ax b1 (dF Cl.z) 181::ax b (dF { G with n:=(jS G.n 1).1,sum:=(ig G.sum v).1,mn:=mn,mx:=mx,h:=(jD G.h v).1 }) 181::F):=h;refine⟨_,h.r 3,_,h.r 3,h.st 3 rfl rfl λJ h=>h.st 3 rfl rfl λs h=>?_⟩;have h:aA s (ax b2 (cq .i64 (jD G.h v).1 65 0) 179::ax sb [aB (C4 (ig G.sum v).1),.int .u64 (C6 (ig G.sum v).1)] 177::ax b1 (dF Cl.z) 181:: ax b (dF { G with n:=(jS G.n 1).1,sum:=(ig G.sum v).1,mn:=if v<mn then v else mn,mx:=if v>mx then v else mx,h:=(jD G.h v).1 }) 181::F):=h;refine⟨_,_,_,_,_,_,_,_,h.x_ 3 rfl,h.z_ 2 rfl rfl λf h=>⟨_,_,_,_,_,_,_,_,h.x_ 2 rfl,k _ h.tl.tl.tl.tl⟩⟩
  refine⟨λi=>?_,λi=>?_⟩;.have i:=j_ i;refine h.st 3 rfl rfl λI h=>h.st 3 rfl rfl λy h=>d v v _ (by grind) (by grind) h
  have i:=h_ i;exact d G.mn G.mx _ (by grind) (by grind) h
 refine⟨_,_,h.rdv (l:=[_]) (vs:=[_,_]) 1 rfl rfl,?_,?_⟩
 .refine Bc j h λf h=>⟨_,_,rfl,h.rdv (l:=[_]) (vs:=[_,_]) 1 rfl rfl,?_,?_⟩;.refine Bd wc.sum a h λe h=>⟨_,_,_,rfl,h.al λb3 _ h=>h.z_ 0 rfl rfl λx h=>fin _ _ h⟩
  refine h.al λb3 _ h=>⟨h.rdv (l:=[_]) (vs:=[_,_]) 2 rfl rfl,Bd wc.sum a h λe h=>⟨_,_,_,rfl,h.z_ 0 rfl rfl λx h=>fin _ _ h⟩⟩
 refine h.al λb3 _ h=>⟨h.rdv (l:=[_]) (vs:=[_,_]) 2 rfl rfl,Bc j h λf h=>⟨_,_,rfl,h.rdv (l:=[_]) (vs:=[_,_]) 2 rfl rfl,Bd wc.sum a h λe h=>⟨_,_,_,rfl,h.z_ 0 rfl rfl λx h=>fin _ _ h⟩⟩⟩
structure Ky where
 win:Int
 hK:Fb
deriving DecidableEq
variable {y:Ky}{L:List Ky}
abbrev jT(k:Ky):Xa:=[aB k.win,.string k.hK]
abbrev Hl(k:Ky):Value:=.agg ⟨jT k⟩
theorem Be(k:Ky):(jT k).length=2:=rfl
abbrev Ot:=Ky×Cl
variable {J:List Ot}
abbrev cR(o:Ot):Xa:=[aB o.1.win,.string o.1.hK,aB o.2.n,aB (C4 o.2.sum),.int .u64 (C6 o.2.sum),aB o.2.mn,aB o.2.mx,aB o.2.GH,aB o.2.pos]++cq .i64 o.2.h 65 0
theorem jx(o:Ot):(cR o).length=74:=by simp[cR,xN]
theorem tG(o:Ot):cU (cR o)=true:=xi rfl (J8 _ _ _ _)
theorem adj(x y:Fb):(x.toList == y.toList)=decide (x=y):=by
 rw[q24,beq_iff_eq,za,ByteArray.toList_eq,ByteArray.toList_eq];constructor;.intro h;cases x with|mk a=>simp_all
 grind
def cC(first last:Int):List Int:=(List.range (last-first+1).toNat).map λi:Nat=>first+i
abbrev CM:=List (Ky×Cl)
variable {m:CM}
def fZ(m:CM)(k:Ky):Cl:=(aK k m).getD Cl.z
def kH(m:CM)(hK:Fb)(ws:List Int):Int:=((ws.filter λw=>(aK ⟨w,hK⟩ m).isNone).length:Nat)
def rI(most:Int)(m:CM)(first last:Int)(hK:Fb):Bool:=
 if last<first then false else if most<=last-first then false else decide ((m.length:Int)+kH m hK (cC first last)<=most)
def iZ(m:CM)(hK:Fb)(Fj:Bool):List Int->CM×Int
 | []=>([],0)
 | w::r=>if (ii (fZ m ⟨w,hK⟩) Fj).2≠0 then ([],(ii (fZ m ⟨w,hK⟩) Fj).2)
  else ((⟨w,hK⟩,(ii (fZ m ⟨w,hK⟩) Fj).1)::(iZ m hK Fj r).1,(iZ m hK Fj r).2)
def mG(l:CM)(m:CM):CM:=l.foldl (λm p=>eO p.1 p.2 m) m
def kI(most:Int)(m:CM)(first last:Int)(hK:Fb):CM×Int:=
 if last<first then (m,10) else if rI most m first last hK=false then (m,20) else
 if (iZ m hK (decide (first=last)) (cC first last)).2≠0 then (m,(iZ m hK (decide (first=last)) (cC first last)).2)
 else (mG (iZ m hK (decide (first=last)) (cC first last)).1 m,0)
def nI(m:CM)(k:Ky)(v:Int):CM×Int:=
 match aK k m with
 | none=>(m,19)
 | some c=>if (kG c v).2≠0 then (m,(kG c v).2) else (eO k (kG c v).1 m,0)
def kJ(most:Int)(m:CM)(k:Ky)(c:Cl):CM×Int:=
 if (aK k m).isSome then (m,18) else if gr c=false then (m,10) else if most<=(m.length:Int) then (m,20) else (eO k c m,0)
structure eI(most:Int)(m:CM):Prop where
 m1:1<=most
 m2:most<=1024
 nd:(aJ m).Nodup
 wc:∀p∈m,WC p.2
 rt:∀p∈m,gr p.2=true
 wn:∀p∈m,aG p.1.win
 len:(m.length:Int)<=most
theorem eI.cell(h:eI v m)(k:Ky):WC (fZ m k):=by
 unfold fZ
 cases hm:aK k m with
 | none=>exact WC.z
 | some c=>exact h.wc _ (eD hm)
theorem koK:lH Tryz.prog 174 Hl:=A9 Tryz.underlying174 (λx y h=>by cases x;simp_all) (λx y=>by have h:pq Tryz.prog 174 (jT x) (jT y)=some (x.win == y.win&&(x.hK == y.hK&&true)):=kf;rw[h];congr 1;rw[q24];simp only[Bool.and_true,p_,beq_iff_eq,za,Go.MapKept.bytes_beq];cases x;cases y;simp) (λx=>kf) (λx n=>by have hb:(x.hK == x.hK)=true:=(Go.MapKept.bytes_beq _ _).2 rfl;unfold Instr.sameBits;simp[Instr.sameBits,hb])
theorem XC:jB Tryz.prog 316 174 181 Fx Cl.z:=ny Tryz.underlying316 kf
theorem XM:Fs Tryz.prog 163 184 74 600:=fU kf
abbrev DK(sb mb:Nat)(most:Int):aF:=ax sb [aB most,.map (some mb)] 318
abbrev cG(mb:Nat)(m:CM):aF:=mapA Hl Fx mb m
theorem JJ(h:aA H F)(k1:v<1\/1024<v->K (.tuple #[.pointer none,aB 11]) H) (k2:∀sb mb b,eI v []->aA b (DK sb mb v::cG mb []::F)->K (.tuple #[PA sb 0,aB 0]) b):CF 314 #[aB v] H K:=by refine cM 314 476 ⟨λa=>k1 (by grind),λa=>?_⟩;simp only[E8,DC]at a;refine h.XE Hl Fx λmb _ h=>h.al λsb _ h=>k2 _ _ _ ⟨ez,ez,List.nodup_nil,eh,eh,eh,by simp;omega⟩ h
theorem SW(h:aA H F)(i mb:Nat)(a:aX i F=DK c j v)(b:aX mb F=cG j m):bX Tryz.prog 79 #[PA c 0] H (aB (m.length:Nat)):=cM 79 28 ⟨_,h.rd i a _,_,h.FK XC mb b,rfl,rfl⟩
theorem agN(c:aG v)(hb:aG x)(h:x<=v):u64.wrap (u64.wrap v-u64.wrap x)=v-x:=by grind [aG,eF]
theorem JK{first last:Int}(h:first<=last):((cC first last).length:Int)=last-first+1:=by grind [cC]
theorem JL(a:j<(cC v x).length):(cC v x)[j]=v+(j:Nat):=by simp[cC]
theorem SX(ok:eI v m){first last:Int}(E:aG first)(B:aG last)(h:aA H (DK c j v::cG j m::F)) (k:∀d,aA d (DK c j v::cG j m::F)->K (.bool (rI v m first last t)) d) : CF 445 #[PA c 0,aB first,aB last,.string t] H K:=by
 refine QV ?_;unfold rI at k;have N:=ok.m1;have R:=ok.m2;have D:=ok.len;refine⟨λmost=>?_,λmost=>?_⟩;.rw [c_ (j_ most)]at k;exact k _ h
 have y:=h_ most;rw[b_ y]at k;have em:u64.wrap v=v:=by grind [eF]
 have L:=agN B E ez;rw[L];refine⟨_,h.r 0,?_⟩;dsimp only;rw[em];refine⟨λsb=>?_,λsb=>?_⟩;.rw [c_ (j_ sb)]at k;exact k _ h
 have hK:=h_ sb;rw[b_ hK]at k;have P:=JK (first:=first) (last:=last) ez;refine⟨_,h.r 0,_,h.FK XC 1 rfl,⟨λn i d=>∃mb:Nat,i=mb/\mb<=(cC first last).length/\n=(m.length:Int)+kH m t ((cC first last).take mb)/\aA d (DK c j v::cG j m::F),λ_ i _=>(cC first last).length-i.toNat,⟨0,rfl,EG _,by simp[kH],h⟩,?_⟩⟩;rintro n i M ⟨mb,rfl,U,rfl,h⟩;have e1:i64.wrap (i64.wrap (last-first)+1)=((cC first last).length:Int):=by grind [aN]
 rw[e1];refine⟨λw=>?_,λw=>?_⟩
 .have Q:mb<(cC first last).length:=by grind
  unfold aG at E B;have J:i64.wrap (first+(mb:Nat))=(cC first last)[mb]:=by grind [JL,aN]
  have s:∀q,kH m t ((cC first last).take q)<=q:=λq=>by grind [kH]
  have O:=s mb;have G:0<=kH m t ((cC first last).take mb):=by grind [kH]
  rw[J];refine⟨_,h.r 0,_,_,_,_,_,_,_,_,_,h.zb XC koK 1 rfl (x:=⟨(cC first last)[mb],t⟩),h.al λb _ h=>h.z_ 0 rfl (by rw[lN];exact (lN Cl.z).symm) λS h=>?_⟩;have e3:i64.wrap ((mb:Int)+1)=((mb+1:Nat):Int):=by grind [aN]
  have f:kH m t ((cC first last).take (mb+1))=kH m t ((cC first last).take mb)+(if (aK (⟨(cC first last)[mb],t⟩:Ky) m).isNone then 1 else 0):=by grind [kH,List.take_succ_eq_append_getElem]
  have a:∀n2:Int,n2=(m.length:Int)+kH m t ((cC first last).take (mb+1))->∀u,aA u (DK c j v::cG j m::F)->AN.r1 (λn i d=>∃mb:Nat,i=mb/\mb<=(cC first last).length/\n=(m.length:Int)+kH m t ((cC first last).take mb)/\aA d (DK c j v::cG j m::F)) (λ_ i _=>(cC first last).length-i.toNat) ((m.length:Int)+kH m t ((cC first last).take mb)) (mb:Int) M n2 u:=by intro n2 e u h;unfold AN.r1;grind
  refine λT C=>⟨λI=>C _ _ (a _ ?_ _ h.tl),λI=>C _ _ (a _ ?_ _ h.tl)⟩
  .have:(aK (⟨(cC first last)[mb],t⟩:Ky) m).isNone=true:=by grind
   rw[f,this,aN];grind
  grind
 have A:mb=(cC first last).length:=by grind
 subst A;rw[FP (yb _)];refine⟨_,h.r 0,k _ h⟩
theorem SY{most:Int}(ok:eI most m){key:Ky}{v:Int}(e:aG v)(h:aA H (DK c j most::cG j m::F)) (k:∀d,aA d (DK c j most::cG j (nI m key v).1::F)->K (aB (nI m key v).2) d) : CF 414 #[PA c 0,Hl key,aB v] H K:=by
 refine cM 414 18685212 ?_;unfold nI at k;refine h.al λb _ h=>?_;have f:=h.zb XC koK 2 rfl (x:=key);refine⟨_,h.r 1,_,_,h.x_ 0 rfl,_,_,_,_,_,_,_,_,_,f,h.al λb1 _ h=>⟨h.zb XC koK 3 rfl (x:=key),h.x_ 1 rfl,h.r 2,h.z_ 0 rfl rfl λmb h=>?_⟩⟩;cases hm:aK key m with
  | none=>rw[hm]at k;exact⟨λ_=>k _ h.tl.tl,λa=>by simp at a⟩
  | some sb=>
  rw[hm]at k h;refine⟨λa=>by simp at a,λ_=>?_⟩;have wc:WC sb:=ok.wc _ (eD hm);have h:aA mb (ax b1 (dF sb) 181::ax b (jT key) 174::DK c j most::cG j m::F):=h;refine⟨_,_,_,_,_,_,_,_,h.x_ 0 rfl,SU wc e h λt h=>⟨_,_,_,_,_,_,_,_,_,rfl,h.z_ 0 rfl (by rw[lN];exact (lN sb).symm) λs h=>?_⟩⟩;dsimp only at k;refine⟨λi=>?_,λi=>?_⟩;.rw [c_ (by grind)]at k;exact k _ h.tl.tl
  rw [b_ (by grind)]at k;refine⟨_,h.r 2,_,_,h.x_ 1 rfl,_,_,_,_,_,_,_,_,h.x_ 0 rfl,h.ix (x:=key) (v:=(kG sb v).1) XC koK 3 rfl λn h=>k _ h.tl.tl⟩
theorem SZ{most:Int}(ok:eI most m)(wc:WC G)(h:aA H (DK c j most::cG j m::F)) (k:∀e,aA e (DK c j most::cG j (kJ most m y G).1::F)->K (aB (kJ most m y G).2) e) : CF 328 #[PA c 0,Hl y,Fx G] H K:=by
 refine cM 328 303815964 ?_;unfold kJ at k;refine h.al λb _ h=>h.al λb1 _ h=>?_;have f:=h.zb XC koK 3 rfl (x:=y);refine⟨_,h.r 2,_,_,h.x_ 1 rfl,_,_,_,_,_,_,_,_,_,f,h.al λb2 _ h=>⟨h.zb XC koK 4 rfl (x:=y),h.x_ 2 rfl,h.r 3,h.z_ 0 rfl rfl λi h=>⟨λd=>?_,λd=>?_⟩⟩⟩;.rw [c_ d]at k;exact k _ h.tl.tl.tl
 rw[b_ (by grind)]at k;have h:aA i (ax b2 _ 181::ax b1 (dF G) 181::ax b (jT y) 174::DK c j most::cG j m::F):=h;refine⟨_,_,_,_,_,_,_,_,h.x_ 1 rfl,vk wc h λs h=>⟨_,rfl,λmb=>?_,λmb=>?_⟩⟩;.rw [c_ (by grind)]at k;exact k _ h.tl.tl.tl
 rw[b_ (by grind)]at k;refine⟨_,h.r 3,_,h.FK XC 4 rfl,_,h.r 3,λa=>?_,λa=>?_⟩;.rw [c_ (j_ a)]at k;exact k _ h.tl.tl.tl
 rw[b_ (h_ a)]at k;refine⟨_,h.r 3,_,_,h.x_ 2 rfl,_,_,_,_,_,_,_,_,h.x_ 1 rfl,h.ix (x:=y) (v:=G) XC koK 4 rfl λn h=>k _ h.tl.tl.tl⟩
theorem Ta(l r:CM)(m:CM):mG (l++r) m=mG r (mG l m):=by grind [mG]
theorem Tb{most:Int}(ok:eI most m){first last:Int}(M:aG first)(L:aG last)(h:aA H (DK c j most::cG j m::F)) (k:∀f,aA f (DK c j most::cG j (kI most m first last t).1::F)->K (aB (kI most m first last t).2) f) : CF 412 #[PA c 0,aB first,aB last,.string t] H K:=by
 refine Rb ?_;unfold kI at k;have U:=ok.m2;refine⟨λB=>?_,λB=>?_⟩;.rw [c_ (j_ B)]at k;exact k _ h
 have E:=h_ B;rw[b_ E]at k;refine SX ok M L h λH1 h=>⟨_,rfl,λw=>?_,λw=>?_⟩;.rw [c_ (by grind)]at k;exact k _ h
 have d:rI most m first last t=true:=by grind
 rw[b_ (by grind)]at k;have O:last-first<most:=by unfold rI at d;grind
 have T:=JK (first:=first) (last:=last) ez;have y:=M;unfold aG at y;refine⟨λs I hK i f=>∃(mb:Nat) (done:CM),i=mb/\mb<=(cC first last).length/\I=done.length/\done.length=mb/\ iZ m t (decide (first=last)) (cC first last)=(done++(iZ m t (decide (first=last)) ((cC first last).drop mb)).1,(iZ m t (decide (first=last)) ((cC first last).drop mb)).2)/\ aA f (ay 184 74 s done.length hK (flat cR done)::DK c j most::cG j m::F),λ_ _ _ i _=>(cC first last).length-i.toNat,⟨0,[],rfl,EG _,rfl,rfl,rfl,h.cp 184 74⟩,?_⟩;rintro s I hK i Y ⟨mb,done,rfl,hj,rfl,C,e,h⟩;have e1:i64.wrap (i64.wrap (last-first)+1)=((cC first last).length:Int):=by grind [aN]
 rw[e1];refine⟨λD=>?_,λD=>?_⟩
 .have a:mb<(cC first last).length:=by grind
  unfold aG at L;have N:i64.wrap (first+(mb:Nat))=(cC first last)[mb]:=by grind [JL,aN]
  rw[N];rw[RU a,iZ]at e;have wc:=ok.cell ⟨(cC first last)[mb],t⟩;refine h.al λb _ h=>h.z_ 0 rfl rfl λQ h=>λP S=>⟨_,h.r 2,_,_,h.x_ 0 rfl,_,_,_,_,_,_,_,_,h.CB XC koK 3 rfl (x:=⟨(cC first last)[mb],t⟩),?_⟩;have fin:∀cb sb,aA sb (ax cb (dF (ii (fZ m ⟨(cC first last)[mb],t⟩) (decide (first=last))).1) 181::ax b (jT ⟨(cC first last)[mb],t⟩) 174::ay 184 74 s done.length hK (flat cR done)::DK c j most::cG j m::F)->P cb 0 (ii (fZ m ⟨(cC first last)[mb],t⟩) (decide (first=last))).2 sb:=by
   intro cb sb h;refine S _ _ _ _ ⟨λn=>?_,λn=>?_⟩
   .have n:(ii (fZ m ⟨(cC first last)[mb],t⟩) (decide (first=last))).2≠0:=by grind
    rw[c_ n]at e;rw[e,c_ n]at k;exact k _ h.tl.tl.tl
   have n:¬(ii (fZ m ⟨(cC first last)[mb],t⟩) (decide (first=last))).2≠0:=by grind
   rw[b_ n]at e;refine⟨_,_,h.x_ 1 rfl,_,_,_,_,_,_,_,_,h.x_ 0 rfl,?_⟩;intro b1 _ rfl rfl;refine h.CC (ws:=cR (⟨(cC first last)[mb],t⟩,(ii (fZ m ⟨(cC first last)[mb],t⟩) (decide (first=last))).1)) XM 2 rfl (jx _) (tG _) ez ez λZ V f h=>⟨_,_,_,rfl,?_⟩;rw[show i64.wrap ((mb:Int)+1)=((mb+1:Nat):Int) by grind [aN]];have h:=h.tl.tl;refine⟨⟨mb+1,done++[(⟨(cC first last)[mb],t⟩,(ii (fZ m ⟨(cC first last)[mb],t⟩) (decide (first=last))).1)],rfl,a,eh,by simp[C],?_,?_⟩,by grind⟩;.grind
   rw [iX,nv,po];exact h
  refine⟨?_,?_⟩;.refine JI wc h λsb h=>⟨_,_,_,_,_,_,_,_,_,rfl,h.al λb2 _ h=>h.z_ 0 rfl (by rw[lN];exact (lN Cl.z).symm) λJ h=>fin _ _ h⟩
  refine h.al λb2 _ h=>⟨h.CB XC koK 4 rfl (x:=⟨(cC first last)[mb],t⟩),h.x_ 1 rfl,h.r 3,JI wc h λsb h=>⟨_,_,_,_,_,_,_,_,_,rfl,h.z_ 0 rfl (by rw[lN];exact (lN Cl.z).symm) λJ h=>fin _ _ h⟩⟩
 have G:mb=(cC first last).length:=by grind
 subst G;rw[WD,iZ,HD]at e;rw[e,b_ (λR=>R rfl)]at k;refine⟨λi f=>∃q:Nat,i=q/\q<=done.length/\aA f (ay 184 74 s done.length hK (flat cR done)::DK c j most::cG j (mG (done.take q) m)::F),λi _=>done.length-i.toNat,⟨0,rfl,EG _,h⟩,?_⟩;rintro i Q ⟨q,rfl,W,h⟩;refine⟨λA=>?_,λA=>?_⟩
 .have a:q<done.length:=by grind
  have w:=h.a_ 0 rfl;have u:=w.E6 jx a;refine⟨⟨ez,ez⟩,_,_,w.some jx ez a,_,_,_,_,_,_,_,_,_,_,u,h.al λb5 _ h=>h.z_ 0 rfl (by rw[jx];exact (jx (⟨0,⟨#[]⟩⟩,Cl.z)).symm) λsb h=>?_⟩;have h:aA sb (ax b5 (jT done[q].1++dF done[q].2) 184::ay 184 74 s done.length hK (flat cR done)::DK c j most::cG j (mG (done.take q) m)::F):=h;refine⟨_,h.r 2,_,_,h.rdv (l:=[]) 0 rfl rfl,_,_,_,_,_,_,_,_,h.rdt 0 rfl rfl,h.ix (x:=done[q].1) (v:=done[q].2) XC koK 3 rfl λJ h=>?_⟩;rw[show i64.wrap ((q:Int)+1)=((q+1:Nat):Int) by grind [aN]];refine⟨⟨q+1,rfl,a,?_⟩,by grind⟩;rw[YX a,Ta];exact h.tl
 have:q=done.length:=by grind
 subst this;rw[FP (yb _)]at h;exact k _ h.tl
open  Go.Shelf Go.RowKit Go.Lib Go.Sort
def lu(a b:Int):Int:=if a<b then -1 else if b<a then 1 else 0
def pC(x y:Fb):Int:=if Op.bytesLess x.toList y.toList then -1 else if !(Op.bytesLess x.toList y.toList||x.toList == y.toList) then 1 else 0
theorem xO(a b:Int)(W:World):Calls Tryz.prog 190 #[.int .i64 a,.int .i64 b] W λe d=>e=.returned (.int .i64 (lu a b))/\d=W:=by
 obtain⟨r,c⟩:∃r,r=lu a b:=⟨_,rfl⟩;rw[<-c];unfold lu at c;go_enter Tryz.func190,Tryz.ntmps190;go_wp2
 .rename_i h;have e:r=-1:=by grind
  go_ret;simp_all
 .rename_i f _ _ i;have e:r=1:=by grind
  go_ret;simp_all
 rename_i f _ _ i;have e:r=0:=by grind
 go_ret;exact⟨by clear c;simp_all,rfl⟩
theorem ac7(x y:Fb)(W:World):Calls Tryz.prog 232 #[.string x,.string y] W λe b=>e=.returned (.int .i64 (pC x y))/\b=W:=by
 obtain⟨r,a⟩:∃r,r=pC x y:=⟨_,rfl⟩;rw[<-a];unfold pC at a;go_enter Tryz.func232,Tryz.ntmps232;go_wp2
 .rename_i h;have e:r=-1:=by grind
  go_ret;simp_all
 .have c:=‹Op.bytesLess x.toList y.toList=false›;have d:=‹(!x.toList == y.toList)=true›;have e:r=1:=by grind
  go_ret;simp_all
 have c:=‹Op.bytesLess x.toList y.toList=false›;have d:=‹(!x.toList == y.toList)=false›;have e:r=0:=by grind
 go_ret;simp_all
def lP(x y:Ky):Int:=if lu x.win y.win≠0 then lu x.win y.win else pC x.hK y.hK
theorem ahy(x y:Ky)(W:World):Calls Tryz.prog 150 #[.agg #[.int .i64 x.win,.string x.hK],.agg #[.int .i64 y.win,.string y.hK]] W λe a=>e=.returned (.int .i64 (lP x y))/\∃q b,a=grow (W.drewN q) b:=by
 obtain⟨r,d⟩:∃r,r=lP x y:=⟨_,rfl⟩;rw[<-d];unfold lP at d;have f:=λc=>xO x.win y.win c;have i:=λc=>ac7 x.hK y.hK c;generalize lu x.win y.win=ri at *;generalize pC x.hK y.hK=rs at *;go_enter Tryz.func150,Tryz.ntmps150;go_wp2_with (first| (go_at_call 190;refine (f _).mono ?_;rintro e a ⟨rfl,rfl⟩)| (go_at_call 232;refine (i _).mono ?_;rintro e a ⟨rfl,rfl⟩))
 .rename_i h;have e:r=ri:=by grind
  go_ret;exact⟨by simp_all,0,_,by rw[alloc_eq_grow,alloc_eq_grow,grow_grow];rfl⟩
 rename_i h;have e:r=rs:=by grind
 go_ret;exact⟨by simp_all,0,_,by rw[alloc_eq_grow,alloc_eq_grow,grow_grow];rfl⟩
theorem ae9(x y:Ky):ltOf lP x y=(decide (x.win<y.win)||(decide (x.win=y.win)&&Op.bytesLess x.hK.toList y.hK.toList)):=by unfold ltOf lP lu pC;grind
theorem tH(x y:Ky):ltOf lP x y=true↔x.win<y.win\/x.win=y.win/\x.hK.toList<y.hK.toList:=by grind [ae9,bytesLess_eq]
theorem YN:SWO (ltOf lP) where
 irrefl x:=by
  rw[q2q]
  grind [tH]
 trans x y z h1 h2:=by
  grind [tH]
 ntrans x y z h1 h2:=by
  rw[q2q]at *;intro a;rw[Ne,tH,not_or]at h1 h2
  grind [tH]
theorem aiD(x y:Ky)(b:(ltOf lP) x y=false)(a:(ltOf lP) y x=false):x=y:=by
 rw[q2q,Ne,tH,not_or]at b a;have e:x.win=y.win:=ez;have b1:¬x.hK.toList<y.hK.toList:=λh=>b.2 ⟨e,h⟩;have b2:¬y.hK.toList<x.hK.toList:=λh=>a.2 ⟨e.symm,h⟩;have e2:x.hK.toList=y.hK.toList:=List.le_antisymm (List.not_lt.1 b2) (List.not_lt.1 b1);have:=adj x.hK y.hK;rw[e2]at this;have c:x.hK=y.hK:=by grind
 cases x;simp_all
instance:Inhabited Ky:=⟨⟨0,⟨#[]⟩⟩⟩
theorem Tc(pre cs post ys:Xa)(a:ys.length=cs.length) : Sort.putCells id pre.length ys.toArray (pre++cs++post).toArray=(pre++ys++post).toArray:=by apply Array.ext';apply q2b;grind [Sort.putCells]
theorem JM[Inhabited B](enc:B->Xa)(k:Nat)(b:∀x,(enc x).length=k)(xs:List B):Go.Sort.flatK enc k xs.toArray=(flat enc xs).toArray:=by
 apply Array.ext';apply XS;.simp [dS b]
 intro t d e;have a:t<xs.length*k:=by simp_all
 have k0:0<k:=by grind
 have c:t/k<xs.length:=by rw[q2n k0];exact a
 have hm:t%k<k:=q2g _ k0;have f:=xf b c (t%k) hm;grind [Nat.div_add_mod',iE,Go.Sort.flatK]
def iK(x y:Ky):Bool:=!(decide (y.win<x.win)||(decide (y.win=x.win)&&Op.bytesLess y.hK.toList x.hK.toList))
def gO(ks:List Ky):List Ky:=ks.mergeSort iK
theorem mH(a:List Ky):(gO a).Perm a:=List.mergeSort_perm _ _
theorem vl(a:List Ky):(gO a).length=a.length:=(mH a).length_eq
open  Go.RowKit Go.Sort
theorem Td:∀args w,(callFunc 150 args).run Tryz.prog w=.ok (.enter 150 args) w:=λargs w=>kf
theorem abl(a:List Ky):a.mergeSort (λx y=>!(ltOf lP) y x)=gO a:=by unfold gO;congr 1;funext x y;rw[ae9];rfl
theorem JN{ρ:Go.Shelf.Ren}(E:Go.Proofs.SlLaysF0.n6 Tryz.prog ρ){α:Type}[Inhabited α]{enc:α->Xa}{g:Nat}(aE:∀w,(isAgg (ρ.t 24)).run Tryz.prog w=.ok true w)(zE:∀w,(Go.sizeOf (ρ.t 24)).run Tryz.prog w=.ok j w) (C:∀x,(enc x).length=j) (h1:∀x,∀v∈enc x,v.oneCell'=true) {cf:α->α->Int} (h0:SWO (ltOf cf)) (eg:∀args w,(callFunc g args).run Tryz.prog w=.ok (.enter g args) w) (U:∀x y W,Calls Tryz.prog g #[.agg ⟨enc x⟩,.agg ⟨enc y⟩] W λe Z=>e=.returned (.int .i64 (cf x y))/\∃q V,Z=grow (W.drewN q) V) (S:∀x y,ltOf cf x y=false->ltOf cf y x=false->x=y)   {xs:List α} (h:aA H F) (Q:Nat) (hA:aX Q F=ay i j a xs.length c (flat enc xs)) (P:xs.length<4611686018427387904) (k:∀H',aA H' (put Q (ay i j a xs.length c (flat enc (xs.mergeSort λx y=>!(ltOf cf) y x))) F)->K (.tuple #[]) H') : CF (ρ.f 6) #[.slice a xs.length c,.func (.func g) #[] #[]] H K:=by
 refine .mk λw hw=>?_;subst hw;have h2:=h.FU Q;rw[hA]at h2;obtain⟨ys,u⟩:∃ys,ys=xs.mergeSort λx y=>!(ltOf cf) y x:=⟨_,rfl⟩;have L:ys.length=xs.length:=by rw[u];exact (List.mergeSort_perm _ _).length_eq
 rw[<-u]at k;obtain⟨hl,⟨rfl,hn,rfl,D⟩|⟨b,pre,post,O,fr,rfl,J,M,A,D⟩⟩:=kw h2;.have hx:xs=[]:=q2k.1 hn;subst hx;obtain rfl:ys=[]:=q2k.1 L;refine mF (AnyF.slices_SortFunc_none E none 0 _ w) ?_;rintro e Z ⟨rfl,rfl⟩;exact⟨_,rfl,⟨rfl,rfl,rfl⟩,k _ (aA.back (ry D))⟩
 have hb:=aR.get D;have Y:b<w.heap.size:=aR.lt D;have T:(flat enc xs).length=xs.length*j:=dS C xs;have d:(flat enc ys).length=xs.length*j:=by rw[dS C,L]
 have h4:xs.length*j<=c*j:=q1v _ J;have hH:HoldsK enc j w b pre.length xs.toArray:=by
  unfold HoldsK;rw[JM enc j C];intro sz I;have s:sz<(flat enc xs).length:=eu I;refine⟨?_,?_⟩;case refine_2=>have:=A (pre.length+sz) ez ez;grind [World.frozen?]
  simp only[World.cell?,hb,Option.isSome_none,q2y,if_false,List.getElem?_toArray];rw[FB,List.getElem?_append_right ez,q39,List.getElem?_append_left s,List.getElem?_eq_getElem s];simp[s]
 have N:CmpLays Tryz.prog g #[] enc j cf b pre.length xs.toArray.size w:=λm os dk hs x y=>U x y _;refine mF (AnyQ.slices_SortFunc_total E j aE zE enc C h1 cf h0 g #[] b pre.length c xs.toArray w eg N hH Y (eu P) S) ?_;rintro e Z ⟨rfl,n,os,rfl⟩;refine⟨_,rfl,⟨rfl,rfl,rfl⟩,k _ (aA.back ?_)⟩;have es:(xs.toArray.toList.mergeSort λx y=>!(ltOf cf) y x).toArray=ys.toArray:=by rw[u]
 rw[es];have R:aR (w.heap.modify b (onCells (putCells id pre.length (flat enc ys).toArray))) (pt b (.cells (pre++flat enc ys++post).toArray O fr)*star (del Q F)):=by
  refine aR.CT D ?_ λsz I=>?_;.rw [Array.getElem?_modify,c_ rfl,hb];simp only[I_,onCells];rw[Tc _ _ _ _ (by rw[T,d])]
  rw [Array.getElem?_modify,b_ (Ne.symm I)]
 have hg:aR (w.heap.modify b (onCells (putCells id pre.length (flat enc ys).toArray))++os.toList.toArray) (pt b (.cells (pre++flat enc ys++post).toArray O fr)*star (del Q F)):=R.grow λsz I=>by rw[Array.getElem?_append_left I]
 have G:=hg.frame (B:=ay i j (some ⟨b,pre.length,none⟩) xs.length c (flat enc ys)) λp hp=>⟨d,.inr ⟨b,pre,post,O,fr,rfl,J,M,λ_=>A,hp⟩⟩;simpa[sortWorldK,grow,putRowK,putRow,mapBlock,Sort.ahead,JM enc j C] using G
theorem Te{xs:List Ky}(h:aA H F)(i:Nat)(f:aX i F=ay 174 2 a xs.length c (flat jT xs))(d:xs.length<4611686018427387904) (k:∀b,aA b (put i (ay 174 2 a xs.length c (flat jT (gO xs))) F)->K (.tuple #[]) b) : CF 230 #[.slice a xs.length c,.func (.func 150) #[] #[]] H K:=JN Tryz.agT Tryz.isAgg174 Tryz.sizeOf174 Be (λx v e=>by simp[jT]at e;rcases e with rfl|rfl <;> rfl) YN Td ahy aiD h i f d λb h=>k b (by rw[<-abl];exact h)
theorem JO(h:aA H F)(i:Nat)(c:aX i F=mapA Hl Fx j m)(k:∀b a,aA a (mapA Hl Fx b m::F)->K (.map (some b)) a):CF 147 #[.map (some j)] H K:=uX Tryz.afA h i c λa h _=>k _ a h
theorem xP(x y:Ky):iK x y=true↔x.win<y.win\/x.win=y.win/\x.hK.toList<=y.hK.toList:=by grind [iK,Go.Proofs.bytesLess_eq]
theorem Tf{x z:Ky}(a:iK x y=true)(b:iK y z=true):iK x z=true:=by grind [xP]
theorem Tg(x y:Ky):(iK x y||iK y x)=true:=by rw[Jq,xP,xP];grind
theorem adi{y:Fb}(h:t.toList=y.toList):t=y:=by grind [adj]
theorem Th{x:Ky}(a:iK x y=true)(b:iK y x=true):x=y:=by
 rw[xP]at *;rcases a with a|a <;> rcases b with b|b;.omega
 .omega
 .omega
 have:=adi (List.le_antisymm a.2 b.2);cases x;cases y;grind
theorem xQ(l:List Ky):(gO l).Pairwise λa b=>iK a b=true:=List.pairwise_mergeSort (le:=iK) (λa b c d e=>Tf d e) Tg l
theorem Ti{c:List Ky}(h:L.Perm c):gO L=gO c:=List.Perm.eq_of_pairwise (le:=λa b=>iK a b=true) (λa b _ _ d e=>Th d e) (xQ L) (xQ c) (((mH L).trans h).trans (mH c).symm)
def bB(m:CM):List Ot:=(gO (aJ m)).map λk=>(k,fZ m k)
theorem vm(m:CM):(bB m).length=m.length:=by simp[bB,vl,aJ]
def ja(m:CM)(before:Int):List Ot:=(bB m).takeWhile λo=>decide (o.1.win<before)
def mI(m:CM)(l:List Ot):CM:=l.foldl (λm o=>bF o.1 m) m
def oS(m:CM)(before:Int):CM:=mI m (ja m before)
theorem Tj(h:aA H F)(k:∀c0 a,aA a (ax c0 [.map (some c)] 316::F)->K (.func (.func 231) #[] #[PA c0 0]) a):CF 149 #[.map (some c)] H K:=by refine cM 149 28 (h.al λc0 _ h=>k _ _ h)
theorem Tk{mb:Nat}(A:List Ky->aF)(h:aA H (A []::ax j [.map (some mb)] 316::cG mb m::F)) (v:∀dn key (G:List aF) (n:aC) (t:KE),dn.length<m.length->aA n (A dn::G)->(∀c0,aA c0 (A (dn++[key])::G)->t (.bool true) c0)->fu Tryz.prog c [Hl key] n t) (k:∀dn b,dn.Perm (aJ m)->aA b (A dn::ax j [.map (some mb)] 316::cG mb m::F)->K (.tuple #[]) b) : CF 231 #[.func (.yield c) #[] #[],PA j 0] H K:=by
 refine cN 231 6017780034900889 [[]] ⟨_,h.r 1,?_⟩;conv=>whnf
 refine h.F4 XC 2 rfl λf n h=>⟨f,rfl,⟨λb=>∃dn:CM,aA b (A (aJ dn)::ax j [.map (some mb)] 316::jt Hl Fx f mb m dn::F),λb=>m.length-pu b f,⟨[],h⟩,?_⟩⟩;intro c0 ⟨dn,h⟩;have s:=h.k_ 2 rfl;refine h.Fh 2 rfl (λy=>.inl ⟨rfl,(λd=>by cases d),λ_=>?_⟩) λp x w C h=>.inr ⟨_,_,rfl,(λ_=>?_),λd=>by cases d⟩;.exact k (aJ dn) _ (y.map Prod.fst) (h.F5 2 rfl)
 have a:=h.k_ 2 rfl;have l:=aA.DU (P:=Tryz.prog) h 2 rfl;refine⟨_,_,_,l,h.al λb1 _ h=>h.z_ 0 rfl rfl λB h=>⟨_,_,h.x_ 0 rfl,?_⟩⟩;rw[po]at a;have i:(aJ dn).length<m.length:=by grind
 refine v (aJ dn) p.1 _ _ _ i (h.o [1,0,2,3] 4) λu h=>⟨true,rfl,(λd=>by cases d),λ_=>?_⟩;have h:aA u (A (aJ dn++[p.1])::ax j [.map (some mb)] 316::jt Hl Fx f mb m (dn++[p])::F):=h.o [0,2,3] 4;refine⟨⟨dn++[p],?_⟩,?_⟩
 .have e:aJ (dn++[p])=aJ dn++[p.1]:=by grind
  rw[e];exact h
 have:=h.k_ 2 rfl;grind
theorem aiR:Fs Tryz.prog 321 174 2 24:=fU kf
theorem Tl{mb:Nat}{m:CM}{F:List aF}(y:m.length<=1000000)(h:aA H (ax c [.map (some mb)] 316::cG mb m::F)) (k:∀dn a c0 f,dn.Perm (aJ m)->aA f (ay 174 2 a dn.length c0 (flat jT dn)::cG mb m::F)->K (.slice a dn.length c0) f) : CF 297 #[.slice none 0 0,.func (.func 231) #[] #[PA c 0]] H K:=by
 refine cL 297 (.r (.seq (.r (.DT (.FH [.agg [.int .i64,.str]] [none] .CA (.DT .CA)))) (.r .no))) (h.al λb _ h=>⟨rfl,λR e d s=>?_⟩);rename_i H0;have h:=h.FH R;have h:=h.cp 174 2;refine Tk (m:=m) (mb:=mb) (λdn=>F7 λp:KQ×Nat=>star [ax b [.slice p.1 dn.length p.2] 321,ay 174 2 p.1 dn.length p.2 (flat jT dn),pt (H0.size+1) (.loop R)]) (F:=pt H0.size (.deferred (some []))::F) ?_ ?_ ?_;.have h:=h.o [3,0,1,4,5,2] 6;exact cw.2 ⟨(none,0),aA.shut [_,_,_] h⟩
 .intro dn key G v C j h i;let⟨⟨a,c0⟩,h⟩:=cw.1 h;have h:=aA.open (A:=[_,_,_]) h;refine s _ _ _ ⟨_,_,rfl,h.eY 2 rfl,h.al λb1 _ h=>h.z_ 0 rfl rfl λE h=>⟨h.eY 3 rfl,h.Fu 3 rfl λx h=>⟨_,_,_,h.r 1,_,_,h.x_ 0 rfl,?_⟩⟩⟩;intro b2 _ rfl rfl;conv=>whnf
  refine h.CC (ws:=jT key) aiR 2 rfl rfl rfl ez ez λu n w h=>⟨_,_,_,rfl,h.z_ 1 rfl rfl λD h=>⟨h.eY 3 rfl,i _ ?_⟩⟩;have h:=h.n_ 3 rfl (.loop R);refine cw.2 ⟨(u,n),aA.shut [_,_,_] ?_⟩;rw[iX,nv,po];exact h.o [1,2,3] 4
 intro dn v t h;let⟨⟨a,c0⟩,h⟩:=cw.1 h;have h:=aA.open (A:=[_,_,_]) h;refine⟨.ready,none,ee,by rw[lp e d];exact h.eY 2 rfl,h.Fu 2 rfl λB h=>⟨rfl,⟨_,_,_,h.r 0,h.eY 5 rfl,?_⟩⟩⟩;have h:=h.n_ 5 rfl (.deferred none);exact k dn a c0 _ t (h.o [1,4] 6)
theorem Tm(f:m.length<=1000000)(h:aA H (ax j [.map (some c)] 316::cG c m::F)) (k:∀a mb e,aA e (ay 174 2 a m.length mb (flat jT (gO (aJ m)))::cG c m::F)->K (.slice a m.length mb) e) : CF 148 #[.func (.func 231) #[] #[PA j 0],.func (.func 150) #[] #[]] H K:=by
 refine cM 148 4380 (cM 229 28 (Tl f h λdn a mb c0 d h=>⟨_,_,_,rfl,_,_,_,rfl,?_⟩));have b:dn.length=m.length:=by rw[d.length_eq];grind
 refine Te h 0 rfl ez λi h=>⟨rfl,?_⟩;rw[b,Ti d]at h;rw[b];exact k _ _ _ h
theorem JP(h:aA H F)(k:∀c0 a,aA a (ax c0 [PA c 0] 161::F)->K (.func (.func 146) #[] #[PA c0 0]) a):CF 80 #[PA c 0] H K:=by
 refine cM 80 28 ?_;conv=>whnf
 exact h.al λc0 _ h=>k _ _ h
theorem JQ{sb:Nat}{mb:Nat}{most:Int}{c0:Nat}(I:m.length<=1000000)(A:Nat->aF)(C:Nat->aF)(B:aF)(h:aA H (ax c0 [PA sb 0] 161::DK sb mb most::cG mb m::B::F)) (s:∀G b,aA b (DK sb mb most::cG mb m::B::G)->aA b (A 0::G)) (J:∀j (P:j<(bB m).length) (G:List aF) (y:aC) (v:KE),aA y (A j::G)->(∀f,aA f (A (j+1)::G)->v (.bool true) f)->(∀f,aA f (C j::G)->v (.bool false) f)->fu Tryz.prog c [Hl (bB m)[j].1,Fx (bB m)[j].2] y v) (k:∀b,aA b (A (bB m).length::F)->K (.tuple #[]) b) (L:∀j b,j<(bB m).length->aA b (C j::F)->K (.tuple #[]) b) : CF 146 #[.func (.yield c) #[] #[],PA c0 0] H K:=by
 refine cN 146 0x11561239925113994 [[(15,sI)]] ?_;conv=>whnf
 refine⟨_,h.rd 0 rfl _,⟨_,h.r 1,JO h 2 rfl λr y h=>⟨_,rfl,Tj h λkc f h=>⟨_,_,rfl,Tm I h λa l R h=>⟨_,_,_,rfl,?_⟩⟩⟩⟩⟩;have n:(bB m).length=m.length:=vm m;have O:(gO (aJ m)).length=m.length:=by rw[vl];grind
 have h:=s _ _ (h.o [3,4,5,0,1] 6);refine⟨λt b=>∃j:Nat,t=j/\j<=m.length/\aA b (A j::ay 174 2 a m.length l (flat jT (gO (aJ m)))::cG r m::F),λt _=>m.length-t.toNat,⟨0,rfl,EG _,h⟩,?_⟩;rintro t E ⟨j,rfl,P,h⟩;refine⟨λM=>?_,λM=>?_⟩
 .have u:j<m.length:=by grind
  have d:j<(gO (aJ m)).length:=ez;have D:=h.a_ 1 rfl;refine⟨⟨ez,ez⟩,_,_,D.some Be ez d,_,_,D.E6 Be d,h.al λb1 _ h=>h.z_ 0 rfl rfl λN h=>⟨_,_,h.x_ 0 rfl,_,_,h.x_ 0 rfl,⟨_,_,_,_,_,_,_,_,h.CB XC koK 3 rfl (x:=(gO (aJ m))[j]),?_⟩⟩⟩;have e:(bB m)[j]'ez=((gO (aJ m))[j],fZ m (gO (aJ m))[j]):=by simp[bB]
  have i:=J j ez;rw[e]at i;refine i _ N _ (h.o [1,0,2,3] 4) (λQ h=>⟨true,rfl,(λw=>by cases w),λ_=>?_⟩) λQ h=>⟨false,rfl,(λ_=>?_),λw=>by cases w⟩
  .conv=>whnf
   rw[show i64.wrap ((j:Int)+1)=((j+1:Nat):Int) by grind [aN]];exact⟨⟨j+1,rfl,u,h.o [0,2,3] 4⟩,by grind⟩
  exact L j _ ez (h.o [0] 4)
 have:j=m.length:=by grind
 subst this;have:=k E;rw[n]at this;exact this (h.o [0] 3)
theorem Tn(h:aA H (DK j i v::cG i m::F)) (k:∀a c d,aA d (DK a c v::cG c m::DK j i v::cG i m::F)->K (PA a 0) d) : CF 221 #[PA j 0] H K:=by refine cM 221 28 ⟨_,h.r 0,_,h.r 0,JO h 1 rfl λr e h=>⟨_,rfl,h.r 1,h.al λb _ h=>k _ _ _ h⟩⟩
abbrev bi(s:Fb):List UInt8:=s.data.toList
theorem nJ(s:Fb):(bi s).length=s.size:=q30
theorem xR(h:i<(bi t).length):F9 t i=((bi t)[i].toNat:Int):=by grind [F9]
def X6(c:UInt8):Bool:=decide (97<=c.toNat)&&decide (c.toNat<=122)
def qr(c:UInt8):Bool:=X6 c||(decide (48<=c.toNat)&&decide (c.toNat<=57))||decide (c.toNat=95)
def KB(c:UInt8):Bool:=decide (33<=c.toNat)&&decide (c.toNat<=126)&&decide (c∉[(44:UInt8),61,123,125])
def kK(s:Fb):Bool:=decide (1<=s.size)&&decide (s.size<=64)&&X6 ((bi s).headD 0)&&(bi s).all qr
def bO.z:bO:=⟨⟨#[]⟩,⟨#[]⟩⟩
def iL(l:bO):Bool:=decide (l.value.size<=64)&&(bi l.value).all KB&&kK l.name
def rJ(labs:List bO)(i:Nat):Bool:=iL (labs.getD i bO.z)&&(decide (i=0)||Op.bytesLess (labs.getD (i-1) bO.z).name.toList (labs.getD i bO.z).name.toList)
def dB(name:Fb)(labs:List bO):Bool:=kK name&&decide (labs.length<=8)&&(List.range labs.length).all (rJ labs)
theorem To{p:Nat->Bool}:(List.range c).all p=true↔∀i,i<c->p i=true:=by grind
theorem ahF{p:B->Bool}{l:List B}(h:∀i (hi:i<l.length),p l[i]=true):l.all p=true:=by rw[XU];intro x a;obtain⟨i,hi,rfl⟩:=XV a;grind
theorem afM{p:B->Bool}{l:List B}(hi:i<l.length)(h:p l[i]=false):l.all p=false:=by grind
theorem xS{l:List B}(d:B)(h:i<l.length):l.getD i d=l[i]:=by grind
theorem JU{l:List UInt8}(h:0<l.length):l.headD 0=l[0]:=by
 cases l with
 | nil=>simp at h
 | cons a l=>rfl
def df(c:UInt8)(l:List UInt8):Int:=if l.idxOf c<l.length then (l.idxOf c:Int) else -1
theorem JV(c:UInt8):∀l:List UInt8,Go.Lib.indexByte l c=df c l
 | []=>rfl
 | b::l=>by unfold Go.Lib.indexByte;rw[JV c l];unfold df;grind
theorem afg(c:UInt8)(l:List UInt8):-1<=df c l/\df c l<l.length:=by grind [df]
theorem acE(c:UInt8)(l:List UInt8):0<=df c l↔c∈l:=by grind [df]
theorem ab4:sG Tryz.prog 430 #[.string t,.int .u8 x] (aB (df x.toNat.toUInt8 (bi t))):=by intro w;have h:(callFunc 430 #[.string t,.int .u8 x]).run Tryz.prog w=(do let v <-Extern.BytealgIndexByte.indexByte #[.string t,.int .u8 x];pure (Next.value v)).run Tryz.prog w:=kf;rw[h];have a:=Go.Lib.run_indexByteString (P:=Tryz.prog) t x w;simp only[Sem.run_bind,a,JV];rfl
theorem Tp(k:K (aB (df v.toNat.toUInt8 (bi t))) H):CF 346 #[.string t,.int .u8 v] H K:=cM 346 28 (cM 400 28 ⟨_,ab4,_,rfl,k⟩)
theorem JW:bX Tryz.prog 270 #[.string t] H (.bool (kK t)):=by
 refine R3 ⟨λa=>?_,λa=>?_,λa=>?_,λa=>?_⟩;.simp only[E8,DC]at a;omega
 .simp only[E8,DC]at a;omega
 .have:kK t=false:=by
   cases e:kK t;.rfl
   unfold kK X6 at e;simp only[p_,za]at e;simp only[Jq,za]at a;obtain⟨⟨⟨e1,e2⟩,e3,e4⟩,-⟩:=e;have k:=nJ t;have hb:F9 t 0=((bi t)[0]'ez).toNat:=xR ez;have u:(bi t).headD 0=(bi t)[0]'ez:=JU ez;grind
  grind
 simp only[E8,DC]at a;let⟨⟨⟨c1,c2⟩,c3⟩,c4⟩:=a;have k:=nJ t;have hb:F9 t 0=((bi t)[0]'ez).toNat:=xR ez;have u:(bi t).headD 0=(bi t)[0]'ez:=JU ez;have f:kK t=(bi t).all qr:=by grind [kK,X6]
 rw[f];refine⟨λi m=>m=H/\∃j:Nat,i=j/\j<=t.size/\∀q (n:q<(bi t).length),q<j->qr (bi t)[q]=true,λi _=>t.size-i.toNat,⟨rfl,0,rfl,ez,λq _ h=>ez⟩,?_⟩;rintro i y ⟨rfl,j,rfl,v,w⟩;refine⟨λa=>?_,λa=>?_⟩
 .have c:j<t.size:=by grind
  have b:j<(bi t).length:=ez;refine⟨ez,?_⟩;rw[Fw,xR b];refine⟨λd=>?_,λd=>?_⟩;.simp only[p_,Jq,za,XB,DC]at d;rw[afM b (by grind [qr,X6])];grind
  rw [aN (x:=(j:Int)+1)];refine⟨⟨rfl,j+1,ez,c,λq n s=>?_⟩,by grind⟩;by_cases hqj:q=j;.subst hqj;unfold qr X6;simp only[Bool.and_eq_false_iff,E8,DC,q2p,za]at d;grind
  grind
 grind
theorem Tq(h:aA H F)(k:∀d,aA d F->K (.bool (iL l)) d):CF 271 #[.agg #[.string l.name,.string l.value]] H K:=by
 refine R2 (h.al λb _ h=>⟨_,h.r 0,λm=>?_,λm=>?_⟩)
 .have:iL l=false:=by unfold iL;grind
  rw[<-this];exact k _ h.tl
 have hs:l.value.size<=64:=by grind
 have w:=nJ l.value;refine⟨λi d=>∃j:Nat,i=j/\j<=l.value.size/\(∀q (x:q<(bi l.value).length),q<j->KB (bi l.value)[q]=true)/\aA d (ax b [.string l.name,.string l.value] 223::F),λi _=>l.value.size-i.toNat,⟨0,rfl,ez,λq _ h=>ez,h⟩,?_⟩;rintro i v ⟨j,rfl,y,A,h⟩;refine⟨_,h.r 0,λm=>?_,λm=>?_⟩
 .have s:j<l.value.size:=by grind
  have c:j<(bi l.value).length:=ez;refine⟨_,h.r 0,ez,?_⟩;intro u n;rw[Fw,xR c];have a:u (!KB (bi l.value)[j]) v:=by
   refine n _ _ ⟨λf=>?_,λf=>?_⟩
   .have:iL l=false:=by grind [iL]
    rw[<-this];exact k _ h.tl
   grind [aN]
  refine⟨λf=>?_,λf=>?_⟩
  .simp only[E8,DC]at f;refine Tp ⟨_,rfl,?_⟩;have:decide (0<=df (((bi l.value)[j].toNat:Int).toNat.toUInt8) (bi ⟨#[44,61,123,125]⟩))=!KB (bi l.value)[j]:=by rw[q24,za,acE];have e:((bi l.value)[j].toNat:Int).toNat.toUInt8=(bi l.value)[j]:=eh;grind [KB]
   dsimp only;rw[this];exact a
  have:KB (bi l.value)[j]=false:=by grind [KB]
  rw[this]at a;exact a
 have t:l.value.size<=j:=by grind
 refine⟨_,h.r 0,_,JW,?_⟩;have:iL l=kK l.name:=by grind [iL]
 rw[<-this];exact k _ h.tl
theorem qt{labs:List bO}(h:aA H F)(s:∀H,aA H F->aQ H a (flat cJ labs)) (k:∀m,aA m F->K (.bool (dB t labs)) m):CF 193 #[.agg #[.string t,.slice a labs.length c]] H K:=by
 refine R8 (h.al λb _ h=>⟨_,h.r 0,_,JW,_,_,_,λ_=>h.r 0,λe=>?_,λe=>?_⟩)
 .have:dB t labs=false:=by unfold dB;grind
  rw[<-this];exact k _ h.tl
 simp only[E8,q2p,DC]at e;let⟨c1,c2⟩:=e;have y:dB t labs=(List.range labs.length).all (rJ labs):=by grind [dB]
 refine⟨_,_,_,h.r 0,⟨λi m=>∃j:Nat,i=j/\j<=labs.length/\(∀q,q<j->rJ labs q=true)/\aA m (ax b [.string t,.slice a labs.length c] 62::F),λi _=>labs.length-i.toNat,⟨0,rfl,ez,λq h=>ez,h⟩,?_⟩⟩;rintro i D ⟨j,rfl,A,C,h⟩;refine⟨λe=>?_,λe=>?_⟩
 .have d:j<labs.length:=by grind
  have f:=s _ h.tl;refine⟨ez,_,_,f.some iI ez d,_,_,f.E6 iI d,h.al λb2 _ h=>h.st 0 rfl rfl ?_⟩;intro B h;refine⟨_,_,h.q 0,Tq (l:=labs[j]) h λw h=>⟨_,rfl,?_⟩⟩;have f:=s _ h.tl.tl;have name:0<j->i64.wrap ((j:Int)-1)=((j-1:Nat):Int):=λh=>by grind [aN]
  have hs:rJ labs j=(iL labs[j]&&(decide (j=0)||Op.bytesLess (labs.getD (j-1) bO.z).name.toList labs[j].name.toList)):=by grind [rJ]
  refine⟨a,labs.length,c,λ_=>h.r 1,λn=>?_,_,_,λn=>f.some iI ez d,(labs.getD (j-1) bO.z).name,λn=>?_,labs[j].name,λ_=>h.r 0,λe=>?_,λe=>?_⟩;.have h0:=j_ n.2;rw[name ez];omega
  .have h0:=j_ n.2;rw[name ez,Fw];exact f.el0 iI (k:=j-1) ez (by rw[xS bO.z ez];rfl)
  .have:dB t labs=false:=by grind
   rw[<-this];exact k _ h.tl.tl
  rw [aN (x:=(j:Int)+1)];refine⟨⟨j+1,ez,d,λq v=>?_,h.tl⟩,by grind⟩;grind
 have u:labs.length<=j:=by grind
 have:dB t labs=true:=by grind
 rw[<-this];exact k _ h.tl
def fF(l:bO):Fb:=(l.name++(⟨#[61]⟩:Fb))++l.value
def kL(labs:List bO):Fb:=⟨(Go.Lib.join ((labs.map fF).map bi) [44]).toArray⟩
def gP(name:Fb)(labs:List bO):Fb:=
 if dB name labs then (if labs=[] then name else ((name++(⟨#[123]⟩:Fb))++kL labs)++(⟨#[125]⟩:Fb)) else ⟨#[]⟩
theorem Tr(f:B->Value)(z:Value)(l:List B)(j:Nat)(h:j<l.length) : cu ((l.take j).map f++List.replicate (l.length-j) z) j [f l[j]]=(l.take (j+1)).map f++List.replicate (l.length-(j+1)) z:=by
 have e:l.length-j=(l.length-(j+1))+1:=ez;rw[e,List.replicate_succ];have a:((l.take j).map f).length=j:=by grind
 have:=uK [f l[j]] ((l.take j).map f) (z::List.replicate (l.length-(j+1)) z) 0;simp only[a,q28]at this;grind [List.take_succ_eq_append_getElem,cu]
theorem join_le{n:Nat}:∀{xs:List (List UInt8)},(∀x∈xs,x.length<=n)->(Go.Lib.join xs [44]).length<=(n+1)*xs.length
 | [],_=>by simp[Go.Lib.join,List.intercalate]
 | x::r,h=>by
  rw[Go.Lib.join_length];have:∀{l:List (List UInt8)},(∀x∈l,x.length<=n)->Go.Lib.lens l<=n*l.length:=by
   intro l
   induction l with
   | nil=>grind [Go.Lib.lens]
   | cons y l ih=>
    grind [Go.Lib.lens,Nat.mul_succ]
  grind
theorem tI(x y:Fb):(x++y).size=x.size+y.size:=ByteArray.size_append
theorem tJ(h:kK t=true):t.size<=64/\1<=t.size:=by unfold kK at h;grind
theorem tK(h:iL l=true):l.name.size<=64/\l.value.size<=64:=by unfold iL at h;simp only[p_,za]at h;grind [tJ]
theorem Ts(l:bO):(fF l).size=l.name.size+1+l.value.size:=by unfold fF;rw[tI,tI];rfl
structure adE(name:Fb)(labs:List bO):Prop where
 named:kK name=true
 len:labs.length<=8
 val:∀l∈labs,iL l=true
 step:∀i,i<labs.length->rJ labs i=true
theorem lQ(h:dB t A=true):adE t A:=by unfold dB at h;simp only[p_,za,To]at h;refine⟨h.1.1,h.1.2,λl a=>?_,h.2⟩;obtain⟨i,hi,rfl⟩:=XV a;have:=h.2 i hi;unfold rJ at this;grind
theorem acB(h:∀l∈A,iL l=true):(Go.Lib.join ((A.map fF).map bi) [44]).length<=130*A.length:=by have:=join_le (n:=129) (xs:=(A.map fF).map bi) (by intro x a;rw[XT,Ax]at a;obtain⟨l,b,rfl⟩:=a;have:=tK (h l b);show (bi (fF l)).length<=129;grind [nJ,Ts]);grind
theorem Tt{labs:List bO}:(kL labs).size=(Go.Lib.join ((labs.map fF).map bi) [44]).length:=by unfold kL;show Array.size _=_;simp
theorem abI{cs:Xa}(h:aQ H a cs)(b:0<cs.length):a=some ⟨aV a,aS a,none⟩:=(h 0 _ (wZ b)).1
theorem Tryz.ajh:Builder.Extra Tryz.prog Tryz.QC where
 sizeBuilder:=kf
 liesBuilder:=kf
 t5:=Tryz.underlying5
 a5:=Tryz.isAgg5
 z5:=Tryz.sizeOf5
 v5:=Tryz.zeroValue5
 infoByte:=kf
 cellsByte:=kf
 sizeByte:=kf
 neB5:=ee
theorem Ho{xs:List Fb}(h:aA H F)(d:aQ H a (xs.map λs=>.string s))(h0:0<xs.length)(u:xs.length<=1000000)(t:xs.length<=c) (m:(Go.Lib.join (xs.map bi) [44]).length<=1000000000) (k:∀i,aA i F->K (.string ⟨(Go.Lib.join (xs.map bi) [44]).toArray⟩) i):CF 444 #[.slice a xs.length c,.string ⟨#[44]⟩] H K:=by
 refine .mk λw n=>?_;subst n;have hs:=abI d (by grind);rw[hs]at d ⊢;have b:∀(j:Nat) x,xs[j]?=some x->w.cell? ⟨aV a,aS a+j,none⟩=some (.string x):=by intro j x v;rw[o_];exact (d j (.string x) (by grind [iE])).2
 have f:aV a<w.heap.size:=by have:=b 0 xs[0] (List.getElem?_eq_getElem h0);grind [o_,aM]
 refine mF (Any.strings_Join Tryz.ajj Tryz.ajh (aV a) (aS a) c xs ⟨#[44]⟩ w b f ez t (by grind)) ?_;rintro e y ⟨rfl,hb⟩;exact⟨_,rfl,Av hb,k _ (h.grow (xe hb))⟩
theorem aiO:Fs Tryz.prog 290 9 1 16:=fU kf
theorem Tu{labs:List bO}(h:aA H F)(x:∀H,aA H F->aQ H a (flat cJ labs)) (k:∀m,aA m F->K (.string (gP t labs)) m):CF 410 #[.agg #[.string t,.slice a labs.length c]] H K:=by
 refine cN 410 0x1dd121561239925144c [[(22,sI)]] (h.al λb _ h=>⟨_,_,_,_,h.q 0,qt h (λH h=>x H h.tl) λL h=>⟨_,rfl,λe=>?_,λe=>?_⟩⟩)
 .have:gP t labs=⟨#[]⟩:=by unfold gP;grind
  rw[<-this];exact k _ h.tl
 simp only[q2p]at e;have n:=lQ e;refine⟨_,_,_,h.r 0,λf=>?_,λf=>?_⟩
 .have f:=j_ f;have Q:labs=[]:=q2k.1 ez;refine⟨_,h.r 0,?_⟩;have:gP t labs=t:=by unfold gP;grind
  rw[<-this];exact k _ h.tl
 have f:=h_ f;have B:=n.len;refine⟨_,_,_,h.r 0,h.mk1 aiO (z0:=.string ⟨#[]⟩) kf kf ez ez λpa O h=>⟨_,_,_,rfl,_,_,_,h.r 1,⟨λi m=>∃j:Nat,i=j/\j<=labs.length/\aA m (ay 9 1 pa labs.length labs.length ((labs.take j).map (λl=>.string (fF l))++List.replicate (labs.length-j) (Value.string ⟨#[]⟩))::ax b [.string t,.slice a labs.length c] 62::F),λi _=>labs.length-i.toNat,⟨0,rfl,ez,eu h⟩,?_⟩⟩⟩;rintro i L ⟨j,rfl,J,h⟩;refine⟨λe=>?_,λe=>?_⟩
 .have d:j<labs.length:=by grind
  have u:=x _ h.tl.tl;have M:=tK (n.val _ (qa d));refine⟨ez,_,_,u.some iI ez d,_,_,u.E6 iI d,h.al λb2 _ h=>h.st 0 rfl rfl ?_⟩;intro P h;refine⟨_,h.r 0,?_,_,h.r 0,?_,ez,?_⟩;.show (((labs[j].name.size+1:Nat)):Int)<=9223372036854775807;omega
  .show ((((labs[j].name++(⟨#[61]⟩:Fb)).size+labs[j].value.size:Nat)):Int)<=9223372036854775807;rw[tI];show ((labs[j].name.size+1+labs[j].value.size:Nat):Int)<=9223372036854775807;omega
  have I:((labs.take j).map (λl=>Value.string (fF l))++List.replicate (labs.length-j) (Value.string ⟨#[]⟩)).length=labs.length:=by grind
  let⟨C,D,v⟩:=h.FE 1 rfl j [.string (fF labs[j])] (by grind) eh;rw[Tr (λl=>Value.string (fF l)) _ labs j d]at v;have y:i64.wrap ((j:Int)+1)=((j+1:Nat):Int):=by rw[aN];omega
  refine⟨_,_,C,D,?_⟩;intro N E;refine⟨⟨j+1,y,d,?_⟩,by rw[y];dsimp only;omega⟩;rw[E];exact v.tl
 have name:labs.length<=j:=by grind
 have e1:labs.take j=labs:=FP name;have e2:labs.length-j=0:=ez;rw[e1,e2,List.replicate_zero,HD]at h;have J:=acB n.val;have A:=Tt (labs:=labs);have G:=tJ n.named;refine⟨_,h.r 1,?_,?_⟩;.show (((t.size+1:Nat)):Int)<=9223372036854775807;omega
 have DH:=h.a_ 0 rfl;have s:(labs.map fF).length=labs.length:=FI ..;rw[<-s];refine Ho (xs:=labs.map fF) h (by rw[XT];exact DH) ez ez ez ez λR h=>⟨_,rfl,h.r 1,?_,?_,?_⟩;.show (((t++(⟨#[123]⟩:Fb)).size+(kL labs).size:Nat):Int)<=9223372036854775807;rw[tI];show (((t.size+1)+(kL labs).size:Nat):Int)<=9223372036854775807;omega
 .show ((((t++(⟨#[123]⟩:Fb))++kL labs).size+1:Nat):Int)<=9223372036854775807;rw[tI,tI];show (((t.size+1)+(kL labs).size+1:Nat):Int)<=9223372036854775807;omega
 have:gP t labs=((t++(⟨#[123]⟩:Fb))++kL labs)++(⟨#[125]⟩:Fb):=by unfold gP;grind
 have w:=k _ h.tl.tl;rw[this]at w;exact w
theorem Bf{α:Type}{p:α->Bool}:∀{l:List α} {j:Nat},(∀i (h:i<l.length),i<j->p l[i]=true)->(∀h:j<l.length,p l[j]=false)->l.takeWhile p=l.take j
 | [],j,_,_=>eh
 | a::r,0,_,h2=>by simp_all
 | a::r,j+1,h1,h2=>by have e:p a=true:=h1 0 eh ez;simp only[List.takeWhile,e,q2f];rw[Bf (λi h hi=>h1 (i+1) (eu h) ez) λh=>h2 (eu h)]
theorem Tv(m:CM)(l r:List Ot):mI m (l++r)=mI (mI m l) r:=by grind [mI]
section
variable {sb mb:Nat}{most:Int}{m:CM}{F L:List aF}{H:aC}{K:KE}
def clA(sb mb b b1 b2 l:Nat)(most:Int)(m:CM)(before:Int)(R:Loop)(j:Nat)(p:Prop):aF:=F7 λq:KQ×Nat=>
 star [ax b [PA sb 0] 161,ax b1 [aB before] 2,ax b2 [.slice q.1 ((bB m).take j).length q.2] 163,ay 184 74 q.1 ((bB m).take j).length q.2 (flat cR ((bB m).take j)),
  DK sb mb most,cG mb (mI m ((bB m).take j)),pt l (.loop R),DA p]
abbrev vo(m:CM)(before:Int)(j:Nat):Prop:=∀i (h:i<(bB m).length),i<j->(bB m)[i].1.win<before
theorem Tw(E:m.length<=1000000){d:Int}(h:aA H (DK sb mb most::cG mb m::F)) (k:∀a c u,aA u (ay 184 74 a (ja m d).length c (flat cR (ja m d))::DK sb mb most::cG mb (oS m d)::F)->K (.slice a (ja m d).length c) u) : CF 370 #[PA sb 0,aB d] H K:=by
 refine Ri ?_;have M:(bB m).length=m.length:=vm m;refine h.al λb _ h=>h.al λb1 _ h=>h.al λb2 _ h=>⟨_,h.r 2,JP h λc0 n h=>⟨_,_,rfl,rfl,λR v t I=>?_⟩⟩;have h:=h.FH R;have h:=h.cp 184 74;refine JQ (m:=m) (sb:=sb) (mb:=mb) (most:=most) E (λj=>clA sb mb b b1 b2 (n.size+1) most m d R j (vo m d j)) (λj=>clA sb mb b b1 b2 (n.size+1) most m d { R with state:=.done,pending:=some (.exit 0) } j (vo m d j/\∀h:j<(bB m).length,¬(bB m)[j].1.win<d)) (star [ay 184 74 none 0 0 [],ax b2 [.slice none 0 0] 163,ax b1 [aB d] 2,ax b [PA sb 0] 161,pt (n.size+1) (.loop R)]) (F:=pt n.size (.deferred (some []))::F) ?_ ?_ ?_ ?_ ?_;.have h:=aA.shut [_,_,_,_,_] (h.o [0,4,5,6,1,3,7,8,2] 9);exact h.o [1,2,3,0,4] 5
 .intro G u h;have h:=(aA.open (A:=[_,_,_,_,_]) (h.o [2,0,1] 3)).DA (p:=vo m d 0) (λi _ hi=>cS hi (Nat.not_lt_zero i));exact cw.2 ⟨(none,0),aA.shut [_,_,_,_,_,_,_,_] (h.o [4,3,2,1,6,7,5,0] 8)⟩
 .intro j y G w Y h B C;let⟨⟨a,c⟩,h⟩:=cw.1 h;have h:=aA.open (A:=[_,_,_,_,_,_,_,_]) h;have f:=(aA.B3 (h.o [7] 8)).1;refine I _ _ _ ⟨_,_,_,_,_,_,_,_,_,_,rfl,h.eY 6 rfl,h.al λb3 _ h=>h.z_ 0 rfl rfl λT h=>h.al λb4 _ h=>h.z_ 0 rfl (by rw[lN];exact (lN Cl.z).symm) λS h=>⟨h.eY 8 rfl,h.Fu 8 rfl λW h=>⟨_,h.r 1,_,h.r 3,λs=>?_,λs=>?_⟩⟩⟩;.have P:=j_ s;refine⟨h.eY 8 rfl,C _ ?_⟩;have h:=h.n_ 8 rfl (.loop { R with state:=.done,pending:=some (.exit 0) });have e:vo m d j/\∀h:j<(bB m).length,¬(bB m)[j].1.win<d:=⟨f,λ_=>ez⟩;have h:=(h.o [2,3,4,5,6,7,8] 10).DA e;exact cw.2 ⟨(a,c),aA.shut [_,_,_,_,_,_,_,_] (h.o [1,2,3,4,5,6,7,0] 8)⟩
  have O:=h_ s;refine⟨_,_,_,h.r 4,_,_,h.x_ 1 rfl,_,_,_,_,_,_,_,_,h.x_ 0 rfl,?_⟩;intro b5 _ rfl rfl;have Q:((bB m).take j).length<=1000000:=by grind
  refine h.CC (ws:=cR (bB m)[j]) XM 5 rfl (jx _) (tG _) ez ez λN D Z h=>⟨_,_,_,rfl,h.z_ 4 rfl rfl λU h=>⟨_,h.r 2,dj ⟨_,h.r 6,_,_,h.x_ 1 rfl,h.DP (x:=(bB m)[j].1) XC koK 7 rfl λV h=>⟨h.eY 8 rfl,B _ ?_⟩⟩⟩⟩;have h:=h.n_ 8 rfl (.loop R);have e:vo m d (j+1):=λi hi L=>by grind
  have h:=(h.o [2,3,4,5,6,7,8] 10).DA e;refine cw.2 ⟨(N,D),aA.shut [_,_,_,_,_,_,_,_] ?_⟩;rw[YX y,iX,nv,Tv,po];exact h.o [1,2,3,4,5,6,7,0] 8
 .intro w h;let⟨⟨a,c⟩,h⟩:=cw.1 h;have h:=aA.open (A:=[_,_,_,_,_,_,_,_]) h;have f:=(aA.B3 (h.o [7] 8)).1;have ec:ja m d=(bB m).take (bB m).length:=Bf (λi h hi=>V_ (f i h hi)) λh=>cS h (Nat.lt_irrefl _);unfold oS at k;rw[ec]at k;refine⟨.ready,none,ee,by rw[lp v t];exact h.eY 6 rfl,h.Fu 6 rfl λJ h=>.inl ⟨rfl,⟨_,_,_,h.r 2,h.eY 8 rfl,?_⟩⟩⟩;have h:=h.n_ 8 rfl (.deferred none);exact k a c _ (h.o [3,4,5] 9)
 intro j w y h;let⟨⟨a,c⟩,h⟩:=cw.1 h;have h:=aA.open (A:=[_,_,_,_,_,_,_,_]) h;have f:=(aA.B3 (h.o [7] 8)).1;have ec:ja m d=(bB m).take j:=Bf (λi h hi=>V_ (f.1 i h hi)) λh=>decide_eq_false (f.2 h);unfold oS at k;rw[ec]at k;refine⟨.done,some (.exit 0),ee,h.eY 6 rfl,h.Fu 6 rfl λJ h=>.inr ⟨rfl,⟨_,_,_,h.r 2,h.eY 8 rfl,?_⟩⟩⟩;have h:=h.n_ 8 rfl (.deferred none);exact k a c _ (h.o [3,4,5] 9)
end
theorem vp(x:Int):0<=u64.wrap x/\u64.wrap x<18446744073709551616:=by grind [IntKind.wrap,IntKind.bits,IntKind.signed]
theorem ZG(x:Int):aG (i64.wrap x):=by unfold aG;grind [IntKind.wrap,IntKind.bits,IntKind.signed]
def rK(v:Int):Int:=aZ .xor .u64 (u64.wrap ((u64.wrap v)*2^(min (Int.toNat 1) (u64.bits)))) (u64.wrap (Int.fdiv v (2^(min (Int.toNat 63) (i64.bits)))))
def tL(u:Int):Int:=aZ .xor .i64 (i64.wrap (Int.fdiv u (2^(min (Int.toNat 1) (u64.bits))))) (i64.wrap (0-(i64.wrap (aZ .and .u64 u 1))))
theorem JX(v:Int):0<=rK v/\rK v<18446744073709551616:=vp _
theorem tM(u:Int):aG (tL u):=ZG _
def Hr(v:Int):Nat:=(rK v).toNat
theorem Bg(v:Int):(Hr v:Int)=rK v:=q2i (JX v).1
theorem vq(v:Int):Hr v<18446744073709551616:=by have a:=Bg v;have b:=JX v;omega
def eX(l:List Nat):List Int:=l.flatMap bS
def dg(l:List Int):List Int:=l.flatMap λv=>bS (Hr v)
def dh(s:Fb):List Int:=bS s.size++fj s
def fG(l:List Fb):List Int:=l.flatMap dh
theorem dM{a:List Int}(d:aI a)(hb:aI b):aI (a++b):=λx c=>(C_.1 c).elim (d x) (hb x)
theorem jU{f:B->List Int}{l:List B}(h:∀x∈l,aI (f x)):aI (l.flatMap f):=λx a=>by let⟨y,b,a⟩:=q1z.1 a;exact h y b x a
theorem jE:aI []:=λx a=>by cases a
theorem Bh(l:List Nat):aI (eX l):=jU λ_ _=>qk _
theorem vr(l:List Int):aI (dg l):=jU λ_ _=>qk _
theorem qu(s:Fb):aI (dh s):=dM (qk _) (Qy s)
theorem Tx(l:List Fb):aI (fG l):=jU λ_ _=>qu _
theorem vt:∀{l:List Nat},(∀u∈l,u<18446744073709551616)->(eX l).length<=10*l.length
 | [],_=>by simp[eX]
 | u::r,h=>by have c:=pz (h u D_);have a:=vt (l:=r) λx b=>h x (DG _ b);simp only[eX,PV,po,CV]at a ⊢;omega
theorem nK:∀(l:List Int),(dg l).length<=10*l.length
 | []=>by simp[dg]
 | v::r=>by have b:=pz (vq v);have a:=nK r;simp only[dg,PV,po,CV]at a ⊢;omega
theorem nL{s:Fb}(h:s.size<18446744073709551616):(dh s).length<=10+s.size:=by grind [pz,dh,uP]
theorem kM{β:Type}{f:B->List β}{l:List B}(h:i<l.length):(l.take (i+1)).flatMap f=(l.take i).flatMap f++f l[i]:=by grind [List.take_add_one]
def bQ(s:RS):Nat×RS:=if s.e≠0 then (0,s) else match Fv 0 0 s.bs with
 | .ok u n=>(u,⟨0,s.bs.drop n⟩)
 | .form=>(0,⟨10,s.bs⟩)
 | .ended=>(0,⟨15,s.bs⟩)
def dC(s:RS):Int×RS:=(tL (bQ s).1,(bQ s).2)
def dG(s:RS):RS:=if s.bs=[] then s else if s.e≠0 then s else ⟨10,s.bs⟩
theorem xT(n:Nat)(h:aI b):aI (b.drop n):=λx a=>h x (q22 a)
theorem ij(h:aI s.bs):aI (bQ s).2.bs:=by
 unfold bQ;split;.exact h
 split;.exact xT _ h
 .exact h
 exact h
theorem kN(s:RS):(bQ s).2.bs.length<=s.bs.length:=by unfold bQ;grind
theorem xU(h:aI s.bs):(bQ s).1<18446744073709551616:=by
 unfold bQ;split;.grind
 split;.rename_i u n a;exact (rD h a).2.2
 .grind
 grind
theorem tN{m:Int}(h:aI s.bs):aI (cx m s).2.bs:=by
 unfold cx;split;.exact h
 split
 .split;.exact h
  exact xT _ h
 .exact h
 exact h
theorem tO(s:RS)(m:Int):(cx m s).2.bs.length<=s.bs.length:=by unfold cx;grind
theorem mJ{m:Int}(h:aI s.bs):aI (bg m s).2.bs/\aI (bg m s).1:=by
 unfold bg;split;.grind [jE]
 split
 .split;.grind [jE]
  split;.grind [jE]
  exact⟨xT _ h,λx a=>xT _ h x (K2 a)⟩
 .grind [jE]
 grind [jE]
theorem pD(s:RS)(m:Int):(bg m s).2.bs.length<=s.bs.length/\(bg m s).1.length<=s.bs.length:=by unfold bg;grind
theorem Ty:bX Tryz.prog 132 #[.int .i64 v] H (.int .u64 (rK v)):=by refine cM 132 28 ⟨ee,ee,rfl,rfl⟩
theorem Tz:bX Tryz.prog 304 #[.int .u64 v] H (.int .i64 (tL v)):=by refine cM 304 28 ⟨ee,rfl,rfl⟩
theorem rL{us:List Nat}(h:aA H F)(w:∀H,aA H F->aQ H a (us.map λu=>.int .u64 (u:Nat)))(v:∀u∈us,u<18446744073709551616)(C:us.length<=1000000) (k:∀m d f,aA f (ay 5 1 m (eX us).length d ((eX us).map U8)::F)->K (.slice m (eX us).length d) f) : CF 130 #[.slice a us.length c] H K:=by
 refine cN 130 0x1121561239925144c [[(3,sS),(8,sI)]] ⟨λm x d i f=>∃j:Nat,i=j/\j<=us.length/\x=(eX (us.take j)).length/\aA f (ay 5 1 m (eX (us.take j)).length d ((eX (us.take j)).map U8)::F),λ_ _ _ i _=>us.length-i.toNat,⟨0,rfl,EG _,rfl,h.cp 5 1⟩,?_⟩;rintro a1 n1 c1 i E ⟨j,rfl,D,rfl,n⟩;refine⟨λB=>?_,λB=>?_⟩
 .have b:j<us.length:=by grind
  have t:=(w _ n.tl).at b;refine⟨⟨ez,ez⟩,_,_,t.1,us[j],t.2,?_⟩;have y:i64.wrap ((j:Int)+1)=((j+1:Nat):Int):=by grind [aN]
  have e:eX (us.take (j+1))=eX (us.take j)++bS us[j]:=kM b;have hb:(eX (us.take j)).length<=1099511627776:=by grind [vt]
  refine xD n hb (v _ (qa b)) λm d f A=>⟨_,_,_,rfl,⟨j+1,y,b,by rw[e],?_⟩,by grind⟩;rw[e];exact A
 have s:us.length<=j:=by grind
 have e:us.take j=us:=FP s;rw[e]at n ⊢;exact k _ _ _ n
theorem JY{vs:List Int}(h:aA H F)(u:∀H,aA H F->aQ H a (vs.map λv=>.int .i64 v))(B:vs.length<=1000000) (k:∀m d f,aA f (ay 5 1 m (dg vs).length d ((dg vs).map U8)::F)->K (.slice m (dg vs).length d) f) : CF 75 #[.slice a vs.length c] H K:=by
 refine cN 75 0x1121561239925144c [[(3,sS),(8,sI)]] ⟨λm w d i f=>∃j:Nat,i=j/\j<=vs.length/\w=(dg (vs.take j)).length/\aA f (ay 5 1 m (dg (vs.take j)).length d ((dg (vs.take j)).map U8)::F),λ_ _ _ i _=>vs.length-i.toNat,⟨0,rfl,EG _,rfl,h.cp 5 1⟩,?_⟩;rintro a1 n1 c1 i D ⟨j,rfl,C,rfl,n⟩;refine⟨λA=>?_,λA=>?_⟩
 .have b:j<vs.length:=by grind
  have t:=(u _ n.tl).at b;refine⟨⟨ez,ez⟩,_,_,t.1,vs[j],t.2,_,Ty,?_⟩;have x:i64.wrap ((j:Int)+1)=((j+1:Nat):Int):=by grind [aN]
  have e:dg (vs.take (j+1))=dg (vs.take j)++bS (Hr vs[j]):=kM b;have hb:(dg (vs.take j)).length<=1099511627776:=by grind [nK]
  conv=>whnf
  rw[<-Bg];refine xD n hb (vq _) λm d f y=>⟨_,_,_,rfl,⟨j+1,x,b,by rw[e],?_⟩,by grind⟩;rw[e];exact y
 have s:vs.length<=j:=by grind
 have e:vs.take j=vs:=FP s;rw[e]at n ⊢;exact k _ _ _ n
theorem xV{ts:List Fb}(h:aA H F)(G:∀H,aA H F->aQ H a (ts.map λs=>.string s))(hs:∀i,(fG (ts.take i)).length<=1000000000)(J:∀s∈ts,s.size<=1000000000)(M:ts.length<=1000000) (k:∀m d n,aA n (ay 5 1 m (fG ts).length d ((fG ts).map U8)::F)->K (.slice m (fG ts).length d) n) : CF 151 #[.slice a ts.length c] H K:=by
 refine cN 151 0x1121561239925144c [[(3,sS),(8,sI)]] ⟨λm A d i n=>∃j:Nat,i=j/\j<=ts.length/\A=(fG (ts.take j)).length/\aA n (ay 5 1 m (fG (ts.take j)).length d ((fG (ts.take j)).map U8)::F),λ_ _ _ i _=>ts.length-i.toNat,⟨0,rfl,EG _,rfl,h.cp 5 1⟩,?_⟩;rintro a1 n1 c1 i O ⟨j,rfl,N,rfl,t⟩;refine⟨λD=>?_,λD=>?_⟩
 .have b:j<ts.length:=by grind
  have x:=(G _ t.tl).at b;have B:=J _ (qa b);refine⟨⟨ez,ez⟩,_,_,x.1,ts[j],x.2,?_⟩;have I:i64.wrap ((j:Int)+1)=((j+1:Nat):Int):=by grind [aN]
  have w:u64.wrap ((ts[j].size:Nat):Int)=((ts[j].size:Nat):Int):=aae ez ez;have e:fG (ts.take (j+1))=(fG (ts.take j)++bS ts[j].size)++fj ts[j]:=by rw[FB];exact kM (f:=dh) b
  have hb:=hs j;have y:=pz (u:=ts[j].size) ez;conv=>whnf
  rw[w];refine xD t ez ez λm d n C=>⟨_,_,_,rfl,C.afL XN (ts:=9) kf 0 rfl (by grind) (by grind) λa2 c2 L E=>⟨_,_,_,rfl,⟨j+1,I,b,?_,?_⟩,by grind⟩⟩;.grind [uP]
  rw [e,po (bs:=fj ts[j]),uP,F6 (l₂:=fj ts[j])];exact E
 have v:ts.length<=j:=by grind
 have e:ts.take j=ts:=FP v;rw[e]at t ⊢;exact k _ _ _ t
theorem oT(h:aA H (ke j s::F))(hb:aI s.bs)(v:s.bs.length<=1099511627776) (k:∀i,aA i (ke j (bQ s).2::F)->K (.int .u64 ((bQ s).1:Nat)) i) : CF 160 #[.pointer (some ⟨j,0,none⟩)] H K:=by
 let⟨e,bs⟩:=s;dsimp only at hb v;let⟨a,c,h⟩:=iY.1 h;dsimp only at h;have y:=h.a_ 1 rfl;have x:=h.CD 1 rfl;refine cM 160 4572 ?_;have d:=Jv (c:=c) y hb v;by_cases he:e=0
 .subst he;cases hu:Fv 0 0 bs with
   | ok u n=>
   let⟨A,t,B⟩:=rD hb hu;rw[hu]at d;unfold afr at d;dsimp only at d;refine⟨_,_,_,h.r 0,_,_,_,d,?_⟩;have ec:bQ ⟨0,bs⟩=(u,⟨0,bs.drop n⟩):=by grind [bQ]
   rw[ec]at k;refine AW h t x λi b=>⟨_,rfl,(λf=>by cases f),λ_=>k _ ?_⟩;have w:=b.RD 1 rfl n t;rw[q25,<-List.map_drop]at w;refine iY.2 ⟨y_ a n c 1,c-n,?_⟩;dsimp only;rw[W_];exact w
   | form=>
   rw[hu]at d;have ec:bQ ⟨0,bs⟩=(0,⟨10,bs⟩):=by grind [bQ]
   rw[ec]at k;refine⟨_,_,_,h.r 0,_,_,_,d,oP h ee λi b=>⟨_,rfl,λ_=>k _ (iY.2 ⟨_,_,b⟩),λf=>by cases f⟩⟩
   | ended=>
   rw[hu]at d;have ec:bQ ⟨0,bs⟩=(0,⟨15,bs⟩):=by grind [bQ]
   rw[ec]at k;refine⟨_,_,_,h.r 0,_,_,_,d,oP h ee λi b=>⟨_,rfl,λ_=>k _ (iY.2 ⟨_,_,b⟩),λf=>by cases f⟩⟩
 have ec:bQ ⟨e,bs⟩=(0,⟨e,bs⟩):=by grind [bQ]
 rw[ec]at k;have m:∃r r1 r2:Int,afr (Fv 0 0 bs)=.tuple #[.int .u64 r,.int .i64 r1,.int .i64 r2]:=by unfold afr;split <;> exact⟨_,_,_,rfl⟩
 let⟨r,r1,r2,m⟩:=m;rw[m]at d;refine⟨_,_,_,h.r 0,_,_,_,d,xE h he ⟨_,rfl,λ_=>k _ (iY.2 ⟨_,_,h⟩),λf=>by cases f⟩⟩
theorem xW(h:aA H (ke j s::F))(hb:aI s.bs)(d:s.bs.length<=1099511627776) (k:∀a,aA a (ke j (dC s).2::F)->K (.int .i64 (dC s).1) a) : CF 240 #[.pointer (some ⟨j,0,none⟩)] H K:=by refine cM 240 28 (oT h hb d λa c=>⟨_,rfl,_,Tz,k _ c⟩)
theorem xX(h:aA H (ke c s::F)) (k:∀f,aA f (ke c (dG s)::F)->K (.int .i64 (dG s).e) f) : CF 166 #[.pointer (some ⟨c,0,none⟩)] H K:=by
 let⟨e,bs⟩:=s;let⟨a,b,h⟩:=iY.1 h;dsimp only at h;refine cN 166 18969756 [[]] ⟨_,_,_,h.r 0,λt d=>⟨λn=>?_,λn=>?_⟩⟩
 .have m:bs≠[]:=by grind
  by_cases i:e=0
  .subst i;have ec:dG ⟨0,bs⟩=⟨10,bs⟩:=by grind [dG]
   rw[ec]at k;refine oP h ee λf j=>⟨_,rfl,d _ ⟨_,j.r 0,k _ (iY.2 ⟨_,_,j⟩)⟩⟩
  have ec:dG ⟨e,bs⟩=⟨e,bs⟩:=by grind [dG]
  rw[ec]at k;refine xE h i ⟨_,rfl,d _ ⟨_,h.r 0,k _ (iY.2 ⟨_,_,h⟩)⟩⟩
 have i:bs=[]:=by simp_all
 have ec:dG ⟨e,bs⟩=⟨e,bs⟩:=by grind [dG]
 rw[ec]at k;refine d _ ⟨_,h.r 0,k _ (iY.2 ⟨_,_,h⟩)⟩
def F3(z:Int)(p:Nat):Nat:=if p<8 then (C4 z%FZ).toNat/2^(8*(7-p))%256 else (C6 z).toNat/2^(8*(15-p))%256
def eQ(z:Int):List Int:=(List.range 16).map λp=>(F3 z p:Int)
def jb(z:Int)(t:Nat):List Int:=(List.range 16).map λp=>if (p<=7/\7<p+t)\/(8<=p/\15<p+t) then (F3 z p:Int) else 0
theorem T3(z:Int)(t:Nat):(jb z t).length=16:=by simp[jb]
theorem vu(z:Int):(eQ z).length=16:=by simp[eQ]
theorem T4(z:Int):aI (eQ z):=by intro x a;obtain⟨p,_,rfl⟩:=Ax.1 a;grind [F3]
theorem T5(z:Int):jb z 0=List.replicate 16 0:=by
 refine XS (by simp[jb]) λi a b=>?_;have:i<16:=by grind
 simp only[jb,q2h,q3b,List.getElem_replicate];grind
theorem T6(z:Int):jb z 8=eQ z:=by
 refine XS (by simp[jb,eQ]) λi a b=>?_;have:i<16:=by grind [jb]
 simp only[jb,eQ,q2h,q3b];grind
theorem T7(z:Int)(a:j<8):((jb z j).set (7-j) (F3 z (7-j):Int)).set (15-j) (F3 z (15-j):Int)=jb z (j+1):=by
 refine XS (by simp[jb]) λi b c=>?_;have hi:i<16:=by grind [jb]
 simp only[List.getElem_set,jb,q2h,q3b];grind
def kO(l:List Int):Nat:=l.foldl (λa b=>a*256%18446744073709551616+b.toNat) 0
theorem xY(l:List Int)(b:Int):kO (l++[b])=kO l*256%18446744073709551616+b.toNat:=by grind [kO]
theorem JZ{l:List Int}(h:aI l):kO l<18446744073709551616:=by
 rcases List.eq_nil_or_concat l with rfl|⟨r,b,rfl⟩;.exact Nat.le_of_ble_eq_true rfl
 rw [List.concat_eq_append]at h ⊢;rw[xY];have:=h b eh;omega
def jF(bs:List Int):Int:=i64.wrap (kO (bs.take 8):Nat)*FZ+(kO (bs.drop 8):Nat)
theorem Ka(h0:0<=v)(d:v<256):aZ .or .u64 (u64.wrap ((j:Int)*2^(min (Int.toNat 8) (u64.bits)))) (u64.wrap v)=((j*256%18446744073709551616+v.toNat:Nat):Int):=by
 have e1:u64.wrap ((j:Int)*2^(min (Int.toNat 8) (u64.bits)))=((j*256%18446744073709551616:Nat):Int):=by show u64.wrap ((j:Int)*256)=_;grind [eF]
 have e2:u64.wrap v=((v.toNat:Nat):Int):=by grind [eF]
 rw[e1,e2,ajc ez ez];congr 1;have c:j*256%18446744073709551616=2^8*(j%72057594037927936):=ez;rw[c];exact (q3g (by grind) _).symm
theorem T8(h:aI b):C4 (jF b)=i64.wrap (kO (b.take 8):Nat)/\C6 (jF b)=(kO (b.drop 8):Nat):=by have bs:=JZ (l:=b.drop 8) λx a=>h x (q22 a);unfold jF C4 C6 FZ;grind
theorem Kb(bs:List Int)(h:aI bs):gq (jF bs):=by have c:=JZ (l:=bs.drop 8) λx b=>h x (q22 b);have a:aG (i64.wrap (kO (bs.take 8):Nat)):=rz _;unfold aG at a;unfold jF gq FZ;omega
theorem Kc{x:Int}(h0:0<=x)(a:c<8):u8.wrap (Int.fdiv x (2^(min (Int.toNat (i64.wrap (8*(c:Int)))) (u64.bits))))=((x.toNat/2^(8*c)%256:Nat):Int):=by
 rw[aN (x:=8*(c:Int))];have e1:min (Int.toNat (8*(c:Int))) u64.bits=8*c:=by show min _ 64=_;omega
 obtain⟨n,rfl⟩:∃n:Nat,x=n:=⟨x.toNat,ez⟩;rw[e1,tk,rC,Fw]
theorem T9(y:gq v)(h:aA H F)(k:∀a c e,aA e (ay 5 1 a 16 c ((eQ v).map U8)::F)->K (.slice a 16 c) e) : CF 234 #[lM v] H K:=by
 refine R6 (h.al λb _ h=>aA.mk1 (c:=16) XN (z0:=U8 0) kf rfl h ee ee λa A h=>⟨_,_,_,rfl,?_⟩);have e0:List.replicate 16 (U8 0)=(jb v 0).map U8:=by rw[T5];rfl
 rw[e0]at h;refine⟨λi e=>∃t:Nat,i=t/\t<=8/\aA e (ay 5 1 a 16 16 ((jb v t).map U8)::ax b [aB (C4 v),.int .u64 (C6 v)] 177::F),λi _=>8-i.toNat,⟨0,rfl,ez,h⟩,?_⟩;rintro i w ⟨t,rfl,u,h⟩;refine⟨λs=>?_,λs=>?_⟩
 .have d:t<8:=by grind
  have j:((jb v t).map U8).length=16:=by grind [T3]
  have e7:i64.wrap (7-(t:Int))=((7-t:Nat):Int):=by grind [aN]
  have f:i64.wrap (15-(t:Int))=((15-t:Nat):Int):=by grind [aN]
  have e8:i64.wrap (8*(t:Int))=8*(t:Int):=aN;have m:u64.wrap (C4 v)=C4 v%FZ:=eF _;have hm:0<=C4 v%FZ:=by grind
  have q1:(C4 v%FZ).toNat/2^(8*t)%256=F3 v (7-t):=by unfold F3;grind
  have q2:(C6 v).toNat/2^(8*t)%256=F3 v (15-t):=by unfold F3;grind
  refine⟨_,h.r 1,by grind,?_⟩;rw[m,Kc hm d,q1,e7,f];let⟨s1,s2,s3⟩:=h.FE 0 rfl (7-t) [U8 (F3 v (7-t))] (by grind) eh;refine⟨⟨ez,ez⟩,_,_,s1,?_⟩;rw[Fw];refine⟨s2,?_⟩;intro x rfl;have h:=s3;refine⟨_,h.r 1,by grind,⟨ez,ez⟩,_,_,s1,?_⟩;rw[Fw,Kc (qp v).1 d,q2];let⟨_,t2,t3⟩:=h.FE 0 rfl (15-t) [U8 (F3 v (15-t))] (by grind [oF]) eh;refine⟨t2,?_⟩;intro z rfl;rw[show i64.wrap ((t:Int)+1)=((t+1:Nat):Int) by grind [aN]];refine⟨⟨t+1,rfl,d,?_⟩,by grind⟩;have n:cu (cu ((jb v t).map U8) (7-t) [U8 (F3 v (7-t))]) (15-t) [U8 (F3 v (15-t))]=(jb v (t+1)).map U8:=by rw[<-T7 v d,List.map_set,List.map_set];rfl
  rw[<-n];exact t3
 have:t=8:=by grind
 subst this;rw[T6]at h;exact k _ _ _ (h.o [0] 2)
theorem TA{bs:List Int}(s:bs.length=i)(hb:aI bs)(h:aA H F)(m:∀H,aA H F->aQ H a (bs.map U8))(y:i<=10000000000) (k1:i≠16->∀d,aA d F->K (.tuple #[lM 0,.bool false]) d) (k2:i=16->∀d,aA d F->K (.tuple #[lM (jF bs),.bool true]) d):CF 425 #[.slice a i c] H K:=by
 subst s;refine QZ (h.al λb _ h=>⟨λv=>?_,λv=>?_⟩)
 .have k:bs.length≠16:=by grind
  refine h.z_ 0 rfl rfl λw h=>⟨_,_,h.x_ 0 rfl,k1 k _ h.tl⟩
 have u:bs.length=16:=by grind
 refine⟨λhi lo n d=>∃t:Nat,n=t/\t<=8/\hi=(kO (bs.take t):Nat)/\lo=(kO ((bs.drop 8).take t):Nat)/\aA d (ax b [aB 0,.int .u64 0] 177::F),λ_ _ n _=>8-n.toNat,⟨0,rfl,ez,rfl,rfl,h⟩,?_⟩;rintro hi lo n A ⟨t,rfl,x,rfl,rfl,h⟩;refine⟨λe=>?_,λe=>?_⟩
 .have f:t<8:=by grind
  have e8:i64.wrap (8+(t:Int))=((8+t:Nat):Int):=by grind [aN]
  have r1:=(m _ h.tl).at (j:=t) ez;have r2:=(m _ h.tl).at (j:=8+t) ez;have b1:=hb _ (qa (show t<bs.length by omega));have b2:=hb _ (qa (show 8+t<bs.length by omega));rw[e8];refine⟨ee,⟨ez,ez⟩,_,_,r1.1,_,r1.2,ee,⟨ez,ez⟩,_,_,r2.1,_,r2.2,?_⟩;dsimp only;rw[Ka b1.1 b1.2,Ka b2.1 b2.2];rw[show i64.wrap ((t:Int)+1)=((t+1:Nat):Int) by grind [aN]];refine⟨⟨t+1,rfl,f,?_,?_,h⟩,by grind⟩;.grind [List.take_succ_eq_append_getElem,xY]
  grind [List.take_succ_eq_append_getElem,xY]
 have:t=8:=by grind
 subst this;have e2:(bs.drop 8).take 8=bs.drop 8:=FP (by grind);rw[e2];let⟨w1,w2⟩:=T8 hb;rw[<-w1,<-w2];refine h.z_ 0 rfl rfl λw h=>⟨_,_,h.x_ 0 rfl,k2 u _ h.tl⟩
def ik(h:Nat->Int)(n:Nat):List Nat:=(List.range n).flatMap λi=>if h i=0 then [] else [i,(h i).toNat]
theorem Bi(h:Nat->Int)(n:Nat):ik h (n+1)=ik h n++(if h n=0 then [] else [n,(h n).toNat]):=by grind [ik,List.range_succ]
theorem xZ(h:Nat->Int):∀n,(ik h n).length<=2*n
 | 0=>by simp[ik]
 | n+1=>by
  rw[Bi,po];have:=xZ h n
  split
  .simp only[HB];omega
  .simp only[CV,HB];omega
theorem Kd(b:wfH f)(n:Nat)(c:n<=65):∀u∈ik f n,u<18446744073709551616:=by intro u a;let⟨i,hi,a⟩:=q1z.1 a;have hi:=List.mem_range.1 hi;have:=b i ez;unfold aG at this;grind
def dY(c:Cl):List Int:=if gr c then eX [c.n.toNat,c.GH.toNat,c.pos.toNat]++dg [c.mn,c.mx]++dh (bN (eQ c.sum))++eX [(ik c.h 65).length/2]++eX (ik c.h 65) else []
theorem Bj(h:gr G=true):0<=G.n/\0<=G.GH/\0<=G.pos/\(∀i,i<65->0<=G.h i):=by unfold gr at h;simp only[p_,XB,E8,DC]at h;grind [rH]
theorem Ke(c:Cl):aI (dY c):=by
 unfold dY;split;.exact dM (dM (dM (dM (Bh _) (vr _)) (qu _)) (Bh _)) (Bh _)
 exact jE
theorem nM(l:List Int):(bN l).size=l.length:=Go.strOfNums_size l
theorem rM(wc:WC G):(dY G).length<=4096:=by
 unfold dY;split
 .rename_i b;let⟨p1,p2,p3,p4⟩:=Bj b;have a:=wc.n;have d:=wc.GH;have e:=wc.pos;unfold aG at a d e;have l1:(eX [G.n.toNat,G.GH.toNat,G.pos.toNat]).length<=30:=vt (by grind);have l2:=nK [G.mn,G.mx];have l3:(dh (bN (eQ G.sum))).length<=26:=by grind [nL,nM,vu]
  have f:=xZ G.h 65;have l4:(eX [(ik G.h 65).length/2]).length<=10:=vt (by grind);have i:=vt (Kd wc.h 65 (yb _));grind
 simp
theorem aiP:Fs Tryz.prog 418 175 1 8:=fU kf
abbrev QD(n:Nat):Value:=.int .u64 (n:Int)
theorem ya(h0:0<=v)(h:aG v):u64.wrap v=((v.toNat:Nat):Int):=by grind [aG,eF]
theorem dw{a2:KQ}{m c2:Nat}{x y:List Int}(h:aA H F)(s:aX i F=ay 5 1 a j c (x.map U8))(f:j=x.length)(hm:y.length=m)(n:aQ H a2 (y.map U8))(t:x.length+y.length<=100000000000) (k:∀e b d,aA d (put i (ay 5 1 e (x++y).length b ((x++y).map U8)) F)->K (.slice e (x++y).length b) d) : cv Tryz.prog (Builtin.append_ #[63,63] 63 #[.slice a j c,.slice a2 m c2]) H K:=by subst f hm;refine h.append XN i s n eh (IH _ _) ez ez λe b d h=>?_;have:=k e b d;rw[po,F6]at this;exact this h
theorem Kf{F:List aF}{c:Cl}(wc:WC c)(h:aA H F) (k:∀a w O,aA O (ay 5 1 a (dY c).length w ((dY c).map U8)::F)->K (.slice a (dY c).length w) O) : CF 152 #[Fx c] H K:=by
 refine cL 152 (.r (.seq (.r (.cond (.r .no) .no)) (.r (.r (.r (.r (.seq (.r (.DT (.FH [sI,sI] [none] (.r .CA) (.DT .CA)))) (.r (.r .no))))))))) ?_;have e:=rM wc;unfold dY at k e;refine h.al λb _ h=>⟨_,_,_,_,_,_,_,_,h.x_ 0 rfl,vk wc h λH1 h=>⟨_,rfl,λS=>?_,λS=>?_⟩⟩;.rw [b_ (by grind)]at k;exact k none 0 _ (h.tl.cp 5 1)
 have N:gr c=true:=by grind
 rw[c_ N]at k e;let⟨p1,p2,p3,p4⟩:=Bj N;simp only[po]at e;have M:=wc.n;have u:=wc.GH;have t:=wc.pos;refine⟨_,h.r 0,_,h.r 0,_,h.r 0,?_⟩;dsimp only;conv=>whnf
 rw[ya p1 M,ya p2 u,ya p3 t];unfold aG at M u t;refine h.al λb1 _ h=>rL (us:=[c.n.toNat,c.GH.toNat,c.pos.toNat]) h (λH h=>h.ew 0 rfl) (by grind) eh λa1 c1 H3 h=>⟨_,_,_,rfl,⟨_,h.r 2,_,h.r 2,h.al λb2 _ h=>JY (vs:=[c.mn,c.mx]) h (λH h=>h.ew 0 rfl) eh λa2 c2 H5 h=>⟨_,_,_,rfl,dw h (i:=2) rfl rfl rfl (h.a_ 0 rfl) ez λa3 c3 H6 h=>⟨_,_,_,rfl,⟨_,_,h.rdv (l:=[_]) (vs:=[_,_]) 4 rfl rfl,T9 wc.sum h λa4 c4 H7 h=>⟨_,_,_,rfl,?_⟩⟩⟩⟩⟩⟩;have hs:=tE (c:=c4) (bs:=eQ c.sum) (abo (k:=0) (c:=c4) h |> λhh=>by
  rcases (kw (F:=star _) h).2 with ⟨h2,_⟩|⟨b,pre,post,e',fr,h2,_⟩;.grind
  grind) (h.a_ 0 rfl);rw[vu]at hs;refine⟨_,hs,h.al λb3 _ h=>?_⟩;have P:(bN (eQ c.sum)).size=16:=by rw[nM,vu]
 have E:fG [bN (eQ c.sum)]=dh (bN (eQ c.sum)):=by simp[fG]
 have h6:(dh (bN (eQ c.sum))).length<=26:=by grind [nL]
 refine xV (ts:=[bN (eQ c.sum)]) h (λH h=>h.ew 0 rfl) (λi=>by
  rcases Nat.eq_zero_or_pos i with rfl|hi;.simp [fG]
  grind [List.take_of_length_le]) (by grind) eh λa5 c5 H9 h=>⟨_,_,_,rfl,?_⟩;rw[E]at h ⊢;refine dw h (i:=5) rfl rfl rfl (h.a_ 0 rfl) (by grind) λa6 c6 h3 h=>⟨_,_,_,rfl,h.al λb4 _ h=>⟨c.h,h.rdt (l:=[_,_,_,_,_,_,_]) 8 rfl rfl,?_⟩⟩;have h:=h.o [0,6] 9;refine JE h λfb s h=>⟨_,_,rfl,rfl,λR B y hy=>?_⟩;have h:=h.FH R;have h:=h.cp 175 1;refine JG (f:=c.h) (λj=>F7 λp:KQ×Nat=>star [ax b4 [.slice p.1 (ik c.h j).length p.2] 418,ay 175 1 p.1 (ik c.h j).length p.2 ((ik c.h j).map QD),pt (s.size+1) (.loop R)]) (DA False) (F:=pt s.size (.deferred (some []))::ay 5 1 a6 (eX [c.n.toNat,c.GH.toNat,c.pos.toNat]++dg [c.mn,c.mx]++dh (bN (eQ c.sum))).length c6 ((eX [c.n.toNat,c.GH.toNat,c.pos.toNat]++dg [c.mn,c.mx]++dh (bN (eQ c.sum))).map U8)::F) ?_ ?_ ?_ ?_ ?_;.exact cw.2 ⟨(none,0),aA.shut [_,_,_] (h.o [4,0,1,3,2,5] 6)⟩
 .intro j C hz;rw[show ik c.h (j+1)=ik c.h j by rw[Bi,c_ hz,HD]]
 .intro j C D G v K1 h W _;let⟨⟨a,w⟩,h⟩:=cw.1 h;have h:=aA.open (A:=[_,_,_]) h;refine hy _ _ _ ?_;have x:=xZ c.h j;have J:=wc.h j C;have L:=p4 j C;refine⟨_,_,rfl,h.eY 2 rfl,h.eY 2 rfl,h.Fu 2 rfl λh0 h=>⟨_,_,_,h.r 0,?_⟩⟩;conv=>whnf
  rw[ya L J,RB (show j<18446744073709551616 by omega)];refine h.al λb5 _ h=>h.append (m:=2) (ws:=[QD j,QD (c.h j).toNat]) aiP 2 rfl (h.ew 0 rfl) rfl rfl ez ez λa' I V h=>⟨_,_,_,rfl,h.z_ 1 rfl rfl λT h=>⟨h.eY 3 rfl,W _ ?_⟩⟩;have h:=h.n_ 3 rfl (.loop R);refine cw.2 ⟨(a',I),aA.shut [_,_,_] ?_⟩;rw[Bi,b_ D,po,F6];exact h.o [1,2,3] 4
 .intro v h;let⟨⟨a,w⟩,h⟩:=cw.1 h;have h:=aA.open (A:=[_,_,_]) h;refine⟨.ready,none,ee,by rw[lp B y];exact h.eY 2 rfl,h.Fu 2 rfl λh1 h=>⟨rfl,⟨_,_,_,h.r 0,ee,?_⟩⟩⟩;have x:=xZ c.h 65;have d:u64.wrap (i64.wrap (Int.tdiv ((ik c.h 65).length:Int) 2))=(((ik c.h 65).length/2:Nat):Int):=by rw[show Int.tdiv ((ik c.h 65).length:Int) 2=(((ik c.h 65).length/2:Nat):Int) from rfl,aN,RB ez]
  conv=>whnf
  rw[d];refine h.al λb6 _ h=>rL (us:=[(ik c.h 65).length/2]) h (λH h=>h.ew 0 rfl) (by grind) eh λa7 c7 U h=>⟨_,_,_,rfl,dw h (i:=7) rfl rfl rfl (h.a_ 0 rfl) (by grind) λa8 c8 h4 h=>⟨_,_,_,rfl,⟨_,_,_,h.r 2,rL (us:=ik c.h 65) h (λH h=>h.a_ 3 rfl) (Kd wc.h 65 (yb _)) ez λa9 c9 Z h=>⟨_,_,_,rfl,dw h (i:=8) rfl rfl rfl (h.a_ 0 rfl) (by grind) λY Q h5 h=>⟨_,_,_,rfl,h.eY 7 rfl,?_⟩⟩⟩⟩⟩;have h:=h.n_ 7 rfl (.deferred none);exact k _ _ _ (h.o [8] 9)
 intro v h;exact (aA.B3 h).1.elim
abbrev jy(l:bO):List Int:=dh l.name++dh l.value
def XP(name:Fb)(labs:List bO):List Int:=(dh name++bS labs.length)++labs.flatMap jy
def gQ(name:Fb)(labs:List bO):List Int:=if dB name labs then XP name labs else []
theorem TB(name:Fb)(labs:List bO):aI (XP name labs):=dM (dM (qu _) (qk _)) (jU λ_ _=>dM (qu _) (qu _))
theorem yc(name:Fb)(labs:List bO):aI (gQ name labs):=by
 unfold gQ;split;.exact TB _ _
 exact jE
theorem Kg(s:Fb):fG [s]=dh s:=by simp[fG]
theorem yd(n:Nat):eX [n]=bS n:=by simp[eX]
theorem Kh(l:bO):fG [l.name,l.value]=jy l:=by simp[fG,jy]
theorem Ki(h:iL l=true):(jy l).length<=148:=by grind [tK,nL]
theorem Kj{labs:List bO}:(∀l∈labs,iL l=true)->(labs.flatMap jy).length<=148*labs.length:=by induction labs with
  | nil=>grind
  | cons a l ih=>grind [Ki]
def dO:Nat->RS->List bO×RS
 | 0,s=>([],s)
 | n+1,s=>((dO n s).1++[⟨bN (bg 64 (dO n s).2).1,bN (bg 64 (bg 64 (dO n s).2).2).1⟩],(bg 64 (bg 64 (dO n s).2).2).2)
structure ala where
 name:Fb
 labs:List bO
 e:Int
 rest:RS
def cV(s:RS):ala:=
 if (dO (cx 8 (bg 64 s).2).1.toNat (cx 8 (bg 64 s).2).2).2.e≠0 then ⟨⟨#[]⟩,[],(dO (cx 8 (bg 64 s).2).1.toNat (cx 8 (bg 64 s).2).2).2.e,(dO (cx 8 (bg 64 s).2).1.toNat (cx 8 (bg 64 s).2).2).2⟩
 else if dB (bN (bg 64 s).1) (dO (cx 8 (bg 64 s).2).1.toNat (cx 8 (bg 64 s).2).2).1 then ⟨bN (bg 64 s).1,(dO (cx 8 (bg 64 s).2).1.toNat (cx 8 (bg 64 s).2).2).1,0,(dO (cx 8 (bg 64 s).2).1.toNat (cx 8 (bg 64 s).2).2).2⟩
 else ⟨⟨#[]⟩,[],10,(dO (cx 8 (bg 64 s).2).1.toNat (cx 8 (bg 64 s).2).2).2⟩
theorem Bk{s:RS}(h:aI s.bs):∀n,aI (dO n s).2.bs
 | 0=>h
 | n+1=>(mJ (mJ (Bk h n)).1).1
theorem Bl(s:RS):∀n,(dO n s).2.bs.length<=s.bs.length
 | 0=>yb _
 | n+1=>DE (pD _ _).1 (DE (pD _ _).1 (Bl s n))
theorem Bm(s:RS):∀n,(dO n s).1.length=n
 | 0=>rfl
 | n+1=>by unfold dO;rw[po,Bm s n];rfl
theorem Kk(s:RS):0<=(cx 8 s).1/\(cx 8 s).1<=8:=by grind [cx]
theorem Bn(h:aI s.bs):aI (cV s).rest.bs:=by
 have:=Bk (tN (m:=8) (mJ (m:=64) h).1) (cx 8 (bg 64 s).2).1.toNat;unfold cV;split;.exact this
 split <;> exact this
theorem Bo(s:RS):(cV s).rest.bs.length<=s.bs.length:=by grind [Bl,tO,pD,cV]
theorem Kl(h:(cV s).e=0):dB (cV s).name (cV s).labs=true:=by unfold cV at h ⊢;grind
theorem Km(h:adE t A):(XP t A).length<=1300:=by have a:=tJ h.named;have b:=nL (s:=t) ez;have c:=pz (u:=A.length) (by have:=h.len;omega);have e:=Kj h.val;have d:=h.len;grind [XP]
theorem vv(name:Fb)(labs:List bO):(gQ name labs).length<=1300:=by grind [gQ,Km,lQ]
theorem ye{s:Fb}(h:aA H F)(f:∀H,aA H F->aQ H a [.string s])(hs:s.size<=100000000) (k:∀b d e,aA e (ay 5 1 b (dh s).length d ((dh s).map U8)::F)->K (.slice b (dh s).length d) e) : CF 151 #[.slice a 1 c] H K:=by
 have m:=nL (s:=s) ez;refine xV (ts:=[s]) h f (λi=>?_) (λx j=>by grind) eh ?_
 .rcases Nat.eq_zero_or_pos i with rfl|hi;.simp [fG]
  grind [List.take_of_length_le,Kg]
 rw [Kg];exact k
theorem Bp{labs:List bO}(h:aA H F)(E:∀H,aA H F->aQ H a (flat cJ labs)) (k:∀v n w,aA w (ay 5 1 v (gQ t labs).length n ((gQ t labs).map U8)::F)->K (.slice v (gQ t labs).length n) w) : CF 228 #[.agg #[.string t,.slice a labs.length c]] H K:=by
 refine cN 228 0x1d2821561239925144c [[(3,sS),(23,sI)],[(3,sS)]] (h.al λb _ h=>⟨_,_,_,_,h.q 0,qt h (λH h=>E H h.tl) λT h=>⟨_,rfl,λname=>?_,λname=>?_⟩⟩)
 .have e:gQ t labs=[]:=by unfold gQ;grind
  rw[e]at k;exact k none 0 _ (h.tl.cp 5 1)
 simp only[q2p]at name;have m:=lQ name;have e:gQ t labs=XP t labs:=by unfold gQ;grind
 rw[e]at k;have U:=m.len;have P:=tJ m.named;have I:=Km m;have W:=nL (s:=t) ez;have Z:=pz (u:=labs.length) ez;intro M O;have f:∀(ba:KQ) (bc:Nat) y,aA y (ay 5 1 ba (dh t++bS labs.length).length bc ((dh t++bS labs.length).map U8)::ax b [.string t,.slice a labs.length c] 62::F)->M ba (dh t++bS labs.length).length bc y:=by
  intro ba bc y h;refine O _ _ _ _ ⟨_,_,_,h.r 1,⟨λv L n i w=>∃j:Nat,i=j/\j<=labs.length/\L=((dh t++bS labs.length)++(labs.take j).flatMap jy).length/\ aA w (ay 5 1 v ((dh t++bS labs.length)++(labs.take j).flatMap jy).length n (((dh t++bS labs.length)++(labs.take j).flatMap jy).map U8)::ax b [.string t,.slice a labs.length c] 62::F),λ_ _ _ i _=>labs.length-i.toNat,⟨0,rfl,ez,eh,eu h⟩,?_⟩⟩;rintro a1 n1 c1 i T ⟨j,rfl,hj,rfl,h⟩;refine⟨λname=>?_,λname=>?_⟩
  .have d:j<labs.length:=by grind
   have D:=E _ h.tl.tl;have V:=tK (m.val _ (qa d));have R:=Ki (m.val _ (qa d));have N:=Kj (labs:=labs.take j) λl J=>m.val l (K2 J);have Q:(labs.take j).length<=labs.length:=by grind
   refine⟨ez,_,_,D.some iI ez d,_,_,D.E6 iI d,h.al λb2 _ h=>h.st 0 rfl rfl ?_⟩;intro A h;refine⟨_,h.r 0,_,h.r 0,h.al λb3 _ h=>xV (ts:=[labs[j].name,labs[j].value]) h (λH h=>h.ew 0 rfl) (λi=>?_) ?_ eh λv n Y h=>?_⟩;.grind [fG,List.take_append_drop,Kh]
   .grind
   rw [Kh]at h ⊢;refine⟨_,_,_,rfl,dw h (i:=3) rfl rfl rfl (h.a_ 0 rfl) (by grind) λa3 c3 C h=>⟨_,_,_,rfl,?_⟩⟩;conv=>whnf
   rw[aN (x:=(j:Int)+1)];have e5:((dh t++bS labs.length)++(labs.take (j+1)).flatMap jy)=((dh t++bS labs.length)++(labs.take j).flatMap jy)++jy labs[j]:=by rw[kM d,FB _ _ (jy labs[j])]
   refine⟨⟨j+1,ez,d,by rw[e5],?_⟩,by grind⟩;rw[e5];exact h.o [3,4] 5
  have B:labs.length<=j:=by grind
  have e1:labs.take j=labs:=FP B;rw[e1]at h ⊢;exact k _ _ _ (h.o [0] 2)
 have S:u64.wrap ((labs.length:Nat):Int)=((labs.length:Nat):Int):=by grind [eF]
 refine⟨_,h.r 0,_,_,_,h.r 0,?_⟩;dsimp only;conv=>whnf
 rw[S];refine⟨?_,?_⟩
 .refine h.al λb4 _ h=>⟨h.r 1,?_,?_⟩;.refine ye h (λH h=>h.ew 0 rfl) ez λa1 c1 A h=>⟨_,_,_,rfl,h.r 2,h.al λb5 _ h=>rL (us:=[labs.length]) h (λH h=>h.ew 0 rfl) (by simp;omega) eh λa2 c2 G h=>⟨_,_,_,rfl,?_⟩⟩;rw[yd]at h ⊢;refine dw h (i:=2) rfl rfl rfl (h.a_ 0 rfl) ez λa3 c3 C h=>⟨_,_,_,rfl,f _ _ _ (h.o [2,4] 5)⟩
  refine h.al λb5 _ h=>ye h (λH h=>h.ew 1 rfl) ez λa1 c1 A h=>⟨_,_,_,rfl,rL (us:=[labs.length]) h (λH h=>h.ew 1 rfl) (by simp;omega) eh λa2 c2 G h=>⟨_,_,_,rfl,?_⟩⟩;rw[yd]at h ⊢;refine dw h (i:=1) rfl rfl rfl (h.a_ 0 rfl) ez λa3 c3 C h=>⟨_,_,_,rfl,f _ _ _ (h.o [1,4] 5)⟩
 refine h.al λb5 _ h=>⟨h.r 1,h.al λb4 _ h=>ye h (λH h=>h.ew 0 rfl) ez λa1 c1 A h=>⟨_,_,_,rfl,rL (us:=[labs.length]) h (λH h=>h.ew 2 rfl) (by simp;omega) eh λa2 c2 G h=>⟨_,_,_,rfl,?_⟩⟩⟩;rw[yd]at h ⊢;refine dw h (i:=1) rfl rfl rfl (h.a_ 0 rfl) ez λa3 c3 C h=>⟨_,_,_,rfl,f _ _ _ (h.o [1,4] 5)⟩
theorem Ko(h:aA H (ke c s::F))(hb:aI s.bs)(M:s.bs.length<=1099511627776) (k:∀a rb d,aA d (ke c (cV s).rest::ay 223 2 a (cV s).labs.length rb (flat cJ (cV s).labs)::F)->K (.tuple #[.agg #[.string (cV s).name,.slice a (cV s).labs.length rb],aB (cV s).e]) d):CF 241 #[PA c 0] H K:=by
 refine cN 241 0x112156123992514421bdc [[(12,sI)]] (h.al λb _ h=>?_);have h:=h.o [1,0] 2;refine oQ (most:=64) h hb M (by unfold aG;decide) λJ h=>⟨_,rfl,?_⟩;have f:=(mJ (m:=64) hb).1;have T:=(pD s 64).1;refine h.al λb1 _ h=>h.st 0 rfl rfl ?_;intro P h;have h:=h.o [1,0,2] 3;refine uY (most:=8) h f ez (by unfold aG;decide) λW h=>⟨_,rfl,?_⟩;have y:=tN (m:=8) f;have S:=tO (bg 64 s).2 8;have O:=Kk (bg 64 s).2;unfold cV at k;generalize hcr:cx 8 (bg 64 s).2=C at *;let⟨cn,s1⟩:=C;dsimp only at *;obtain⟨n,rfl⟩:∃n:Nat,cn=n:=⟨cn.toNat,ez⟩;rw[Fw]at k;refine⟨λi d=>∃j:Nat,i=j/\j<=n/\∃a rb,aA d (ke c (dO j s1).2::ay 223 2 a j rb (flat cJ (dO j s1).1)::ax b1 [.string (bN (bg 64 s).1),.slice a j rb] 62::ax b [.string ⟨#[]⟩,.slice none 0 0] 62::F),λi _=>n-i.toNat,⟨0,rfl,ez,none,0,((h.cp 223 2).o [1,0,2,3] 4)⟩,?_⟩;rintro i J ⟨j,rfl,hj,a,rb,h⟩;have v:=Bk y j;have U:=Bl s1 j;refine⟨λQ=>?_,λQ=>?_⟩
 .have B:j<n:=by grind
  refine oQ (most:=64) h v ez (by unfold aG;decide) λY h=>⟨_,rfl,_,_,_,h.r 2,?_⟩;have E:=(mJ (m:=64) v).1;have V:=(pD (dO j s1).2 64).1;refine oQ (most:=64) h E ez (by unfold aG;decide) λP h=>⟨_,rfl,h.r 2,h.al λb2 _ h=>⟨h.r 3,?_⟩⟩;have w:=Bm s1 j;refine h.append (m:=1) (ws:=cJ ⟨bN (bg 64 (dO j s1).2).1,bN (bg 64 (bg 64 (dO j s1).2).2).1⟩) aev 2 rfl (h.ew 0 rfl) rfl (xL _) ez ez λR L H5 h=>⟨_,_,_,rfl,h.st 3 rfl rfl ?_⟩;intro G h;conv=>whnf
  rw[aN (x:=(j:Int)+1)];refine⟨⟨j+1,ez,B,R,L,?_⟩,by grind⟩;have e:flat cJ (dO (j+1) s1).1=flat cJ (dO j s1).1++cJ ⟨bN (bg 64 (dO j s1).2).1,bN (bg 64 (bg 64 (dO j s1).2).2).1⟩:=by show flat cJ (_++[_])=_;grind [flat]
  rw[e];exact h.o [1,2,3,4] 5
 have D:j=n:=by grind
 subst D;have w:=Bm s1 j;refine⟨_,nE h,λt=>?_,λt=>?_⟩
 .have t:(dO j s1).2.e≠0:=by grind
  rw[c_ t]at k;refine h.st 3 rfl rfl ?_;intro G h;refine⟨_,_,_,_,h.q 3,k none 0 _ (((h.cp 223 2).o [1,0] 5))⟩
 have t:¬(dO j s1).2.e≠0:=by grind
 rw[b_ t]at k;refine⟨_,_,_,_,h.q 2,?_⟩;have I:CF 193 #[.agg #[.string (bN (bg 64 s).1),.slice a (dO j s1).1.length rb]] J (λu d=>u=.bool (dB (bN (bg 64 s).1) (dO j s1).1)/\aA d (ke c (dO j s1).2::ay 223 2 a j rb (flat cJ (dO j s1).1)::ax b1 [.string (bN (bg 64 s).1),.slice a j rb] 62::ax b [.string ⟨#[]⟩,.slice none 0 0] 62::F)):=qt h (λH h=>h.a_ 1 rfl) λd h=>⟨rfl,h⟩;rw[w]at I;refine I.mono ?_;rintro u Z ⟨rfl,h⟩;refine⟨_,rfl,λN=>?_,λN=>?_⟩;.rw [b_ (by grind)]at k;refine h.st 3 rfl rfl ?_;intro G h;refine⟨_,_,_,_,h.q 3,k none 0 _ (((h.cp 223 2).o [1,0] 5))⟩
 rw [c_ (by grind)]at k;refine⟨_,_,_,_,h.q 2,h.st 3 rfl rfl ?_⟩;intro G h;refine⟨_,_,_,_,h.q 3,?_⟩;have A:=k a rb _ (by dsimp only;rw[w];exact h.o [0,1] 4);dsimp only at A;rw[w]at A;exact A
def gu(c:UInt8)(s:Fb):Fb×Fb×Bool:=
 if 0<=df c (bi s) then (s.extract 0 (df c (bi s)).toNat,s.extract ((df c (bi s)).toNat+1) s.size,true) else (s,⟨#[]⟩,false)
def nN(c:UInt8)(s:Fb):Fb×Bool:=
 if decide (1<=s.size)&&((s.extract (s.size-1) s.size).toList == (⟨#[c]⟩:Fb).toList) then (s.extract 0 (s.size-1),true) else (s,false)
def jz:Nat->Fb->List Fb
 | 0,s=>[s]
 | n+1,s=>if df 44 (bi s)<0 then [s] else s.extract 0 (df 44 (bi s)).toNat::jz n (s.extract ((df 44 (bi s)).toNat+1) s.size)
def il(s:Fb):List Fb:=jz s.size s
def tP(acc:Option (List bO))(p:Fb):Option (List bO):=match acc with
 | none=>none
 | some labs=>if (gu 61 p).2.2 && !decide (labs.length=8) then some (labs++[⟨(gu 61 p).1,(gu 61 p).2.1⟩]) else none
def lv(ps:List Fb):Option (List bO):=ps.foldl tP (some [])
def fp(t:Fb):Fb×List bO×Bool:=
 if (gu 123 t).2.2 then
  if (nN 125 (gu 123 t).2.1).2 then match lv (il (nN 125 (gu 123 t).2.1).1) with
   | none=>(⟨#[]⟩,[],false)
   | some labs=>if dB (gu 123 t).1 labs then ((gu 123 t).1,labs,true) else (⟨#[]⟩,[],false)
  else (⟨#[]⟩,[],false)
 else if dB (gu 123 t).1 [] then ((gu 123 t).1,[],true) else (⟨#[]⟩,[],false)
theorem Kq(c:UInt8)(s:Fb):-1<=df c (bi s)/\df c (bi s)<s.size:=by have:=afg c (bi s);simp_all
theorem TD(ps:List Fb):ps.foldl tP none=none:=by
 induction ps with
 | nil=>rfl
 | cons p r ih=>exact ih
theorem TE(h:j<E.length):lv (E.take (j+1))=tP (lv (E.take j)) E[j]:=by grind [lv,List.take_succ_eq_append_getElem]
theorem TF(h:lv (E.take j)=none):lv E=none:=by grind [List.take_append_drop,lv,TD]
theorem Kr:∀(n:Nat) (s p:Fb),p∈jz n s->p.size<=s.size
 | 0,s,p,h=>by
  have:p=s:=CU.1 h
  grind
 | n+1,s,p,h=>by
  unfold jz at h
  split at h
  .grind
  .rcases DO.1 h with h|h
   .grind [ByteArray.size_extract]
   .have:=Kr n _ p h
    grind [ByteArray.size_extract]
theorem Ks(n:Nat)(s:Fb):jz n s≠[]:=by
 cases n with
 | zero=>simp[jz]
 | succ n=>grind [jz]
theorem Kt{c:UInt8}(k:K (aB (df c (bi t))) H):CF 453 #[.string t,.string ⟨#[c]⟩] H K:=by
 refine QU ⟨λa=>?_,λa=>⟨λhd=>?_,λhd=>?_⟩⟩
 .simp only[Jq,za]at a;rcases a with a|a;.exact cS a (by show ¬((1:Int)=0);omega)
  have e:(⟨#[c]⟩:Fb)=t:=adi (by grind);have:df c (bi t)=0:=by grind [df]
  rw[<-this];exact k
 .refine⟨⟨ez,by grind⟩,cM 400 28 ⟨_,ab4,_,rfl,?_⟩⟩;have:(F9 (⟨#[c]⟩:Fb) 0).toNat.toUInt8=c:=by show ((c.toNat:Int)).toNat.toUInt8=c;simp
  rw[this];exact k
 exact cS (h_ hd) (by show ¬¬((1:Int)=1);omega)
theorem Ku{c:UInt8}(hs:t.size<=1099511627776)(k:K (.tuple #[.string (gu c t).1,.string (gu c t).2.1,.bool (gu c t).2.2]) H) :
  CF 393 #[.string t,.string ⟨#[c]⟩] H K:=by
 refine cM 393 28 (QY ?_);refine Kt ⟨_,rfl,λa=>?_,λa=>?_⟩
 .have a:=j_ a;have hi:=Kq c t;have b:i64.wrap (df c (bi t)+(((⟨#[c]⟩:Fb).size:Nat):Int))=df c (bi t)+1:=by
   show i64.wrap (df c (bi t)+1)=_
   grind [aN]
  rw[b];refine⟨by omega,by omega,_,_,_,rfl,?_⟩;unfold gu at k;rw[c_ a]at k;rw[show (df c (bi t)+1).toNat=(df c (bi t)).toNat+1 by omega];exact k
 .have a:=h_ a;unfold gu at k;rw[b_ a]at k;exact⟨_,_,_,rfl,k⟩
theorem TG{c:UInt8}(hs:t.size<=1099511627776):bX Tryz.prog 394 #[.string t,.string ⟨#[c]⟩] H (.tuple #[.string (nN c t).1,.bool (nN c t).2]):=by
 have b:(((⟨#[c]⟩:Fb).size:Nat):Int)=1:=rfl;have e:∀h:1<=t.size,i64.wrap ((t.size:Int)-1)=((t.size-1:Nat):Int):=λh=>by grind [aN]
 refine cM 394 28 ⟨_,_,QX ⟨decide (1<=t.size)&&((t.extract (t.size-1) t.size).toList == (⟨#[c]⟩:Fb).toList),QS ⟨λa=>?_,?_,rfl⟩,λa=>?_,λa=>?_⟩,rfl,rfl⟩;.have a:=j_ a;rw[b]at a ⊢;rw[e ez];omega
 .rw [b];by_cases d:1<=t.size;.grind [Int.toNat_natCast]
  grind
 .unfold nN;grind
 have a:(decide (1<=t.size)&&((t.extract (t.size-1) t.size).toList == (⟨#[c]⟩:Fb).toList))=true:=by grind
 have d:1<=t.size:=by grind
 unfold nN;grind
theorem TH{c2:Nat}{s:Fb}(hs:s.size<=1099511627776)(A:Nat->aF)(I:Nat->aF) (h:aA H (A 0::ax j [.string ⟨#[44]⟩] 9::ax i [.string s] 9::ax c2 [aB 0] 3::F)) (J:∀c0 (T:c0<(il s).length) (G:List aF) (u:aC) (y:KE),aA u (A c0::G)->(∀b,aA b (A (c0+1)::G)->y (.bool true) b)->(∀b,aA b (I c0::G)->y (.bool false) b)->fu Tryz.prog c [.string (il s)[c0]] u y) (k:∀l,aA l (A (il s).length::F)->K (.tuple #[]) l) (L:∀c0 l,c0<(il s).length->aA l (I c0::F)->K (.tuple #[]) l) : CF 455 #[.func (.yield c) #[] #[],PA j 0,PA i 0,PA c2 0] H K:=by
 refine QR ⟨_,h.r 1,λf=>cS (j_ f) (by show ¬((1:Int)=0);omega),λf=>⟨λl=>∃(c0 n:Nat) (r:Fb),c0<(il s).length/\(il s).drop c0=jz n r/\r.size<=n/\n<=s.size/\aA l (A c0::ax j [.string ⟨#[44]⟩] 9::ax i [.string r] 9::ax c2 [aB 0] 3::F),λl=>match aM l i 0 with|some (.string r)=>r.size|_=>0,⟨0,s.size,s,q3c.2 (Ks _ _),rfl,yb _,yb _,h⟩,?_⟩⟩;intro u ⟨c0,n,r,d,hd,Q,S,h⟩;have B:=h.rd 2 rfl 0;refine⟨_,h.r 2,_,h.r 1,?_⟩;have hi:=Kq 44 r;have N:(il s)[c0]=(jz n r)[0]'(by grind):=by grind
 refine cM 457 28 (Kt ⟨_,rfl,_,rfl,λf=>?_,λf=>?_⟩)
 .have f:=j_ f;have e:jz n r=[r]:=by cases n with
    | zero=>rfl
    | succ n=>unfold jz;grind
  have t:(il s).length=c0+1:=by grind
  have e0:(il s)[c0]=r:=by grind
  refine⟨_,h.r 2,?_⟩;have a:=J c0 d (ax j [.string ⟨#[44]⟩] 9::ax i [.string r] 9::ax c2 [aB 0] 3::F) u (λu3 E=>∃r4,u3=.bool r4/\K (.tuple #[]) E) h (λb h=>⟨true,rfl,k _ (by rw[t];exact h.o [0] 4)⟩) (λb h=>⟨false,rfl,L c0 _ d (h.o [0] 4)⟩);rw[e0]at a;exact a
 have f:=h_ f;have v:∃m,n=m+1:=⟨n-1,ez⟩;obtain⟨m,rfl⟩:=v;have e:jz (m+1) r=r.extract 0 (df 44 (bi r)).toNat::jz m (r.extract ((df 44 (bi r)).toNat+1) r.size):=by show (if _ then _ else _)=_;grind
 have O:i64.wrap (df 44 (bi r)+0)=df 44 (bi r):=by grind [aN]
 have D:i64.wrap (df 44 (bi r)+(((⟨#[44]⟩:Fb).size:Nat):Int))=df 44 (bi r)+1:=by show i64.wrap (df 44 (bi r)+1)=_;grind [aN]
 have e0:(il s)[c0]=r.extract 0 (df 44 (bi r)).toNat:=by grind
 have x:(il s).drop (c0+1)=jz m (r.extract ((df 44 (bi r)).toNat+1) r.size):=by rw[<-List.drop_drop,hd,e];rfl
 have w:c0+1<(il s).length:=by have P:=q3c.2 (Ks m (r.extract ((df 44 (bi r)).toNat+1) r.size));grind
 refine⟨_,h.r 2,_,h.r 3,?_⟩;dsimp only;rw[O];refine⟨ez,?_⟩;have a:=J c0 d (ax j [.string ⟨#[44]⟩] 9::ax i [.string r] 9::ax c2 [aB 0] 3::F) u;rw[e0]at a;refine a _ h (λb h=>⟨true,rfl,λC=>cS C eh,λ_=>?_⟩) (λb h=>⟨false,rfl,λ_=>L c0 _ d (h.o [0] 4),λC=>cS C eh⟩);refine⟨_,h.r 2,_,h.r 1,?_⟩;dsimp only;rw[D];refine⟨ez,?_⟩;have M:(r.extract ((df 44 (bi r)).toNat+1) r.size).size=r.size-((df 44 (bi r)).toNat+1):=by simp_all
 refine h.st 2 rfl rfl ?_;intro R h;rw[show (df 44 (bi r)+1).toNat=(df 44 (bi r)).toNat+1 by omega]at h;refine⟨⟨c0+1,m,_,w,x,ez,ez,h⟩,?_⟩;have c1:=h.rd 2 rfl 0;rw[B,c1];show ByteArray.size _<ByteArray.size _;grind
theorem Kv{F:List aF}(O:t.size<=1099511627776)(h:aA H F) (k:∀a c L,aA L (ay 223 2 a (fp t).2.1.length c (flat cJ (fp t).2.1)::F)->K (.tuple #[.agg #[.string (fp t).1,.slice a (fp t).2.1.length c],.bool (fp t).2.2]) L) : CF 330 #[.string t] H K:=by
 refine cL 330 (.r (.r (.r (.seq (.r (.cond (.r (.seq (.r (.cond (.r .no) .no)) (.r (.DT (.FH [sT] [none,(some .ret)] .CA (.DT (.r (.seq (.r (.cond (.r .no) .no)) .CA)))))))) .no)) (.seq (.r (.cond (.r .no) .no)) (.r .no)))))) (h.al λb _ h=>h.al λb1 _ h=>Ku O ⟨_,_,_,rfl,h.al λb2 _ h=>h.st 0 rfl rfl ?_⟩);intro H1 h;have S:(gu 123 t).2.1.size<=t.size:=by
  unfold gu;split;.simp_all
  exact EG _
 unfold fp at k;generalize hC:gu 123 t=C at *;let⟨nm,rest,ok⟩:=C;dsimp only at *;refine⟨λi=>?_,λi=>?_⟩
 .subst i;rw[c_ rfl]at k;refine⟨_,_,TG ez,λi=>?_,λi=>?_⟩;.rw [b_ (by grind)]at k;refine h.st 2 rfl rfl ?_;intro Z h;refine h.st 1 rfl rfl ?_;intro H3 h;refine⟨_,_,_,_,h.q 2,_,h.r 1,k none 0 _ ((h.cp 223 2).o [0] 4)⟩
  rw [c_ (by grind)]at k;have Y:(nN 125 rest).1.size<=rest.size:=by
   unfold nN;split;.simp_all
   grind
  generalize hf:(nN 125 rest).1=f at *;refine cM 395 28 (cM 428 28 (h.al λc1 _ h=>h.al λc0 _ h=>h.al λc2 x h=>⟨_,_,rfl,_,_,rfl,rfl,λR B y Q=>?_⟩));have h:=h.FH R;refine TH (s:=f) ez (λj=>F7 λp:(KQ×Nat)×List bO=>star [ax b2 [.string nm,.slice p.1.1 p.2.length p.1.2] 62,ay 223 2 p.1.1 p.2.length p.1.2 (flat cJ p.2),ax b1 [.bool false] 4,ax b [.string ⟨#[]⟩,.slice none 0 0] 62,pt (x.size+1) (.loop R),DA (lv ((il f).take j)=some p.2/\p.2.length<=8)]) (λj=>star [ax b1 [.bool false] 4,ax b [.string ⟨#[]⟩,.slice none 0 0] 62,pt (x.size+1) (.loop { R with state:=.done,pending:=some .ret }),DA (lv ((il f).take (j+1))=none)]) (F:=pt x.size (.deferred (some []))::F) ?_ ?_ ?_ ?_;.refine cw.2 ⟨((none,0),[]),aA.shut [_,_,_,_,_,_] (((h.cp 223 2).DA (p:=lv ((il f).take 0)=some []/\([]:List bO).length<=8) ⟨rfl,eh⟩).o [7,1,8,9,2,0,5,6,4,3] 10)⟩
  .intro j E G J K1 h M N;let⟨⟨⟨a,c⟩,labs⟩,h⟩:=cw.1 h;have h:=aA.open (A:=[_,_,_,_,_,_]) h;have v:=(aA.B3 (h.o [5,0,1,2,3,4] 6)).1;dsimp only at h;have W:=Kr f.size f _ (qa (l:=il f) E);have d:=TE E;rw[v.1]at d;dsimp only at v;unfold tP at d;dsimp only at d;refine Q _ _ _ ⟨_,rfl,h.eY 4 rfl,h.eY 4 rfl,h.Fu 4 rfl λI h=>Ku ez ?_⟩;generalize gu 61 (il f)[j]=D at *;let⟨d1,d2,d3⟩:=D;dsimp only at d ⊢;refine⟨_,_,_,rfl,a,labs.length,c,λ_=>h.r 0,λi=>?_,λi=>?_⟩;.rw [b_ (by grind)]at d;refine h.st 3 rfl rfl ?_;intro w h;refine h.st 2 rfl rfl ?_;intro n h;refine⟨h.eY 4 rfl,N _ ?_⟩;have h:=h.n_ 4 rfl (.loop { R with state:=.done,pending:=some .ret });refine aA.shut [_,_,_,_] ((h.DA d).o [3,4,5,0] 7)
   simp only[E8,q2p,DC]at i;rw[c_ (by grind)]at d;refine⟨_,_,_,h.r 0,h.al λb3 _ h=>h.append (m:=1) (ws:=cJ ⟨d1,d2⟩) aev 2 rfl (h.ew 0 rfl) rfl (xL _) ez ez λU P T h=>⟨_,_,_,rfl,h.st 1 rfl rfl ?_⟩⟩;intro V h;refine⟨h.eY 5 rfl,M _ ?_⟩;have h:=h.n_ 5 rfl (.loop R);refine cw.2 ⟨((U,P),labs++[⟨d1,d2⟩]),aA.shut [_,_,_,_,_,_] ?_⟩;have e:flat cJ (labs++[⟨d1,d2⟩])=flat cJ labs++cJ ⟨d1,d2⟩:=by grind [flat]
   dsimp only;rw[e,po];exact (h.DA (p:=lv ((il f).take (j+1))=some (labs++[⟨d1,d2⟩])/\labs.length+[(⟨d1,d2⟩:bO)].length<=8) ⟨d,by simp;omega⟩).o [2,3,4,5,6,0] 8
  .intro J h;let⟨⟨⟨a,c⟩,labs⟩,h⟩:=cw.1 h;have h:=aA.open (A:=[_,_,_,_,_,_]) h;have v:=(aA.B3 (h.o [5,0,1,2,3,4] 6)).1;rw[FJ]at v;rw[v.1]at k;dsimp only at h k;refine⟨.ready,none,ee,by rw[lp B y];exact h.eY 4 rfl,h.Fu 4 rfl λI h=>.inl ⟨rfl,⟨_,_,_,_,h.q 0,qt h (λH h=>h.a_ 1 rfl) λw h=>⟨_,rfl,λi=>?_,λi=>?_⟩⟩⟩⟩;.rw [b_ (by grind)]at k;refine h.st 3 rfl rfl ?_;intro n h;refine h.st 2 rfl rfl ?_;intro u h;refine⟨h.eY 6 rfl,?_⟩;have h:=h.n_ 6 rfl (.deferred none);refine⟨_,_,_,_,h.q 3,_,h.r 2,k none 0 _ ((h.cp 223 2).o [0] 8)⟩
   rw [c_ (by grind)]at k;refine⟨_,_,_,_,h.q 0,h.st 3 rfl rfl ?_⟩;intro n h;refine h.st 2 rfl rfl ?_;intro u h;refine⟨h.eY 6 rfl,?_⟩;have h:=h.n_ 6 rfl (.deferred none);refine⟨_,_,_,_,h.q 3,_,h.r 2,k a c _ (h.o [1] 7)⟩
  intro j J E h;have h:=aA.open (A:=[_,_,_,_]) h;have v:=(aA.B3 (h.o [3,0,1,2] 4)).1;rw[TF v]at k;refine⟨.done,some .ret,ee,h.eY 2 rfl,h.Fu 2 rfl λI h=>.inr ⟨rfl,h.eY 4 rfl,?_⟩⟩;have h:=h.n_ 4 rfl (.deferred none);refine⟨_,_,_,_,h.q 1,_,h.r 0,k none 0 _ ((h.cp 223 2).o [0] 6)⟩
 subst i;rw[b_ eh]at k;refine⟨_,_,_,_,h.q 0,qt (labs:=[]) h (λH h=>fN H none) λw h=>⟨_,rfl,λi=>?_,λi=>?_⟩⟩;.rw [b_ (by grind)]at k;refine h.st 2 rfl rfl ?_;intro n h;refine h.st 1 rfl rfl ?_;intro u h;refine⟨_,_,_,_,h.q 2,_,h.r 1,k none 0 _ ((h.cp 223 2).o [0] 4)⟩
 rw [c_ (by grind)]at k;refine⟨_,_,_,_,h.q 0,h.st 2 rfl rfl ?_⟩;intro n h;refine h.st 1 rfl rfl ?_;intro u h;refine⟨_,_,_,_,h.q 2,_,h.r 1,k none 0 _ ((h.cp 223 2).o [0] 4)⟩
def R_(e:Ev):Bool:=decide (0<=e.stamp)&&decide (e.stamp<=4611686018427387903)&&dB e.name e.labs
def jc(next:Int)(evs:List Ev):Bool:=decide (1<=evs.length)&&decide (evs.length<=64)&&decide (next<=1099511627776-evs.length)&&evs.all R_
structure mK(F:List aF)(a:KQ)(evs:List Ev):Prop where
 rd:∀H,aA H F->aQ H a (flat bH evs)
 labs:∀e∈evs,∀H,aA H F->aQ H e.la (flat cJ e.labs)
theorem mK.cons(h:mK F a D)(A:aF):mK (A::F) a D:=⟨λH b=>h.rd H b.tl,λe c H b=>h.labs e c H b.tl⟩
theorem Bq(x:Fb):pC x x=0:=by
 unfold pC;have h:Op.bytesLess x.toList x.toList=false:=by have:=ae9 ⟨0,x⟩ ⟨0,x⟩;grind [tH]
 grind
theorem Br{y:Fb}:bX Tryz.prog 232 #[.string t,.string y] H (aB (pC t y)):=by unfold bX;refine .mk λw a=>?_;subst a;refine mF (ac7 t y w) ?_;rintro e b ⟨rfl,rfl⟩;exact⟨_,rfl,⟨rfl,rfl,rfl⟩,rfl,rfl⟩
theorem Kw(h:aA H F)(i:Nat)(d:aX i F=ax c [aB x,aB v] 3):bX Tryz.prog 189 #[.slice (some ⟨c,0,none⟩) 2 2] H (aB (if x≠0 then x else v)):=by
 refine cN 189 0x11215612399251b4c [[(8,sI)]] ⟨λi m=>m=H/\(i=0\/i=1/\x=0\/i=2/\x=0/\v=0),λi _=>2-i.toNat,⟨rfl,.inl rfl⟩,?_⟩;intro j n ⟨rfl,k⟩;refine⟨λa=>?_,λa=>?_⟩
 .have a:=j_ a;refine⟨ez,c,0,rfl,?_⟩;rcases k with rfl|⟨rfl,f⟩|⟨rfl,_⟩
  .refine⟨x,h.rd i d 0,λb=>?_,λb=>?_⟩;.rw [c_ (by grind)];exact⟨rfl,rfl⟩
   exact⟨⟨rfl,.inr (.inl ⟨rfl,by grind⟩)⟩,by dsimp only;decide⟩
  .refine⟨v,h.rd i d 1,λb=>?_,λb=>?_⟩;.rw [b_ (by grind)];exact⟨rfl,rfl⟩
   exact⟨⟨rfl,.inr (.inr ⟨rfl,f,by grind⟩)⟩,by dsimp only;decide⟩
  exact cS a ee
 have a:=h_ a;have e:x=0/\v=0:=by grind
 rw[e.1,e.2];exact⟨rfl,rfl⟩
theorem TJ(h:aA H F)(k:∀a,aA a F->K (aB 0) a):CF 423 #[.agg #[.string l.name,.string l.value],.agg #[.string l.name,.string l.value]] H K:=by refine cM 423 28 (h.al λb _ h=>h.al λb1 _ h=>⟨_,h.r 1,_,h.r 0,_,Br,?_⟩);rw[Bq];exact k _ h.tl.tl
theorem TK(h:aA H F)(k:∀a,aA a F->K (aB 0) a):CF 382 #[.agg #[.string l.name,.string l.value],.agg #[.string l.name,.string l.value]] H K:=by refine cM 382 28 (h.al λb _ h=>h.al λb1 _ h=>⟨_,_,h.q 1,_,_,h.q 0,_,h.r 1,_,h.r 0,TJ h λc h=>⟨_,rfl,h.r 0,h.r 1,_,Br,?_⟩⟩);rw[Bq];refine h.al λb2 _ h=>⟨_,Kw h 0 rfl,k _ h.tl.tl.tl⟩
theorem TM(h:aA H F)(n:∀H,aA H F->aQ H a (flat cJ A))(u:A.length<=1000000)(k:∀m,aA m F->K (aB 0) m) : CF 381 #[.slice a A.length c,.slice a A.length j,.func (.func 382) #[] #[]] H K:=by
 refine cN 381 0x1215612399251d11b4dc [[(13,sI)]] ⟨λi m=>∃s:Nat,i=s/\s<=A.length/\aA m F,λi _=>A.length-i.toNat,⟨0,rfl,ez,h⟩,?_⟩;rintro i labs ⟨s,rfl,w,h⟩;refine⟨λe=>?_,λe=>⟨λe=>cS (j_ e) ez,λ_=>k _ h⟩⟩;have d:s<A.length:=by grind
 have f:=n _ h;refine⟨ez,_,_,f.some iI ez d,_,_,f.E6 iI d,h.al λb _ h=>h.st 0 rfl rfl ?_⟩;intro v h;have f:=n _ h.tl;refine⟨λe=>cS (j_ e) ez,λ_=>⟨ez,_,_,f.some iI ez d,_,_,f.E6 iI d,h.al λb1 _ h=>h.st 0 rfl rfl ?_⟩⟩;intro y h;refine⟨_,_,h.q 1,_,_,h.q 0,rfl,TK (l:=A[s]) h λt h=>⟨_,rfl,λe=>cS e eh,λ_=>?_⟩⟩;conv=>whnf
 rw[aN (x:=(s:Int)+1)];exact⟨⟨s+1,ez,d,h.tl.tl⟩,by grind⟩
theorem Bs{labs:List bO}(h:aA H F)(e:∀H,aA H F->aQ H a (flat cJ labs))(f:labs.length<=1000000)(k:∀d,aA d F->K (aB 0) d) : CF 308 #[.agg #[.string t,.slice a labs.length c],.agg #[.string t,.slice a labs.length i]] H K:=by refine cM 308 28 (h.al λb _ h=>h.al λb1 _ h=>⟨_,h.r 1,_,h.r 0,_,Br,_,_,_,h.r 1,_,_,_,h.r 0,?_⟩);rw[Bq];refine TM h (λH h=>e H h.tl.tl) f λj h=>⟨_,rfl,h.al λb2 _ h=>⟨_,Kw h 0 rfl,k _ h.tl.tl.tl⟩⟩
theorem TN{e:Ev}(h:aA H F)(f:∀H,aA H F->aQ H e.la (flat cJ e.labs))(i:e.labs.length<=1000000)(k:∀a,aA a F->K (.bool true) a):CF 307 #[MP e,MP e] H K:=by refine cN 307 4745 [[(4,sB)]] (h.al λb _ h=>h.al λb1 _ h=>?_);intro j c;have e1:(decide (e.stamp=e.stamp)&&decide (e.value=e.value))=true:=eh;refine⟨_,h.r 1,_,h.r 0,_,λ_=>h.r 1,_,λ_=>h.r 0,_,_,_,_,λ_=>h.q 1,_,_,_,_,λ_=>h.q 0,λ_=>?_,λd=>cS e1 d⟩;refine Bs h (λH h=>f H h.tl.tl) i λm h=>⟨_,rfl,c _ _ (k _ h.tl.tl)⟩
theorem Kx(h:aA H F)(s:mK F a D)(w:D.length<=1000000)(t:∀e∈D,e.labs.length<=1000000)(k:∀n,aA n F->K (.bool true) n) : CF 306 #[.slice a D.length c,.slice a D.length j,.func (.func 307) #[] #[]] H K:=by
 refine cN 306 0x1d2156123992511b4c [[(17,sI)]] ⟨λm=>cS m eh,λ_=>⟨λi n=>∃u:Nat,i=u/\u<=D.length/\aA n F,λi _=>D.length-i.toNat,⟨0,rfl,ez,h⟩,?_⟩⟩;rintro i C ⟨u,rfl,A,h⟩;refine⟨λm=>?_,λm=>k _ h⟩;have d:u<D.length:=by grind
 have f:=s.rd _ h;refine⟨ez,_,_,f.some dU ez d,_,_,_,_,_,_,f.E6 dU d,h.al λb _ h=>h.st 0 rfl rfl ?_⟩;intro y h;have f:=s.rd _ h.tl;refine⟨ez,_,_,f.some dU ez d,_,_,_,_,_,_,f.E6 dU d,h.al λb1 _ h=>h.st 0 rfl rfl ?_⟩;intro B h;refine⟨_,_,_,_,_,_,h.q 1,_,_,_,_,_,_,h.q 0,rfl,TN (e:=D[u]) h (λH h=>s.labs _ (qa d) H h.tl.tl) (t _ (qa d)) λv h=>⟨_,rfl,λm=>cS m eh,λ_=>?_⟩⟩;conv=>whnf
 rw[aN (x:=(u:Int)+1)];exact⟨⟨u+1,ez,d,h.tl.tl⟩,by grind⟩
theorem Kz(h:aA H F)(u:mK F a D)(G:D.length<=1099511627776)(k:∀n,aA n F->K (.bool (jc v D)) n) : CF 243 #[aB v,.slice a D.length c] H K:=by
 refine cN 243 0x1d215612399251283c94c [[(41,sB)],[(24,sI)]] ?_;have evs:i64.wrap (1099511627776-(D.length:Int))=1099511627776-(D.length:Int):=aN;conv=>whnf
 rw[evs];refine⟨λm=>?_,λm=>?_⟩
 .have:jc v D=false:=by
   simp only[Jq,za]at m;cases e:jc v D;.rfl
   unfold jc at e;grind
  rw[this]at k;exact k _ h
 simp only[E8,DC]at m;have E:jc v D=D.all R_:=by grind [jc]
 refine⟨λi n=>∃j:Nat,i=j/\j<=D.length/\(∀q (A:q<D.length),q<j->R_ D[q]=true)/\aA n F,λi _=>D.length-i.toNat,⟨0,rfl,ez,λq _ h=>ez,h⟩,?_⟩;rintro i M ⟨j,rfl,J,L,h⟩;refine⟨λm=>?_,λm=>?_⟩
 .have d:j<D.length:=by grind
  have next:=u.rd _ h;refine⟨ez,_,_,next.some dU ez d,_,_,_,_,_,_,next.E6 dU d,h.al λb _ h=>h.st 0 rfl rfl ?_⟩;intro I h;intro C w;have f:∀s,aA s F->C (!R_ D[j]) s:=by
   intro s h;refine w _ _ ⟨λt=>?_,λt=>?_⟩
   .have:jc v D=false:=by grind
    rw[this]at k;exact k _ h
   conv=>whnf
   rw[aN (x:=(j:Int)+1)];refine⟨⟨j+1,ez,d,λq A B=>?_,h⟩,by grind⟩;grind
  refine⟨_,h.r 0,_,λ_=>h.r 0,_,_,_,_,λ_=>h.q 0,λt=>?_,λt=>?_⟩
  .refine qt h (λH h=>u.labs _ (qa d) H h.tl) λs h=>⟨_,rfl,?_⟩;have e:R_ D[j]=dB D[j].name D[j].labs:=by grind [R_]
   rw[<-e];exact f _ h.tl
  have e:R_ D[j]=false:=by grind [R_]
  have:=f _ h.tl;rw[e]at this;exact this
 have y:D.length<=j:=by grind
 have:jc v D=true:=by grind [ahF]
 conv=>whnf
 rw[this]at k;exact k _ h
abbrev fbC(ag ep next:Int)(a:KQ)(n c:Nat):Xa:=
 [aB 5,aB ag,aB ep,aB 0,aB 0,aB 0,aB 0,aB next,aB 0,aB 0,.slice a n c,.string (⟨#[]⟩:Fb),.slice none 0 0,.slice none 0 0]
section
variable {F L:List aF}{H:aC}{K:KE}
theorem yf{f0 f1 f2 f3 f4 f5 f6 f7 f8 f9:Int}{c:KQ}{f d:Nat}{s:Fb}{e:KQ}{j i:Nat}{m:KQ}{n a:Nat}(h:aA H F) (k:∀t,aA t F->K (.agg #[aB f3,aB f4,aB f5,aB f6,aB f7,aB f8,aB f9]) t) : CF 305 ⟨[(.agg #[(aB f0),(aB f1),(aB f2),(aB f3),(aB f4),(aB f5),(aB f6),(aB f7),(aB f8),(aB f9),(.slice c f d),(.string s),(.slice e j i),(.slice m n a)])]⟩ H K:=by refine cM 305 28 (h.al λb _ h=>h.al λb1 _ h=>⟨_,h.r 1,_,h.r 1,_,h.r 1,_,h.r 1,_,h.r 1,_,h.r 1,_,h.r 1,h.st 0 rfl rfl ?_⟩);intro u h;exact⟨_,_,_,_,_,_,_,h.q 0,k _ h.tl.tl⟩
theorem agz{a b c d e f g:Int}:i8 Tryz.prog .eql 248 (.agg #[aB a,aB b,aB c,aB d,aB e,aB f,aB g]) (.agg #[aB a,aB b,aB c,aB d,aB e,aB f,aB g]) true:=by have h:=(xp (P:=Tryz.prog) (t:=248) (xs:=[aB a,aB b,aB c,aB d,aB e,aB f,aB g]) (ys:=[aB a,aB b,aB c,aB d,aB e,aB f,aB g]) (r:=(a == a&&(b == b&&(c == c&&(d == d&&(e == e&&(f == f&&(g == g&&true)))))))) kf).1;simpa using h
theorem agC{a b c:Int}:i8 Tryz.prog .eql 96 (.agg #[aB a,aB b,aB c]) (.agg #[aB a,aB b,aB c]) true:=by have h:=(uN (P:=Tryz.prog) (t:=96) (xs:=[aB a,aB b,aB c]) (ys:=[aB a,aB b,aB c]) (r:=(a == a&&(b == b&&(c == c&&true)))) kf).1;simpa using h
theorem Bt{a b:KQ}{c d:Nat}{xs ys:List Int}(f:a=none\/∃k o,a=some ⟨k,o,none⟩)(h:b=none\/∃k o,b=some ⟨k,o,none⟩)(e:aQ H a (xs.map U8))(hb:aQ H b (ys.map U8)) (k:K (.bool ((bN xs).toList == (bN ys).toList)) H):CF 309 #[.slice a xs.length c,.slice b ys.length d] H K:=cM 309 28 ⟨_,tE f e,_,tE h hb,k⟩
theorem TO{ag ep next:Int}{a:KQ}{c:Nat}{evs:List Ev}(h:aA H F)(m:mK F a evs)(n:evs.length<=1000000)(f:∀e∈evs,e.labs.length<=1000000)(k:∀i,aA i F->K (.bool true) i) : CF 244 #[.agg ⟨fbC ag ep next a evs.length c⟩,.agg ⟨fbC ag ep next a evs.length c⟩] H K:=by refine cN 244 4745 [[(4,sB)]] (h.al λb _ h=>h.al λb1 _ h=>?_);intro v j;refine⟨_,_,_,h.q 1,_,_,_,h.q 0,true,agC,_,_,_,_,_,_,_,_,_,_,_,_,_,_,_,_,_,_,_,_,λ_=>h.q 1,_,_,_,_,_,_,_,_,_,_,_,_,_,_,_,_,_,_,_,_,λ_=>h.q 0,λ_=>?_,λd=>cS rfl d⟩;refine yf h λu h=>⟨_,_,_,_,_,_,_,rfl,λ_=>h.q 0,yf h λw h=>⟨_,_,_,_,_,_,_,rfl,true,agz,_,_,_,λ_=>h.r 1,_,_,_,λ_=>h.r 0,λ_=>?_,λd=>cS rfl d⟩⟩;refine Kx h ((m.cons _).cons _) n f λt h=>⟨_,rfl,_,_,_,_,λ_=>h.q 1,_,_,_,_,λ_=>h.q 0,λ_=>?_,λd=>cS rfl d⟩;refine Bs (labs:=[]) h (λH h=>fN H none) eh λs h=>⟨_,rfl,_,_,_,λ_=>h.r 1,_,_,_,λ_=>h.r 0,λ_=>?_,λd=>cS eh d⟩;refine Bt (xs:=[]) (ys:=[]) (.inl rfl) (.inl rfl) (fN _ none) (fN _ none) ⟨_,rfl,j _ _ ?_⟩;have:=k _ h.tl.tl;have e:((bN []).toList == (bN []).toList)=true:=eh;rw[e];exact this
theorem K0{b o:Nat}{e:Nat}{cs:Xa}(h:aA H F)(i:Nat)(f:aX i F=ax b cs e)(a:aT cs 0=some (aB 5)) (k:∀p c,aA c (ax p [PA b 1,PA b 2,PA b 7] 339::F)->K (.slice (some ⟨p,0,none⟩) 3 3) c):CF 159 #[PA b 0] H K:=by refine cN 159 0x121513c13c13c13c217943c13cbc [[(68,sB)]] ⟨5,(h.rd i f 0).trans a,λa=>cS a ee,λ_=>⟨λa=>cS a ee,λ_=>⟨λa=>cS a ee,λ_=>⟨λa=>cS a ee,λ_=>?_⟩⟩⟩⟩;intro j d;refine⟨λ_=>d _ _ ?_,λa=>cS a ee⟩;refine⟨λ_=>?_,λa=>cS a ee⟩;refine h.al λp _ h=>k _ _ h
def nP(next:Int)(evs:List Ev):Bool:=decide (0<=next)&&decide (next<=4611686018427387903)&&jc next evs
theorem TT{next:Int}{evs:List Ev}:nP next evs=(decide (0<=next)&&jc next evs):=by unfold nP jc;grind
theorem K3{next:Int}{a:KQ}{c:Nat}{evs:List Ev}(h:aA H F)(v:mK F a evs)(w:evs.length<=1099511627776)(k:∀f,aA f F->K (.bool (nP next evs)) f) : CF 167 #[.agg ⟨fbC 0 0 next a evs.length c⟩] H K:=by
 refine cN 167 0x11d11215612399251d4421517b171b217947b171b9c [[],[],[(88,sB)],[],[],[(43,sI)]] (h.al λb _ h=>K0 (o:=0) h 0 rfl rfl λp M h=>⟨_,_,_,rfl,_,λ_=>h.r 1,_,λ_=>h.r 1,_,λ_=>h.r 1,_,λ_=>h.r 1,λd=>cS d eh,λ_=>⟨_,h.r 1,h.al λb1 _ h=>h.st 0 rfl rfl ?_⟩⟩);intro E h;refine K0 (o:=0) h 0 rfl rfl λp1 I h=>⟨_,_,_,rfl,⟨λi f=>(i=0\/i=1\/i=2\/i=3)/\((i=3->0<=next/\next<=4611686018427387903))/\ aA f (ax p1 [PA b1 1,PA b1 2,PA b1 7] 339::ax b1 (fbC 0 0 (if i=3 then next else 0) none 0 0) 99::ax p [PA b 1,PA b 2,PA b 7] 339::ax b (fbC 0 0 next a evs.length c) 99::F),λi _=>3-i.toNat,⟨.inl rfl,λh=>cS h ee,h⟩,?_⟩⟩;intro i D ⟨hi,u,h⟩;refine⟨λd=>?_,λd=>?_⟩
 .have d:=j_ d;rcases hi with rfl|rfl|rfl|rfl;.refine⟨ee,_,_,rfl,_,h.rd 2 rfl _,⟨_,h.r 3,λ_=>trivial,_,λ_=>h.r 3,λd=>cS d ee,λ_=>⟨ee,_,_,rfl,_,h.rd 0 rfl _,⟨_,h.r 3,h.st 1 rfl rfl ?_⟩⟩⟩⟩;intro s h;exact⟨⟨.inr (.inl ee),λh=>cS h ee,h⟩,by dsimp only;decide⟩
  .refine⟨ee,_,_,rfl,_,h.rd 2 rfl _,⟨_,h.r 3,λ_=>trivial,_,λ_=>h.r 3,λd=>cS d ee,λ_=>⟨ee,_,_,rfl,_,h.rd 0 rfl _,⟨_,h.r 3,h.st 1 rfl rfl ?_⟩⟩⟩⟩;intro s h;exact⟨⟨.inr (.inr (.inl ee)),λh=>cS h ee,h⟩,by dsimp only;decide⟩
  .refine⟨ee,_,_,rfl,_,h.rd 2 rfl _,⟨_,h.r 3,λ_=>trivial,_,λ_=>h.r 3,λd=>?_,λd=>⟨ee,_,_,rfl,_,h.rd 0 rfl _,⟨_,h.r 3,?_⟩⟩⟩⟩
   .have:nP next evs=false:=by simp only[Jq,za]at d;grind [nP]
    rw[this]at k;exact k _ h.tl.tl.tl.tl
   simp only[E8,DC]at d;refine h.st 1 rfl rfl ?_;intro s h;exact⟨⟨.inr (.inr (.inr ee)),λ_=>ez,h⟩,by dsimp only;decide⟩
  exact cS d ee
 have d:=h_ d;have t:i=3:=by grind
 subst t;have u:=u rfl;rw[c_ rfl]at h;have y:nP next evs=jc next evs:=by grind [nP]
 refine⟨_,h.r 3,?_⟩;intro G C;refine⟨λd=>cS d ee,λ_=>?_⟩;intro B j;refine⟨λ_=>⟨_,_,_,h.r 3,?_⟩,λd=>cS d ee⟩;refine h.st 1 rfl rfl ?_;intro s h;refine⟨_,h.r 3,_,_,_,h.r 3,Kz h ((((v.cons _).cons _).cons _).cons _) w λL h=>⟨_,rfl,λd=>?_,λd=>?_⟩⟩
 .have:nP next evs=false:=by grind
  rw[this]at k;exact k _ h.tl.tl.tl.tl
 have hb:jc next evs=true:=by grind
 refine j _ (C _ ⟨_,_,_,_,_,_,_,_,_,_,_,_,_,_,_,_,_,_,_,_,h.q 3,_,_,_,_,_,_,_,_,_,_,_,_,_,_,_,_,_,_,_,_,h.q 1,?_⟩);have A:evs.length<=64:=by unfold jc at hb;grind
 have n:∀e∈evs,e.labs.length<=1000000:=by intro e x;unfold jc at hb;rw[p_,XU]at hb;have m:=hb.2 e x;unfold R_ at m;rw[p_]at m;have:=(lQ m.2).len;omega
 refine TO h ((((v.cons _).cons _).cons _).cons _) ez n λJ h=>⟨_,rfl,?_⟩;have:nP next evs=true:=by rw[y,hb]
 conv=>whnf
 rw[this]at k;exact k _ h.tl.tl.tl.tl
end
theorem TU(h:aA H F)(i:∀H,aA H F->aQ H a (flat bH D))(w:D.length<=1000000) (k:∀f d e,aA e (ay 69 4 f D.length d (flat bH D)::F)->K (.slice f D.length d) e):CF 409 #[.slice a D.length c] H K:=by
 refine cM 409 476 ⟨λv=>?_,λv=>?_⟩
 .have:a=none:=by simp_all
  subst this;have u:=oJ (i H h);have:D=[]:=by have:=congrArg List.length u;rw[dS dU]at this;exact q20 (by grind)
  subst this;exact k none 0 H (h.cp 69 4)
 refine h.al λb _ h=>?_;have t:=i _ h.tl;have n:=aA.E3 (cs:=[]) h 4 0 rfl;conv=>whnf
 refine aA.append (m:=D.length) RE n 0 rfl t (dS dU D) (kz xM D) ez ez λf d e s=>⟨_,_,_,rfl,?_⟩;have j:aA e (ay 69 4 f (0+D.length) d ([]++flat bH D)::F):=s;rw[CO,Hi]at j;have:=k f d e j;rw[<-CO D.length]at this;exact this
theorem K4{l:List Ot}(h:aA H F)(i:∀H,aA H F->aQ H a (flat cR l))(w:l.length<=1000000) (k:∀f d e,aA e (ay 184 74 f l.length d (flat cR l)::F)->K (.slice f l.length d) e):CF 222 #[.slice a l.length c] H K:=by
 refine cM 222 476 ⟨λv=>?_,λv=>?_⟩
 .have:a=none:=by simp_all
  subst this;have u:=oJ (i H h);have:l=[]:=by have:=congrArg List.length u;rw[dS jx]at this;exact q20 (by grind)
  subst this;exact k none 0 H (h.cp 184 74)
 refine h.al λb _ h=>?_;have t:=i _ h.tl;have n:=aA.E3 (cs:=[]) h 74 0 rfl;conv=>whnf
 refine aA.append (m:=l.length) XM n 0 rfl t (dS jx l) (kz tG l) ez ez λf d e s=>⟨_,_,_,rfl,?_⟩;have j:aA e (ay 184 74 f (0+l.length) d ([]++flat cR l)::F):=s;rw[CO,Hi]at j;have:=k f d e j;rw[<-CO l.length]at this;exact this
theorem TV{c:Nat}(w:j<=J.length)(h:aA H (ay 184 74 a J.length c (flat cR J)::F)) (k:∀b,aA b (ay 184 74 a (J.length-j) c (flat cR (J.drop j))::F)->K (.slice a (J.length-j) c) b):CF 292 #[.slice a J.length c,aB 0,aB j] H K:=by
 have s:=h.CD 0 rfl;refine cM 292 18682140 ⟨⟨ez,ez,ez,ez⟩,λt=>?_,λt=>?_⟩
 .have:j=0:=by grind
  subst this;exact k H h
 have n:0<j:=by grind
 refine⟨⟨ez,ez,ez⟩,⟨ez,ez,ez⟩,?_⟩;have e:=h.a_ 0 rfl;have hs:=e.some jx ez (k:=0) ez;have e0:y_ a 0 c 74=a:=by unfold y_;rw[nO,hs,I_,iF];simp
 have f:=e.ael (k:=j) (c:=c) (sz:=74) (by rw[dS jx];omega);rw[tj jx]at f;have d:=h.GP 0 rfl 0 ez;simp only[q2t,YT]at d;show cv Tryz.prog (Builtin.append_ #[163,163] 163 #[.slice (y_ a 0 c 74) 0 c,.slice (y_ a j c 74) (J.length-j) (c-j)]) H _;rw[e0];refine aA.Hb XM d 0 rfl f (by rw[dS jx,W_]) (kz tG _) ez λb m=>⟨_,_,_,rfl,⟨ez,ez,ez⟩,?_⟩;rw[CO];have i:aA b (ay 184 74 a (0+(J.length-j)) c ([]++flat cR (J.drop j))::F):=m;rw[CO,Hi]at i;exact aA.SD XM kf i 0 rfl ez λ_ v u=>k _ u
theorem TW(h:aA H F)(i:∀H,aA H F->aQ H a (flat cJ A))(w:A.length<=1000000) (k:∀f d e,aA e (ay 223 2 f A.length d (flat cJ A)::F)->K (.slice f A.length d) e):CF 104 #[.slice a A.length c] H K:=by
 refine cM 104 476 ⟨λv=>?_,λv=>?_⟩
 .have:a=none:=by simp_all
  subst this;have u:=oJ (i H h);have:A=[]:=by have:=congrArg List.length u;rw[dS iI]at this;exact q20 (by grind)
  subst this;exact k none 0 H (h.cp 223 2)
 refine h.al λb _ h=>?_;have t:=i _ h.tl;have n:=aA.E3 (cs:=[]) h 2 0 rfl;conv=>whnf
 refine aA.append (m:=A.length) aev n 0 rfl t (dS iI A) (kz xL A) ez ez λf d e s=>⟨_,_,_,rfl,?_⟩;have j:aA e (ay 223 2 f (0+A.length) d ([]++flat cJ A)::F):=s;rw[CO,Hi]at j;have:=k f d e j;rw[<-CO A.length]at this;exact this
theorem Bu(h:aA H (Q::F))(f:∀H,aA H (Q::F)->aQ H a (flat cJ A))(i:A.length<=1000000) (k:∀Q' b e d,aH Q Q'->DJ Q' b (flat cJ A)->aA d (Q'::F)->K (.slice b A.length e) d):CF 104 #[.slice a A.length c] H K:=TW h f i λb e d h=>k _ b e d (aH.add _ Q) DJ.sl (gZ.2 h)
structure Pv where
 stamp:Int
 value:Int
 name:Fb
 labs:List bO
variable {C:HS Pv}
def Ev.p(e:Ev):Pv:=⟨e.stamp,e.value,e.name,e.labs⟩
section
variable {α β:Type}
def fq(f:α->β)(l:cF α):cF β:=l.map λp=>(p.1,f p.2)
def XZ(f:α->β)(s:HS α):HS β:=⟨s.next,s.most,fq f s.rows⟩
theorem TX(f:α->β)(l:cF α):aJ (fq f l)=aJ l:=by simp[fq,aJ,XT,Function.comp_def]
theorem K5(f:α->β)(l:cF α):(fq f l).length=l.length:=FI ..
theorem K6(f:α->β)(n:Int)(v:α):∀l:cF α,ins n (f v) (fq f l)=fq f (ins n v l)
 | []=>rfl
 | (a,b)::r=>by
  have c:=K6 f n v r;show (if n<a then _ else _)=fq f (if n<a then _ else _)
  split
  .rfl
  .show (a,f b)::ins n (f v) (fq f r)=(a,f b)::fq f (ins n v r);rw[c]
theorem K7(f:α->β)(n:Int):∀l:cF α,aK n (fq f l)=(aK n l).map f
 | []=>rfl
 | (a,b)::r=>by
  have c:=K7 f n r;show aK n ((a,f b)::fq f r)=_;unfold aK
  split
  .rfl
  .exact c
theorem TY(f:α->β)(next most n:Int)(v:α)(s:cF α×Int):eM next most n (f v) (fq f s.1,s.2)=(fq f (eM next most n v s).1,(eM next most n v s).2):=by grind [eM,K7,K6]
theorem K8(f:α->β)(next most:Int):∀(l:List α) (n:Int) (s:cF α×Int),fx next most n (l.map f) (fq f s.1,s.2)=(fq f (fx next most n l s).1,(fx next most n l s).2)
 | [],n,s=>rfl
 | v::vs,n,s=>by show fx next most (n+1) (vs.map f) (eM next most n (f v) (fq f s.1,s.2))=_;rw[TY];exact K8 f next most vs (n+1) _
theorem K9(f:α->β):∀(l:cF α) (next:Int),pop next (fq f l)=((pop next l).1.map f,(pop next l).2.1,fq f (pop next l).2.2)
 | [],next=>rfl
 | (n,v)::r,next=>by have a:=K9 f r (next+1);have e1:pop next (fq f ((n,v)::r))=if n=next then (f v::(pop (next+1) (fq f r)).1,(pop (next+1) (fq f r)).2) else ([],next,fq f ((n,v)::r)):=rfl;have e2:pop next ((n,v)::r)=if n=next then (v::(pop (next+1) r).1,(pop (next+1) r).2) else ([],next,(n,v)::r):=rfl;grind
theorem TZ(f:α->β)(s:HS α)(first:Int)(items:List α):(XZ f s).offer first (items.map f)=(XZ f (s.offer first items).1,(s.offer first items).2.1.map f,(s.offer first items).2.2):=by
 unfold HS.offer;split;.simp
 have h:=K8 f s.next s.most items first (s.rows,0);grind [XZ,K9]
theorem yg{f:α->β}{l:cF α}:gY (fq f l)↔gY l:=by grind [gY,fq]
theorem KA{f:α->β}{lo next most:Int}{l:cF α}:ky lo next most (fq f l)↔ky lo next most l:=by
 constructor;.intro⟨h1,h2⟩;exact⟨yg.1 h1,λp a=>h2 (p.1,f p.2) (Ax.2 ⟨p,a,rfl⟩)⟩
 intro⟨h1,h2⟩;refine⟨yg.2 h1,λp a=>?_⟩;obtain⟨q,b,rfl⟩:=Ax.1 a;grind
theorem aeY{f:α->β}{s:HS α}:(XZ f s).Ok↔s.Ok:=⟨λh=>⟨h.GV,h.QB,h.GX,KA.1 h.rows⟩,λh=>⟨h.GV,h.QB,h.GX,KA.2 h.rows⟩⟩
theorem Ua{next most n:Int}{v:α}{s:cF α×Int}{p:Int×α}(h:p∈(eM next most n v s).1):p.2=v\/p∈s.1:=by
 unfold eM at h;split at h;.grind
 split at h;.grind
 rcases uI.1 h with rfl|h;.grind
 grind
theorem Bv{next most:Int}:∀{l:List α} {n:Int} {s:cF α×Int} {p:Int×α},p∈(fx next most n l s).1->p.2∈l\/p∈s.1
 | [],n,s,p,h=>.inr h
 | v::vs,n,s,p,h=>by
  rcases Bv (l:=vs) h with h|h
  .exact .inl (DG _ h)
  .rcases Ua h with h|h
   .exact .inl (h▸D_ ..)
   .exact .inr h
theorem Bw:∀{l:cF α} {next:Int},(∀v∈(pop next l).1,∃p∈l,p.2=v)/\∀p∈(pop next l).2.2,p∈l
 | [],next=>⟨λv h=>cS h (by simp[pop]),λp h=>cS h (by simp[pop])⟩
 | (n,v)::r,next=>by
  have a:=Bw (l:=r) (next:=next+1);unfold pop
  split
  .simp_all
  grind
theorem vw{s:HS α}{first:Int}{items:List α}:(∀v∈(s.offer first items).2.1,v∈items\/∃p∈s.rows,p.2=v)/\∀p∈(s.offer first items).1.rows,p.2∈items\/p∈s.rows:=by
 unfold HS.offer;split;.grind
 have b:=Bw (l:=(fx s.next s.most first items (s.rows,0)).1) (next:=s.next);refine⟨λv c=>?_,λp a=>Bv (b.2 p a)⟩;obtain⟨p,d,rfl⟩:=b.1 v c;rcases Bv d with h|h;.grind
 grind
theorem KC:∀{l:cF α} {next:Int},(pop next l).1.length<=l.length
 | [],_=>yb _
 | (n,v)::r,next=>by
  have a:=KC (l:=r) (next:=next+1);unfold pop
  split
  .show (v::(pop (next+1) r).1).length<=_;simp only[CV];omega
  .simp
theorem KD{next most:Int}:∀{l:List α} {n:Int} {s:cF α×Int},(fx next most n l s).1.length<=s.1.length+l.length
 | [],n,s=>yb _
 | v::vs,n,s=>by
  have a:=KD (next:=next) (most:=most) (l:=vs) (n:=n+1) (s:=eM next most n v s);have b:(eM next most n v s).1.length<=s.1.length+1:=by
   unfold eM
   split
   .omega
   .split
    .dsimp only;omega
    .dsimp only;rw[Qm];omega
  show (fx next most (n+1) vs (eM next most n v s)).1.length<=_;rw[CV];omega
theorem KF{s:HS α}{first:Int}{items:List α}:(s.offer first items).2.1.length<=s.rows.length+items.length:=by grind [HS.offer,KC,KD]
end
abbrev ge(Q:aF)(e:Ev):Prop:=DJ Q e.la (flat cJ e.labs)
def C2(Q:aF)(hb:Nat)(s:HS Pv):aF:=F7 λp:Nat×cF Ev=>star [CL hb p.1 s.next s.most,iJ p.1 p.2,DA (fq Ev.p p.2=s.rows/\∀x∈p.2,ge Q x.2)]
theorem lR:aA H (C2 Q c C::F)↔∃mb rows,(fq Ev.p rows=C.rows/\∀x∈rows,ge Q x.2)/\aA H (CL c mb C.next C.most::iJ mb rows::F):=by
 constructor;.intro h;let⟨⟨mb,rows⟩,h⟩:=cw.1 h;have h:=aA.open (A:=[_,_,_]) h;have a:=aA.B3 (h.o [2,0,1] 3);exact⟨mb,rows,a.1,a.2⟩
 intro⟨mb,rows,a,h⟩;refine cw.2 ⟨(mb,rows),aA.shut [_,_,_] ((h.DA a).o [1,2,0] 3)⟩
theorem Bx{Q':aF}(hs:aH Q Q')(h:aA H (C2 Q c C::F)):aA H (C2 Q' c C::F):=by let⟨mb,rows,a,h⟩:=lR.1 h;exact lR.2 ⟨mb,rows,⟨a.1,λx b=>(a.2 x b).sub hs⟩,h⟩
theorem By(h:aA H F) (k1:v<0\/1099511627776<v\/x<1\/256<x->K (.tuple #[.pointer none,aB 11]) H) (k2:∀hb a,0<=v/\v<=1099511627776/\1<=x/\x<=256->aA a (C2 Q hb ⟨v,x,[]⟩::F)->K (.tuple #[PA hb 0,aB 0]) a) : CF 315 #[aB v,aB x] H K:=S6 h k1 λhb mb a c h=>k2 hb a c (lR.2 ⟨mb,[],⟨rfl,λmost b=>cS b eh⟩,h⟩)
theorem vx(h:aA H (C2 Q c C::F)):bX Tryz.prog 144 #[PA c 0] H (aB C.next):=by let⟨mb,rows,a,h⟩:=lR.1 h;exact S7 h 0 rfl
theorem KH{s:HS Pv}{first:Int}{items:List Ev}(h:aA H (C2 Q c s::F))(ok:s.Ok)(v:s.next<=1125899906842624) (C:∀H,aA H F->aQ H a (flat bH items)) (n:∀e∈items,ge Q e) (i:items.length<=1000000) (k:∀u hb (ready:List Ev) d,ready.map Ev.p=(s.offer first (items.map Ev.p)).2.1->(∀e∈ready,ge Q e)->aA d (ay 69 4 u ready.length hb (flat bH ready)::C2 Q c (s.offer first (items.map Ev.p)).1::F)->K (.tuple #[.slice u ready.length hb,aB (s.offer first (items.map Ev.p)).2.2]) d) : CF 364 #[PA c 0,aB first,.slice a items.length j] H K:=by
 let⟨mb,rows,m,h⟩:=lR.1 h;have t:s=XZ Ev.p ⟨s.next,s.most,rows⟩:=by unfold XZ;rw[m.1]
 have f:=TZ Ev.p ⟨s.next,s.most,rows⟩ first items;rw[<-t]at f;rw[f]at k;have y:(⟨s.next,s.most,rows⟩:HS Ev).Ok:=aeY.1 (t▸ok);have hm:=vw (s:=⟨s.next,s.most,rows⟩) (first:=first) (items:=items);have b:((⟨s.next,s.most,rows⟩:HS Ev).offer first items).1.most=s.most:=by grind [HS.offer]
 refine S8 (s:=⟨s.next,s.most,rows⟩) h y v C i λu hb d h=>k u hb _ d rfl (λe A=>?_) ?_
 .rcases hm.1 e A with h|⟨p,h,rfl⟩;.exact n e h
  exact m.2 p h
 have h:=h.o [1,2,0] 3;have w:aA d (C2 Q c (XZ Ev.p ((⟨s.next,s.most,rows⟩:HS Ev).offer first items).1)::_):=lR.2 ⟨mb,_,⟨rfl,λx B=>by
  rcases hm.2 x B with h|h;.exact n _ h
  exact m.2 x h⟩,by show aA d (CL c mb _ ((⟨s.next,s.most,rows⟩:HS Ev).offer first items).1.most::_);rw[b];exact h⟩;exact w.o [1,0] 2
theorem Bz(h:aA H (C2 Q c C::F))(i:gY C.rows)(j:∀p∈C.rows,aG p.1)(n:C.rows.length<=1000000) (k:∀a hb d,aA d (ay 2 1 a C.rows.length hb ((aJ C.rows).map aB)::C2 Q c C::F)->K (.slice a C.rows.length hb) d) : CF 141 #[PA c 0] H K:=by
 let⟨mb,rows,m,h⟩:=lR.1 h;rw[<-m.1]at i j n;have b:C.rows.length=rows.length:=by grind [K5]
 have e:aJ C.rows=aJ rows:=by grind [TX]
 refine J7 h (yg.1 i) (λp f=>j (p.1,p.2.p) (Ax.2 ⟨p,f,rfl⟩)) (by grind) λa hb d h=>?_;rw[<-b];refine k a hb d ?_;rw[b,e];have h:=h.o [1,2,0] 3;have h:=lR.2 ⟨mb,rows,m,h⟩;exact h.o [1,0] 2
theorem Ub(h:aA H (C2 Q c C::F))(j:gY C.rows)(m:∀p∈C.rows,aG p.1)(v:C.rows.length<=1000000) (k:∀a hb (evs:List Ev) d,evs.map Ev.p=C.rows.map (·.2)->(∀e∈evs,ge Q e)->aA d (ay 69 4 a evs.length hb (flat bH evs)::C2 Q c C.drain::F)->K (.slice a evs.length hb) d) : CF 143 #[PA c 0] H K:=by let⟨mb,rows,i,h⟩:=lR.1 h;rw[<-i.1]at j m v;refine S9 h (yg.1 j) (λp f=>m (p.1,p.2.p) (Ax.2 ⟨p,f,rfl⟩)) (by grind [K5]) λa hb d h=>?_;have h:=h.o [1,2,0] 3;have t:aA d (C2 Q c C.drain::_):=lR.2 ⟨mb,[],⟨rfl,λx y=>cS y eh⟩,h⟩;have b:(rows.map (·.2)).length=rows.length:=FI ..;have n:=k a hb (rows.map (·.2)) d (by rw[<-i.1];unfold fq;simp_all) (λe w=>by obtain⟨p,u,rfl⟩:=Ax.1 w;exact i.2 p u) (by rw[b];exact t.o [1,0] 2);rw[b]at n;exact n
theorem KJ(h:aA H (C2 Q j C::F)) (k:∀a b,aA b (C2 Q a C::C2 Q j C::F)->K (PA a 0) b):CF 142 #[PA j 0] H K:=by let⟨mb,rows,d,h⟩:=lR.1 h;refine SB h λa c b h=>k a b ?_;have h:=h.o [2,3,0,1] 4;have h:=lR.2 ⟨mb,rows,d,h⟩;have h:=h.o [1,2,0] 3;exact lR.2 ⟨c,rows,d,h⟩
end Go.Proofs.YtlmphkpeajnhjaaGreatDoor
