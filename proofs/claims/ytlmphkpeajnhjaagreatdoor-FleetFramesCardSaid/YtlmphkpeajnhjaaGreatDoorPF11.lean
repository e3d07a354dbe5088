/-
  Lemmas for FleetFrames: part 11 of what it rests on. Conditions: none.
-/
import Derived.Test.YtlmphkpeajnhjaaGreatDoorPF10
set_option linter.unusedVariables false
set_option linter.unusedSimpArgs false
set_option maxRecDepth 100000
set_option maxHeartbeats 16000000
open Go.IntKind (i64 u64 i8 u8 i32 u32 i16 u16)
namespace Go.Proofs.YtlmphkpeajnhjaaGreatDoor
open Go
variable {H:aC}{K:KE}{F:List aF}{Q:aF}{t:Nat}{A:List Ey}
theorem aA.mkn{e:Nat}{sz:Nat}{P:Program}{bytes:Nat}(T:Fk P t e sz bytes){m kc:IntKind}{c:Nat}(h:aA H F)(hb:bytes*c<=281474976710656)(x:c<=1099511627776) (k:∀a cs u,cs.length=c*sz->aA u (ay e sz a c c cs::F)->K (.slice a c c) u):cv P (Instr.makeSlice t (.int m (c:Int)) (.int kc (c:Int))) H K:=by
 obtain⟨v,y,i,z,hi,C,rfl,rfl,B⟩:=T;refine .mk λw b=>?_;subst b;have d:(i.bytes:Int)*(c:Int)<=281474976710656:=by grind
 have s:=run_make (P:=P) w t e i z v hi C m kc c c ez (F6 _) d ez;simp only[Fp]at s;have n:(madeCells z.cells (c*i.size)).toList.length=c*i.size:=by grind [size_madeCells]
 refine⟨_,_,s,⟨rfl,rfl,rfl⟩,k _ (madeCells z.cells (c*i.size)).toList _ n ?_⟩;have f:aA _ _:=h.push (.cells (madeCells z.cells (c*i.size)) e (0,0));exact aA.mono f λp f=>⟨n,.inr ⟨_,[],[],e,(0,0),rfl,w_ _,eh,λ_ j _ _ A=>by simp at A,eu f⟩⟩
def ofF(f:aY)(k:GY):Vd×Pt:=if (aK k f.Ax).isSome then agf f k else (⟨0,0⟩,(0,0))
section
variable {F L:List aF}{H:aC}{K:KE}{Q Q':aF}{f f0:aY}{fb i j cb:Nat}{ab:Nat->Nat}{g:Ag}
inductive iy:aY->Nat->List Et->List Int->aY->Prop
 | nil (f:aY) (i:Nat):iy f i [] [] f
 | cons {f f':aY} {i:Nat} {e:Et} {es:List Et} {rs:List Int} {cr:aY×Int} (hc:e.kind=11->CrW f i e.eY cr) (h:iy (HF f e cr).1 (i+4) es rs f'):iy f i (e::es) ((HF f e cr).2::rs) f'
theorem iy.len:∀{f f':aY} {i:Nat} {es:List Et} {rs:List Int},iy f i es rs f'->rs.length=es.length
 | _,_,_,_,_,.nil _ _=>rfl
 | _,_,_,_,_,.cons _ h=>by rw[CU,CU,h.len]
theorem iy.app:∀{f f' f'':aY} {i:Nat} {es a:List Et} {rs b:List Int},iy f i es rs f'->iy f' (i+4*es.length) a b f''->iy f i (es++a) (rs++b) f''
 | _,_,_,_,_,_,_,_,.nil _ _,h=>h
 | _,_,_,i,_,a,_,_,.cons (es:=es) hc h,h2=>.cons hc (h.app (by rw[show i+4+4*es.length=i+4*(es.length+1) by omega];exact h2))
def aac(f:aY):List Et->aY×List Int
 | []=>(f,[])
 | e::es=>((aac (HF f e (f,0)).1 es).1,(HF f e (f,0)).2::(aac (HF f e (f,0)).1 es).2)
theorem Ew:∀{es:List Et} {f:aY} {i:Nat},(∀e∈es,e.kind≠11)->iy f i es (aac f es).2 (aac f es).1
 | [],f,i,_=>.nil f i
 | e::es,f,i,h=>.cons (λb=>cS b (h e (DQ ..))) (Ew λx a=>h x (DE _ a))
theorem Pm{a:KQ}{c:Nat}{xs:List Ey}{rs:List Int}{f':aY}(J:EyK Q a xs)(O:∀y∈xs,y.e.bs.length<=500/\y.e.labs.length<=100)(Y:i+4*xs.length<=2900)(I:Fi f i f0)(s:iy f i (xs.map Ey.e) rs f')(h:aA H (Q::f_ Q fb ab f::F)) (k:∀Q' G C x,aH Q Q'->Fi f' (i+4*xs.length) f0->aA x (Q'::ay 58 1 G rs.length C (rs.map aD)::f_ Q' fb ab f'::F)->K (.slice G rs.length C) x):CF 33 #[PA fb 0,.slice a xs.length c] H K:=by
 have A:Fk Tryz.prog 106 58 1 8:=fU kf;refine cN 33 0x1121561239925144c [[(5,sS),(10,sI)]] ?_;have w:rs.length=xs.length:=by rw[s.len,FX]
 refine⟨λla D lc t x=>∃(j:Nat) (Q':aF) (g:aY),t=j/\j<=xs.length/\j=D/\aH Q Q'/\Fi g (i+4*j) f0/\iy g (i+4*j) ((xs.drop j).map Ey.e) (rs.drop j) f'/\aA x (ay 58 1 la j lc ((rs.take j).map aD)::Q'::f_ Q' fb ab g::F),λ_ _ _ t _=>xs.length-t.toNat,⟨0,Q,f,rfl,ED _,rfl,aH.refl Q,I,s,h.cp 58 1⟩,?_⟩;clear h s;rintro la D lc t H1 ⟨j,S,g,rfl,Z,rfl,hs,I,s,h⟩;refine⟨λL=>?_,λL=>?_⟩
 .have d:j<xs.length:=by grind
  have u:j<rs.length:=ez;have R:i64.wrap ((j:Int)+1)=((j+1:Nat):Int):=by grind [aN]
  have DF:=(J.row.sub hs).at h 1 rfl;have B:=(J.ins _ (q_ d)).sub hs;rw[RC d,RC u,Hw]at s;obtain⟨v,E,N,s⟩:∃v,(xs[j].e.kind=11->CrW g (i+4*j) xs[j].e.eY v)/\rs[j]=(HF g xs[j].e v).2/\iy (HF g xs[j].e v).1 (i+4*(j+1)) ((xs.drop (j+1)).map Ey.e) (rs.drop (j+1)) f':=by generalize rs[j]=r at s ⊢;cases s with
    | cons E h=>grind
  refine⟨⟨ez,ez⟩,_,_,DF.some pg ee d,_,_,_,_,_,_,_,_,_,_,_,_,_,_,_,DF.E4 pg d,h.al λb _ h=>h.st 0 rfl rfl λV h=>⟨_,_,_,_,_,_,_,_,_,_,_,_,_,_,_,h.q 0,aj2 I ez B (O _ (q_ d)) E (h.o [2,3,0,1] 4) λM W s2 P h=>⟨_,rfl,h.al λb2 _ h=>h.append (m:=1) (ws:=[aD (HF g xs[j].e v).2]) A 4 rfl (h.eG 0 rfl) rfl rfl ez ez λa5 c5 U h=>⟨_,_,_,rfl,⟨j+1,M,(HF g xs[j].e v).1,R,d,rfl,hs.trans s2,by rw[show i+4*(j+1)=i+4*j+4 by omega];exact P,s,?_⟩,by grind⟩⟩⟩⟩;rw[q1c u,FW,N];exact h.o [4,1,2] 5
 obtain rfl:j=xs.length:=by grind
 obtain⟨n,T⟩:∃n,iy g n [] [] f':=⟨i+4*xs.length,by rw[TS,List.drop_eq_nil_of_le ez]at s;exact s⟩;cases T;rw[<-w,FG]at h;have:=k S la lc _ hs I (h.o [1,0,2] 3);rw[w]at this;exact this
theorem adT{k0:GY}(h:aA H (f_ Q fb ab f::F))(k:∀a,aA a (f_ Q fb ab f::F)->K (.tuple #[agx (ofF f k0),.bool (aK k0 f.Ax).isSome]) a):CF 34 #[PA fb 0,mc k0] H K:=by
 let⟨x,ys,fs,j,h⟩:=cB.1 h;refine cN 34 75996 [[(6,sA),(7,sB)]] (h.al λb _ h=>h.al λb1 _ h=>?_);intro t m;have fin:∀c a,aA a (ax c (Y_ ((aK k0 f.Ax).getD ⟨0,0⟩)) 52::ax b1 (agt (⟨0,0⟩,(0,0))) 56::ax b (mi k0) 50::CY x.lb f.Ax::ax fb (dW f x ab ys.length fs.length) 133::mapA mc m_ x.sm f.na::DT x.sa x.sc ys::ay 71 9 x.fa fs.length x.fc (flat fM fs)::DP x.rm f.rds::oi Q ab f.ags 64 64::l_ Q x.wb f.w::kx Q x.gb x.db f.g::F)->t c 0 (aK k0 f.Ax).isSome a:=by
  intro c a h;refine m _ _ _ _ ⟨λd=>h.st 1 rfl rfl λs h=>⟨_,_,_,_,h.q 1,?_⟩,λe=>⟨_,_,h.q 0,_,h.r 4,_,_,_,h.q 2,_,_,h.B_ mtS mR 5 rfl (x:=k0),h.st 1 rfl rfl λs h=>⟨_,_,_,_,h.q 1,?_⟩⟩⟩
  .have d:(aK k0 f.Ax).isSome=false:=by grind
   unfold ofF at k;rw[d]at k;exact k _ (cB.2 ⟨x,ys,fs,j,h.o [4,3,5,6,7,8,9,10,11] 12⟩)
  have e:(aK k0 f.Ax).isSome=true:=by grind
  unfold ofF at k;rw[e]at k;exact k _ (cB.2 ⟨x,ys,fs,j,h.o [4,3,5,6,7,8,9,10,11] 12⟩)
 refine⟨some ⟨x.lb,0,none⟩,h.r 2,_,_,_,h.q 1,?_,?_⟩;.refine zg (i:=k0) (h.o [3,0,1,2,4,5,6,7,8,9,10] 11) λu h=>⟨_,_,_,rfl,h.al λb2 _ h=>h.st 0 rfl rfl λn h=>fin _ _ (h.o [0,2,3,1,4,5,6,7,8,9,10,11] 12)⟩
 refine h.al λb3 _ h=>⟨h.q 2,h.r 3,zg (i:=k0) (h.o [4,0,1,2,3,5,6,7,8,9,10,11] 12) λu h=>⟨_,_,_,rfl,h.st 1 rfl rfl λn h=>fin _ _ (h.o [1,2,3,0,4,5,6,7,8,9,10,11] 12)⟩⟩
theorem ajW{lo hi x:Int}(h:aA H F)(k:∀a,aA a F->K (.bool (decide (lo<=x)&&decide (x<=hi))) a):CF 36 #[.agg #[aD lo,aD hi],aD x] H K:=cM 36 28 (h.al λb _ h=>⟨_,h.r 0,_,λ_=>h.r 0,k _ h.tl⟩)
theorem ZU(O:g.kept.length<=1024)(S:g.po.length<=8)(B:∀e∈g.kept,dB e.name e.labs=true)(h:aA H (Q::FJ Q cb g::F))(k:∀Q' b x f,aH Q Q'->aA f (Q'::ax b (eZ g x) 208::FJ Q' cb g::F)->K (PA b 0) f):CF 96 #[PA cb 0] H K:=by
 let⟨x,evs,e1,e2,h⟩:=dr.1 (bY h);have L:g.kept.length=evs.length:=by grind
 refine cM 96 69916 ⟨_,_,_,_,_,_,_,_,_,_,_,_,_,h.q 0,h.al λb _ h=>h.st 0 rfl rfl λj h=>?_⟩;have kept:∀(J:KE) (j:aC),aA j (Q::ax b (eZ g x) 208::ax cb (eZ g x) 208::ay 69 4 x.ka g.kept.length x.kc (flat bH evs)::ay 356 3 x.pa g.po.length x.pc (flat l8 g.po)::F)->(∀Q' a c f,aH Q Q'->aA f (Q'::ax b (eZ g x) 208::ax cb (eZ g x) 208::ay 69 4 x.ka g.kept.length x.kc (flat bH evs)::ay 356 3 x.pa g.po.length x.pc (flat l8 g.po)::F)->J (.slice a g.kept.length c) f)->CF 173 #[PA cb 0] j J:=by
  intro J j h kk;refine cN 173 0x1121561239925144c [[(19,sI)]] ⟨_,_,_,h.r 2,h.mkn QE ez ez λa cs E i h=>⟨_,_,_,rfl,_,_,_,h.r 3,⟨λt f=>∃(n:Nat) (Q':aF) (cs:Xa),t=n/\n<=g.kept.length/\cs.length=g.kept.length*4/\aH Q Q'/\aA f (ay 69 4 a g.kept.length g.kept.length cs::Q'::ax b (eZ g x) 208::ax cb (eZ g x) 208::ay 69 4 x.ka g.kept.length x.kc (flat bH evs)::ay 356 3 x.pa g.po.length x.pc (flat l8 g.po)::F),λt _=>g.kept.length-t.toNat,⟨0,Q,cs,rfl,ED _,i,aH.refl Q,h⟩,?_⟩⟩⟩;clear h;rintro t G ⟨n,u,cs,rfl,P,i,hs,h⟩;refine⟨λs=>?_,λs=>?_⟩
  .have d:n<evs.length:=by grind
   have N:i64.wrap ((n:Int)+1)=((n+1:Nat):Int):=by grind [aN]
   have w:=h.a_ 4 rfl;have m:evs[n].p∈g.kept:=by grind
   have y:evs[n].labs.length<=8:=(lQ (B _ m)).len;refine⟨⟨ez,ez⟩,_,_,w.some dU ee d,_,_,_,_,_,_,w.E4 dU d,h.al λb1 _ h=>h.st 0 rfl rfl λA h=>⟨_,_,_,_,_,_,h.q 0,Mv (e:=evs[n]) (h.o [2,0,1,3,4,5,6] 7) (λH h=>((e2 _ (q_ d)).sub hs).at h 0 rfl) ez λC v M s2 I _ h=>⟨_,_,_,_,_,_,rfl,⟨ez,ez⟩,aV a,aS a,?_,?_⟩⟩⟩;.exact (h.Fz 2 rfl (n*4) (bH v) (by grind) eh).1
   let⟨g1,g2,g3⟩:=h.Fz 2 rfl (n*4) (bH v) (by grind) eh;refine⟨g2,?_⟩;intro R rfl;refine⟨⟨n+1,C,cu cs (n*4) (bH v),N,ez,by grind [oF],hs.trans s2,?_⟩,by grind⟩;exact aA.ai7 g3 [2,0,3,4,5,6] 7 ee ee
  have s:=ix s;exact kk u a _ _ hs (h.o [1,2,3,4,5] 6)
 refine kept _ _ (h.o [4,0,1,2,3] 5) λu a c E s1 h=>⟨_,_,_,rfl,h.st 1 rfl rfl λG h=>⟨_,_,_,h.r 2,Cz aiI ee ee D4 (λ_=>rfl) (λh=>cM 174 476 h) h (λH h=>h.a_ 4 rfl) ez λa2 c2 A h=>⟨_,_,_,rfl,h.st 2 rfl rfl λM h=>k u b { ka:=a,kc:=c,pa:=a2,pc:=c2 } _ s1 ?_⟩⟩⟩;have h:=dr.2 ⟨x,evs,e1,λe D=>(e2 e D).sub s1,h.o [3,4,5,1,2] 6⟩;exact h.o [1,2,0] 3
end
section
variable {F L:List aF}{H:aC}{K:KE}{Q Q':aF}{f f0:aY}{fb i mb:Nat}{ab:Nat->Nat}{m:List (Pt×Sl)}
theorem ZW{k:Pt}(a:(aJ m).Nodup)(h:aA H (slR ((aK k m).getD Sl.z)::z_ (bF k m)::F)):aA H (z_ m::F):=by
 cases hk:aK k m with
 | none=>rw[hk,Eh hk]at h;exact h.tl
 | some s=>rw[hk]at h;rw[Ei a hk];exact iu.2 h
theorem ZY{a b:Int}(hb:∀p∈f.rds,p.2.length<=1000000)(h:aA H (f_ Q fb ab f::F)) (k:∀t c u,aA u (ay 211 2 t ((aK (a,b) f.rds).getD []).length c (flat ot ((aK (a,b) f.rds).getD []))::f_ Q fb ab f::F)->K (.slice t ((aK (a,b) f.rds).getD []).length c) u):CF 39 #[PA fb 0,aD a,aD b] H K:=by
 let⟨x,ys,fs,v,h⟩:=cB.1 h;let⟨m,j,h⟩:=sC.1 (h.o [5,0,1,2,3,4,6,7,8] 9);have n:(aJ m).Nodup:=Au (F:=star _) h;have i:=Eg (a,b) m;rw[j]at i;have hs:((aK (a,b) m).getD Sl.z).VC=(aK (a,b) f.rds).getD []:=by rw[i];cases aK (a,b) m <;> rfl
 refine cM 39 28 ⟨_,h.r 2,_,_,_,h.B_ mtR ajb 0 rfl (x:=(a,b)),?_⟩;have h:=OO (k:=(a,b)) n (bY h);have d:((aK (a,b) f.rds).getD []).length<=1000000:=by cases hm:aK (a,b) f.rds with
   | none=>simp
   | some l=>exact hb _ (eD hm)
 obtain⟨s,e⟩:∃s,s=(aK (a,b) m).getD Sl.z:=⟨_,rfl⟩;rw[<-e]at h hs ⊢;rw[<-hs]at k d;refine Cz aiF ee ee (λ_=>rfl) (λ_=>rfl) (λh=>cM 97 476 h) h (λH h=>h.a_ 0 rfl) d λt c w h=>⟨_,_,_,rfl,k t c _ ?_⟩;rw[e]at h;have h:=ZW n (h.o [1,2,3,0,4,5,6,7,8,9,10,11] 12);have h:=sC.2 ⟨m,j,bY h⟩;rw[<-e]at h;exact bY (cB.2 ⟨x,ys,fs,v,h.o [2,3,4,5,6,0,7,8,9,1] 10⟩)
theorem ZZ{l c0:Nat}(A:List Pt->aF)(h:aA H (A []::ax c0 [.map (some mb)] 125::mapA m_ Fj mb m::F)) (v:∀dn key (G:List aF) (n:aC) (t:KE),dn.length<m.length->aA n (A dn::G)->(∀j,aA j (A (dn++[key])::G)->t (.bool true) j)->fu Tryz.prog l [m_ key] n t) (k:∀dn b,dn.Perm (aJ m)->aA b (A dn::ax c0 [.map (some mb)] 125::mapA m_ Fj mb m::F)->K (.tuple #[]) b) : CF 175 #[.func (.yield l) #[] #[],PA c0 0] H K:=by
 refine cN 175 6017780034900889 [[]] ⟨_,h.r 1,?_⟩;conv=>whnf
 refine h.FU mtR 2 rfl λf n h=>⟨f,rfl,⟨λb=>∃dn:List (Pt×Sl),aA b (A (aJ dn)::ax c0 [.map (some mb)] 125::jt m_ Fj f mb m dn::F),λb=>m.length-pu b f,⟨[],h⟩,?_⟩⟩;intro j ⟨dn,h⟩;have s:=h.k_ 2 rfl;refine h.E_ 2 rfl (λy=>.inl ⟨rfl,(λd=>by cases d),λ_=>?_⟩) λp x w C h=>.inr ⟨_,_,rfl,(λ_=>?_),λd=>by cases d⟩;.exact k (aJ dn) _ (y.map Prod.fst) (h.FV 2 rfl)
 have a:=h.k_ 2 rfl;have c:=aA.DO (P:=Tryz.prog) h 2 rfl;refine⟨_,_,_,c,h.al λb1 _ h=>h.st 0 rfl rfl λB h=>⟨_,_,h.q 0,?_⟩⟩;rw[p_]at a;have i:(aJ dn).length<m.length:=by grind
 refine v (aJ dn) p.1 _ _ _ i (h.o [1,0,2,3] 4) λu h=>⟨true,rfl,(λd=>by cases d),λ_=>?_⟩;have h:aA u (A (aJ dn++[p.1])::ax c0 [.map (some mb)] 125::jt m_ Fj f mb m (dn++[p])::F):=h.o [0,2,3] 4;refine⟨⟨dn++[p],?_⟩,?_⟩
 .have e:aJ (dn++[p])=aJ dn++[p.1]:=by grind
  rw[e];exact h
 have:=h.k_ 2 rfl;grind
def fS(a:Int)(dn:List Pt):List Int:=(dn.filter λp=>decide (p.1=a)).map Prod.snd
theorem q00{a:Int}(W:f.rds.length<=1000000)(h:aA H (f_ Q fb ab f::F))(k:∀I c d,aA d (f_ Q fb ab f::F)->K (.slice I (fS a (aJ f.rds)).length c) d):CF 40 #[PA fb 0,aD a] H K:=by
 let⟨x,ys,fs,P,h⟩:=cB.1 h;let⟨m,i,h⟩:=sC.1 (h.o [5,0,1,2,3,4,6,7,8] 9);have t:aJ f.rds=aJ m:=by rw[<-i];simp
 have D:m.length=f.rds.length:=by grind
 have y_:Fk Tryz.prog 88 2 1 8:=fU kf;refine cL 40 (.r (.r (.seq (.r (.E8 (.FT [.agg [.int .i64,.int .i64]] [none] .CL (.E8 (.r (.Hp [] .CL .no)))))) (.r (.r .no))))) (h.al λb _ h=>h.al λb1 _ h=>⟨_,h.r 4,cM 98 28 (h.al λkc _ h=>⟨_,_,rfl,rfl,λR v u y=>?_⟩)⟩);rename_i H0;have h:=(h.FT R).cp 2 1;refine ZZ (m:=m) (mb:=x.rm) (λdn=>F2 λp:KQ×Nat=>star [ax b1 [.slice p.1 (fS a dn).length p.2] 88,ax b [aD a] 2,ay 2 1 p.1 (fS a dn).length p.2 ((fS a dn).map aD),pt (H0.size+1) (.loop R)]) (F:=pt H0.size (.deferred (some []))::z_ m::ax fb (dW f x ab ys.length fs.length) 133::CY x.lb f.Ax::mapA mc m_ x.sm f.na::DT x.sa x.sc ys::ay 71 9 x.fa fs.length x.fc (flat fM fs)::oi Q ab f.ags 64 64::l_ Q x.wb f.w::kx Q x.gb x.db f.g::F) ?_ ?_ ?_;.exact cw.2 ⟨(none,0),aA.shut [_,_,_,_] (h.o [4,5,0,1,3,6,2,7,8,9,10,11,12,13,14,15] 16)⟩
 .intro dn key G S Z N h C;let⟨⟨a1,c1⟩,h⟩:=cw.1 h;have h:=aA.open (A:=[_,_,_,_]) h;refine y _ _ _ ⟨_,_,rfl,h.hN 3 rfl,h.al λb2 _ h=>h.st 0 rfl rfl λV h=>⟨h.hN 4 rfl,h.FF 4 rfl λT h=>⟨_,h.r 0,_,h.r 2,?_⟩⟩⟩;intro E J;have fin:∀d a2 c2 bs,bs=fS a (dn++[key])->aA d (ax b1 [.slice a2 bs.length c2] 88::ax b [aD a] 2::ay 2 1 a2 bs.length c2 (bs.map aD)::pt (H0.size+1) (.loop { R with state:=.busy })::G)->E d:=by intro d a2 c2 bs e h;subst e;refine J _ ⟨h.hN 3 rfl,C _ (cw.2 ⟨(a2,c2),aA.shut [_,_,_,_] (h.qc 3 rfl (.loop R))⟩)⟩
  have s:(fS a dn).length<=dn.length:=by grind [fS]
  refine⟨λj=>?_,λj=>?_⟩
  .have j:=ke j;refine⟨_,_,_,h.r 1,_,h.r 0,h.al λb3 _ h=>h.append (m:=1) (ws:=[aD key.2]) y_ 4 rfl (h.eG 0 rfl) rfl rfl ez ez λa2 c2 Y h=>⟨_,_,_,rfl,h.st 2 rfl rfl λO h=>?_⟩⟩;have e1:fS a (dn++[key])=fS a dn++[key.2]:=by grind [fS]
   have e2:(fS a dn).length+1=(fS a (dn++[key])).length:=by grind
   have h:aA O (ax b3 [aD key.2] 2::ax b2 [aD key.1,aD key.2] 213::ax b1 [.slice a2 ((fS a dn).length+1) c2] 88::ax b [aD a] 2::ay 2 1 a2 ((fS a dn).length+1) c2 ((fS a dn).map aD++[aD key.2])::_):=h;have e3:(fS a dn).map aD++[aD key.2]=(fS a (dn++[key])).map aD:=by grind
   rw[e2,e3]at h;exact fin _ a2 c2 _ rfl (h.o [2,3,4,5] 6)
  have j:=ix j;refine fin _ a1 c1 (fS a dn) ?_ (h.o [1,2,3,4] 5);grind [fS]
 intro dn S B h;let⟨⟨a1,c1⟩,h⟩:=cw.1 h;have h:=aA.open (A:=[_,_,_,_]) h;have n:(fS a dn).length=(fS a (aJ f.rds)).length:=by rw[t];exact ((B.filter _).map _).length_eq
 have M:dn.length=m.length:=by rw[B.length_eq];grind
 have s:(fS a dn).length<=dn.length:=by grind [fS]
 refine⟨.ready,none,ee,by rw[lp v u];exact h.hN 3 rfl,h.FF 3 rfl λU h=>⟨rfl,_,_,_,h.r 0,Se (xs:=fS a dn) h 2 rfl ez λL h=>⟨rfl,_,_,_,h.r 0,h.hN 6 rfl,?_⟩⟩⟩;have h:=h.qc 6 rfl (.deferred none);rw[n];have h:=sC.2 ⟨m,i,h.o [5,7,8,9,10,11,12,13,14,15] 16⟩;exact k a1 c1 _ (cB.2 ⟨x,ys,fs,P,h.o [1,2,3,4,5,0,6,7,8] 9⟩)
end
namespace Fa
def c0:SH:=⟨⟨Al.c0,20,8,256,5⟩,20,60⟩
def ev(k:Int):Et:={ kind:=k }
def es1:List Et:=[{ kind:=0,now:=5 },{ kind:=1,ag:=3,bt:=1 },{ kind:=3,ag:=3,rd:=105 },ev 4,ev 9,{ kind:=4,num:=1,rd:=105 },ev 8]
def es2:List Et:=[{ kind:=4,num:=2,rd:=105 },{ kind:=2,ag:=3,rd:=105,val:=7,nm:=⟨#[109]⟩ },{ kind:=3,ag:=3,rd:=105 },{ kind:=4,num:=3 },{ kind:=4,num:=4 },ev 9]
def F0:aY:=fC c0 (WD c0)
def P1:aY×List Int:=aac F0 es1
def P2:aY×List Int:=aac P1.1 es2
def abo:DR:=eU P2.1.g.rows P2.1.g.syn 0
def rs8:List Rp:=(dK (du abo)).2.map λr=>match aaf r.data with|.ok x=>x|.error _=>Rp.z
def F8:aY:=(crF P2.1 0 (cz Al.c0) rs8).1
def okL:aL->List Rp->Bool
 | _,[]=>true
 | s,r::rs=>decide ((bU s r).2.2=0)&&okL (bU s r).1 rs
theorem ag3{rs:List Rp}:∀{s:aL},okL s rs=true->∀j (a:j<rs.length),(bU (dv s (rs.take j)) rs[j]).2.2=0:=by induction rs with
  | nil=>grind
  | cons r rs ih=>intro s h j a;rw[okL,s_]at h;cases j with
   | zero=>exact ke h.1
   | succ j=>exact ih h.2 j (by grind)
theorem e1:dK (du abo)=(none,rs8.map rcO):=kf
theorem e2:okL (cz Al.c0) rs8=true:=kf
theorem e3:(rs8.all λr=>r.evs.all λe=>decide (aG e.value))=true:=kf
theorem e4:decide (rs8.length<=50)=true:=kf
theorem e5:SK c0=true:=kf
theorem e6:P1.2=[0,0,0,0,0,0,0]:=kf
theorem e7:P2.2.drop 3=[0,0,0]:=kf
def X7:Bool:=decide ((ofF F8 ⟨3,1,0⟩).1.re=0)&&(aK (⟨3,1,0⟩:GY) F8.Ax).isSome&&decide ((ofF F8 ⟨3,1,0⟩).2.1<=5)&&decide (5<=(ofF F8 ⟨3,1,0⟩).2.2)&&decide (F8.Ax.length=1)&&decide ((F8.ags 3).ep=1)&&decide (F8.g.s.boots=2) &&
 decide (F8.facts.map (λx=>(x.tr,x.e.value))=[(5,7)])&&decide (((aK ((3,1):Pt) F8.rds).getD []).length=5)&&decide ((fS 3 (aJ F8.rds)).length=1) && !F8.n_ 3 && !F8.B3 3&&decide (F8.now=5)&&decide (F8.sink.length=0)&&decide ((F8.g.rows.length:Int)-F8.g.syn=0)
theorem e8:X7=true:=kf
theorem e11:decide (F8.rds.length<=1000)=true:=kf
theorem GG:∀r∈rs8,∀e∈r.evs,aG e.value:=λr a e b=>ke (XM.1 (XM.1 e3 r a) e b)
theorem e10:P2.1.o=c0.o:=kf
theorem Hm:lh (ev 11)=true:=kf
theorem r12:lh (ev 12)=false:=kf
theorem d11(f:aY)(cr:aY×Int):HF f (ev 11) cr=cr:=by unfold HF;rw[Hm,b_ ee,b_ ee,b_ ee,b_ ee,b_ ee,b_ ee,b_ ee,b_ ee,b_ ee,b_ ee,b_ ee,b_ ee]
theorem d12(f:aY)(cr:aY×Int):HF f (ev 12) cr=(f,10):=by unfold HF;rw[r12,c_ rfl]
theorem akt:Led c0.o.cfg 55 (du abo) (cz Al.c0) [] rs8 0:=⟨Hs.new (DZ (wv e5).1),by have:=ke e4;omega,.inl ⟨e1,rfl,rfl⟩,GG,ag3 e2⟩
end Fa
theorem iy.fi{f0:aY}:∀{es:List Et} {rs:List Int} {f f':aY} {i:Nat},(∀e∈es,aG e.val/\aI e.bs/\e.bs.length<=1000000)->i+4*es.length<=2980->Fi f i f0->iy f i es rs f'->Fi f' (i+4*es.length) f0
 | [],_,_,_,_,_,_,I,.nil _ _=>I
 | e::es,_,_,_,i,he,hi,I,.cons (rs:=rs) (cr:=cr) hc h=>by let⟨b,c,d⟩:=he e (DQ ..);rw[CU]at hi ⊢;have:=iy.fi (λx a=>he x (DE _ a)) ez (I.re (acS (cr:=cr) ⟨I.ok,I.fr,Kp.refl _⟩ ez b c d λj=>(hc j).1)) h;rw[show i+4*(es.length+1)=i+4+4*es.length by omega];exact this
namespace Fa
theorem bare:∀e∈es1++(es2++[ev 11,ev 12]),e.labs=[]/\e.bs=[]/\aG e.val/\aG e.eY:=by intro e a;simp only[es1,es2,ev,q2m,Ha,DK,q2j,or_false]at a;rcases a with rfl|rfl|rfl|rfl|rfl|rfl|rfl|rfl|rfl|rfl|rfl|rfl|rfl|rfl|rfl <;> exact⟨rfl,rfl,ee,ee⟩
theorem wfE(es:List Et)(h:∀e∈es,e∈es1++(es2++[ev 11,ev 12])):∀e∈es,aG e.val/\aI e.bs/\e.bs.length<=1000000:=λe a=>by let⟨_,c,b,_⟩:=bare e (h e a);grind [jE]
theorem aiP:iy F0 2 es1 P1.2 P1.1:=Ew ee
theorem i0:Fi F0 2 F0:=Er e5 ee
theorem i1:Fi P1.1 30 F0:=aiP.fi (wfE _ λe a=>q2z _ a) ee i0
theorem agW:iy P1.1 30 es2 P2.2 P2.1:=Ew ee
theorem i2:Fi P2.1 54 F0:=agW.fi (wfE _ λe a=>q2l _ (q2z _ a)) ee i1
theorem akY:CrW P2.1 54 0 (crF P2.1 0 (cz Al.c0) rs8):=Pe i2.ok ee ee (by rw[e10];exact akt)
theorem akd:iy P1.1 30 (es2++[ev 11,ev 12]) (P2.2++[0,10]) F8:=by refine agW.app ?_;have h:=iy.cons (f:=P2.1) (i:=54) (e:=ev 11) (cr:=crF P2.1 0 (cz Al.c0) rs8) (λ_=>akY) (.cons (e:=ev 12) (cr:=(F8,0)) (λh=>cS h (show ¬(12:Int)=11 by decide)) (.nil _ _));rw[d11,d12]at h;exact h
end Fa
theorem afM(h:aA H F)(k:∀a,aA a F->K (.agg ⟨kY Fa.c0.o⟩) a):CF 94 #[] H K:=by refine cM 94 28 (h.al λb _ h=>Yf h λd h=>⟨_,_,_,_,_,_,_,_,_,rfl,h.st 0 rfl rfl λc h=>⟨_,_,_,_,_,_,_,_,_,_,_,_,_,h.q 0,k _ h.tl⟩⟩)
theorem afN(h:aA H F)(k:∀a,aA a F->K (.agg ⟨iU Fa.c0⟩) a):CF 32 #[] H K:=by refine cM 32 28 (h.al λb _ h=>afM h λd h=>⟨_,_,_,_,_,_,_,_,_,_,_,_,_,rfl,h.st 0 rfl rfl λc h=>⟨_,_,_,_,_,_,_,_,_,_,_,_,_,_,_,h.q 0,k _ h.tl⟩⟩)
theorem q01{f:aY}{j:Nat}{ab:Nat->Nat}(c:j<64)(ok:dJ (f.ags j))(h:aA H (Q::f_ Q t ab f::F))(k:∀Q' b x a,aH Q Q'->aA a (Q'::ax b (eZ (f.ags j) x) 208::f_ Q' t ab f::F)->K (PA b 0) a):CF 35 #[PA t 0,aD (j:Int)] H K:=by
 let⟨x,ys,fs,m,h⟩:=cB.1 (bY h);refine cM 35 476 ⟨_,wt,λd=>?_,λ_=>⟨⟨ez,ez⟩,some ⟨ab j,0,none⟩,(h.r 0).trans (zn c),?_⟩⟩
 .have:(decide ((0:Int)<=(j:Int))&&decide ((j:Int)<64))=true:=by simp;omega
  rw[this]at d;cases d
 have h:=un c (cB.2 ⟨x,ys,fs,m,h⟩);refine ZU (by have:=ok.kept;omega) ok.po (λe i=>(ok.evs e i).1) (h.o [2,0,1] 3) λQ' b y a hs h=>⟨_,rfl,k Q' b y _ hs ?_⟩;have h:=zm hs (h.o [3,2,0,1] 4);have h:=wq c (bY h);have e:gK f j (f.ags j)=f:=by
  unfold gK;have:CS f.ags j (f.ags j)=f.ags:=funext λq=>by
   by_cases e:q=j;.rw [e];exact c_ rfl
   exact b_ e
  rw[this]
 rw[e]at h;exact h.o [1,2,0] 3
theorem q02(h:aA H F)(k:K (.pointer none) H):CF 35 #[PA t 0,aD 64] H K:=cM 35 476 ⟨_,wt,λ_=>k,λa=>cS a ee⟩
theorem Pn{es:List Et}(hs:∀e∈es,e.labs=[]/\e.bs=[]/\aG e.val/\aG e.eY)(k:es.length<=maxLen):EyK (ax t (flat mX (es.map λe=>(⟨e,{}⟩:Ey))) 65*Q) (some ⟨t,0,none⟩) (es.map λe=>(⟨e,{}⟩:Ey)):=by
 refine⟨λH F h=>(iu.1 h).eG 0 rfl,λy f=>?_,by grind⟩
 obtain⟨e,j,rfl⟩:=zb.1 f;let⟨c,a,d,i⟩:=hs e j;refine⟨?_,?_,?_,d,i,?_,?_⟩
 .dsimp only;rw[c];exact λH F _=>fN H none
 .dsimp only;rw[a];exact λH F _=>fN H none
 .dsimp only;rw[a];exact jE
 .grind
 grind
theorem q03(h:aA H (Q::F))(k:∀Q' H',aH Q Q'->aA H' (Q'::F)->K (.bool true) H'):CF 6 #[] H K:=by
 have V:∀e∈Fa.es1,e.labs=[]/\e.bs=[]/\aG e.val/\aG e.eY:=λe he=>Fa.bare e (q2z _ he)
 have P:∀e∈Fa.es2++[Fa.ev 11,Fa.ev 12],e.labs=[]/\e.bs=[]/\aG e.val/\aG e.eY:=λe he=>Fa.bare e (q2l _ he)
 have n:∀{I:List Et},(∀e∈I,e.labs=[]/\e.bs=[]/\aG e.val/\aG e.eY)->∀y∈I.map λe=>(⟨e,{}⟩:Ey),y.e.bs.length<=500/\y.e.labs.length<=100:=by
  grind
 have T:∀I:List Et,(I.map λe=>(⟨e,{}⟩:Ey)).map Ey.e=I:=λI=>by rw[XL];exact List.map_id I
 refine cL 6 (.r (.r (.seq (.r (.cond (.r .no) .no)) (.r (.r (.seq (.r (.E8 (.loop [(0,sB),(5,sI)] (.seq (.r (.cond .no .no)) (.seq (.E8 (.r (.cond (.r .no) .no))) .CL))))) (.r (.r (.r (.r (.r (.r (.seq (.seq (.TQ [(97,sB)]) (.cond (.r .no) .no)) (.r (.seq (.r (.E8 (.FT [.agg [.int .i64,.int .i64,.int .i64],.agg [.int .i64,.int .i64,.int .i64,.int .i64]] [none] .no (.E8 .CL)))) (.seq (.TQ [(0,sB)]) .no)))))))))))))))) ?_;refine afN h λH1 h=>⟨_,_,_,_,_,_,_,_,_,_,_,_,_,_,_,rfl,?_⟩
 refine Ph (c:=Fa.c0) (λ_=>by decide) h (λhn=>cS Fa.e5 (by grind)) λ_ B fb ab H2 s1 h=>⟨_,_,rfl,λa=>cS a (by simp),λ_=>?_⟩
 have h:aA H2 (B::f_ B fb ab Fa.F0::F):=h;refine h.al λb _ h=>h.st 0 rfl rfl λH3 h=>⟨_,_,_,_,_,_,_,_,_,_,_,_,_,_,_,h.rds 0 rfl rfl,h.al λb1 H4 h=>?_⟩
 have h:aA H4 (ax b1 (flat mX (Fa.es1.map λe=>(⟨e,{}⟩:Ey))) 65::ax b (fB { kind:=0,now:=5 } {}) 65::B::f_ B fb ab Fa.F0::F):=h
 obtain⟨Q2,C⟩:∃Q2,Q2=ax b1 (flat mX (Fa.es1.map λe=>(⟨e,{}⟩:Ey))) 65*B:=⟨_,rfl⟩
 have s2:aH B Q2:=by rw[C];exact aH.add _ B
 have k2:EyK Q2 (some ⟨b1,0,none⟩) (Fa.es1.map λe=>(⟨e,{}⟩:Ey)):=by rw[C];exact Pn V (by decide)
 have h:=aab C (h.o [0,2,3] 4);have h:=bY (uo s2 (bY h));refine Pm (c:=7) k2 (n V) (by decide) Fa.i0 (by rw[T];exact Fa.aiP) h λs a1 c1 H5 s3 I1 h=>⟨_,_,_,rfl,?_⟩
 have hl1:Fa.P1.2.length=7:=by rw[Fa.e6];rfl
 have h7:∀q (O:q<Fa.P1.2.length),Fa.P1.2[q]=0:=by
  intro q O;have:Fa.P1.2[q]∈([0,0,0,0,0,0,0]:List Int):=by grind [Fa.e6]
  simp_all
 refine⟨λ_ t H'=>∃q:Nat,t=q/\q<=7/\aA H' (s::ay 58 1 a1 Fa.P1.2.length c1 (Fa.P1.2.map aD)::f_ s fb ab Fa.P1.1::F),λ_ t _=>7-t.toNat,⟨0,rfl,by omega,h⟩,?_⟩
 clear h
 rintro _ t H6 ⟨q,rfl,O,h⟩;refine⟨λa=>?_,λa=>?_⟩
 .have L:q<Fa.P1.2.length:=by grind
  have hw:i64.wrap ((q:Int)+1)=((q+1:Nat):Int):=by grind [aN]
  have D:=h.a_ 1 rfl;rw[show Fa.P1.2.map aD=flat (λv=>[aD v]) Fa.P1.2 from q3f]at D
  have l0:aM H6 (aV a1) (aS a1+q)=some (aD Fa.P1.2[q]):=by simpa using D.el (λ_=>rfl) L 0 (v:=aD Fa.P1.2[q]) rfl
  refine⟨⟨by omega,by omega⟩,_,_,D.some (λ_=>rfl) (by decide) L,_,l0,λhv=>?_,λ_=>⟨⟨q+1,hw,by omega,h⟩,by grind⟩⟩
  rw[h7 q L]at hv;exact cS hv (by decide)
 refine h.al λb3 H7 h=>?_
 have h:aA H7 (ax b3 (flat mX ((Fa.es2++[Fa.ev 11,Fa.ev 12]).map λe=>(⟨e,{}⟩:Ey))) 65::s::ay 58 1 a1 Fa.P1.2.length c1 (Fa.P1.2.map aD)::f_ s fb ab Fa.P1.1::F):=h
 obtain⟨Q4,J⟩:∃Q4,Q4=ax b3 (flat mX ((Fa.es2++[Fa.ev 11,Fa.ev 12]).map λe=>(⟨e,{}⟩:Ey))) 65*s:=⟨_,rfl⟩
 have s4:aH s Q4:=by rw[J];exact aH.add _ s
 have k4:EyK Q4 (some ⟨b3,0,none⟩) ((Fa.es2++[Fa.ev 11,Fa.ev 12]).map λe=>(⟨e,{}⟩:Ey)):=by rw[J];exact Pn P (by decide)
 have h:=aab J (h.o [0,1,3] 4);have h:=bY (uo s4 (bY h));refine Pm (c:=8) k4 (n P) (by decide) Fa.i1 (by rw[T];exact Fa.akd) h λQ5 a3 c3 H8 s5 I8 h=>⟨_,_,_,rfl,?_⟩
 have r9:Fa.P2.2.length=6:=Fa.agW.len;have Z:(Fa.P2.2++[0,10]).length=8:=by grind
 have M:=Fa.e8;unfold Fa.X7 at M;simp only[s_,v_,Xt]at M;obtain⟨⟨⟨⟨⟨⟨⟨⟨⟨⟨⟨⟨⟨⟨q1,q2⟩,q3⟩,q4⟩,q5⟩,q6⟩,q7⟩,q8⟩,q9⟩,j2⟩,q11⟩,y3⟩,h8⟩,l6⟩,W⟩:=M;have j3:=ke Fa.e11;obtain⟨G,hG⟩:∃G,Fa.F8=G:=⟨_,rfl⟩;rw[hG]at h I8 q1 q2 q3 q4 q5 q6 q7 q8 q9 j2 q11 y3 h8 l6 W j3;obtain⟨m,N⟩:∃m,Fa.P2.2++[0,10]=m:=⟨_,rfl⟩;have d:m[3]?=some 0/\m[4]?=some 0/\m[7]?=some 10:=by
  have hd:=Fa.e7;have h3:Fa.P2.2[3]?=some 0:=by have:=congrArg (λl:List Int=>l[0]?) hd;grind
  have h4:Fa.P2.2[4]?=some 0:=by have:=congrArg (λl:List Int=>l[1]?) hd;grind
  rw[<-N];refine⟨?_,?_,?_⟩
  .grind
  .grind
  .rw [List.getElem?_append_right (by omega),r9];rfl
 rw[N]at h Z ⊢
 clear N
 have i:=I8.ok;have U:G.facts.length<=1000000:=by
  have h1:=i.facts;have h2:((Fa.es2++[Fa.ev 11,Fa.ev 12]).map λe=>(⟨e,{}⟩:Ey)).length=8:=rfl
  grind
 have r0:∀p∈G.rds,p.2.length<=1000000:=i.rdk (by decide);obtain⟨sN,Ek,E,R0,LL,n0,kk,h5⟩:=i.gi;have Y:=h5.ok (by decide);refine adT (k0:=⟨3,1,0⟩) (h.o [2,0,1] 3) λH9 h=>⟨_,_,_,_,_,rfl,h.al λb4 _ h=>h.st 0 rfl rfl λH10 h=>?_⟩
 refine q01 (j:=3) (by decide) (i.agk (by decide)) (h.o [2,1,0,3] 4) λQ6 cb x H11 s6 h=>⟨some ⟨cb,0,none⟩,rfl,?_⟩
 refine Z7 Y (h.o [2,0,1,3,4] 5) λsb H12 h=>⟨some ⟨sb,0,none⟩,rfl,?_⟩
 refine Pl i.w (h.o [2,1,0,3,4,5] 6) λQ7 wb m' H13 s7 _ h=>⟨some ⟨wb,0,none⟩,rfl,?_⟩
 refine ZL I8.fr.fl U (h.o [0,2,3,4,5,6] 7) λQ8 gs ga gc H14 s8 hgm hgk h=>⟨_,_,_,rfl,?_⟩
 have y2:gs.length=1:=by have:=congrArg List.length q8;grind
 have hg0:(gs[0]'(by omega)).tr=5/\(gs[0]'(by omega)).e.value=7:=by
  have:=congrArg (λl=>l[0]?) q8
  rw[<-hgm]at this;simp only[List.getElem?_map,List.getElem?_eq_getElem (show 0<gs.length by omega),HR]at this
  grind [Hv.p,Ev.p]
 intro Jn hJ;refine⟨λ_=>?_,λa=>cS a (by grind)⟩
 refine q02 h ⟨_,rfl,hJ _ _ ⟨λa=>cS a (by simp),λ_=>?_⟩⟩
 refine h.al λb5 _ h=>h.st 0 rfl rfl λH15 h=>?_
 refine cM 13 28 (h.al λc1 _ h=>⟨_,_,rfl,rfl,λR h9 u8 l5=>?_⟩)
 rename_i H0;have h:=h.FT R;have r8:=aA.shut [_,_] (h.o [3,0,2,6,1,4,5,7,8,9,10] 11);refine ZQ (f:=G) (by grind) (λys q=>star [ax b5 [aD (q:Int)] 3,pt (H0.size+1) (.loop R)]) (star [ax b5 [aD ((0:Nat):Int)] 3,pt (H0.size+1) (.loop R)]) (r8.o [1,2,0,3,4,5,6,7,8,9] 10) (λys _ _ h=>h) ?_ ?_
 .intro ys q O G1 H1 K1 hp h kt;have h:=aA.open (A:=[_,_]) h;have j1:ys.length=G.Ax.length:=by rw[hp.length_eq];grind
  have hw:i64.wrap ((q:Int)+1)=((q+1:Nat):Int):=by grind [aN]
  refine l5 _ _ _ ⟨_,_,_,_,_,_,_,rfl,h.hN 1 rfl,h.hN 1 rfl,h.FF 1 rfl λH3 h=>⟨_,h.r 0,h.st 0 rfl rfl λH4 h=>⟨h.hN 1 rfl,kt _ ?_⟩⟩⟩
  have h:=h.qc 1 rfl (.loop R);have h:=aA.shut [_,_] h;rw[hw]at h;exact h
 .intro ys H16 hp h;have j1:ys.length=1:=by rw[hp.length_eq];grind
  have h:=aA.open (A:=[_,_]) (bY h);refine⟨.ready,none,by decide,by rw[lp h9 u8];exact h.hN 1 rfl,h.FF 1 rfl λh6 h=>⟨rfl,?_⟩⟩
  intro Xr h0;have D:=h.a_ 9 rfl;rw[show m.map aD=flat (λv=>[aD v]) m from q3f]at D
  have at_:∀q v,m[q]?=some v->aM h6 (aV a3) (aS a3+q)=some (aD v)/\a3=some ⟨aV a3,aS a3,none⟩:=by
   intro q v hv;obtain⟨O,rfl⟩:=List.getElem?_eq_some_iff.1 hv;exact⟨by simpa using D.el (λ_=>rfl) O 0 (v:=aD m[q]) rfl,D.some (λ_=>rfl) (by decide) O⟩
  have sd:ofF G ⟨3,1,0⟩=((ofF G ⟨3,1,0⟩).1,(ofF G ⟨3,1,0⟩).2):=rfl;rw[Z,y2];refine⟨⟨by decide,by decide⟩,_,_,(at_ 3 0 d.1).2,_,(at_ 3 0 d.1).1,λ_=>⟨by decide,by decide⟩,_,_,λ_=>(at_ 4 0 d.2.1).2,_,λ_=>(at_ 4 0 d.2.1).1,λ_=>⟨by decide,by decide⟩,_,_,λ_=>(at_ 7 10 d.2.2).2,_,λ_=>(at_ 7 10 d.2.2).1,_,λ_=>h.r 8,_,_,λ_=>h.rds 8 rfl rfl,λ_=>?_,λa=>cS a (by grind)⟩
  refine ajW h λH18 h=>?_
  rw[show (decide ((ofF G ⟨3,1,0⟩).2.1<=5)&&decide (5<=(ofF G ⟨3,1,0⟩).2.2))=true by grind];have hf:=h.a_ 5 rfl;have u:∀x:Hv,(fM x).length=9:=λ_=>rfl
  have S:=hf.some u (by decide) (show 0<gs.length by omega);refine⟨_,rfl,_,λ_=>h.r 0,_,λ_=>Mt h 7 rfl,_,λ_=>Mp (h.o [6] 10),λ_=>⟨by decide,by decide⟩,_,_,λ_=>S,(gs[0]'(by omega)).tr,λ_=>?_,λ_=>⟨by decide,by decide⟩,_,_,λ_=>S,(gs[0]'(by omega)).e.value,λ_=>?_,λ_=>?_,λa=>cS a ?_⟩
  .exact hf.el u (show 0<gs.length by omega) 4 rfl
  .exact hf.el u (show 0<gs.length by omega) 6 rfl
  .have h:=h.o [2,0,1,3,4,5,6,7,8,9] 10;refine ZY r0 h λa5 c5 H19 h=>⟨_,_,_,rfl,λ_=>?_,λa=>cS a (by grind)⟩
   refine q00 (by omega) (h.o [1,2,3,4,5,6,7,8,9,10] 11) λa6 c6 H20 h=>?_
   refine⟨_,_,_,rfl,_,λ_=>Eu h,_,λ_=>Z6 h,_,λ_=>Es h,λ_=>?_,λa=>cS a ?_⟩
   .have h:=h.o [4,0,1,2,3,5,6,7,8,9] 10;refine Pj (λb hb=>cS (List.length_pos_of_mem hb) (by omega)) (by omega) h λQ9 ys1 a7 c7 H21 s9 hys hyi _ h=>⟨_,_,_,rfl,λ_=>?_,λa=>cS a ?_⟩
    .refine Z8 Y (h.o [2,0,1,3,4,5,6,7,8,9,10] 11) λH22 h=>⟨_,rfl,h0 _ _ ⟨h.hN 5 rfl,?_⟩⟩
     have h:=(h.qc 5 rfl (.deferred none)).o [1] 11;rw[W];exact k Q9 _ (s1.trans (s2.trans (s3.trans (s4.trans (s5.trans (s6.trans (s7.trans (s8.trans s9)))))))) h
    grind
   grind [atB]
  grind
structure EyH(H0:aC)(y:Ey):Prop where
 lab:aQ H0 y.x.la (flat cJ y.e.labs)
 bs:aQ H0 y.x.ba (y.e.bs.map U8)
 by_:aI y.e.bs
 val:aG y.e.val
 eY:aG y.e.eY
 ll:y.e.labs.length<=maxLen
 bl:y.e.bs.length<=maxLen
theorem EyH.akQ{y:Ey}(h:EyH H y):SI (old H) y.e y.x:=⟨DG.old h.lab,DG.old h.bs,h.by_,h.val,h.eY,h.ll,h.bl⟩
theorem afh{a:KQ}(b:A.length<=maxLen)(c:aQ H a (flat mX A))(d:∀x∈A,EyH H x):EyK (old H) a A:=⟨DG.old c,λy e=>(d y e).akQ,b⟩
theorem ad5{w:Wr}{m:List (Int×Wpc)}(h:ft w)(a:m.Perm w.m):ft { w with m:=m }:=⟨h.most,by have:=a.length_eq;have:=h.len;grind,λp b=>h.keys p (a.mem_iff.1 b),h.next,λp b=>h.bs p (a.mem_iff.1 b)⟩
theorem acU{bs:List Int}{x:Fq}(h:cX bs=.ok x):bs.length<=65536:=by grind [cX]
theorem Hh{c:SH}{la:KQ}(N:A.length<=maxLen)(hr:aQ H la (flat mX A))(Y:∀x∈A,EyH H x) :
  CF 5 #[.agg ⟨iU c⟩,.slice la A.length t] H λv D=>v=.bool true/\eB H D:=by
 have l0:=afh N hr Y;refine RU ((akc H).al λb _ h=>?_)
 refine q03 (qI h) λQ1 H1 E h=>⟨_,rfl,λhc=>by simp at hc,λ_=>?_⟩
 have P:=l0.sub E;refine⟨_,_,_,_,_,_,_,_,_,_,_,_,_,_,_,h.q 1,?_⟩;refine ZS (c:=c) P h λH2 h=>⟨_,rfl,λW=>⟨rfl,Dy E h⟩,λW=>?_⟩
 refine⟨_,_,_,_,_,_,_,_,_,_,_,_,_,_,_,h.q 1,?_⟩;refine ZT (c:=c) P W h (λhn H3 h=>⟨_,rfl,λ_=>?_,λu=>cS u (by simp)⟩) λhy Q2 fb ab f H3 h5 I h=>⟨_,rfl,λu=>cS u (by simp),λ_=>?_⟩
 .refine⟨_,_,_,_,_,_,_,_,_,_,_,_,_,_,_,h.q 1,?_⟩;refine adD (c:=c) h λH4 h=>⟨_,_,_,_,_,_,_,_,_,_,_,_,_,_,_,rfl,?_⟩
  refine adz (c:=c) h λH5 h=>⟨_,rfl,?_⟩
  exact⟨by grind,Dy E h⟩
 have xs:=I.ok;have g1:=(acB W).1;have fr:=I.fr;have hpk:f.w.most=c.pk:=fr.most.trans I.kp.pk;refine Pl xs.w h λQ3 wb m' H4 l5 hp h=>⟨some ⟨wb,0,none⟩,rfl,λu=>cS u (by simp),λ_=>?_⟩
 have s:=ad5 xs.w hp;have h4:=s.len;have h8:=s.most;obtain⟨w,h7⟩:∃w:Wr,({ f.w with m:=m' }:Wr)=w:=⟨_,rfl⟩;have hwm:w.m=m':=by grind
 have S:w.most=c.pk:=by grind
 rw[h7]at h s h4 h8;refine Z9 s (h.o [1,0,2,3] 4) λa1 c1 H5 h=>⟨_,_,_,rfl,?_⟩
 have l6:(i_ (aJ w.m)).length=w.m.length:=by rw[tg];grind
 obtain⟨ns,h2⟩:∃ns,i_ (aJ w.m)=ns:=⟨_,rfl⟩;rw[h2]at h l6;refine⟨λi D=>∃(j:Nat) (Q':aF),i=j/\j<=w.m.length/\aH Q1 Q'/\aA D (Q'::l_ Q' wb w::f_ Q' fb ab f::ay 2 1 a1 w.m.length c1 (ns.map aD)::ax b (iU c) 27::[]),λi _=>w.m.length-i.toNat,⟨0,Q3,rfl,by omega,h5.trans l5,h.o [2,1,3,0,4] 5⟩,?_⟩
 rintro i H6 ⟨j,Q4,rfl,hj,R,h⟩;refine⟨λu=>?_,λu=>?_⟩
 .have e:j<w.m.length:=by grind
  have F:j<ns.length:=by omega
  have hw:i64.wrap ((j:Int)+1)=((j+1:Nat):Int):=by grind [aN]
  have L:=h.a_ 3 rfl;rw[show ns.map aD=flat (λv=>[aD v]) ns from q3f]at L
  have G:ns[j]∈aJ w.m:=by
   have:ns[j]∈i_ (aJ w.m):=by grind
   grind [qi]
  obtain⟨pc,M⟩:∃pc,aK ns[j] w.m=some pc:=by
   cases hm:aK ns[j] w.m with
   | none=>grind [dX]
   | some pc=>grind
  have h0:=eD M;have lc:(ns[j],pc)∈f.w.m:=hp.mem_iff.1 (by grind);obtain⟨b1,b2,b3,b4⟩:=s.bs _ h0;have f1:=fr.hK _ lc;have f2:=fr.down _ lc;have f3:=fr.up _ lc;refine⟨⟨by omega,by omega⟩,_,_,by have:=L.some (λ_=>rfl) (by decide) F;exact this,ns[j],by have:=L.el (λ_=>rfl) F 0 (v:=aD ns[j]) rfl;grind,?_⟩
  refine ZC (n:=ns[j]) s h λJ p H7 B O a h=>⟨_,_,_,_,_,_,_,rfl,?_⟩
  rw[M];rw[M,Option.getD_some]at a;refine h.al λb2 _ h=>h.st 0 rfl rfl λH8 h=>?_
  have h:aA H8 (ax b2 (mQ p) 92::J::l_ J wb w::f_ Q4 fb ab f::ay 2 1 a1 w.m.length c1 (ns.map aD)::ax b (iU c) 27::[]):=h;refine⟨_,_,_,h.r 0,?_⟩;have U:p.bs=pc.2.2.2:=by rw[<-a];rfl
  have u8:p.up=pc.1:=by rw[<-a];rfl
  have r0:p.ag=pc.2.1:=by rw[<-a];rfl
  have r8:p.hK=pc.2.2.1:=by rw[<-a];rfl
  have hu:(p.up&&atB f.n_ p.ag)=true\/∃x,cX p.bs=.ok x/\x.ag=p.ag:=by
   cases hup:pc.1 with
   | false=>grind
   | true=>
    grind [atB]
  have hno:¬f.now<p.hK:=by grind
  have fin:∀(C:aF) D,aH J C->aA D (C::l_ J wb w::f_ Q4 fb ab f::ay 2 1 a1 w.m.length c1 (ns.map aD)::ax b (iU c) 27::[])->
    (∃(j':Nat) (Q':aF),i64.wrap ((j:Int)+1)=j'/\j'<=w.m.length/\aH Q1 Q'/\aA D (Q'::l_ Q' wb w::f_ Q' fb ab f::ay 2 1 a1 w.m.length c1 (ns.map aD)::ax b (iU c) 27::[]))/\w.m.length-(i64.wrap ((j:Int)+1)).toNat<w.m.length-(j:Int).toNat:=by
   intro C D d h;have h:=sw d (h.o [1,0,2,3,4] 5);have h:=uo (B.trans d) (h.o [2,0,1,3,4] 5);exact⟨⟨j+1,C,hw,e,R.trans (B.trans d),h.o [2,1,0,3,4] 5⟩,by grind⟩
  refine yF (h.o [1,0,2,3,4,5] 6) (λH0 h=>O.rd.at h 0 rfl) (by rw[U];exact b1) O.le ?_
  cases hd:cX p.bs with
  | error er=>
   intro C H9 her d h;refine⟨_,_,_,_,_,_,_,_,_,_,_,_,_,_,_,_,_,_,_,_,_,rfl,h.al λb3 _ h=>h.st 0 rfl rfl λQ h=>?_⟩
   refine⟨_,λ_=>h.r 2,_,λ_=>Es (h.o [4] 7),_,λ_=>h.r 2,_,λ_=>h.r 2,_,λ_=>Eu (h.o [4] 7),_,λ_=>h.r 0,_,λ_=>h.r 2,λhb=>?_,λ_=>fin C _ d (h.o [1,3,4,5,6] 7)⟩
   grind
  | ok x=>
   intro C y evs H9 d V h3 T h;refine⟨_,_,_,_,_,_,_,_,_,_,_,_,_,_,_,_,_,_,_,_,_,rfl,h.al λb3 _ h=>h.st 0 rfl rfl λQ h=>?_⟩
   refine⟨_,λ_=>h.r 3,_,λ_=>Es (h.o [5] 8),_,λ_=>h.r 3,_,λ_=>h.r 3,_,λ_=>Eu (h.o [5] 8),_,λ_=>h.r 0,_,λ_=>h.r 3,λhb=>?_,λ_=>fin C _ d (h.o [1,4,5,6,7] 8)⟩
   grind
 .obtain rfl:j=w.m.length:=by grind
  refine Pj (λb hb=>?_) (by have:=xs.sink;omega) (h.o [0,2,1,3,4] 5) λJ ys a2 c2 H7 B hys j1 h9 h=>⟨_,_,_,rfl,?_⟩
  .obtain⟨_,x,u,_⟩:=fr.sk b hb
   grind [acU]
  refine⟨λi D=>∃(j:Nat) (Q':aF),i=j/\j<=ys.length/\aH J Q'/\aA D (Q'::DT a2 c2 ys::ax b (iU c) 27::[]),λi _=>ys.length-i.toNat,⟨0,J,rfl,by omega,aH.refl J,h.o [0,1,5] 6⟩,?_⟩
  rintro i H8 ⟨k,C,rfl,hk,d,h⟩;have y2:ys.length=f.sink.length:=by grind
  have y3:=xs.sink;refine⟨λu=>?_,λu=>?_⟩
  .have e:k<ys.length:=by grind
   have hw:i64.wrap ((k:Int)+1)=((k+1:Nat):Int):=by grind [aN]
   have K:=h.a_ 1 rfl;rw[show ys.map cD=flat (λy=>[cD y]) ys from q3f]at K
   have j2:aM H8 (aV a2) (aS a2+k)=some (cD ys[k]):=by have:=K.el (λ_=>rfl) e 0 (v:=cD ys[k]) rfl;grind
   have G:ys[k].bs∈f.sink:=by grind
   obtain⟨j3,x,h1,r9⟩:=fr.sk _ G;have h6:=(j1 _ (q_ e)).sub d;refine⟨⟨by omega,by omega⟩,_,_,by have:=K.some (λ_=>rfl) (by decide) e;exact this,_,_,_,j2,?_⟩
   refine yF h (λH0 h=>h6.at h 0 rfl) j3 (h9 _ (q_ e)) ?_
   rw[h1];intro Q7 y evs H9 Z V h3 T h;refine⟨_,_,_,_,_,_,_,_,_,_,_,_,_,_,_,_,_,_,_,_,_,rfl,h.al λb3 _ h=>h.st 0 rfl rfl λQ h=>?_⟩
   refine⟨_,λ_=>h.r 0,λhb=>?_,λ_=>⟨⟨k+1,Q7,hw,e,d.trans Z,h.o [1,3,4] 5⟩,by grind⟩⟩
   grind
  .refine⟨_,h.r 2,?_,Dy (E.trans ((R.trans B).trans d)) h⟩
   grind
section
variable {H:Type}{enc:TypeId×Value->H}{W:World}
theorem q04{cs:Xa}(h:jC enc Tryz.prog W 25 cs):∃o:ZE,cs=kY o:=by let⟨c,d⟩:=tn Tryz.underlying25 h;have c2:Tryz.prog.cellsOf 2=1:=kf;have c3:Tryz.prog.cellsOf 3=1:=kf;have a:Tryz.prog.cellsOf 23=9:=kf;have b:Tryz.prog.cellsOf 25=13:=kf;rw[b]at c;simp only[DK,q2j,or_false,forall_eq_or_imp,forall_eq,c2,c3,a]at d;let⟨f1,f2,f3,f4,f5⟩:=d;match cs,c with
  | [x1,x2,x3,x4,x5,x6,x7,x8,x9,x10,x11,x12,x13],_=>simp only[q2w,q2f,q26,q32]at f1 f2 f3 f4 f5;let⟨cf,e1⟩:=Yd f1;let⟨n2,e2,_,_⟩:=fV Tryz.underlying2 f2;let⟨n3,e3,_,_⟩:=fV Tryz.underlying3 f3;let⟨n4,e4,_,_⟩:=fV Tryz.underlying3 f4;let⟨n5,e5,_,_⟩:=fV Tryz.underlying3 f5;simp only[List.cons.injEq,and_true]at e1 e2 e3 e4 e5;obtain⟨rfl,rfl,rfl,rfl,rfl,rfl,rfl,rfl,rfl⟩:=e1;subst e2 e3 e4 e5;exact⟨⟨cf,n2,n3,n4,n5⟩,rfl⟩
theorem abx{cs:Xa}(h:jC enc Tryz.prog W 27 cs):∃c:SH,cs=iU c:=by let⟨d,e⟩:=tn Tryz.underlying27 h;have c3:Tryz.prog.cellsOf 3=1:=kf;have b:Tryz.prog.cellsOf 25=13:=kf;have a:Tryz.prog.cellsOf 27=15:=kf;rw[a]at d;simp only[DK,q2j,or_false,forall_eq_or_imp,forall_eq,c3,b]at e;let⟨f1,f2,f3⟩:=e;match cs,d with
  | [x1,x2,x3,x4,x5,x6,x7,x8,x9,x10,x11,x12,x13,x14,x15],_=>simp only[q2w,q2f,q26,q32]at f1 f2 f3;let⟨o,e1⟩:=q04 f1;let⟨n2,e2,_,_⟩:=fV Tryz.underlying3 f2;let⟨n3,e3,_,_⟩:=fV Tryz.underlying3 f3;simp only[List.cons.injEq,and_true]at e1 e2 e3;obtain⟨rfl,rfl,rfl,rfl,rfl,rfl,rfl,rfl,rfl,rfl,rfl,rfl,rfl⟩:=e1;subst e2 e3;exact⟨⟨o,n2,n3⟩,rfl⟩
theorem q05{cs:Xa}(h:jC enc Tryz.prog W 65 cs):∃y:Ey,cs=mX y/\EyH W.heap y:=by let⟨s,t⟩:=tn Tryz.underlying65 h;have c2:Tryz.prog.cellsOf 2=1:=kf;have c3:Tryz.prog.cellsOf 3=1:=kf;have k:Tryz.prog.cellsOf 62=2:=kf;have m:Tryz.prog.cellsOf 63=1:=kf;have e:Tryz.prog.cellsOf 65=11:=kf;have c9:Tryz.prog.cellsOf 9=1:=kf;have i:Tryz.prog.cellsOf 60=1:=kf;rw[e]at s;simp only[DK,q2j,or_false,forall_eq_or_imp,forall_eq,c2,c3,k,m]at t;let⟨f1,f2,f3,f4,f5,f6,f7,f8,f9,b⟩:=t;match cs,s with
  | [x1,x2,x3,x4,x5,x6,x7,x8,x9,x10,x11],_=>simp only[q2w,q2f,q26,q32]at f1 f2 f3 f4 f5 f6 f7 f8 f9 b;let⟨n1,e1,_,_⟩:=fV Tryz.underlying3 f1;let⟨n2,e2,_,_⟩:=fV Tryz.underlying2 f2;let⟨n3,e3,_,_⟩:=fV Tryz.underlying2 f3;let⟨n4,e4,_,_⟩:=fV Tryz.underlying2 f4;let⟨n5,e5,_,_⟩:=fV Tryz.underlying2 f5;let⟨n6,e6,b1,b2⟩:=fV Tryz.underlying2 f6;let⟨n7,e7,_,_⟩:=fV Tryz.underlying2 f7;let⟨n8,e8,b3,b4⟩:=fV Tryz.underlying3 f8;let⟨_,n⟩:=tn Tryz.underlying62 f9;simp only[DK,q2j,or_false,forall_eq_or_imp,forall_eq,c9,i]at n;let⟨g1,g2⟩:=n;simp only[q2w,q2f,q26,q32]at g1 g2;let⟨s1,e9,_⟩:=AA Tryz.underlying9 g1;let⟨la,lc,v,e10,j,u⟩:=Ye g2;let⟨a,c,bs,e11,d,f,hb⟩:=aby b;simp only[List.cons.injEq,and_true]at e1 e2 e3 e4 e5 e6 e7 e8 e9 e10 e11;subst e1 e2 e3 e4 e5 e6 e7 e8 e9 e10 e11;exact⟨⟨{ kind:=n1,ag:=n2,now:=n3,rd:=n4,bt:=n5,val:=n6,num:=n7,eY:=n8,nm:=s1,labs:=v,bs:=bs },⟨la,lc,a,c⟩⟩,rfl,u,f,hb,⟨b1,b2⟩,⟨b3,b4⟩,j,d⟩
theorem XJ{cs:Xa}(h:jC enc Tryz.prog W 28 cs):∃a c xs,cs=[.slice a (List.length xs) c]/\xs.length<=maxLen/\aQ W.heap a (flat mX xs)/\∀x∈xs,EyH W.heap x:=AB (ec:=mX) (Q:=EyH W.heap) Tryz.underlying28 (sz:=11) kf ee h (λd b _=>q05 b) pg
end
end Go.Proofs.YtlmphkpeajnhjaaGreatDoor
