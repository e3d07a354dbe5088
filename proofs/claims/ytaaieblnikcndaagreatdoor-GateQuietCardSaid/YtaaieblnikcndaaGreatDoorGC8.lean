/-
  Lemmas for GateQuiet: part 8 of what it rests on. Conditions: none.
-/
import Derived.Test.YtaaieblnikcndaaGreatDoorGC7
set_option linter.unusedVariables false
set_option linter.unusedSimpArgs false
set_option maxRecDepth 100000
set_option maxHeartbeats 16000000
open Go.IntKind (i64 u64 i8 u8 i32 u32 i16 u16)
namespace Go.Proofs.YtaaieblnikcndaaGreatDoor
open Go
section
variable {F L:List aE}{H:aC}{K KP:KE}{Q:aE}
theorem To(s:RS):(aZ 4096 s).1.length<=4096:=by
 unfold aZ
 split
 .simp
 .split
  .split
   .simp
   .split
    .simp
    .rw [Vx];omega
  .simp
  .simp
theorem evsQ_len{s b:RS}{l:List Pv}(h:mG s=.ok (l,b)):l.length<=64:=by
 unfold mG at h
 split at h
 .cases h
 .rename_i n s1 a;have:=AF h;unfold dP okR at a
  split at a
  .cases a
  .cases a
   have:=AE s;omega
theorem Kl:∀{n:Nat} {s c:RS} {l:List Pv},j7 n s=.ok (l,c)->∀e∈l,fu e.name e.labs=true
 | 0,s,c,l,h=>by cases h;simp
 | n+1,s,c,l,h=>by
  unfold j7 at h
  split at h
  .cases h
  .rename_i i s1 f
   split at h
   .cases h
   .rename_i v s2 b
    cases h
    intro e a
    rcases Vz.1 a with a|a
    .exact Kl f e a
    .rw [Vo]at a;subst a;unfold evQ okR at b
     split at b
     .cases b
     .rename_i d
      cases b
      exact IQ (by simpa using d)
theorem Tp{s a:RS}{l:List Pv}(h:mG s=.ok (l,a)):∀e∈l,e.labs.length<=1000000:=by
 unfold mG at h
 split at h
 .cases h
 .intro e b;have:=(mC (Kl h e b)).len;omega
theorem Tq{a:KQ}{c:Nat}{bs:List Int}(h:aA H (Q::F))(ha:∀H,aA H (Q::F)->aP H a (bs.map U8))(hb:aH bs)(hl:bs.length<=1099511627776)
  (k:QPost Q F K (nK bs)):CF 80 #[.slice a bs.length c] H K:=by
 refine OG ?_;refine h.al λb _ h=>?_
 refine h.al λb1 _ h=>?_
 have pan:∀e Q' J cs v1,nK bs=.error e->e≠0->aM Q Q'->cs.length=14->aA J (cellsA b1 [aD v1] 50::cellsA b cs 81::Q'::F)->
   bI 167 X.calls=true/\cB Tryz.prog 167 (du b 0 b1 0) (bi (pnF e) false) J λu H_=>u=bi (pnF e) true/\mi H_ b 0 λl=>aO H_ b1 0 λr0=>K (dW (.agg ⟨l⟩) r0) H_:=by
  intro e Q' J cs v1 y d hs h3 h;refine⟨rfl,S5 h3 h λH2 h=>⟨rfl,_,_,_,_,_,_,_,_,_,_,_,_,_,_,_,_,_,_,_,_,h.q 1,_,h.r 0,?_⟩⟩
  rw[y]at k;exact k Q' _ d hs h.tl.tl
 refine rG h (λH h=>ha H h.tl.tl) hl λrb H2 h=>⟨_,rfl,?_⟩
 refine S1 h hb hl ?_;unfold nK at k pan
 cases hr0:ph ⟨0,bs⟩ with
 | error e=>
  rw[hr0]at pan;exact λJ d h=>pan _ Q _ _ _ rfl d (aM.refl Q) rfl h
 | ok p=>
 obtain⟨n,s1⟩:=p;rw[hr0]at pan k;dsimp only at pan k;have hkd:=kindR_ok hr0;intro H4 j3 h7 u8 h;refine⟨_,rfl,?_⟩;refine h.st 2 rfl rfl ?_;intro H5 h;have h:aA H5 (crdA rb s1::cellsA b1 [aD 0] 50::cellsA b (cH { kind:=n } {}) 81::Q::F):=h;refine wR (k0:=n) h 2 rfl rfl λp pc H6 _ h=>⟨_,_,_,rfl,?_⟩
 have ho:=wQ n;refine⟨λi J=>∃(j:Nat) (U:List Int) (s2:RS),i=j/\j<=(aU n).length/\iY j s1=.ok (U,s2)/\s2.e=0/\aH s2.bs/\s2.bs.length<=1099511627776/\
  aA J (crdA rb s2::slA 297 1 p (aU n).length pc ((aU n).map λi=>PA b i)::cellsA b1 [aD 0] 50::cellsA b (cH (iZ { kind:=n } ((aU n).take j) U) {}) 81::Q::F),
  λi _=>(aU n).length-i.toNat,⟨0,[],s1,rfl,by omega,rfl,j3,h7,u8,h.o [1,0,2,3,4] 5⟩,?_⟩
 rintro i H7 ⟨j,U,s2,rfl,hj,W,he2,L,R,h⟩;have hvl:=AB W;refine⟨λs=>?_,λs=>?_⟩
 .have s:j<(aU n).length:=by have:=Va s;omega
  have Y:=(h.sl_rd 1 rfl).at s;have hi:=A8 _ (Vk s);refine⟨by omega,_,_,Y.1,_,Y.2,?_⟩;refine nE h L R λH8 h=>⟨_,rfl,cY ?_⟩
  have C:=gH L;have N:=jM s2;refine h.st 3 rfl (Nat.ble_eq_true_of_le (by show (aU n)[j]+1<=14;omega)) ?_;intro H9 h;refine⟨_,mp h,?_⟩;have E:iY (j+1) s1=match cG s2 with|.error e=>.error e|.ok (v,s2)=>.ok (U++[v],s2):=by
   rw[iY,W] <;> rfl
  unfold cG okR at E;refine sg (λe=>⟨rfl,?_⟩) λe=>?_
  .rw [UW (by simpa using e)]at E;dsimp only at E;have hw:i64.wrap ((j:Int)+1)=((j+1:Nat):Int):=by rw[aJ];omega
   refine⟨⟨j+1,_,(bK s2).2,hw,s,E,e,C,by omega,?_⟩,by rw[hw];dsimp only;omega⟩;rw[VE s,J7 (by rw[Vx];omega)];have h:aA H9 (crdA rb (bK s2).2::slA 297 1 p (aU n).length pc ((aU n).map λi=>PA b i)::cellsA b1 [aD 0] 50::cellsA b (cv (cH (iZ { kind:=n } ((aU n).take j) U) {}) (0+(aU n)[j]) [aD (i64.wrap ((bK s2).1:Int))]) 81::Q::F):=by
    rw[Vw];exact h
   rw[Vw,encQ_set hi.1 hi.2]at h;exact h
  .rw [UX e]at E;rw[AC E s]at pan;exact pan _ Q _ _ _ rfl e (aM.refl Q) (nU ..) (h.o [2,3] 4)
 have l5:j=(aU n).length:=by have:=Vb s;omega
 subst l5;rw[W]at pan k;dsimp only at pan k;rw[V8]at h;have I:∀x:QA,(n≠5->x.ea=none/\x.ec=0)->(n≠8->x.la=none/\x.lc=0/\x.da=none/\x.dc=0)->(iZ { kind:=n } (aU n) U).Sh x:=λx D M=>numF_sh D M
 obtain⟨a1,a2,a3,a4,a5⟩:=wT (aU n) U { kind:=n };obtain⟨f,hf⟩:∃f,iZ { kind:=n } (aU n) U=f:=⟨_,rfl⟩;rw[hf]at k pan h a1 a2 a3 a4 a5;rw[hf]at I;refine⟨_,h.r 3,?_⟩;intro Jn hJ;have fin:∀(Q':aE) (g:Fq) (x:QA) (evs:List Ev) (s4:RS) J,mH f s2=.ok (g,s4)->aM Q Q'->(∀e∈evs,ik Q' e)->g.evs=evs.map Ev.p->evs.length<=64->aH s4.bs->s4.bs.length<=1099511627776->g.Sh x->(∀e∈evs,e.labs.length<=1000000)->
   g.sl.length<=1000000->g.data.length<=1000000000->(x.da=none\/∃k o,x.da=some ⟨k,o,none⟩)->
   ∀A B:aE,(∀H F,aA H (A::F)->aP H x.la (flat de g.sl))->(∀H F,aA H (B::F)->aP H x.da (g.data.map U8))->
   aA J (crdA rb s4::slA 99 4 x.ea evs.length x.ec (flat cw evs)::cellsA b1 [aD 0] 50::cellsA b (cH g x) 81::Q'::A::B::F)->Jn J:=by
  intro Q' g x evs s4 r8 t w P G h2 hb4 hl4 h0 j1 r9 h1 h6 A B hA hB h;rw[t]at pan k;unfold endQ at pan k;dsimp only at pan k;refine hJ _ ?_;refine wi h λl6 h=>⟨_,rfl,?_⟩
  refine sg (λd=>⟨rfl,?_⟩) λd=>?_
  .rw [UW (by simpa using d)]at pan k;refine⟨_,_,_,_,_,_,_,_,_,_,_,_,_,_,_,_,_,_,_,_,h.q 3,?_⟩;have h9:lJ (crdA rb (dG s4)::slA 99 4 x.ea evs.length x.ec (flat cw evs)::cellsA b1 [aD 0] 50::cellsA b (cH g x) 81::Q'::A::B::F) x.ea evs:=
    ⟨λH h=>h.sl_rd 1 rfl,λe d H h=>(P e d).at h 4 rfl⟩
   have hQ:lK (crdA rb (dG s4)::slA 99 4 x.ea evs.length x.ec (flat cw evs)::cellsA b1 [aD 0] 50::cellsA b (cH g x) 81::Q'::A::B::F) g x evs:=
    ⟨G,h9,λH h=>hA H _ (h.o [5] 7),λH h=>hB H _ (h.o [6] 7),h6,h0,by omega,j1,r9,h1⟩
   refine Jv h hQ λy3 h=>⟨_,rfl,?_⟩
   intro l0 O;refine⟨λy=>?_,λy=>O _ ?_⟩
   .rw [UW (by simpa using y)]at pan;exact pan _ Q' _ _ _ rfl (by decide) w rfl (h.o [2,3,4] 7)
   .rw [UX (by simpa using y)]at k;refine⟨_,_,_,_,_,_,_,_,_,_,_,_,_,_,_,_,_,_,_,_,h.q 3,?_⟩;refine h.st 3 rfl rfl ?_;intro H13 h;refine h.st 2 rfl rfl ?_;intro H14 h;have h:=h.o [2,3,4,1] 7;refine⟨rfl,S6 h λH15 h=>⟨rfl,_,_,_,_,_,_,_,_,_,_,_,_,_,_,_,_,_,_,_,_,h.q 1,_,h.r 0,?_⟩⟩
    exact k Q' x evs _ w G P h0 h.tl.tl
  .rw [UX d]at pan;exact pan _ Q' _ _ _ rfl d w rfl (h.o [2,3,4] 7)
 have T:∀(H:aC) (F:List aE),aA H (emp::F)->aP H none (flat de []):=λH F _=>ip H none
 have S:∀(H:aC) (F:List aE),aA H (emp::F)->aP H none (([]:List Int).map U8):=λH F _=>ip H none
 refine⟨λD=>?_,λD=>?_⟩
 .have D:f.kind=5:=Va D;have t:mH f s2=match mG s2 with|.error e=>.error e|.ok (l,s')=>.ok ({ f with evs:=l },s'):=by unfold mH;rw[UX D] <;> rfl
  have h:=h.o [4,0,2,3] 5;refine S2 h L R ?_
  cases y:mG s2 with
  | error e=>
   rw[y]at t;exact λQ' J d hs h=>pan _ Q' _ _ _ (by rw[t];rfl) d hs rfl (h.o [1,2,0] 3)
  | ok q=>
  obtain⟨l,s3⟩:=q;rw[y]at t;dsimp only at t;have h2:=evsQ_len y;have V:=Tp y;intro Q' evs a c H8 w G P j2 C N h;refine⟨_,_,_,rfl,?_⟩;refine h.st 4 rfl rfl ?_;intro H9 h;have h4:l.length=evs.length:=by rw[G,Vl]
  obtain⟨e1,e2,e3⟩:=(I {} (λ_=>⟨rfl,rfl⟩) (λ_=>⟨rfl,rfl,rfl,rfl⟩)).em (by omega)
  refine fin Q' { f with evs:=l } { ea:=a,ec:=c } evs s3 _ t w P G (by omega) C N ?_ (λe d=>?_) (by dsimp only;rw[a4];simp) (by dsimp only;rw[a5];simp) (.inl rfl) emp emp (by dsimp only;rw[a4];exact T) (by dsimp only;rw[a5];exact S) ?_
  .exact⟨λh=>UY D h,λ_=>⟨a3,a4,rfl,rfl,a5,rfl,rfl⟩,(I {} (λ_=>⟨rfl,rfl⟩) (λ_=>⟨rfl,rfl,rfl,rfl⟩)).nm⟩
  .exact V e.p (by rw[G];exact List.mem_map_of_mem d)
  .have e:cH { f with evs:=l } { ea:=a,ec:=c }=cv (cH f {}) 10 [.slice a evs.length c]:=by unfold cH;dsimp only;rw[h4];rfl
   rw[e];have h:=h.o [1,2,3,4,0] 5;have h:=(lQ (lQ h)).o [2,3,4,5,6,0,1] 7;exact h
 have D:¬f.kind=5:=Vb D;intro l0 O;obtain⟨e1,e2,e3⟩:=(I {} (λ_=>⟨rfl,rfl⟩) (λ_=>⟨rfl,rfl,rfl,rfl⟩)).ev (by rw[a1]at D;rw[a1];exact D)
 refine⟨λM=>?_,λM=>O _ ?_⟩
 .have M:f.kind=8:=Va M;have t:mH f s2=match serQ s2 with|.error e=>.error e|.ok (x,s1)=>okR (aZ 4096 s1).2 { f with sn:=x.1,sl:=x.2,data:=(aZ 4096 s1).1 }:=by unfold mH;rw[UW D,UX M] <;> rfl
  refine J6 h L R ?_
  cases y:serQ s2 with
  | error e=>
   rw[y]at t;exact λJ d h=>pan _ Q _ _ _ (by rw[t];rfl) d (aM.refl Q) rfl (h.o [1,2,3] 4)
  | ok q=>
  obtain⟨⟨nm,labs⟩,s3⟩:=q;rw[y]at t;dsimp only at t;unfold okR at t;have Z:labs.length<=1000000:=by
   unfold serQ okR at y
   split at y
   .cases y
   .rename_i hz
    cases y
    have:=(mC (IQ (by simpa using hz))).len;omega
  intro a c H8 j2 C N h;dsimp only at h;refine⟨_,_,_,_,rfl,?_⟩;refine h.st 4 rfl rfl ?_;intro H9 h;have hd:=lF (m:=4096) C;have h1:=To s3;have hdn:=mr s3 4096;refine nD h C N (by unfold aF;decide) λr8 h=>⟨_,rfl,?_⟩
  refine wb hd.2 h λta tc l6 h=>⟨_,_,_,rfl,?_⟩
  have y2:=tR h;refine h.st 5 rfl rfl ?_;intro y3 h;refine⟨_,mp (h.o [1,0,2,3,4,5,6] 7),?_⟩;refine sg (λd=>⟨rfl,O _ ?_⟩) λd=>?_
  .rw [UW (by simpa using d)]at t;refine fin Q { f with sn:=nm,sl:=labs,data:=(aZ 4096 s3).1 } { la:=a,lc:=c,da:=ta,dc:=tc } [] (aZ 4096 s3).2 _ t (aM.refl Q) (λe d=>UY d (by simp)) (by dsimp only;rw[e1];rfl) (by simp) hd.1 (by omega)
    ⟨λ_=>⟨e1,rfl,rfl⟩,λh=>UY M h,(I {} (λ_=>⟨rfl,rfl⟩) (λ_=>⟨rfl,rfl,rfl,rfl⟩)).nm⟩ (λe d=>UY d (by simp)) Z (by dsimp only;omega) y2
    (slA 421 2 a labs.length c (flat de labs)) (slA 5 1 ta (aZ 4096 s3).1.length tc ((aZ 4096 s3).1.map U8)) (λH F h=>h.sl_rd 0 rfl) (λH F h=>h.sl_rd 0 rfl) ?_
   have e:cH { f with sn:=nm,sl:=labs,data:=(aZ 4096 s3).1 } { la:=a,lc:=c,da:=ta,dc:=tc }=cv (cv (cH f {}) 11 [.string nm,.slice a labs.length c]) 13 [.slice ta (aZ 4096 s3).1.length tc]:=rfl;rw[e];have h:=h.o [1,4,5,6,2,0] 7;exact (h.sl_nil 99 4).o [1,0,2,3,4,5,6] 7
  .rw [UX d]at t;exact pan _ Q _ _ _ (by rw[t];rfl) d (aM.refl Q) (by rw[nU,nU];rfl) (h.o [4,5,6] 7)
 .have M:¬f.kind=8:=Vb M;have t:mH f s2=.ok (f,s2):=by unfold mH;rw[UW D,UW M]
  have hs:=I {} (λ_=>⟨rfl,rfl⟩) (λ_=>⟨rfl,rfl,rfl,rfl⟩)
  refine fin Q f {} [] s2 _ t (aM.refl Q) (λe d=>UY d (by simp)) (by rw[e1];rfl) (by simp) L R hs (λe d=>UY d (by simp)) (by rw[a4];simp) (by rw[a5];simp) (.inl rfl) emp emp (by rw[a4];exact T) (by rw[a5];exact S) ?_
  have h:=h.o [0,2,3,4] 5;exact (lQ (lQ (h.sl_nil 99 4))).o [3,2,4,5,6,0,1] 7
def gA(bs:List Int):Except Int Fq:=if 65536<bs.length then .error 17 else if (dZ bs).1≠0 then .error (dZ bs).1 else nK (dZ bs).2
theorem AU{a:KQ}{c:Nat}{bs:List Int}(h:aA H (Q::F))(w:∀H,aA H (Q::F)->aP H a (bs.map U8))(hb:aH bs)(i:bs.length<=c)
  (k:QPost Q F K (gA bs)):CF 28 #[.slice a bs.length c] H K:=by
 refine cM 28 119260 ?_;refine h.al λb _ h=>⟨λd=>?_,λd=>?_⟩
 .have d:=Va d;have e:gA bs=.error 17:=by unfold gA;rw[pO]
  rw[e]at k;refine h.st 0 rfl rfl λv h=>⟨_,_,_,_,_,_,_,_,_,_,_,_,_,_,_,_,_,_,_,_,h.q 0,?_⟩
  exact k Q _ (by decide) (aM.refl Q) h.tl
 have d:=Vb d;refine Gu h (λH h=>w H h.tl) hb (by omega) i (λD C p v m h=>?_) λe v j m h=>?_
 .refine⟨_,_,_,_,rfl,λi=>UY i (by simp),λ_=>?_⟩
  have y:p.length<=bs.length:=by
   have:=congrArg List.length (zA m);rw[rO]at this;omega
  have n:aH p:=by have:=wp hb;rwa[m]at this
  have e:gA bs=nK p:=by unfold gA;rw[nO,m];rfl
  rw[e]at k;have h:=h.o [2,0,1] 3;refine Tq h (λH h=>h.sl_rd 1 rfl) n (by omega) ?_
  cases hp:nK p with
  | error e=>
   rw[hp]at k;intro Q' B j hs h;refine⟨_,_,_,_,_,_,_,_,_,_,_,_,_,_,_,_,_,_,_,_,_,rfl,?_⟩;refine h.st 2 rfl rfl λu h=>⟨_,_,_,_,_,_,_,_,_,_,_,_,_,_,_,_,_,_,_,_,h.q 2,?_⟩
   exact k Q' _ j hs (h.o [0] 3)
  | ok f=>
   rw[hp]at k;intro Q' x evs B hs s A t h;refine⟨_,_,_,_,_,_,_,_,_,_,_,_,_,_,_,_,_,_,_,_,_,rfl,?_⟩;refine h.st 3 rfl rfl λu h=>⟨_,_,_,_,_,_,_,_,_,_,_,_,_,_,_,_,_,_,_,_,h.q 3,?_⟩
   exact k Q' x evs _ hs s A t (h.o [0,1] 4)
 .refine⟨_,_,_,_,rfl,λ_=>?_,λi=>UY (by simpa using i) j⟩
  have e2:gA bs=.error e:=by unfold gA;rw[nO,m,UX j]
  rw[e2]at k;refine h.st 0 rfl rfl λu h=>⟨_,_,_,_,_,_,_,_,_,_,_,_,_,_,_,_,_,_,_,_,h.q 0,?_⟩
  exact k Q _ j (aM.refl Q) h.tl
end
section
variable {F L:List aE}{H:aC}{K KP:KE}{Q Q':aE}{sb:Nat}{s:aI}
theorem Tr(h:aA H (stA Q sb s::F)):bU Tryz.prog 34 #[PA sb 0] H (aD s.now):=by
 obtain⟨p,h⟩:=cW.1 h;exact cM 34 28 ⟨_,h.r 0,rfl,rfl⟩
theorem xl(h:aA H (stA Q sb s::F)):bU Tryz.prog 29 #[PA sb 0] H (aD s.boots):=by
 obtain⟨p,h⟩:=cW.1 h;exact cM 29 28 ⟨_,h.r 0,rfl,rfl⟩
theorem Ts(h:aA H (stA Q sb s::F)):bU Tryz.prog 106 #[PA sb 0] H (aD s.sunk):=by
 obtain⟨p,h⟩:=cW.1 h;exact cM 106 28 ⟨_,h.r 0,rfl,rfl⟩
theorem Tt(d:s.kept.length<=1000000)(h:aA H (stA Q sb s::F))
  (k:∀a c b,aA b (slA 164 74 a s.kept.length c (flat cI s.kept)::stA Q sb s::F)->K (.slice a s.kept.length c) b):CF 104 #[PA sb 0] H K:=by
 obtain⟨p,h⟩:=cW.1 h;refine cM 104 28 ⟨_,_,_,h.r 0,?_⟩;refine Jf h (λH h=>h.sl_rd 8 rfl) d λf e b h=>⟨_,_,_,rfl,k _ _ _ ?_⟩
 have h:=h.o [1,2,3,4,5,6,7,8,9,0] 10;have h:=cW.2 ⟨p,h⟩;exact h.o [1,0] 2
theorem Km{k:Nat}{st:br}(a:s.sts[k]?=some (some st)):s.sts.set k (some st)=s.sts:=by
 have b:k<s.sts.length:=(List.getElem?_eq_some_iff.1 a).1;have:s.sts[k]=some st:=by rw[List.getElem?_eq_getElem b]at a;exact Option.some.inj a
 rw[<-this,Ws]
theorem Ko{a:Int}{st:br}(h:dM s a=some st):0<=a/\s.sts[a.toNat]?=some (some st):=by
 unfold dM at h
 split at h
 .cases h
 .refine⟨by omega,?_⟩
  cases e:s.sts[a.toNat]? with
  | none=>rw[e]at h;simp at h
  | some x=>
   rw[e]at h
   cases x with
   | none=>simp at h
   | some y=>simp at h;rw[h]
theorem AV{st:br}(a:lM s.cfg st):∀q∈st.hs.rows,aF q.1:=λq b=>by
 have d:=(a.rows q b).1;have e:=(a.hs.rows.inb q b).1;have c:=a.hs.next0;unfold aF;omega
theorem AW{st:br}(a:lM s.cfg st):st.hs.rows.length<=256:=by
 have b:=a.hs.rows.length;have c:=a.hs.most2;omega
theorem Tu{a:Int}(ok:cQ s)(h:aA H (stA Q sb s::F))(k:∀n,aA n (stA Q sb s::F)->K (.tuple #[.agg ⟨encA (kW s a).1⟩,.bool (kW s a).2]) n) :
  CF 75 #[PA sb 0,aD a] H K:=by
 refine O5 ?_;refine h.al λb _ h=>?_
 have h:=h.o [1,0] 2;obtain⟨p,h⟩:=cW.1 h;refine⟨_,h.r 0,?_⟩;have h:=h.o [1,2,0,3,4,5,6,7,8,9] 10;refine Ro.Of_spec ok.rows (agent:=a) h λA h=>⟨_,_,_,_,rfl,?_⟩
 refine h.al λb1 _ h=>?_
 refine h.st 0 rfl rfl ?_;intro C h;unfold kW at k;refine⟨λm=>?_,λm=>?_⟩
 .rw [UW (by simpa using m)]at k;refine h.st 10 rfl rfl ?_;intro x h;refine⟨_,_,_,_,_,_,_,_,_,_,_,h.q 10,?_⟩;have h:=h.o [3,1,2,4,5,6,7,8,9] 11;exact k _ (cW.2 ⟨p,h⟩)
 have t:0<(bg s.rows a).epoch:=by simpa using m
 rw[UX t]at k;obtain⟨j,st,d⟩:=ok.str t;rw[xi j d]at k;dsimp only at k;have i:((a.toNat:Nat):Int)=a:=by omega
 have c:=ok.sts st (VA d);refine⟨_,h.r 3,?_⟩;have h:=h.o [4,5,0,1,2,3,6,7,8,9,10] 11;refine Ma.Of_spec (a:=a) h λx h=>⟨_,_,_,_,_,rfl,?_⟩
 refine h.al λb2 _ h=>?_
 refine h.st 0 rfl rfl ?_;intro G h;have h:=h.o [9,0,1,2,3,4,5,6,7,8,10,11] 12;obtain⟨w,bl,f,h⟩:=qC h d;have h:=h.o [1,0,2,3,4,5,6,7,8,9,10,11,12,13] 14;obtain⟨cb,hb,h⟩:=gS.1 h;have e:=qD f h 3 rfl;rw[i]at e;have u:=AW c;refine⟨_,h.r 11,_,e,_,_,_,h.q 8,_,_,_,_,h.q 5,cY ⟨_,h.r 0,cY ⟨_,h.r 0,_,uf (h.o [2] 3),cY ⟨_,h.r 0,cY ⟨_,h.rd 0 rfl 0,?_⟩⟩⟩⟩⟩;have h:=h.o [2,0,1,3,4,5,6,7,8,9,10,11,12,13,14,15] 16;refine Aw h c.hs.rows.rising (AV c) (by omega) λB wc y h=>⟨_,_,_,rfl,h.rd 2 rfl 0,h.r 2,h.q 6,h.q 9,?_⟩
 have h:=h.o [3,0,1,2,4,5,6,7,8,9,10,11,12,13,14,15,16] 17;have v:=c.ck.len;refine zT h (by omega) λJ I E h=>⟨_,_,_,rfl,h.r 4,h.q 7,h.q 10,?_⟩
 refine h.st 17 rfl rfl ?_;intro D h;refine⟨_,_,_,_,_,_,_,_,_,_,_,h.q 17,k _ ?_⟩;have h:=h.o [4,1,3,5,6,13,11,12,8,9,14,15,16] 18;have h:=gS.2 ⟨cb,hb,h⟩;have h:=h.o [1,0,2,3,4,5,6,7,8,9,10] 11;have h:=sj f h;rw[Km d]at h;exact cW.2 ⟨p,h.o [1,2,3,4,5,6,7,0,8] 9⟩
end
structure Ou where
 kind:Int
 ag:Int:=0
 num:Int:=0
 ida:Int:=0
 ide:Int:=0
 seq:Int:=0
 reason:Int:=0
 win:Int:=0
 lo:Int:=0
 hi:Int:=0
 bs:List Int:=[]
structure Oy where
 o:Ou
 a:KQ
 c:Nat
abbrev bH(y:Oy):Os:=[aB y.o.kind,aB y.o.ag,aB y.o.num,aB y.o.ida,aB y.o.ide,aB y.o.seq,aB y.o.reason,aB y.o.win,aB y.o.lo,aB y.o.hi,.slice y.a y.o.bs.length y.c]
theorem ja(y:Oy):(bH y).length=11:=rfl
theorem pq(y:Oy):cR (bH y)=true:=rfl
structure gh(Q:aE)(y:Oy):Prop where
 kin:KIn Q y.a (y.o.bs.map U8)
 cap:y.o.bs.length<=y.c
theorem gh.sub{Q Q':aE}{y:Oy}(h:gh Q y)(hs:aM Q Q'):gh Q' y:=⟨h.kin.sub hs,h.cap⟩
structure Fq.Bare(f:Fq):Prop where
 k5:f.kind≠5
 k8:f.kind≠8
 evs:f.evs=[]
 sn:f.sn=⟨#[]⟩
 sl:f.sl=[]
 data:f.data=[]
 nm:∀i,1<=i->i<=9->i∉aU f.kind->f.nums i=0
theorem Fq.Bare.rd{f:Fq}(h:f.Bare)(F:List aE):lK F f {} []:=by
 refine⟨by rw[h.evs];rfl,⟨λH _=>ip H none,λe a=>UY a (by simp)⟩,λH _=>by rw[h.sl];exact ip H none,λH _=>by rw[h.data];exact ip H none,.inl rfl,
  ⟨λ_=>⟨h.evs,rfl,rfl⟩,λ_=>⟨h.sn,h.sl,rfl,rfl,h.data,rfl,rfl⟩,h.nm⟩,by simp,λe a=>UY a (by simp),by rw[h.sl];simp,by rw[h.data];simp⟩
def pu(ag ep bt:Int):Fq:={ kind:=2,ag:=ag,ep:=ep,bt:=bt }
def ackF(ag ep next:Int):Fq:={ kind:=6,ag:=ag,ep:=ep,next:=next }
def dV(ag bt ct:Int):Fq:={ kind:=3,ag:=ag,bt:=bt,ct:=ct }
theorem nine{i:Nat}(b:1<=i)(a:i<=9):i=1\/i=2\/i=3\/i=4\/i=5\/i=6\/i=7\/i=8\/i=9:=by omega
theorem Tv(ag ep bt:Int):(pu ag ep bt).Bare:=⟨show (2:Int)≠5 by decide,show (2:Int)≠8 by decide,rfl,rfl,rfl,rfl,λi b a h=>by
 rcases nine b a with rfl|rfl|rfl|rfl|rfl|rfl|rfl|rfl|rfl <;> first|rfl|exact UY (show _∈aU 2 by decide) h⟩
theorem Tw(ag ep next:Int):(ackF ag ep next).Bare:=⟨show (6:Int)≠5 by decide,show (6:Int)≠8 by decide,rfl,rfl,rfl,rfl,λi b a h=>by
 rcases nine b a with rfl|rfl|rfl|rfl|rfl|rfl|rfl|rfl|rfl <;> first|rfl|exact UY (show _∈aU 6 by decide) h⟩
theorem Tx(ag bt ct:Int):(dV ag bt ct).Bare:=⟨show (3:Int)≠5 by decide,show (3:Int)≠8 by decide,rfl,rfl,rfl,rfl,λi b a h=>by
 rcases nine b a with rfl|rfl|rfl|rfl|rfl|rfl|rfl|rfl|rfl <;> first|rfl|exact UY (show _∈aU 3 by decide) h⟩
def gU(f:Fq):Ou:={ kind:=1,ag:=f.ag,bs:=cC f }
def pw(o:Ot):Fq:={ kind:=8,win:=o.1.win,sn:=(ij o.1.ser).1,sl:=(ij o.1.ser).2.1,data:=dh o.2 }
def kX(num:Int)(o:Ot):Ou:={ kind:=3,num:=num,bs:=cC (pw o) }
def di(e:cu):List Ou:=if e.kind=1 then [gU (pu e.agent e.epoch e.boot)] else if e.kind=2 then [gU (ackF e.agent e.epoch e.next)] else
 if e.kind=3 then [{ kind:=2,ida:=e.ida,ide:=e.ide,seq:=e.seq,reason:=e.reason,win:=e.win,lo:=e.gap.lo,hi:=e.gap.hi }] else if e.kind=4 then [kX e.number e.out] else []
theorem Ty(t:Fa):(ij t).2.1.length<=8:=by
 unfold ij
 split
 .split
  .split
   .simp
   .split
    .rename_i a;exact (mC a).len
    .simp
  .simp
 .split <;> simp
theorem slOy:SlT Tryz.prog 46 91 11 104:=iM (by kernel_rfl)
section
variable {F L:List aE}{H:aC}{K:KE}{Q:aE}
theorem AX{f:Fq}(r:f.Bare)(h:aA H F)(k:∀a c d,aA d (slA 5 1 a (cC f).length c ((cC f).map U8)::F)->K (.agg ⟨bH ⟨gU f,a,c⟩⟩) d) :
  CF 78 #[.agg ⟨cH f {}⟩] H K:=by
 refine cM 78 284 ?_;refine h.al λb _ h=>?_
 refine h.al λb1 _ h=>⟨_,_,_,_,_,_,_,_,_,_,_,_,_,_,_,_,_,_,_,_,h.q 1,?_⟩
 refine AA h (r.rd _) λa c e h=>⟨_,_,_,_,rfl,_,h.r 2,?_⟩
 refine h.st 1 rfl rfl ?_;intro i h;refine⟨_,_,_,_,_,_,_,_,_,_,_,_,_,h.q 1,?_⟩;exact k a c _ (h.o [0] 3)
theorem Kp{n:Int}{o:Ot}(wc:WC o.2)(hs:o.1.ser.size<=1000000)(h:aA H F)(k:∀a c j,aA j (slA 5 1 a (cC (pw o)).length c ((cC (pw o)).map U8)::F)->K (.agg ⟨bH ⟨kX n o,a,c⟩⟩) j) :
  CF 105 #[aD n,.agg ⟨cI o⟩] H K:=by
 refine cM 105 4380 ?_;have u:=ud wc;have s:=Ty o.1.ser;refine h.al λb _ h=>?_
 refine h.al λb1 _ h=>⟨_,h.r 1,?_⟩
 refine IZ (by omega) h λla lc B h=>⟨_,_,_,_,_,rfl,?_⟩
 refine h.al λb2 _ h=>?_
 refine h.st 0 rfl rfl ?_;intro w h;refine⟨_,h.r 3,_,_,_,_,h.q 0,_,_,_,_,_,_,_,_,h.rdt (l:=[_,_]) 3 rfl rfl,?_⟩;refine II wc h λda dc C h=>⟨_,_,_,rfl,h.q 1,h.r 4,?_⟩
 have t:=tR h;refine AA (f:=pw o) (x:={ la:=la,lc:=lc,da:=da,dc:=dc }) (evs:=[]) h ⟨rfl,⟨λH _=>ip H none,λe d=>UY d (by simp)⟩,λH h=>h.sl_rd 2 rfl,λH h=>h.sl_rd 0 rfl,t,
   ⟨λ_=>⟨rfl,rfl,rfl⟩,λh=>UY rfl h,λi v m h=>by rcases nine v m with rfl|rfl|rfl|rfl|rfl|rfl|rfl|rfl|rfl <;> first|rfl|exact UY (show _∈aU 8 by decide) h⟩,
   by simp,λe d=>UY d (by simp),by show (ij o.1.ser).2.1.length<=_;omega,by show (dh o.2).length<=_;omega⟩ λa c y h=>⟨_,_,_,_,rfl,?_⟩
 refine h.st 4 rfl rfl ?_;intro A h;refine⟨_,_,_,_,_,_,_,_,_,_,_,_,_,h.q 4,?_⟩;exact k a c _ (h.o [0] 6)
theorem Kq{a:KQ}{c:Nat}{b:List cu}(hl:b.length<=1000000)(hw:∀e∈b,e.kind=4->WC e.out.2/\e.out.1.ser.size<=1000000)(h:aA H (Q::F))(ha:∀H,aA H F->aP H a (flat dQ b))
  (k:∀Q' ys a' Z f,aM Q Q'->ys.map Oy.o=b.flatMap di->(∀y∈ys,gh Q' y)->aA f (Q'::slA 91 11 a' ys.length Z (flat bH ys)::F)->K (.slice a' ys.length Z) f) :
  CF 108 #[.slice a b.length c] H K:=by
 refine cN 108 0x11215612399251151714171417417494c [[(3,sS)],[(3,sS)],[(3,sS)],[(3,sS)],[(3,sS),(10,sI)]] ?_;refine⟨λla ln lc i f=>∃(j:Nat) (ys:List Oy) (Q':aE),i=j/\j<=b.length/\ln=ys.length/\ys.length<=j/\aM Q Q'/\ys.map Oy.o=(b.take j).flatMap di/\(∀y∈ys,gh Q' y)/\aA f (Q'::slA 91 11 la ys.length lc (flat bH ys)::F),
  λ_ _ _ i _=>b.length-i.toNat,⟨0,[],Q,rfl,by omega,rfl,by simp,aM.refl Q,rfl,λy T=>UY T (by simp),(h.sl_nil 91 11).o [1,0] 2⟩,?_⟩
 rintro la ln lc i H1 ⟨j,ys,Q',rfl,hj,rfl,h7,t,d,J,h⟩;refine⟨λS=>?_,λS=>?_⟩
 .have n:j<b.length:=by have:=Va S;omega
  have hr:=ha _ h.tl.tl;have M:i64.wrap ((j:Int)+1)=((j+1:Nat):Int):=by rw[aJ];omega
  refine⟨by omega,_,_,hr.some JY (by omega) n,_,_,_,_,_,_,_,_,_,_,_,_,_,_,_,_,_,_,_,_,_,_,_,hr.els JY n,?_⟩;have P:=hw _ (Vk n);have R:(b.take (j+1)).flatMap di=(b.take j).flatMap di++di b[j]:=jL n;obtain⟨e,he⟩:∃e,b[j]=e:=⟨_,rfl⟩;rw[he]at P R ⊢;refine h.al λb1 _ h=>?_
  refine h.sta 0 rfl rfl λH2 h=>?_
  have h:aA H2 (cellsA b1 (dQ e) 305::Q'::slA 91 11 la ys.length lc (flat bH ys)::F):=h;refine⟨_,h.r 0,?_⟩;intro Jn hJ;have fin:∀(B:List Oy) O a2 c2 f,aM Q O->B.map Oy.o=(b.take j).flatMap di++di e->B.length<=j+1->(∀y∈B,gh O y)->aA f (O::slA 91 11 a2 B.length c2 (flat bH B)::F)->Jn a2 B.length c2 f:=by
   intro B O a2 c2 f hs hm U hi h;exact hJ _ _ _ _ ⟨⟨j+1,B,O,M,n,rfl,U,hs,by rw[hm,R],hi,h⟩,by rw[M];dsimp only;omega⟩
  have one:∀(y:Oy) (A:aE) a2 c2 f,di e=[y.o]->gh (A*Q') y->aA f (A::Q'::slA 91 11 a2 (ys.length+1) c2 (flat bH ys++bH y)::F)->Jn a2 (ys.length+1) c2 f:=by
   intro y A a2 c2 f u T h;have e1:flat bH ys++bH y=flat bH (ys++[y]):=by rw[dT];simp[flat]
   have e2:ys.length+1=(ys++[y]).length:=by simp
   rw[e1,e2]at h;rw[e2];refine fin (ys++[y]) (A*Q') a2 c2 _ (t.trans (aM.add A Q')) (by rw[Vv,d,u];rfl) (by simp;omega) (λz L=>?_) (gp.2 h)
   rcases Vz.1 L with L|L
   .exact (J z L).sub (aM.add A Q')
   .rw [Vo]at L;rw[L];exact T
  refine⟨λv=>?_,λv=>?_⟩
  .have v:=Va v;have u:di e=[gU (pu e.agent e.epoch e.boot)]:=by unfold di;rw[UX v]
   refine⟨_,h.r 0,_,h.r 0,?_⟩;refine h.al λb2 _ h=>?_
   refine h.st 0 rfl rfl ?_;intro H5 h;refine⟨_,_,_,h.q 0,_,h.r 1,?_⟩;refine AX (Tv e.agent e.epoch e.boot) h λD s H6 h=>⟨_,_,_,_,_,_,_,_,_,_,_,_,_,rfl,?_⟩
   refine h.al λb3 _ h=>?_
   refine h.append (m:=1) (ws:=bH ⟨gU (pu e.agent e.epoch e.boot),D,s⟩) slOy 5 rfl (h.ce_rd 0 rfl) rfl (pq _) (by omega) (by omega) λa5 c5 W h=>⟨_,_,_,rfl,?_⟩
   exact one ⟨gU (pu e.agent e.epoch e.boot),D,s⟩ _ _ _ _ u ⟨KIn.sl (c:=s),h.sl_nc 1 rfl⟩ (h.o [1,4,5] 6)
  have v:=Vb v;intro h6 x;refine⟨λw=>?_,λw=>?_⟩
  .have w:=Va w;have u:di e=[gU (ackF e.agent e.epoch e.next)]:=by unfold di;rw[UW v,UX w]
   refine⟨_,h.r 0,_,h.r 0,?_⟩;refine h.al λb2 _ h=>?_
   refine h.st 0 rfl rfl ?_;intro H5 h;refine⟨_,_,_,h.q 0,_,h.r 1,?_⟩;refine AX (Tw e.agent e.epoch e.next) h λD s H6 h=>⟨_,_,_,_,_,_,_,_,_,_,_,_,_,rfl,?_⟩
   refine h.al λb3 _ h=>?_
   refine h.append (m:=1) (ws:=bH ⟨gU (ackF e.agent e.epoch e.next),D,s⟩) slOy 5 rfl (h.ce_rd 0 rfl) rfl (pq _) (by omega) (by omega) λa5 c5 W h=>⟨_,_,_,rfl,?_⟩
   exact x _ _ _ _ (one ⟨gU (ackF e.agent e.epoch e.next),D,s⟩ _ _ _ _ u ⟨KIn.sl (c:=s),h.sl_nc 1 rfl⟩ (h.o [1,4,5] 6))
  have w:=Vb w;intro h5 G;refine⟨λE=>?_,λE=>?_⟩
  .have E:=Va E;obtain⟨o3,I⟩:∃o3:Ou,o3={ kind:=2,ida:=e.ida,ide:=e.ide,seq:=e.seq,reason:=e.reason,win:=e.win,lo:=e.gap.lo,hi:=e.gap.hi }:=⟨_,rfl⟩;have u:di e=[o3]:=by unfold di;rw[UW v,UW w,UX E,I]
   refine⟨_,_,_,h.q 0,_,_,h.q 0,_,_,h.q 0,?_⟩;refine h.al λb3 _ h=>?_
   refine h.append (m:=1) (ws:=bH ⟨o3,none,0⟩) slOy 3 rfl (h.ce_rd 0 (by rw[I];rfl)) rfl (pq _) (by omega) (by omega) λa5 c5 W h=>⟨_,_,_,rfl,?_⟩
   refine G _ _ _ _ (x _ _ _ _ (one ⟨o3,none,0⟩ emp _ _ _ u ?_ (lQ (h.o [2,3] 4))));rw[I];exact⟨KIn.nil _ _,V3 _⟩
  have E:=Vb E;intro h0 N;refine⟨λC=>?_,λC=>?_⟩
  .have C:=Va C;have u:di e=[kX e.number e.out]:=by unfold di;rw[UW v,UW w,UW E,UX C]
   obtain⟨wc,Y⟩:=P C;refine⟨_,h.r 0,_,_,_,_,_,_,_,_,_,_,h.rdt (l:=[_,_,_,_,_,_,_,_,_,_,_,_,_]) 0 rfl rfl,?_⟩;refine Kp wc Y h λD s H6 h=>⟨_,_,_,_,_,_,_,_,_,_,_,_,_,rfl,?_⟩
   refine h.al λb3 _ h=>?_
   refine h.append (m:=1) (ws:=bH ⟨kX e.number e.out,D,s⟩) slOy 4 rfl (h.ce_rd 0 rfl) rfl (pq _) (by omega) (by omega) λa5 c5 W h=>⟨_,_,_,rfl,?_⟩
   exact N _ _ _ _ (G _ _ _ _ (x _ _ _ _ (one ⟨kX e.number e.out,D,s⟩ _ _ _ _ u ⟨KIn.sl (c:=s),h.sl_nc 1 rfl⟩ (h.o [1,3,4] 5))))
  .have C:=Vb C;have u:di e=[]:=by unfold di;rw[UW v,UW w,UW E,UW C]
   exact N _ _ _ _ (G _ _ _ _ (x _ _ _ _ (fin ys Q' _ _ _ t (by rw[u,V4,d]) (by omega) J h.tl)))
 .have V:j=b.length:=by have:=Vb S;omega
  subst V;rw[V8]at d;exact k Q' ys _ _ _ t d J h
end
structure Sn where
 bt:Int
 ct:Int
 ag:Int
 ep:Int
 at_:Int
abbrev gB(s:Sn):Os:=[aB s.bt,aB s.ct,aB s.ag,aB s.ep,aB s.at_]
theorem mO(s:Sn):(gB s).length=5:=rfl
theorem Kr(s:Sn):cR (gB s)=true:=rfl
structure Pb where
 boot:Int
 most:Int
 count:Int
 out:List Sn
 last:List (Int×Int)
def tmB(t:Int):Bool:=decide (0<=t)&&decide (t<=4611686018427387903)
structure jA(p:Pb):Prop where
 count:0<=p.count/\p.count<=1000000000000
 most:1<=p.most/\p.most<=1024
 out:p.out.length<=1024
 last:∀x∈p.last,0<=x.2/\x.2<=4611686018427387903
 boot:aF p.boot
def dueP(p:Pb)(ag now period:Int):Bool:=tmB now&&tmB period&&(match aL ag p.last with|none=>true|some t=>decide (period<=now-t))
def sndOk(ag ep now:Int):Bool:=decide (0<=ag)&&decide (ag<64)&&decide (1<=ep)&&decide (ep<=1099511627776)&&tmB now
def sndP(p:Pb)(ag ep now:Int):Pb:=
 { p with count:=p.count+1,last:=mset ag now p.last,out:=if p.most<((p.out++[(⟨p.boot,p.count,ag,ep,now⟩:Sn)]).length:Int) then (p.out++[(⟨p.boot,p.count,ag,ep,now⟩:Sn)]).drop 1 else p.out++[(⟨p.boot,p.count,ag,ep,now⟩:Sn)] }
def isN(bt ct:Int)(s:Sn):Bool:=s.bt == bt&&(s.ct == ct&&true)
def fD(p:Pb)(ag ep bt ct:Int):Int×Int×Pb:=
 if bt≠p.boot then (-1,22,p) else match p.out.findIdx? (isN bt ct) with
 | none=>(-1,19,p)
 | some i=>match p.out[i]? with
  | none=>(-1,19,p)
  | some s=>if s.ag≠ag\/s.ep≠ep then (-1,10,p) else (s.at_,0,{ p with out:=p.out.take i++p.out.drop (i+1) })
theorem mtP:l9 Tryz.prog 244 2 2 aD 0:=qf Tryz.underlying244 (by kernel_rfl)
theorem slSn:SlT Tryz.prog 245 326 5 40:=iM (by kernel_rfl)
def prbA(pb:Nat)(p:Pb):aE:=exS λx:KQ×Nat×Nat=>star [cellsA pb [aD p.boot,aD p.most,aD p.count,.slice x.1 p.out.length x.2.1,.map (some x.2.2)] 247,slA 326 5 x.1 p.out.length x.2.1 (flat gB p.out),mapA aD aD x.2.2 p.last]
section
variable {F L:List aE}{H:aC}{K:KE}{pb:Nat}{p:Pb}
theorem mP:aA H (prbA pb p::F)↔∃a c m,aA H (cellsA pb [aD p.boot,aD p.most,aD p.count,.slice a p.out.length c,.map (some m)] 247::slA 326 5 a p.out.length c (flat gB p.out)::mapA aD aD m p.last::F):=by
 unfold prbA;rw[cJ]
 constructor
 .rintro⟨x,h⟩;exact⟨x.1,x.2.1,x.2.2,aA.open h⟩
 .rintro⟨a,c,m,h⟩;exact⟨(a,c,m),aA.shut [_,_,_] h⟩
theorem AY{t:Int}:bU Tryz.prog 164 #[aD t] H (.bool (tmB t)):=by
 unfold bU;exact cM 164 28 ⟨rfl,rfl⟩
theorem Ks{boot most:Int}(h:aA H F)
  (k1:¬(1<=boot/\boot<=1099511627776/\1<=most/\most<=1024)->K (.tuple #[.pointer none,aD 11]) H)
  (k2:1<=boot/\boot<=1099511627776/\1<=most/\most<=1024->∀b c,aA c (prbA b ⟨boot,most,0,[],[]⟩::F)->K (.tuple #[PA b 0,aD 0]) c) :
  CF 48 #[aD boot,aD most] H K:=by
 refine cM 48 476 ⟨λa=>k1 ?_,λa=>?_⟩
 .simp only[Vr,Vc]at a;omega
 .simp only[Vp,Ve]at a;refine h.alm aD aD λmb _ h=>?_
  refine h.al λb d h=>?_
  refine k2 (by omega) b _ (mP.2 ⟨none,0,mb,?_⟩);exact (h.sl_nil 326 5).o [1,0,2] 3
theorem Tz{ag now period:Int}(ok:jA p)(h:aA H (prbA pb p::F)):bU Tryz.prog 76 #[PA pb 0,aD ag,aD now,aD period] H (.bool (dueP p ag now period)):=by
 unfold bU;obtain⟨a,c,m,h⟩:=mP.1 h;refine cM 76 7452 ⟨_,AY,_,λ_=>AY,λb=>?_,λb=>?_⟩
 .have e:dueP p ag now period=false:=by
   unfold dueP;simp only[Vr,V1]at b
   rcases b with b|b <;> rw[b] <;> simp
  rw[e];exact⟨rfl,rfl⟩
 .simp only[Vp,VI]at b;have e:dueP p ag now period=(match aL ag p.last with|none=>true|some t=>decide (period<=now-t)):=by
   unfold dueP;rw[b.1,b.2];rfl
  rw[e];have d:=h.mp_look mtP Ro.ko2 (x:=ag) 2 rfl;refine⟨_,h.r 0,?_⟩
  cases hm:aL ag p.last with
  | none=>
   refine⟨0,false,(d.2 hm).1,rfl,rfl⟩
  | some t=>
   refine⟨t,true,(d.1 t hm).1,?_,rfl⟩;have i:=ok.last (ag,t) (gY hm);have f:=b.1;unfold tmB at f;simp only[Vd,Vc]at f;dsimp only at i;show Value.bool (!true||decide (period<=i64.wrap (now-t)))=_;rw[aJ];rfl
theorem Kt{a:KQ}{c:Nat}{l:List Sn}{i j:Nat}{s:Int}(f:s=j)(A:i<j)(D:j<=l.length)(h:aA H (slA 326 5 a l.length c (flat gB l)::F))
  (k:∀d,aA d (slA 326 5 a (l.take i++l.drop j).length c (flat gB (l.take i++l.drop j))::F)->K (.slice a (l.take i++l.drop j).length c) d):CF 163 #[.slice a l.length c,aD i,aD s] H K:=by
 subst f;have w:=h.sl_nc 0 rfl;have b:(l.take i++l.drop j).length=i+(l.length-j):=by rw[UZ,Vx,Vt];omega
 refine cM 163 18682140 ?_;refine⟨⟨by omega,by omega,by omega,by omega⟩,λn=>UY (Va n) (by omega),λn=>?_⟩
 refine⟨⟨by omega,by omega,by omega⟩,⟨by omega,by omega,by omega⟩,?_⟩;have u:=h.sl_rd 0 rfl;have hs:=u.some mO (by omega) (k:=0) (by omega);have e0:bZ a 0 c 5=a:=by
  unfold bZ;rw[nO,hs,V9,iN];simp
 have v:=u.subK (k:=j) (c:=c) (sz:=5) (by rw[eZ mO];omega);rw[te mO]at v;have y:=h.sl_take 0 rfl i (by omega);show cA Tryz.prog (Builtin.append_ #[245,245] 245 #[.slice (bZ a 0 c 5) i c,.slice (bZ a j c 5) (l.length-j) (c-j)]) H _;rw[e0];refine aA.appendIn slSn y 0 rfl v (by rw[eZ mO,Vt]) (l8 Kr _) (by omega) λd x=>⟨_,_,_,rfl,⟨by omega,by omega,by omega⟩,?_⟩
 have e:(flat gB l).take (i*5)++flat gB (l.drop j)=flat gB (l.take i++l.drop j):=by rw[dT,<-D5 mO]
 have m:aA d (slA 326 5 a (i+(l.length-j)) c ((flat gB l).take (i*5)++flat gB (l.drop j))::F):=x;rw[e,<-b]at m;have t:=k;rw[b]at t;rw[b]at m;exact aA.clearS slSn (by kernel_rfl) m 0 rfl (by omega) λ_ C B=>t _ B
theorem T3{s:Sn}{b:Nat}{n0 n1:Int}(h:aA H F)(i:Nat)(c:aW i F=cellsA b [aD n0,aD n1] 101)(k:∀a,aA a F->K (.bool (isN n0 n1 s)) a) :
  CF 162 #[.agg ⟨gB s⟩,PA b 0] H K:=by
 refine cM 162 28 ?_;refine h.al λb1 _ h=>?_
 have e:=(tr (P:=Tryz.prog) (t:=101) (xs:=[aD s.bt,aD s.ct]) (ys:=[aD n0,aD n1]) (r:=(s.bt == n0&&(s.ct == n1&&true))) (by kernel_rfl)).1;exact⟨_,_,h.q 0,_,_,h.rds (i+1) c rfl,_,e,k _ h.tl⟩
theorem T4{a:KQ}{c b:Nat}{l:List Sn}{n0 n1:Int}(D:l.length<=1000000)(h:aA H F)(i:Nat)(y:aW i F=cellsA b [aD n0,aD n1] 101)(w:∀H,aA H F->aP H a (flat gB l))
  (k1:l.findIdx? (isN n0 n1)=none->∀k,aA k F->K (aD (-1)) k) (k2:∀j,l.findIdx? (isN n0 n1)=some j->∀k,aA k F->K (aD (j:Nat)) k) :
  CF 161 #[.slice a l.length c,.func (.func 162) #[] #[PA b 0]] H K:=by
 refine cN 161 0x1215612399251b4c [[(8,sI)]] ?_;refine⟨λi k=>∃j:Nat,i=j/\j<=l.length/\(∀q (e:q<l.length),q<j->isN n0 n1 l[q]=false)/\aA k F,λi _=>l.length-i.toNat,⟨0,rfl,by omega,λq _ e=>UY e (by omega),h⟩,?_⟩
 rintro i C ⟨j,rfl,G,f,h⟩;refine⟨λm=>?_,λm=>?_⟩
 .have d:j<l.length:=by have:=Va m;omega
  have u:=w _ h;refine⟨by omega,_,_,u.some mO (by omega) d,_,_,_,_,_,u.els mO d,rfl,?_⟩;refine T3 (s:=l[j]) h _ y λE h=>⟨_,rfl,λhm=>?_,λhm=>?_⟩
  .refine k2 j ?_ _ h;rw[List.findIdx?_eq_some_iff_getElem];exact⟨d,hm,λq e=>by rw[f q (by omega) e];decide⟩
  .have n:i64.wrap ((j:Int)+1)=((j+1:Nat):Int):=by rw[aJ];omega
   refine⟨⟨j+1,n,d,λq e B=>?_,h⟩,by rw[n];dsimp only;omega⟩
   rcases V0 q j with t|t
   .exact f q e t
   .obtain rfl:q=j:=by omega
    exact hm
 .have A:j=l.length:=by have:=Vb m;omega
  refine k1 ?_ _ h;rw[List.findIdx?_eq_none_iff];intro x v;obtain⟨q,e,rfl⟩:=VU v;exact f q e (by omega)
theorem T5{ag ep n0 n1:Int}(ok:jA p)(h:aA H (prbA pb p::F))
  (k:∀n,aA n (prbA pb (fD p ag ep n0 n1).2.2::F)->K (.tuple #[aD (fD p ag ep n0 n1).1,aD (fD p ag ep n0 n1).2.1]) n) :
  CF 74 #[PA pb 0,aD ag,aD ep,.agg #[aD n0,aD n1]] H K:=by
 obtain⟨a,c,m,h⟩:=mP.1 h;refine cM 74 488447260 ?_;unfold fD at k;refine h.al λb _ h=>⟨_,h.r 0,_,h.r 1,λd=>?_,λd=>?_⟩
 .rw [UX (by simpa using d)]at k;exact k _ (mP.2 ⟨a,c,m,h.tl⟩)
 rw[UW (by simpa using d)]at k;have u:=ok.out;refine⟨_,_,_,h.r 1,?_⟩;refine T4 (by omega) h 0 rfl (λH h=>h.sl_rd 2 rfl) (λw t h=>⟨_,rfl,λ_=>?_,λd=>UY d (by simp)⟩) λj f t h=>⟨_,rfl,λd=>UY (Va d) (by omega),λ_=>?_⟩
 .rw [w]at k;exact k _ (mP.2 ⟨a,c,m,h.tl⟩)
 obtain⟨e,-,-⟩:=List.findIdx?_eq_some_iff_getElem.1 f;rw[f]at k;dsimp only at k;rw[List.getElem?_eq_getElem e]at k;dsimp only at k;have s:=h.sl_rd 2 rfl;refine⟨_,_,_,h.rd 1 rfl _,⟨by omega,by omega⟩,_,_,s.some mO (by omega) e,_,_,_,_,_,s.els mO e,?_⟩;refine h.al λb2 _ h=>?_
 refine h.st 0 rfl rfl ?_;intro A h;refine⟨_,h.r 0,_,λ_=>h.r 0,λd=>?_,λd=>?_⟩
 .rw [UX (by simpa using d)]at k;exact k _ (mP.2 ⟨a,c,m,h.o [2,3,4] 5⟩)
 rw[UW (by simpa using d)]at k;refine⟨_,_,_,h.r 2,?_⟩;have v:i64.wrap ((j:Int)+1)=((j+1:Nat):Int):=by rw[aJ];omega
 have h:=h.o [3,0,2,4] 5;refine Kt (i:=j) (j:=j+1) v (by omega) (by omega) h λx h=>⟨_,_,_,rfl,?_⟩
 refine h.st 2 rfl rfl ?_;intro y h;exact⟨_,h.r 1,k _ (mP.2 ⟨a,c,m,h.o [2,0,3] 4⟩)⟩
theorem Ku{ag ep now:Int}(ok:jA p)(hs:sndOk ag ep now=true)(h:aA H (prbA pb p::F))
  (k:∀n,aA n (prbA pb (sndP p ag ep now)::F)->K (.tuple #[.agg #[aD p.boot,aD p.count],aD 0]) n) :
  CF 77 #[PA pb 0,aD ag,aD ep,aD now] H K:=by
 obtain⟨a,c,m,h⟩:=mP.1 h;have A:=ok.out;have C:=ok.count;unfold sndOk at hs;simp only[Vd,Vc]at hs;refine cN 77 31959155165468 [[]] ?_;refine h.al λb _ h=>⟨_,λ_=>AY,λd=>?_,λd=>?_⟩
 .exfalso;simp only[Vr,Vc,V1]at d;rw[hs.2]at d
  rcases d with d|d
  .omega
  .cases d
 refine⟨_,h.r 1,_,h.r 1,?_⟩;refine h.al λb1 _ h=>⟨h.r 2,h.r 2,?_⟩
 refine h.st 0 rfl rfl ?_;intro G h;refine⟨_,h.r 2,?_⟩;refine h.st 2 rfl rfl ?_;intro I h;refine⟨_,_,_,h.r 2,_,_,h.q 0,?_⟩;refine h.al λb2 _ h=>⟨h.r 3,?_⟩
 refine h.append (m:=1) (ws:=gB ⟨p.boot,p.count,ag,ep,now⟩) slSn 4 rfl (h.ce_rd 0 rfl) rfl (Kr _) (by omega) (by omega) λa5 c5 E h=>⟨_,_,_,rfl,?_⟩
 refine h.st 3 rfl rfl ?_;intro x h;have u:i64.wrap (p.count+1)=p.count+1:=aJ;have t:flat gB p.out++gB ⟨p.boot,p.count,ag,ep,now⟩=flat gB (p.out++[(⟨p.boot,p.count,ag,ep,now⟩:Sn)]):=by rw[dT];simp[flat]
 obtain⟨o1,f⟩:∃o1,p.out++[(⟨p.boot,p.count,ag,ep,now⟩:Sn)]=o1:=⟨_,rfl⟩;have s:p.out.length+1=o1.length:=by rw[<-f];simp
 have h:aA x (cellsA b2 (gB ⟨p.boot,p.count,ag,ep,now⟩) 326::cellsA b1 [aD p.boot,aD p.count] 101::cellsA b [aD 0,aD 0] 101::cellsA pb [aD p.boot,aD p.most,aD (i64.wrap (p.count+1)),.slice a5 (p.out.length+1) c5,.map (some m)] 247::slA 326 5 a5 (p.out.length+1) c5 (flat gB p.out++gB ⟨p.boot,p.count,ag,ep,now⟩)::mapA aD aD m p.last::F):=h;rw[u,t,f,s]at h;refine⟨_,_,_,h.r 3,_,h.r 3,?_⟩;intro D B;have fin:∀(o2:List Sn) n,o2=(if p.most<(o1.length:Int) then o1.drop 1 else o1)->aA n (cellsA b1 [aD p.boot,aD p.count] 101::cellsA b [aD 0,aD 0] 101::cellsA pb [aD p.boot,aD p.most,aD (p.count+1),.slice a5 o2.length c5,.map (some m)] 247::slA 326 5 a5 o2.length c5 (flat gB o2)::mapA aD aD m p.last::F)->D n:=by
  intro o2 n e h;refine B _ ?_;refine⟨_,h.r 2,?_⟩;refine h.mp_update (α:=Int) (v:=now) mtP Ro.ko2 4 rfl λy h=>?_
  refine⟨_,_,h.q 0,?_⟩;refine h.st 1 rfl rfl ?_;intro w h;refine⟨_,_,h.q 1,?_⟩;have e2:sndP p ag ep now=⟨p.boot,p.most,p.count+1,o2,mset ag now p.last⟩:=by unfold sndP;rw[f,<-e]
  rw[e2]at k;exact k _ (mP.2 ⟨a5,c5,m,h.o [2,3,4] 5⟩)
 refine⟨λd=>?_,λd=>?_⟩
 .have d:=Va d;refine⟨_,_,_,h.r 3,?_⟩;have h:=h.o [4,1,2,3,5] 6;refine Kt (i:=0) (j:=1) rfl (by omega) (by omega) h λJ h=>⟨_,_,_,rfl,?_⟩
  rw[W4,VB]at h ⊢;refine h.st 3 rfl rfl ?_;intro y h;exact fin (o1.drop 1) _ (by rw[UX d]) (h.o [1,2,3,0,4] 5)
 .have d:=Vb d;exact fin o1 _ (by rw[UW d]) (h.o [1,2,3,4,5] 6)
end
theorem AZ{α:Type}:∀{l:List (Option α)} {i:Nat} {p:Int×Option α},p∈cV i l->∃(k:Nat) (b:α),p=(((i+k:Nat):Int),some b)/\l[k]?=some (some b)
 | [],i,p,h=>by simp[cV]at h
 | none::r,i,p,h=>by
  obtain⟨k,b,c,a⟩:=AZ (l:=r) (i:=i+1) h;exact⟨k+1,b,by rw[c,show i+1+k=i+(k+1) by omega],by simpa using a⟩
 | some b::r,i,p,h=>by
  rcases Vm.1 h with rfl|h
  .exact⟨0,b,rfl,rfl⟩
  .obtain⟨k,d,c,a⟩:=AZ (l:=r) (i:=i+1) h;exact⟨k+1,d,by rw[c,show i+1+k=i+(k+1) by omega],by simpa using a⟩
theorem Kv{Q:aE}{bl:List (Option Nat)}{sts:List (Option br)}{k b:Nat}{s:br}(c:bl[k]?=some (some b))(a:sts[k]?=some (some s)) :
  strsA Q bl sts=strA Q b s*strsA Q (bl.set k none) (sts.set k none):=by
 obtain⟨l1,e1⟩:=List.getElem?_eq_some_iff.1 c;obtain⟨l2,e2⟩:=List.getElem?_eq_some_iff.1 a;rw[pm (k:=k) (by rw[List.getElem?_set_self l1]) (by rw[List.getElem?_set_self l2]),WF,WF,<-e1,<-e2,Ws,Ws]
section
variable {F L:List aE}{H:aC}{K:KE}{Q:aE}
theorem px{A B:aE}:aA H ((A*B)::L)↔aA H (A::B::L):=by
 unfold aA star;rw[star];rw[jt]
theorem T6{sb:Nat}{s:aI}(V:s.kept.length<=1000000)(ok:cQ s)(h:aA H (stA Q sb s::F))(k:∀J G,aA G (stA Q J s::stA Q sb s::F)->K (PA J 0) G):CF 18 #[PA sb 0] H K:=by
 obtain⟨p,h⟩:=cW.1 h;refine OE ⟨_,_,_,_,_,_,_,_,_,_,_,_,_,_,_,_,_,_,_,_,_,_,h.rda 0 rfl,?_⟩;refine h.al λb _ h=>?_
 refine h.sta 0 rfl rfl λH1 h=>?_
 have h:aA _ (cellsA b (dq s p) 145::_):=h;refine⟨_,h.r 1,_,h.r 1,_,h.r 1,?_⟩;refine Ro.Clone_spec (h.o [2,3,0,1,4,5,6,7,8,9] 10) λB w H2 h=>⟨_,rfl,h.r 5,h.r 5,?_⟩
 refine Ma.Clone_spec (h.o [6,7,0,1,2,3,4,5,8,9,10,11] 12) λD u H3 h=>⟨_,rfl,h.r 9,?_⟩
 refine Rw (h.o [10,11,0,1,2,3,4,5,6,7,8,9,12,13] 14) λf x H4 h=>⟨_,rfl,?_⟩
 refine h.st 12 rfl rfl λ_ h=>h.st 12 rfl rfl λ_ h=>h.st 12 rfl rfl λ_ h=>⟨_,_,_,h.r 13,?_⟩
 refine Jf (l:=s.kept) h (λH h=>h.sl_rd 15 rfl) V λy A H8 h=>⟨_,_,_,rfl,?_⟩
 refine h.st 13 rfl rfl λ_ h=>?_
 refine h.alm aD ptV λb1 _ h=>?_
 refine h.st 14 rfl rfl λh1 h=>⟨_,h.r 15,?_⟩
 have h:=h.o [16,0,14,1,2,3,4,5,6,7,8,9,10,11,12,13,15,17] 18;obtain⟨bl,hm,h⟩:=kU.1 h;have h3:bl.length=s.sts.length:=by have:=congrArg List.length hm;simpa using this
 obtain⟨R,hR⟩:∃R:List aE,R=slA 164 74 y s.kept.length A (flat cI s.kept)::shC f x s.cfg.cells::cz x s.cm::shC p.hb p.hm s.cfg.cells::cz p.hm s.cm::Ma.markC D u s.ms::Ma.mapF u s.ms.m::Ma.markC p.mb p.mm s.ms::Ma.mapF p.mm s.ms.m::
  Ro.rollC B w s.cfg.agents::Ro.mapE w s.rows::Ro.rollC p.rb p.rm s.cfg.agents::Ro.mapE p.rm s.rows::cellsA sb (dq s p) 145::slA 164 74 p.ka s.kept.length p.kc (flat cI s.kept)::F:=⟨_,rfl⟩
 have h:aA h1 (mapA aD ptV p.tm (cV 0 bl)::strsA Q bl s.sts::mapA aD ptV b1 []::cellsA b (dq s ⟨B,w,D,u,f,x,b1,y,A⟩) 145::R):=by rw[hR];exact h
 refine h.rg_new qA 0 rfl λit h6 h=>⟨it,rfl,?_⟩
 refine⟨λG=>∃(dn:List (Int×Option Nat)) (c:List (Option Nat)) (a:List (Option br)),c.map Option.isSome=a.map Option.isSome/\a.length=s.sts.length/\
  (∀k:Nat,k<s.sts.length->a[k]?=if ((k:Nat):Int)∈aG dn then s.sts[k]? else some none)/\
  aA G (kH aD ptV it p.tm (cV 0 bl) dn::strsA Q bl s.sts::mapA aD ptV b1 (cV 0 c)::strsA Q c a::cellsA b (dq s ⟨B,w,D,u,f,x,b1,y,A⟩) 145::R),λG=>(cV 0 bl).length-oI G it,
  ⟨[],List.replicate 64 none,List.replicate 64 none,by simp,by simp[ok.len],λk S=>by rw[ok.len]at S;rw[List.getElem?_replicate,UX S,UW (by simp[aG])],?_⟩,?_⟩
 .rw [AN];have e:cV 0 (List.replicate 64 (none:Option Nat))=[]:=by decide
  rw[e];exact (lQ h).o [1,2,3,0,4] 5
 rintro H2 ⟨dn,c,a,C,T,E,h⟩;obtain⟨h4,h5⟩:=h.rg_count 0 rfl;refine h.rg_next 0 rfl (λhp=>.inl ⟨rfl,λhf=>(by cases hf),λ_=>?_⟩) λq h2 U H3 h=>.inr ⟨_,_,rfl,λ_=>?_,λhf=>(by cases hf)⟩
 .
  have h:=h.rg_map 0 rfl;have e:a=s.sts:=by
   apply Wu;intro i
   rcases V0 i s.sts.length with hi|hi
   .rw [E i hi]
    split
    .rfl
    .rename_i hn;have hb:bl[i]?=some none:=by
      cases d:bl[i]? with
      | none=>rw[List.getElem?_eq_none_iff]at d;omega
      | some o=>
       cases o with
       | none=>rfl
       | some b0=>
        exfalso;have hl:=uk (l:=bl) (i:=0) (k:=i);rw[d,Vw]at hl;refine hn ?_;have:((i:Int),some b0)∈cV 0 bl:=gY hl;exact Vh.2 ⟨_,hp.mem_iff.2 this,rfl⟩
     have:=qB hm i;rw[hb]at this
     cases hs:s.sts[i]? with
     | none=>rw[hs]at this;cases this
     | some o=>rw[hs]at this;cases o with
      | none=>rfl
      | some _=>cases this
   .rw [List.getElem?_eq_none (by omega),List.getElem?_eq_none hi]
  rw[e]at h C;subst hR;refine k b _ ?_;have h:=kU.2 ⟨bl,hm,h⟩;have h:=kU.2 ⟨c,C,h.o [1,2,0,3] 4⟩;have h:=cW.2 ⟨p,h.o [16,14,15,10,11,6,7,1,17,0,2,3,4,5,8,9,12,13] 18⟩;exact cW.2 ⟨⟨B,w,D,u,f,x,b1,y,A⟩,h.o [2,8,9,6,7,4,5,1,3,0] 10⟩
 .obtain⟨i,bk,rfl,d⟩:=AZ h2;rw[Vw]at *;have Y:i<s.sts.length:=by have:=(List.getElem?_eq_some_iff.1 d).1;omega
  have n:∃st,s.sts[i]?=some (some st):=by
   have:=qB hm i;rw[d]at this
   cases hs:s.sts[i]? with
   | none=>rw[hs]at this;cases this
   | some o=>rw[hs]at this;cases o with
    | none=>cases this
    | some st=>exact⟨st,rfl⟩
  obtain⟨st,n⟩:=n;have N:=ok.sts st (VA n);have M:=aA.rg_entry (P:=Tryz.prog) h 0 rfl;obtain⟨W,I⟩:=h.rg_count 0 rfl;rw[UZ,VN]at W I;refine⟨_,_,M,?_⟩;have h:=h.o [1,0,2,3,4] 5;have h:aA H3 (strsA Q bl s.sts::_):=h;rw[Kv d n]at h;have h:=px.1 h;obtain⟨cb,hb,h⟩:=gS.1 h;refine⟨_,h.r 7,cY ⟨_,h.r 0,cY ⟨_,h.r 0,cY ⟨_,h.r 0,?_⟩⟩⟩⟩;refine QH (h.o [1,0,2,3,4,5,6,7] 8) (by have:=N.ck.len;omega) λZ H5 h=>⟨_,rfl,h.r 2,h.r 2,h.r 8,?_⟩
  refine Jq (h.o [3,0,1,2,4,5,6,7,8] 9) λf H6 h=>⟨_,rfl,h.r 4,h.r 9,?_⟩
  refine h.al λb3 _ h=>⟨h.r 10,?_⟩
  refine h.mp_update (v:=some b3) qA ko2 8 rfl λH7 h=>⟨?_,?_⟩
  .have t:a[i]?=some none:=by rw[E i Y,UW U]
   have L:c[i]?=some none:=by
    have:=qB C i;rw[t]at this
    cases hs:c[i]? with
    | none=>rw[hs]at this;cases this
    | some o=>rw[hs]at this;cases o with
     | none=>rfl
     | some _=>cases this
   have O:i<c.length:=(List.getElem?_eq_some_iff.1 L).1;refine⟨dn++[((i:Int),some bk)],c.set i (some b3),a.set i (some st),?_,by rw[WY,T],λj hj=>?_,?_⟩
   .rw [WE,WE,C];rfl
   .rw [List.getElem?_set];have S:aG (dn++[((i:Int),some bk)])=aG dn++[(i:Int)]:=by simp[aG]
    rw[S]
    by_cases e:i=j
    .subst e;rw[UX rfl,pO,UX (by simp),n]
    .rw [UW e,E j hj];have:(((j:Nat):Int)∈aG dn++[(i:Int)])↔((j:Nat):Int)∈aG dn:=by
      rw[Vz,Vo];exact⟨λh=>h.elim id λh=>UY h (by omega),.inl⟩
     simp only[this]
   .have em:mapA aD ptV b1 (mset ((i:Nat):Int) (some b3) (cV 0 c))=mapA aD ptV b1 (cV 0 (c.set i (some b3))):=ns (by
     have:=xc (b:=b3) (l:=c) (i:=0) (k:=i) O;rw[Vw]at this;exact this.symm)
    rw[<-pm (b:=b3) (s:=st) L t,Kv d n];have h:=gS.2 ⟨Z,f,h.o [0,3,1,2,4,5,6,7,8,9,10] 11⟩;have h:=gS.2 ⟨cb,hb,h.o [3,2,1,0,4,5,6,7,8] 9⟩;have h:=px.2 (h.o [0,2,1,3,4,5,6] 7);have h:=px.2 (h.o [1,4,0,2,3,5] 6);have h:=h.o [2,1,3,0,4] 5;rw[<-em];exact h
  .obtain⟨h0,_⟩:=h.rg_count 7 rfl;rw[UZ,VN]at h0;simp only;omega
end
structure Opt where
 cfg:bG
 period:Int
 probes:Int
 segment:Int
 save:Int
abbrev gV(o:Opt):Os:=[aB o.cfg.width,aB o.cfg.policy,aB o.cfg.most,aB o.cfg.lag,aB o.cfg.rho,aB o.cfg.trust,aB o.cfg.agents,aB o.cfg.cells,aB o.cfg.hold,aB o.period,aB o.probes,aB o.segment,aB o.save]
structure GAd where
 bb:Nat
 rb:Nat
 sb:Nat
 pv:Value
 pa:KQ
 pc:Nat
abbrev kY(o:Opt)(x:GAd)(n:Nat)(recs:Int):Os:=[aB o.cfg.width,aB o.cfg.policy,aB o.cfg.most,aB o.cfg.lag,aB o.cfg.rho,aB o.cfg.trust,aB o.cfg.agents,aB o.cfg.cells,aB o.cfg.hold,aB o.period,aB o.probes,aB o.segment,aB o.save,
 PA x.bb 0,PA x.sb 0,x.pv,.slice x.pa n x.pc,aB recs]
theorem su{s:aI}{r:Rp}(h:(bN s r).2.2=0):r.right=true:=by
 unfold bN at h
 split at h
 .cases h
 .rename_i a;simpa using a
theorem T7{s:aI}{r:Rp}(h:(bN s r).2.2≠0):(bN s r).1=s/\(bN s r).2.1=[]:=by
 unfold bN at h ⊢
 split
 .exact⟨rfl,rfl⟩
 split
 .exact⟨rfl,rfl⟩
 split
 .rename_i b a c;rw[UW b,UW a,UX c]at h;exact UY rfl h
 split
 .rename_i b a c d;rw[UW b,UW a,UW c,UX d]at h;unfold fB at h ⊢
  split
  .exact⟨rfl,rfl⟩
  .rename_i e;rw[UW e]at h
   split at h <;> exact UY rfl h
 rename_i b a c d;rw[UW b,UW a,UW c,UW d]at h
 split at h
 .exact UY rfl h
 split at h
 .exact UY rfl h
 split at h
 .exact UY rfl h
 split at h <;> exact UY rfl h
theorem Rp.bytes_len(r:Rp):r.bytes.length<=100000:=by
 unfold Rp.bytes
 split
 .rename_i a;have c:=Rp.right_len a;have b:=dL [r.kind];have l1:=Js r (cr r.kind);have lo:=wL r.kind;have l2:=A7 r.evs;have l3:=dL [(r.evs.length:Int)];simp only[Vf,Vy]at b l3;unfold nmB at l1;have l4:(if r.kind=4 then aN [(r.evs.length:Int)] else []).length<=10:=by
   split
   .omega
   .simp
  simp only[UZ];omega
 .simp
theorem Rp.bytes_by(r:Rp):aH r.bytes:=by
 unfold Rp.bytes
 split
 .refine dE (dE (dE (iB _) (jx λi _=>iB _)) ?_) (jx λe _=>wM e)
  split
  .exact iB _
  .exact kJ
 .exact kJ
theorem Ba{rows:DR}{s:RL}{r:Rp}(hs:s.seg<2147483647)(a:r.right=true):iw rows s ⟨r.kind,r.bytes⟩=0:=by
 have c:1<=r.kind/\r.kind<=7:=by
  unfold Rp.right at a;simp only[Vd,Vc]at a;omega
 have b:=Rp.bytes_len r;have h0:iv r.kind r.bytes.length=0:=by
  unfold iv;rw[nO,nO]
 unfold iw;dsimp only;rw[UW (by rw[h0];simp),nO]
section
variable {F L:List aE}{H:aC}{K:KE}{Q:aE}{gb db:Nat}{x:GAd}{o:Opt}{s:aI}{recs:Int}{ys:List Oy}{saved:Bool}{num seg:Int}{rl:RL}{rows:DR}{syn:Nat}
theorem Kw{r:Rp}{a:KQ}{c:Nat}{evs:List Ev}(ok:cQ s)(E:s.sunk<=4611686018427387903)(h0:s.kept.length<=1000000)(n:om Q F r a evs)
  (S:∀e∈(bN s r).2.1,e.kind=4->WC e.out.2/\e.out.1.ser.size<=1000000) (R:(bN s r).2.1.length<=1000000)
  (M:rl.ok) (u:rows.length<=549755813888) (B:rl.seg<2147483647) (P:0<=recs/\recs<=1000000000) (h1:ys.length<=1000000000) (G:∀y∈ys,gh Q y)
  (h:aA H (Q::cellsA gb (kY o x ys.length recs) 110::stA Q x.sb s::slA 91 11 x.pa ys.length x.pc (flat bH ys)::bookA x.bb x.rb saved num seg::reelA x.rb db rl::diskX db rows syn::F))
  (k1:(bN s r).2.2≠0->∀Q' A,aM Q Q'->aA A (Q'::cellsA gb (kY o x ys.length recs) 110::stA Q' x.sb s::slA 91 11 x.pa ys.length x.pc (flat bH ys)::bookA x.bb x.rb saved num seg::reelA x.rb db rl::diskX db rows syn::F)->K (aD (bN s r).2.2) A)
  (k2:(bN s r).2.2=0->∀Q' C pa pc A,aM Q Q'->C.map Oy.o=ys.map Oy.o++(bN s r).2.1.flatMap di->(∀y∈C,gh Q' y)->
   aA A (Q'::cellsA gb (kY o { x with pa:=pa,pc:=pc } C.length (recs+1)) 110::stA Q' x.sb (bN s r).1::slA 91 11 pa C.length pc (flat bH C)::bookA x.bb x.rb saved num seg::reelA x.rb db (dm rows rl ⟨r.kind,r.bytes⟩)::diskX db (fV rows rl ⟨r.kind,r.bytes⟩) syn::F)->K (aD 0) A) :
  CF 47 #[PA gb 0,.agg ⟨df r a c⟩] H K:=by
 refine cN 47 0x11217491d21b111c [[(5,sP)]] ?_;refine h.al λb _ h=>⟨some ⟨x.sb,0,none⟩,h.r 2,some ⟨x.bb,0,none⟩,h.r 2,some ⟨x.rb,0,none⟩,h.r 5,?_⟩
 refine⟨_,G0 (h.o [6,0,1,2,3,4,5,7] 8),?_⟩;intro Jn hJ;refine⟨λj=>UY (Va j) (by omega),λ_=>hJ _ _ ?_⟩
 refine⟨_,_,_,_,_,_,_,_,_,_,_,_,_,_,h.q 0,?_⟩;have h:=h.o [1,3,0,2,4,5,6,7] 8;have N:om Q (cellsA b (df r a c) 61::cellsA gb (kY o x ys.length recs) 110::slA 91 11 x.pa ys.length x.pc (flat bH ys)::bookA x.bb x.rb saved num seg::reelA x.rb db rl::diskX db rows syn::F) r a evs:=
  ⟨n.eq,λH h=>n.rd H (h.o [] 6),n.labs,n.len,n.vals⟩
 refine Ke ok E (by omega) N h λD ea ec H2 k h=>⟨_,_,_,_,rfl,λj=>?_,λj=>?_⟩
 .have w:(bN s r).2.2≠0:=by simpa using j
  have e1:=(T7 w).1;rw[e1]at h;exact k1 w D _ k (h.o [0,4,2,5,6,7,8] 9)
 have w:(bN s r).2.2=0:=by simpa using j
 have I:=su w;have hA:=Ba (rows:=rows) B I;have hk:1<=r.kind/\r.kind<=7:=by
  unfold Rp.right at I;simp only[Vd,Vc]at I;omega
 obtain⟨d,W⟩:∃d,(bN s r).2.1=d:=⟨_,rfl⟩;rw[W]at h S R k2 ⊢;have U:=Rp.bytes_len r;refine⟨some ⟨x.bb,0,none⟩,h.r 4,_,h.r 3,_,_,_,_,_,_,_,_,_,_,_,_,_,_,h.q 3,?_⟩;refine Sq n.eq h ⟨λH h=>n.rd H (h.o [] 9),λe w H h=>((n.labs e w).sub k).at h 0 rfl⟩ (by have:=n.len;omega) λda dc H3 h=>⟨_,_,_,rfl,h.r 4,h.r 5,?_⟩
 refine h.al λb1 _ h=>⟨h.r 5,h.r 6,?_⟩
 have h:=h.o [8,9,10,0,1,2,3,4,5,6,7] 11;refine Qk h (λY=>UY Y (by omega)) λ_=>?_
 have h:=h.o [1,2,0,3,4,5,6,7,8,9,10] 11;have f:([(⟨da,dc,r.bytes⟩:Fy)]:List Fy).flatMap Fy.bs=r.bytes:=by simp
 refine G3 (parts:=[⟨da,dc,r.bytes⟩]) (kind:=r.kind) M u h (λH h=>h.ce_rd 1 rfl) (λH h y t=>by rw[Vo]at t;subst t;exact h.sl_rd 2 rfl) (by rw[f];exact Rp.bytes_by r) (by simp) (by rw[f];omega) λH4 h=>⟨_,_,rfl,_,_,rfl,λj=>?_,λj=>?_⟩
 .rw [f,hA]at j;exact UY j (by simp)
 rw[f]at h;refine h.st 9 rfl rfl ?_;intro H5 h;refine⟨_,h.r 9,?_⟩;refine h.st 9 rfl rfl ?_;intro V h;refine⟨_,_,_,h.r 9,?_⟩;have Z:i64.wrap (recs+1)=recs+1:=aJ;have h:aA V (_::_::_::_::_::D::slA 305 87 ea d.length ec (flat dQ d)::_::_::cellsA gb (kY o x ys.length (i64.wrap (recs+1))) 110::slA 91 11 x.pa ys.length x.pc (flat bH ys)::F):=h;rw[Z]at h;have h:=h.o [5,6,7,9,10,2,0,1] 11;refine Kq R S h (λH h=>h.sl_rd 0 rfl) λO i wa wc H7 v hm J h=>⟨_,_,_,rfl,h.r 4,?_⟩
 have T:i.length<=1000000:=by
  have e1:i.length=(d.flatMap di).length:=by rw[<-hm,Vl]
  have:∀l:List cu,(l.flatMap di).length<=l.length:=by
   intro l
   induction l with
   | nil=>simp
   | cons e l ih=>
    rw[V6,UZ,Vf];have:(di e).length<=1:=by unfold di;split <;> (try split) <;> (try split) <;> (try split) <;> simp
    omega
  have:=this d;omega
 refine h.append (m:=i.length) (ws:=flat bH i) slOy 5 rfl (h.sl_rd 1 rfl) (eZ ja _) (l8 pq _) (by omega) (by omega) λpa pc H8 h=>⟨_,_,_,rfl,?_⟩
 refine h.st 4 rfl rfl ?_;intro H9 h;have e2:ys.length+i.length=(ys++i).length:=by rw[UZ]
 have h:aA H9 (O::_::_::stA D x.sb (bN s r).1::cellsA gb (kY o { x with pa:=pa,pc:=pc } (ys.length+i.length) (recs+1)) 110::slA 91 11 pa (ys.length+i.length) pc (flat bH ys++flat bH i)::_):=h;rw[e2,<-dT]at h;have h:=h.o [0,4,3,5,6,7,8] 9;have L:=sq v (h.o [2,0,1,3,4,5,6] 7);refine k2 w O (ys++i) pa pc _ (k.trans v) (by rw[Vv,hm]) (λy t=>?_) (L.o [1,2,0,3,4,5,6] 7)
 rcases Vz.1 t with t|t
 .exact (G y t).sub (k.trans v)
 .exact J y t
end
def fg(o:Opt):Bool:=fC o.cfg&&decide (1<=o.probes/\o.probes<=1024)&&decide (1<=o.period/\o.period<=1099511627776)&&decide (64<=o.segment/\o.segment<=1048576)&&decide (1<=o.save/\o.save<=1048576)
section
variable {F L:List aE}{H:aC}{K:KE}{Q:aE}{o:Opt}
theorem Bb(h:aA H F)(k:∀a,aA a F->K (.bool (fg o)) a):CF 35 #[.agg ⟨gV o⟩] H K:=by
 refine cM 35 284 ?_;refine h.al λb _ h=>⟨_,h.r 0,?_⟩
 have key:∀(r1:Int) a,(r1=0↔1<=o.probes/\o.probes<=1024)->aA a F->
   K (.bool (((((((fC o.cfg&&(decide (r1=0)))&&(decide (1<=o.period)))&&(decide (o.period<=1099511627776)))&&(decide (64<=o.segment)))&&(decide (o.segment<=1048576)))&&(decide (1<=o.save)))&&(decide (o.save<=1048576)))) a:=by
  intro r1 a f h;have e:(((((((fC o.cfg&&(decide (r1=0)))&&(decide (1<=o.period)))&&(decide (o.period<=1099511627776)))&&(decide (64<=o.segment)))&&(decide (o.segment<=1048576)))&&(decide (1<=o.save)))&&(decide (o.save<=1048576)))=fg o:=by
   unfold fg;rw[VH];simp only[Vd,Vc];rw[f]
   constructor
   .rintro⟨⟨⟨⟨⟨⟨⟨h1,h2⟩,h3⟩,h4⟩,h5⟩,h6⟩,h7⟩,h8⟩;exact⟨⟨⟨⟨h1,h2⟩,h3,h4⟩,h5,h6⟩,h7,h8⟩
   .rintro⟨⟨⟨⟨h1,h2⟩,h3,h4⟩,h5,h6⟩,h7,h8⟩;exact⟨⟨⟨⟨⟨⟨⟨h1,h2⟩,h3⟩,h4⟩,h5⟩,h6⟩,h7⟩,h8⟩
  rw[e];exact k _ h
 refine Ks h (λj=>⟨_,_,rfl,?_⟩) λi pb m h=>⟨_,_,rfl,?_⟩
 .refine⟨_,_,_,_,_,_,_,_,_,h.q 0,AT (c:=o.cfg) h λd h=>⟨_,rfl,_,λ_=>h.r 0,_,λ_=>h.r 0,_,λ_=>h.r 0,_,λ_=>h.r 0,_,λ_=>h.r 0,_,λ_=>h.r 0,?_⟩⟩
  exact key 11 _ (by omega) h.tl
 .refine⟨_,_,_,_,_,_,_,_,_,h.q 1,AT (c:=o.cfg) h λd h=>⟨_,rfl,_,λ_=>h.r 1,_,λ_=>h.r 1,_,λ_=>h.r 1,_,λ_=>h.r 1,_,λ_=>h.r 1,_,λ_=>h.r 1,?_⟩⟩
  exact key 0 _ (by omega) h.tl.tl
end
theorem bvI(x:Int):(BitVec.ofInt 64 x).toNat=(x%18446744073709551616).toNat:=by rw[BitVec.toNat_ofInt];rfl
theorem bv_ones:BitVec.ofInt 64 (18446744073709551615:Int)=BitVec.allOnes 64:=by decide
theorem bv_ones':BitVec.ofInt 64 (-1:Int)=BitVec.allOnes 64:=by decide
theorem Kx:BitVec.ofInt 64 (0:Int)=0#64:=by decide
theorem T8{x:Int}(h:0<=x/\x<18446744073709551616):aY .xor .u64 x 0=x:=by
 unfold aY;show u64.wrap ((BitVec.ofInt 64 x^^^BitVec.ofInt 64 0).toNat:Int)=x;rw[Kx,BitVec.xor_zero,bvI,dd];omega
theorem T9{x:Int}(h:0<=x/\x<18446744073709551616):aY .xor .u64 x 18446744073709551615=18446744073709551615-x:=by
 unfold aY;show u64.wrap ((BitVec.ofInt 64 x^^^BitVec.ofInt 64 18446744073709551615).toNat:Int)=_;rw[bv_ones,BitVec.xor_allOnes,BitVec.toNat_not,bvI,dd];omega
theorem TA{x:Int}(h:aF x):aY .xor .i64 x 0=x:=by
 unfold aY aF at *;show i64.wrap ((BitVec.ofInt 64 x^^^BitVec.ofInt 64 0).toNat:Int)=x;rw[Kx,BitVec.xor_zero,bvI,jI];omega
theorem TB{x:Int}(h:aF x):aY .xor .i64 x (-1)=-x-1:=by
 unfold aY aF at *;show i64.wrap ((BitVec.ofInt 64 x^^^BitVec.ofInt 64 (-1)).toNat:Int)=_;rw[bv_ones',BitVec.xor_allOnes,BitVec.toNat_not,bvI,jI];omega
theorem andU_one{n:Nat}(h:n<18446744073709551616):aY .and .u64 (n:Int) 1=((n%2:Nat):Int):=by
 have:=and64 (m:=1) h (by decide);rw[Nat.and_one_is_mod]at this;exact this
theorem turnI_eq{v:Int}(h:aF v):qk v=if 0<=v then 2*v else -2*v-1:=by
 unfold qk;show aY .xor .u64 (u64.wrap (u64.wrap v*2^1)) (u64.wrap (Int.fdiv v (2^63)))=_;unfold aF at h;have e2:((2:Int)^63)=9223372036854775808:=by decide
 have e1:((2:Int)^1)=2:=by decide
 rw[e1,e2]
 split
 .have a:Int.fdiv v 9223372036854775808=0:=by
   rw[Wx v (by decide)];omega
  rw[a,show u64.wrap 0=0 from rfl,T8 (tJ _),dd,dd];omega
 .have a:Int.fdiv v 9223372036854775808=-1:=by
   rw[Wx v (by decide)];omega
  rw[a,show u64.wrap (-1)=18446744073709551615 from rfl,T9 (tJ _),dd,dd];omega
theorem TD{n:Nat}(h:n<18446744073709551616):rI n=if n%2=0 then ((n/2:Nat):Int) else -((n/2:Nat):Int)-1:=by
 unfold rI;show aY .xor .i64 (i64.wrap (Int.fdiv n (2^1))) (i64.wrap (0-i64.wrap (aY .and .u64 n 1)))=_;have e1:((2:Int)^1)=2:=by decide
 rw[e1,andU_one h,Wx _ (by decide)];have b:i64.wrap ((n:Int)/2)=((n/2:Nat):Int):=by rw[jI];omega
 rw[b]
 split
 .rename_i h0;rw[h0];show aY .xor .i64 _ 0=_;exact TA (by unfold aF;omega)
 .rename_i h0;have a:n%2=1:=by omega
  rw[a];show aY .xor .i64 _ (-1)=_;exact TB (by unfold aF;omega)
theorem Kz{v:Int}(h:aF v):rI (turnN v)=v:=by
 rw[TD (tK v)];have e:=zg v;rw[turnI_eq h]at e;unfold aF at h
 split at e <;> split <;> omega
theorem Bc{u:Nat}(h:u<18446744073709551616)(r:List Int):rdU 0 0 (bQ u++r)=.ok u (bQ u).length:=by
 have:=vX (w:=u) (acc:=0) (i:=0) r (by simpa using h) (by omega) (by omega);simpa using this
theorem oo{u:Nat}(h:u<18446744073709551616)(r:List Int):bK ⟨0,bQ u++r⟩=(u,⟨0,r⟩):=by
 unfold bK;rw[UW (by simp),Bc h];simp
theorem TE{v:Int}(h:aF v):i64.wrap ((u64N v:Nat):Int)=v:=by
 unfold aF at h;have:=wN v;rw[<-this,dd,jI];omega
theorem usB1(v:Int):aN [v]=bQ (u64N v):=by simp[aN]
theorem mQ(v:Int)(l:List Int):aN (v::l)=aN [v]++aN l:=by simp[aN]
theorem intsB1(v:Int):cX [v]=bQ (turnN v):=by simp[cX]
theorem K0{v:Int}(h:0<=v)(a:v<18446744073709551616):((u64N v:Nat):Int)=v:=by
 rw[<-wN,dd];omega
theorem uv{v:Int}(h:0<=v)(a:v<18446744073709551616)(r:List Int):eA ⟨0,aN [v]++r⟩=.ok (v,⟨0,r⟩):=by
 unfold eA;rw[usB1,oo (rZ v),K0 h a];rfl
theorem kC{v:Int}(h:aF v)(r:List Int):cG ⟨0,aN [v]++r⟩=.ok (v,⟨0,r⟩):=by
 unfold cG;rw[usB1,oo (rZ v),TE h];rfl
theorem uw{v:Int}(h:aF v)(r:List Int):ge ⟨0,cX [v]++r⟩=.ok (v,⟨0,r⟩):=by
 unfold ge dF;rw[intsB1,oo (tK v),Kz h];rfl
theorem Bd{m:Int}{n:Nat}(h:(n:Int)<=m)(a:n<18446744073709551616)(r:List Int):bX m ⟨0,bQ n++r⟩=((n:Int),⟨0,r⟩):=by
 unfold bX;rw[UW (by simp),Bc a];dsimp only;rw[nO];simp
theorem ux{m:Int}{n:Nat}(h:(n:Int)<=m)(a:n<9223372036854775808)(r:List Int):dP m ⟨0,aN [(n:Int)]++r⟩=.ok ((n:Int),⟨0,r⟩):=by
 unfold dP;have e:u64N (n:Int)=n:=by have:=K0 (v:=(n:Int)) (by omega) (by omega);omega
 rw[usB1,e,Bd h (by omega)];rfl
theorem uy{m v:Int}(h:0<=v/\v<=m)(a:aF v)(r:List Int):upR m ⟨0,aN [v]++r⟩=.ok (v,⟨0,r⟩):=by
 unfold upR;rw[kC a];dsimp only;rw[UX (by simp[inM,h])]
theorem TF(s:Fa):(fe s).length=s.size:=by
 unfold fe;simp
theorem uz{m:Int}{s:Fa}(h:(s.size:Int)<=m)(b:s.size<18446744073709551616)(r:List Int):aZ m ⟨0,cZ s++r⟩=(fe s,⟨0,r⟩):=by
 unfold aZ cZ;rw[UW (by simp),Vj,Bc b];dsimp only;have a:=TF s;rw[nO,UW (by simp only[UZ];omega)];rw[WA,WL (by omega),V2 (by omega),<-WM,WA,<-a,WA]
theorem xm(s:Fa):bF (fe s)=s:=by
 unfold bF;apply ByteArray.ext;apply Array.toList_inj.1;rw[strOfNums_data];unfold fe;apply Wa
 .simp
 .intro i b a;simp
abbrev bL(l:List UInt8):Fa:=⟨l.toArray⟩
theorem qF(l:List UInt8):aX (bL l)=l:=by simp[aX,bL]
theorem py(s:Fa):bL (aX s)=s:=by
 apply ByteArray.ext;simp[aX,bL]
theorem sw{s t:Fa}(h:aX s=aX t):s=t:=by rw[<-py s,<-py t,h]
theorem pz(s t:Fa):aX (s++t)=aX s++aX t:=by
 unfold aX;rw[ByteArray.data_append,Array.toList_append]
theorem sx(s:Fa)(i j:Nat):aX (s.extract i j)=((aX s).drop i).take (j-i):=by
 unfold aX;rw[ByteArray.data_extract,Array.toList_extract]
theorem K2{c:UInt8}{a b:List UInt8}(h:c∉a):cU c (a++c::b)=a.length:=by
 unfold cU;have e:(a++c::b).idxOf c=a.length:=by
  rw[List.idxOf_append,UW h,List.idxOf_cons_self];omega
 rw[e,UX (by simp)]
theorem K3{c:UInt8}{a:List UInt8}(h:c∉a):cU c a=-1:=by
 unfold cU;rw[UW];intro b;exact h (List.idxOf_lt_length_iff.1 b)
theorem K4{c:UInt8}{s:Fa}{a b:List UInt8}(e:aX s=a++c::b)(h:c∉a):fZ c s=(bL a,bL b,true):=by
 unfold fZ;have hs:s.size=a.length+(b.length+1):=by rw[<-kQ,e];simp
 rw[e,K2 h,pO];congr 1
 .apply sw;rw[sx,e,qF];simp
 .congr 1;apply sw;rw[sx,e,qF];have:((a.length:Int)).toNat+1=a.length+1:=by omega
  rw[this,<-WM,WA,List.drop_one,List.tail_cons];exact V2 (by omega)
theorem cutS_no{c:UInt8}{s:Fa}(h:c∉aX s):fZ c s=(s,⟨#[]⟩,false):=by
 unfold fZ;rw[K3 h,UW (by decide)]
theorem sufS_at{c:UInt8}{s:Fa}{a:List UInt8}(e:aX s=a++[c]):mD c s=(bL a,true):=by
 unfold mD;have hs:s.size=a.length+1:=by rw[<-kQ,e];simp
 have b:s.extract (s.size-1) s.size=(⟨#[c]⟩:Fa):=by
  apply sw;rw[sx,e,hs];simp
 rw[b,UX (by simp;omega)];congr 1;apply sw;rw[sx,e,qF,hs];simp
theorem join2(p q:List UInt8)(r:List (List UInt8)):Go.Lib.join (p::q::r) [44]=p++44::Go.Lib.join (q::r) [44]:=by
 rw[Go.Lib.join_cons,Go.Lib.join_cons];simp[Go.Lib.joinTail]
theorem K5:∀{ps:List (List UInt8)} {n:Nat} {s:Fa},ps≠[]->(∀p∈ps,(44:UInt8)∉p)->ps.length<=n+1->aX s=Go.Lib.join ps [44]->iW n s=ps.map bL
 | [],_,_,h,_,_,_=>UY rfl h
 | [p],n,s,_,hp,_,e=>by
  have e:aX s=p:=by rw[e,Go.Lib.join_one]
  have a:(44:UInt8)∉aX s:=by rw[e];exact hp p (Vn ..)
  have b:s=bL p:=by rw[<-e,py]
  cases n with
  | zero=>simp[iW,b]
  | succ n=>
   unfold iW;rw[K3 a,UX (by decide),b];rfl
 | p::q::r,0,s,_,_,hl,_=>by simp at hl
 | p::q::r,n+1,s,_,hp,hl,e=>by
  have e:aX s=p++44::Go.Lib.join (q::r) [44]:=by rw[e,join2]
  have a:=hp p (Vn ..);have hs:s.size=p.length+((Go.Lib.join (q::r) [44]).length+1):=by rw[<-kQ,e];simp
  unfold iW;rw[e,K2 a,nO];have e1:s.extract 0 ((p.length:Int)).toNat=bL p:=by
   apply sw;rw[sx,e,qF];simp
  have e2:aX (s.extract (((p.length:Int)).toNat+1) s.size)=Go.Lib.join (q::r) [44]:=by
   rw[sx,e,Vi,<-WM,WA,List.drop_one,List.tail_cons];exact V2 (by omega)
  rw[e1,K5 (n:=n) (by simp) (λx c=>hp x (Vq _ c)) (by simpa using hl) e2]
  rfl
theorem Be{c:UInt8}(h:oZ c=true):c≠44/\c≠61/\c≠123/\c≠125:=by
 unfold oZ lowC at h;refine⟨?_,?_,?_,?_⟩ <;> (rintro rfl;revert h;decide)
theorem valC_not{c:UInt8}(h:valC c=true):c≠44/\c≠61/\c≠123/\c≠125:=by
 unfold valC at h;refine⟨?_,?_,?_,?_⟩ <;> (rintro rfl;revert h;decide)
theorem Bf{s:Fa}(h:jV s=true):∀c∈aX s,oZ c=true:=by
 unfold jV at h;simp only[Vd,VL]at h;exact h.2
theorem K6{l:bR}(h:ig l=true):(∀c∈aX l.value,valC c=true)/\jV l.name=true:=by
 unfold ig at h;simp only[Vd,VL]at h;exact⟨h.1.2,h.2⟩
theorem xn(l:bR):aX (fw l)=aX l.name++61::aX l.value:=by
 unfold fw;rw[pz,pz,Vj];rfl
theorem partL_no{l:bR}(h:ig l=true):(44:UInt8)∉aX (fw l):=by
 obtain⟨a,b⟩:=K6 h;rw[xn];simp only[Vz,Vm,not_or];exact⟨λhm=>(Be (Bf b _ hm)).1 rfl,by decide,λhm=>(valC_not (a _ hm)).1 rfl⟩
theorem K7:∀{ps:List (List UInt8)},(∀p∈ps,1<=p.length)->ps.length<=(Go.Lib.join ps [44]).length
 | [],_=>by simp
 | [p],h=>by rw[Go.Lib.join_one];have:=h p (Vn ..);simpa using this
 | p::q::r,h=>by
  have b:=K7 (ps:=q::r) λx a=>h x (Vq _ a)
  rw[join2];simp only[Vf,UZ]at *;omega
theorem TG{labs:List bR}(d:∀l∈labs,ig l=true)(e:labs.length<=8):kz (labs.map fw)=some labs:=by
 have key:∀j,j<=labs.length->kz ((labs.take j).map fw)=some (labs.take j):=by
  intro j
  induction j with
  | zero=>intro _;rfl
  | succ j b=>
   intro f;have b:=b (by omega);have a:j<labs.length:=by omega
   rw[Wi,List.getElem?_eq_getElem a,Option.toList_some,Vv];unfold kz at b ⊢;rw[Wr,b];show rY (some (labs.take j)) (fw labs[j])=_;have d:=d _ (Vk a);have c:(61:UInt8)∉aX labs[j].name:=λhm=>(Be (Bf (K6 d).2 _ hm)).2.1 rfl
   unfold rY;rw[K4 (xn labs[j]) c];dsimp only;rw[Vx,UX (by simp;omega),py,py]
 have:=key labs.length (Vg _)
 rwa[V8]at this
theorem TH{name:Fa}{labs:List bR}(h:fu name labs=true):ij (fY name labs)=(name,labs,true):=by
 have e:=mC h;have c:(123:UInt8)∉aX name:=λhm=>(Be (Bf e.named _ hm)).2.2.1 rfl
 unfold fY;rw[UX h]
 split
 .rename_i h0;subst h0;unfold ij;rw[cutS_no c];dsimp only;rw[UW (by simp),UX h]
 .rename_i h0;have f:aX (jW labs)=Go.Lib.join ((labs.map fw).map aX) [44]:=qF _;have e1:aX (((name++(⟨#[123]⟩:Fa))++jW labs)++(⟨#[125]⟩:Fa))=aX name++123::(aX (jW labs)++[125]):=by
   rw[pz,pz,pz,Vj,Vj];rfl
  have j:gO (jW labs)=labs.map fw:=by
   have d:∀p∈(labs.map fw).map aX,(44:UInt8)∉p/\1<=p.length:=by
    intro p a;obtain⟨b,hb,rfl⟩:=Vh.1 a;obtain⟨l,i,rfl⟩:=Vh.1 hb;exact⟨partL_no (e.val l i),by rw[xn];simp;omega⟩
   have:=K7 (ps:=(labs.map fw).map aX) λp a=>(d p a).2
   have:=K5 (ps:=(labs.map fw).map aX) (n:=(jW labs).size) (s:=jW labs) (by simpa using h0) (λp a=>(d p a).1) (by rw[<-kQ,f];omega) f
   unfold gO;rw[this,VM,VM];apply Wp;intro l _;exact py _
  unfold ij;rw[K4 e1 c];dsimp only;rw[UX rfl,sufS_at (qF _)];dsimp only;rw[UX rfl,py,j,TG e.val e.len,py];dsimp only;rw[UX h]
theorem K8{labs:List bR}(b:∀l∈labs,ig l=true)(r:List Int):∀j,j<=labs.length->dK j ⟨0,labs.flatMap iU++r⟩=(labs.take j,⟨0,(labs.drop j).flatMap iU++r⟩)
 | 0,_=>rfl
 | j+1,h=>by
  have c:=K8 b r j (by omega);have a:j<labs.length:=by omega
  have hs:=rW (b _ (Vk a));have e:(labs.drop j).flatMap iU++r=cZ labs[j].name++(cZ labs[j].value++((labs.drop (j+1)).flatMap iU++r)):=by
   rw[VP a,V6];simp[iU]
  unfold dK;rw[c];dsimp only;rw[e,uz (m:=64) (by omega) (by omega)];dsimp only;rw[uz (m:=64) (by omega) (by omega),xm,xm,Wi,List.getElem?_eq_getElem a];rfl
theorem TJ{name:Fa}{labs:List bR}(h:fu name labs=true)(r:List Int):cK ⟨0,iV name labs++r⟩=⟨name,labs,0,⟨0,r⟩⟩:=by
 have a:=mC h;have hs:=rV a.named;unfold iV;rw[UX h];have e:serB name labs++r=cZ name++(bQ labs.length++(labs.flatMap iU++r)):=by unfold serB;simp
 unfold cK;rw[e,uz (m:=64) (by omega) (by omega)];dsimp only;have b:=a.len;rw[Bd (m:=8) (by omega) (by omega)];dsimp only;rw[Vi,K8 a.val r labs.length (Vg _),V8,VY];dsimp only;rw[UW (by simp),xm,UX h];rfl
def flN(bs:List Bool):Nat->Int
 | 0=>0
 | n+1=>flN bs n+if bs.getD n false then (2:Int)^n else 0
def cbB(k:Ky)(c:Cl):List Int:=cX [k.win]++dD [k.ser,bF (dh c)]
abbrev smB(x:bP):List Int:=aN [x.asked,x.got,x.sent,x.came]
abbrev rwB(p:Int×Pv):List Int:=aN [p.1]++evB p.2
def agB1(a:Int)(e:En)(fl:Fl)(st:br):List Int:=
 (aN [a,e.epoch,e.boot,e.time,fl.t,flN [fl.out,fl.was,fl.held] 3]++cX [st.last])++aN [flN [st.ck.held] 1,st.ck.streak,(st.ck.smps.length:Int)]
def agB(a:Int)(e:En)(fl:Fl)(st:br):List Int:=
 ((agB1 a e fl st++st.ck.smps.flatMap smB)++aN [st.hs.next,(st.hs.rows.length:Int)])++st.hs.rows.flatMap rwB
theorem xo(bs:List Bool):∀n,n<=3->0<=flN bs n/\flN bs n<(2:Int)^n
 | 0,_=>⟨V7 _,by show (0:Int)<1;decide⟩
 | n+1,h=>by
  have b:=xo bs n (by omega);have a:(2:Int)^(n+1)=2^n+2^n:=by rw[Int.pow_succ];omega
  unfold flN;rw[a]
  split <;> omega
section
variable {F L:List aE}{H:aC}{K KP:KE}{Q Q':aE}{sb:Nat}{s:aI}
theorem K9{b:Nat}{bs:List Bool}(A:bs.length<=3)(h:aA H F)(i:Nat)(s:aW i F=cellsA b (bs.map .bool) 4):bU Tryz.prog 119 #[.slice (some ⟨b,0,none⟩) bs.length bs.length] H (aD (flN bs bs.length)):=by
 refine cN 119 0x1121561239925117494c [[(3,sI)],[(3,sI),(8,sI)]] ?_;refine⟨λsum i v=>v=H/\∃j:Nat,i=j/\j<=bs.length/\sum=flN bs j,λ_ i _=>bs.length-i.toNat,⟨rfl,0,rfl,by omega,rfl⟩,?_⟩
 rintro sum t n ⟨rfl,j,rfl,B,rfl⟩;refine⟨λf=>?_,λf=>?_⟩
 .have c:j<bs.length:=by have:=Va f;omega
  have d:=(h.ce_rd i s).at c;refine⟨by omega,_,_,d.1,_,d.2,?_⟩;have hb:=xo bs j (by omega);have y:(2:Int)^j<=4:=by
   rcases (by omega:j=0\/j=1\/j=2) with rfl|rfl|rfl <;> decide
  have hs:flN bs (j+1)=flN bs j+if bs[j] then (2:Int)^j else 0:=by
   show flN bs j+(if bs.getD j false then _ else _)=_
   rw[og _ c]
  intro w u;have a:w (flN bs (j+1)) n:=by
   refine u _ _ ?_
   conv=>whnf
   rw[aJ (x:=(j:Int)+1)];exact⟨⟨rfl,j+1,by omega,c,rfl⟩,by dsimp only;omega⟩
  refine⟨λm=>⟨by omega,?_⟩,λm=>?_⟩
  .rw [hs,UX m]at a;have e:i64.wrap (1*2^(min (Int.toNat (j:Int)) (i64.bits)))=(2:Int)^j:=by
    rcases (by omega:j=0\/j=1\/j=2) with rfl|rfl|rfl <;> decide
   conv=>whnf
   rw[e,aJ];exact a
  .rw [hs,UW (by rw[m];simp),Int.add_zero]at a;exact a
 .have k:j=bs.length:=by have:=Vb f;omega
  subst k;exact⟨rfl,rfl⟩
theorem KA{k:Ky}{c:Cl}(wc:WC c)(hs:k.ser.size<=5000):(cbB k c).length<=10100:=by
 have a:=mq [k.win];have d:=lE (s:=k.ser) (by omega);have f:=ud wc;have b:=lE (s:=bF (dh c)) (by rw[nI];omega);rw[nI]at b;have e:dD [k.ser,bF (dh c)]=cZ k.ser++cZ (bF (dh c)):=by simp[dD]
 unfold cbB;rw[UZ,e,UZ];simp only[Vf,Vy]at a;omega
theorem KC{key:Ky}{c:Cl}(wc:WC c)(hs:key.ser.size<=5000)(h:aA H F)
  (k:∀a t u,aA u (slA 5 1 a (cbB key c).length t ((cbB key c).map U8)::F)->K (.slice a (cbB key c).length t) u):CF 57 #[aggK key,aggC c] H K:=by
 have m:=KA wc hs;have A:=ud wc;have D:=nI (dh c);refine cM 57 28 ?_;refine h.al λb _ h=>?_
 refine h.al λb1 _ h=>⟨_,h.r 1,_,h.r 1,_,_,_,_,_,_,_,_,h.rda 0 rfl,?_⟩
 refine h.al λb2 _ h=>⟨h.rda 1 rfl,h.r 2,?_⟩
 refine qy h 0 rfl λa1 c1 C h=>⟨_,_,_,rfl,h.rda 2 rfl,h.r 3,?_⟩
 refine II wc h λa2 c2 E h=>⟨_,_,_,rfl,h.r 4,?_⟩
 have f:=rH (c:=c2) (bs:=dh c) (by
  rcases (kr (F:=star _) h).2 with ⟨j,_⟩|⟨b,pre,post,y,fr,j,_⟩
  .exact .inl j
  .exact .inr ⟨_,_,j⟩) (h.sl_rd 0 rfl)
 refine⟨_,f,?_⟩;refine h.al λb3 _ h=>?_
 have e:dD [key.ser,bF (dh c)]=cZ key.ser++cZ (bF (dh c)):=by simp[dD]
 have l1:=lE (s:=key.ser) (by omega);have l2:=lE (s:=bF (dh c)) (by omega);refine wg (ts:=[key.ser,bF (dh c)]) h (λH h=>h.ce_rd 0 rfl) (λi=>?_) (by
   intro x v;simp only[Vm,We,or_false]at v
   rcases v with rfl|rfl <;> omega) (by simp) λa3 c3 G h=>⟨_,_,_,rfl,?_⟩
 .have n:(dD ([key.ser,bF (dh c)].take i)).length<=(dD [key.ser,bF (dh c)]).length:=by
   have w:[key.ser,bF (dh c)]=[key.ser,bF (dh c)].take i++[key.ser,bF (dh c)].drop i:=(VO _ _).symm;rw[show (dD [key.ser,bF (dh c)]).length=(dD ([key.ser,bF (dh c)].take i++[key.ser,bF (dh c)].drop i)).length by rw[<-w]];unfold dD;rw[VW,UZ];omega
  rw[e,UZ]at n;omega
 .have d:(cX [key.win]++dD [key.ser,bF (dh c)]).length<=10100:=m;rw[UZ]at d;refine dp h (i:=3) rfl rfl rfl (h.sl_rd 0 rfl) (by omega) λa4 c4 B h=>⟨_,_,_,rfl,?_⟩
  exact k _ _ _ (h.o [3] 7)
theorem KD(l:List bP):(l.flatMap smB).length<=40*l.length:=by
 induction l with
 | nil=>simp
 | cons i l ih=>
  have:(smB i).length<=10*4:=dL [i.asked,i.got,i.sent,i.came];rw[V6,UZ,Vf];omega
theorem KF(l:cy Pv):(l.flatMap rwB).length<=1330*l.length:=by
 induction l with
 | nil=>simp
 | cons i l ih=>
  have a:=dL [i.1];have b:=wO i.2;rw[V6,UZ,Vf,UZ];simp only[Vf,Vy]at a;omega
theorem TK{a:Int}{e:En}{st:br}(ok:cQ s)(ha:0<=a)(A:s.sts[a.toNat]?=some (some st)){p:SAd}{A1 A2 A3 A4 A5:aE}(h:aA H (Q::cellsA sb (dq s p) 145::A1::A2::Ma.markC p.mb p.mm s.ms::Ma.mapF p.mm s.ms.m::A3::A4::strmA Q p.tm s.sts::A5::F))
  (k:∀C B D,aA D (slA 5 1 C (agB a e (bE s.ms a) st).length B ((agB a e (bE s.ms a) st).map U8)::Q::cellsA sb (dq s p) 145::A1::A2::Ma.markC p.mb p.mm s.ms::Ma.mapF p.mm s.ms.m::A3::A4::strmA Q p.tm s.sts::A5::F)->K (.slice C (agB a e (bE s.ms a) st).length B) D) :
  CF 54 #[PA sb 0,aD a,aggE e] H K:=by
 have L:((a.toNat:Nat):Int)=a:=by omega
 have d:=ok.sts st (VA A);have r0:=d.ck.len;have l0:=AW d;refine OB ?_;refine h.al λb _ h=>?_
 have h:=h.o [9,2,3,4,5,6,7,8,10,0,1] 11;obtain⟨N,bl,v,h⟩:=qC h A;have h:=h.o [1,0,2,3,4,5,6,7,8,9,10,11,12] 13;obtain⟨cb,hb,h⟩:=gS.1 h;have u:=qD v h 3 rfl;rw[L]at u;refine⟨_,h.r 5,_,u,_,h.r 5,?_⟩;have h:=h.o [8,9,0,1,2,3,4,5,6,7,10,11,12,13,14] 15;refine Ma.Of_spec (a:=a) h λH1 h=>⟨_,_,_,_,_,rfl,?_⟩
 refine h.al λb1 _ h=>?_
 refine h.st 0 rfl rfl ?_;intro H2 h;refine⟨_,h.r 14,_,h.r 14,_,h.r 14,_,h.r 0,_,h.r 0,_,h.r 0,_,h.r 0,?_⟩;refine h.al λb2 _ h=>⟨h.r 1,h.r 15,h.r 15,h.r 15,_,K9 (bs:=[(bE s.ms a).out,(bE s.ms a).was,(bE s.ms a).held]) (by simp) h 0 rfl,?_⟩
 refine h.al λb3 _ h=>?_
 refine pf (vs:=[a,e.epoch,e.boot,e.time,(bE s.ms a).t,flN [(bE s.ms a).out,(bE s.ms a).was,(bE s.ms a).held] 3]) h (λH h=>h.ce_rd 0 rfl) (by simp) λa1 c1 H3 h=>⟨_,_,_,rfl,cY ⟨_,h.r 6,?_⟩⟩
 have q1:=dL [a,e.epoch,e.boot,e.time,(bE s.ms a).t,flN [(bE s.ms a).out,(bE s.ms a).was,(bE s.ms a).held] 3];have q2:=mq [st.last];have q3:=dL [flN [st.ck.held] 1,st.ck.streak,(st.ck.smps.length:Int)];have q4:=dL [st.hs.next,(st.hs.rows.length:Int)];simp only[Vf,Vy]at q1 q2 q3 q4;unfold agB agB1 at k;generalize aN [a,e.epoch,e.boot,e.time,(bE s.ms a).t,flN [(bE s.ms a).out,(bE s.ms a).was,(bE s.ms a).held] 3]=X1 at *;refine h.al λb4 _ h=>?_
 refine qy h 0 rfl λa2 c2 H4 h=>⟨_,_,_,rfl,?_⟩
 generalize cX [st.last]=X2 at *;refine dp h (i:=2) rfl rfl rfl (h.sl_rd 0 rfl) (by omega) λa3 c3 H5 h=>⟨_,_,_,rfl,?_⟩
 have h:=h.o [9,2,6,7,8,10,11,12,13,14,15,16,17,18,20] 21;refine cY ⟨_,h.rd 4 rfl 0,?_⟩;refine zT h (by omega) λW sc H6 h=>⟨_,_,_,rfl,cY ⟨_,h.rd 5 rfl 0,_,tW (h.o [1] 2),cY ⟨_,h.rd 5 rfl 0,?_⟩⟩⟩
 refine h.al λb5 _ h=>⟨h.rd 6 rfl 0,_,K9 (bs:=[st.ck.held]) (by simp) h 0 rfl,_,Qz (h.o [2] 3),?_⟩
 refine h.al λb6 _ h=>?_
 refine pf (vs:=[flN [st.ck.held] 1,st.ck.streak,(st.ck.smps.length:Int)]) h (λH h=>h.ce_rd 0 rfl) (by simp) λa4 c4 H7 h=>⟨_,_,_,rfl,?_⟩
 generalize aN [flN [st.ck.held] 1,st.ck.streak,(st.ck.smps.length:Int)]=X3 at *;refine dp h (i:=5) rfl rfl rfl (h.sl_rd 0 rfl) (by rw[UZ];omega) λa5 c5 H8 h=>⟨_,_,_,rfl,?_⟩
 have hO:((X1++X2)++X3).length<=100:=by simp only[UZ];omega
 generalize (X1++X2)++X3=O at *;refine⟨λC P B i D=>∃j:Nat,i=j/\j<=st.ck.smps.length/\P=(O++(st.ck.smps.take j).flatMap smB).length/\
  aA D (slA 5 1 C (O++(st.ck.smps.take j).flatMap smB).length B ((O++(st.ck.smps.take j).flatMap smB).map U8)::slA 58 4 W st.ck.smps.length sc (flat eV st.ck.smps)::ckA cb st.ck::Ma.markC p.mb p.mm s.ms::Ma.mapF p.mm s.ms.m::cellsA N [PA cb 0,PA hb 0,aD st.last] 173::hldA Q hb st.hs::mapA aD ptV p.tm (cV 0 bl)::lL Q bl s.sts a.toNat::
   cellsA sb (dq s p) 145::A1::A2::A3::A4::A5::Q::F),
  λ_ _ _ i _=>st.ck.smps.length-i.toNat,⟨0,rfl,by omega,by simp,?_⟩,?_⟩
 .rw [show O++(st.ck.smps.take 0).flatMap smB=O by simp];exact h.o [5,3,4,6,7,8,9,10,11,12,13,14,15,16,17,18] 19
 rintro a6 n6 c6 i H9 ⟨j,rfl,hj,rfl,h⟩;have E:=KD (st.ck.smps.take j);have R:(st.ck.smps.take j).length<=st.ck.smps.length:=by rw[Vx];omega
 refine⟨λc=>?_,λc=>?_⟩
 .have c:j<st.ck.smps.length:=by have:=Va c;omega
  have V:=h.sl_rd 1 rfl;refine⟨by omega,_,_,V.some ky (by omega) c,_,_,_,_,V.els ky c,?_⟩;refine h.al λb8 _ h=>?_
  refine h.st 0 rfl rfl ?_;intro T h;refine⟨_,h.r 0,_,h.r 0,_,h.r 0,_,h.r 0,?_⟩;refine h.al λb9 _ h=>?_
  refine pf (vs:=[st.ck.smps[j].asked,st.ck.smps[j].got,st.ck.smps[j].sent,st.ck.smps[j].came]) h (λH h=>h.ce_rd 0 rfl) (by simp) λa7 c7 S h=>⟨_,_,_,rfl,?_⟩
  have q5:=dL [st.ck.smps[j].asked,st.ck.smps[j].got,st.ck.smps[j].sent,st.ck.smps[j].came];simp only[Vf,Vy]at q5;refine dp h (i:=3) rfl rfl rfl (h.sl_rd 0 rfl) (by rw[UZ];omega) λa8 c8 U h=>⟨_,_,_,rfl,?_⟩
  rw[aJ (x:=(j:Int)+1)];have e5:O++(st.ck.smps.take (j+1)).flatMap smB=(O++(st.ck.smps.take j).flatMap smB)++aN [st.ck.smps[j].asked,st.ck.smps[j].got,st.ck.smps[j].sent,st.ck.smps[j].came]:=by
   rw[jL (f:=smB) c,Vj]
  rw[<-e5]at h ⊢;exact⟨⟨j+1,by omega,c,rfl,h.o [3,4,5,6,7,8,9,10,11,12,13,14,15,16,17,18] 19⟩,by dsimp only;omega⟩
 have y:st.ck.smps.length<=j:=by have:=Vb c;omega
 rw[V2 y]at h E ⊢;have j2:(O++st.ck.smps.flatMap smB).length<=500:=by rw[UZ];omega
 generalize O++st.ck.smps.flatMap smB=O2 at *;refine cY ⟨_,h.r 5,cY ⟨_,h.r 5,?_⟩⟩;have h:=h.o [6,0,2,3,4,5,7,8,9,10,11,12,13,14,15] 16;refine Aw h d.hs.rows.rising (AV d) (by omega) λwa wc T h=>⟨_,_,_,rfl,h.r 6,?_⟩
 have h:=h.o [1,0,2,3,4,5,6,7,8,9,10,11,12,13,14,15] 16;refine Jq h λu8 S h=>⟨_,rfl,?_⟩
 refine Sp h d.hs.rows.rising (AV d) (by omega) λea ec evs U w I h=>⟨_,_,_,rfl,?_⟩
 have Y:evs.length=st.hs.rows.length:=by have:=congrArg List.length w;simpa using this
 refine cY ⟨_,h.r 8,_,uf (h.o [2] 3),?_⟩;refine h.al λh2 _ h=>?_
 refine pf (vs:=[st.hs.next,(st.hs.rows.length:Int)]) h (λH h=>h.ce_rd 0 rfl) (by simp) λa7 c7 Z h=>⟨_,_,_,rfl,?_⟩
 generalize aN [st.hs.next,(st.hs.rows.length:Int)]=X4 at *;refine dp h (i:=6) rfl rfl rfl (h.sl_rd 0 rfl) (by omega) λa8 c8 h8 h=>⟨_,_,_,rfl,?_⟩
 have h5:(O2++X4).length<=600:=by rw[UZ];omega
 generalize O2++X4=O3 at *;have h4:(aG st.hs.rows).length=st.hs.rows.length:=by simp[aG]
 refine⟨λC P B i D=>∃j:Nat,i=j/\j<=st.hs.rows.length/\P=(O3++(st.hs.rows.take j).flatMap rwB).length/\
  aA D (slA 5 1 C (O3++(st.hs.rows.take j).flatMap rwB).length B ((O3++(st.hs.rows.take j).flatMap rwB).map U8)::slA 99 4 ea evs.length ec (flat cw evs)::slA 2 1 wa st.hs.rows.length wc ((aG st.hs.rows).map aD)::hldA Q hb st.hs::ckA cb st.ck::Ma.markC p.mb p.mm s.ms::Ma.mapF p.mm s.ms.m::cellsA N [PA cb 0,PA hb 0,aD st.last] 173::mapA aD ptV p.tm (cV 0 bl)::lL Q bl s.sts a.toNat::
   cellsA sb (dq s p) 145::A1::A2::A3::A4::A5::Q::F),
  λ_ _ _ i _=>st.hs.rows.length-i.toNat,⟨0,rfl,by omega,by simp,?_⟩,?_⟩
 .rw [show O3++(st.hs.rows.take 0).flatMap rwB=O3 by simp];exact h.o [6,2,5,4,7,8,9,10,11,12,13,14,15,16,17,18,19] 20
 rintro a9 n9 c9 i l6 ⟨j,rfl,hj,rfl,h⟩;have E:=KF (st.hs.rows.take j);have R:(st.hs.rows.take j).length<=st.hs.rows.length:=by rw[Vx];omega
 refine⟨λc=>?_,λc=>?_⟩
 .have c:j<st.hs.rows.length:=by have:=Va c;omega
  have M:j<(aG st.hs.rows).length:=by omega
  have n:j<evs.length:=by omega
  have G:=(h.sl_rd 2 rfl).at M;refine⟨by omega,_,_,G.1,_,G.2,?_⟩;refine h.al λr9 _ h=>?_
  refine nJ h 0 rfl λa10 h3 y3 h=>⟨_,_,_,rfl,?_⟩
  have q5:=dL [(aG st.hs.rows)[j]];simp only[Vf,Vy]at q5;refine dp h (i:=2) rfl rfl rfl (h.sl_rd 0 rfl) (by rw[UZ];omega) λh7 l5 r8 h=>⟨_,_,_,rfl,?_⟩
  have J:=h.sl_rd 3 rfl;refine⟨by omega,_,_,J.some fH (by omega) n,_,_,_,_,_,_,J.els fH n,?_⟩;refine Jr (e:=evs[j]) h (λH h=>(I _ (Vk n)).at h 18 rfl) λj3 h9 h0 h=>⟨_,_,_,rfl,?_⟩
  have q6:=wO evs[j].p;refine dp h (i:=3) rfl rfl rfl (h.sl_rd 0 rfl) (by simp only[UZ];omega) λy2 j1 h6 h=>⟨_,_,_,rfl,?_⟩
  rw[aJ (x:=(j:Int)+1)];have ek:(aG st.hs.rows)[j]=st.hs.rows[j].1:=by simp[aG]
  have ep:evs[j].p=st.hs.rows[j].2:=by
   have h1:(evs.map Ev.p)[j]'(by simpa using n)=(st.hs.rows.map (·.2))[j]'(by simpa using c):=by simp only[w]
   simpa using h1
  have e5:O3++(st.hs.rows.take (j+1)).flatMap rwB=((O3++(st.hs.rows.take j).flatMap rwB)++aN [(aG st.hs.rows)[j]])++evB evs[j].p:=by
   rw[jL (f:=rwB) c,ek,ep,Vj,Vj]
  rw[<-e5]at h ⊢;exact⟨⟨j+1,by omega,c,rfl,h.o [3,4,5,6,7,8,9,10,11,12,13,14,15,16,17,18,19] 20⟩,by dsimp only;omega⟩
 .have y:st.hs.rows.length<=j:=by have:=Vb c;omega
  rw[V2 y]at h ⊢;refine k _ _ _ ?_;have h:=h.o [7,4,3,8,9,10,11,12,5,6,13,14,15,0,16] 17;have h:=gS.2 ⟨cb,hb,h⟩;have h:=h.o [1,0,2,3,4,5,6,7,8,9,10,11,12] 13;have h:=sj v h;rw[Km A]at h;exact h.o [9,10,1,2,3,4,5,6,7,0,8] 11
end
def dS(s:aI)(p:Int×En):List Int:=match dM s p.1 with
 | some st=>agB p.1 p.2 (bE s.ms p.1) st
 | none=>[]
def nStr(s:aI):Nat:=(s.sts.filter Option.isSome).length
abbrev ceB(o:Ot):List Int:=cbB o.1 o.2
def kh(s:aI):List Int:=(aN [s.now,s.boots,s.sunk,s.ms.now]++cX [s.ms.value])++aN [(nStr s:Int)]
def jo(s:aI):List Int:=(kh s++(aR 0 s.rows).flatMap (dS s))++aN [(s.cm.length:Int)]
def kZ(s:aI):List Int:=(jo s++(bA s.cm).flatMap ceB)++aN [(s.kept.length:Int)]
def stB(s:aI):List Int:=kZ s++s.kept.flatMap ceB
structure qG(s:aI):Prop where
 cm:∀p∈s.cm,p.1.ser.size<=5000
 kept:∀o∈s.kept,o.1.ser.size<=5000
theorem Bg{α:Type}:∀{l:List (Option α)} {i:Nat},(cV i l).length=(l.filter Option.isSome).length
 | [],i=>rfl
 | none::r,i=>Bg (l:=r) (i:=i+1)
 | some b::r,i=>by
  show (_::cV (i+1) r).length=_;rw[Vf,Bg (l:=r)];rfl
theorem KH{α β:Type}:∀{l:List (Option α)} {m:List (Option β)},l.map Option.isSome=m.map Option.isSome->(l.filter Option.isSome).length=(m.filter Option.isSome).length
 | [],[],_=>rfl
 | x::r,y::m,h=>by
  simp only[V5,List.cons.injEq]at h;have a:=KH h.2;rw[VD,VD,h.1]
  split
  .rw [Vf,Vf,a]
  .exact a
 | [],y::m,h=>by simp at h
 | x::r,[],h=>by simp at h
theorem Bh{m:CM}{o:Ot}(h:o∈bA m):∃p∈m,p.1=o.1:=by
 unfold bA at h;obtain⟨k,a,rfl⟩:=Vh.1 h;have:=(kP _).mem_iff.1 a;obtain⟨p,b,e⟩:=Vh.1 this;exact⟨p,b,e⟩
section
variable {F L:List aE}{H:aC}{K KP:KE}{Q Q':aE}{sb:Nat}{s:aI}
theorem agB_len{a:Int}{e:En}{fl:Fl}{st:br}(b:lM s.cfg st):(agB a e fl st).length<=345000:=by
 have q1:=dL [a,e.epoch,e.boot,e.time,fl.t,flN [fl.out,fl.was,fl.held] 3];have q2:=mq [st.last];have q3:=dL [flN [st.ck.held] 1,st.ck.streak,(st.ck.smps.length:Int)];have q4:=dL [st.hs.next,(st.hs.rows.length:Int)];have q5:=KD st.ck.smps;have q6:=KF st.hs.rows;have d:=b.ck.len;have c:=AW b;unfold agB agB1;simp only[UZ,Vf,Vy]at *;omega
theorem xp(ok:cQ s)(p:Int×En):(dS s p).length<=345000:=by
 unfold dS
 cases h:dM s p.1 with
 | none=>simp
 | some st=>exact agB_len (ok.sts st (VA (Ko h).2))
theorem oq{α:Type}{f:α->List Int}{B:Nat}:∀{l:List α},(∀x∈l,(f x).length<=B)->(l.flatMap f).length<=B*l.length
 | [],_=>by simp
 | x::r,h=>by
  have c:=h x (Vn ..);have b:=oq (l:=r) λy a=>h y (Vq _ a)
  rw[V6,UZ,Vf,Nat.mul_succ];omega
theorem xq{o:Ot}(wc:WC o.2)(hs:o.1.ser.size<=5000):(ceB o).length<=10100:=KA wc hs
theorem KJ:(kh s).length<=60:=by
 have q1:=dL [s.now,s.boots,s.sunk,s.ms.now];have q2:=mq [s.ms.value];have q3:=dL [(nStr s:Int)];unfold kh;simp only[UZ,Vf,Vy]at *;omega
theorem strm_len{tm:Nat}{sts:List (Option br)}(h:aA H (strmA Q tm sts::F)):dj Tryz.prog (Builtin.len_ #[142] 3 #[(.map (some tm))]) H (.int .i64 ((sts.filter Option.isSome).length:Nat)):=by
 obtain⟨bl,hm,h⟩:=kU.1 h;have:=h.mp_len (ty:=3) qA 0 rfl;rw[Bg,KH hm]at this;exact this
theorem Bi(ok:cQ s)(ser:qG s)(hkl:s.kept.length<=50000)(h:aA H (Q::stA Q sb s::F))
  (k:∀a c C,aA C (slA 5 1 a (stB s).length c ((stB s).map U8)::Q::stA Q sb s::F)->K (.slice a (stB s).length c) C) :
  CF 17 #[PA sb 0] H K:=by
 refine cL 17 (.r (.seq (.regJ [(3,sA)]) (.r (.r (.seq (.r (.blk (.rng [sI,.agg [.int .i64,.int .i64,.int .i64]] [none] (.r .reg) (.blk .reg)))) (.r (.seq (.r (.blk (.rng [.agg [.int .i64,.str],.agg [.int .i64,.int .i64,.int .u64,.int .i64,.int .i64,.int .i64,.int .i64,.vec .i64 65]] [none] (.r .reg) (.blk .reg)))) (.r (.seq (.r (.blk (.loop [(95,sI)] (.r (.seq (.cond .no .no) (.seq (.blk (.r .reg)) .reg)))))) (.r .no)))))))))) ?_;refine h.al λb _ h=>?_
 have h:=h.o [2,0,1] 3;obtain⟨p,h⟩:=cW.1 h;intro Jn hJ;have hle:=wX ok.rows;have hagl:((aR 0 s.rows).flatMap (dS s)).length<=345000*64:=by
  have:=oq (f:=dS s) (l:=aR 0 s.rows) (B:=345000) λx _=>xp ok x
  have:345000*(aR 0 s.rows).length<=345000*64:=W5 _ hle;omega
 have hol:=ub (m:=s.cm);have hcl:=ok.sh.len;have hcm:=ok.sh.m2;have hO:∀o∈bA s.cm,(ceB o).length<=10100:=λo V=>by
  obtain⟨q,hq,e⟩:=Bh V;exact xq (xj ok.sh o V) (by rw[<-e];exact ser.cm q hq)
 have O:∀o∈s.kept,(ceB o).length<=10100:=λo V=>xq (ok.kept o V) (ser.kept o V)
 have u:∀y a c C,aA C (cellsA y [.slice a (aN [s.now,s.boots,s.sunk,s.ms.now]).length c] 43::slA 5 1 a (aN [s.now,s.boots,s.sunk,s.ms.now]).length c ((aN [s.now,s.boots,s.sunk,s.ms.now]).map U8)::
   cellsA sb (dq s p) 145::Ro.rollC p.rb p.rm s.cfg.agents::Ro.mapE p.rm s.rows::Ma.markC p.mb p.mm s.ms::Ma.mapF p.mm s.ms.m::shC p.hb p.hm s.cfg.cells::cz p.hm s.cm::strmA Q p.tm s.sts::slA 164 74 p.ka s.kept.length p.kc (flat cI s.kept)::cellsA b [PA sb 0] 40::Q::F)->Jn y 0 C:=by
  intro y a0 c0 H1 h;refine hJ _ _ _ ?_;have q1:=dL [s.now,s.boots,s.sunk,s.ms.now];have q2:=mq [s.ms.value];have q3:=dL [(nStr s:Int)];have q4:=dL [(s.cm.length:Int)];have q5:=dL [(s.kept.length:Int)];simp only[Vf,Vy]at q1 q2 q3 q4 q5;have hS1:=KJ (s:=s);have h8:kh s=(aN [s.now,s.boots,s.sunk,s.ms.now]++cX [s.ms.value])++aN [(nStr s:Int)]:=rfl;have N:jo s=(kh s++(aR 0 s.rows).flatMap (dS s))++aN [(s.cm.length:Int)]:=rfl;have S:kZ s=(jo s++(bA s.cm).flatMap ceB)++aN [(s.kept.length:Int)]:=rfl;have hS2:(jo s).length<=22100000:=by rw[N,UZ,UZ];omega
  have hcl2:((bA s.cm).flatMap ceB).length<=10100*1024:=by
   have h1:=oq (f:=ceB) (l:=bA s.cm) (B:=10100) hO;have:10100*(bA s.cm).length<=10100*1024:=W5 _ (by omega);omega
  have hS3:(kZ s).length<=40000000:=by rw[S,UZ,UZ];omega
  generalize aN [s.now,s.boots,s.sunk,s.ms.now]=X0 at *;refine⟨_,_,_,h.r 0,_,h.rd 11 rfl _,⟨_,h.r 2,_,Ma.Value_spec h 5 rfl,?_⟩⟩;refine h.al λb1 _ h=>⟨h.r 1,?_⟩
  refine qy h 0 rfl λa1 c1 H2 h=>⟨_,_,_,rfl,h.r 2,?_⟩
  refine dp h (i:=3) rfl rfl rfl (h.sl_rd 0 rfl) (by omega) λa2 c2 H3 h=>⟨_,_,_,rfl,?_⟩
  generalize cX [s.ms.value]=X1 at *;refine h.st 2 rfl rfl ?_;intro H4 h;have h:=h.o [2,3,4,5,6,7,8,9,10,11,12,13,14] 15;refine⟨_,_,_,h.r 0,_,h.rd 11 rfl _,⟨_,h.r 2,_,strm_len (h.o [9] 10),?_⟩⟩;refine h.al λb2 _ h=>⟨h.r 1,?_⟩
  refine nJ h 0 rfl λa3 c3 H5 h=>⟨_,_,_,rfl,h.r 2,?_⟩
  refine dp h (i:=3) rfl rfl rfl (h.sl_rd 0 rfl) (by rw[UZ];unfold nStr at q3;omega) λa4 c4 H6 h=>⟨_,_,_,rfl,?_⟩
  rw[show (X0++X1)++aN [((s.sts.filter Option.isSome).length:Int)]=kh s from h8.symm]at h ⊢;refine h.st 2 rfl rfl ?_;intro H7 h;have h:=h.o [2,3,4,5,6,7,8,9,10,11,12,13,14] 15;refine⟨_,h.rd 11 rfl _,⟨_,h.r 2,?_⟩⟩;refine Ro.All_spec h λZ W h=>⟨_,_,rfl,rfl,λR h9 l0 hy=>?_⟩
  have h:=h.rng R;refine Ro.All1_spec (rb:=p.rb) (mb:=p.rm) (most:=s.cfg.agents) (c0:=Z) ok.rows (λj=>exS λq:KQ×Nat=>star [cellsA y [.slice q.1 (kh s++((aR 0 s.rows).take j).flatMap (dS s)).length q.2] 43,slA 5 1 q.1 (kh s++((aR 0 s.rows).take j).flatMap (dS s)).length q.2 ((kh s++((aR 0 s.rows).take j).flatMap (dS s)).map U8),
    cellsA sb (dq s p) 145,Ma.markC p.mb p.mm s.ms,Ma.mapF p.mm s.ms.m,strmA Q p.tm s.sts,cellsA b [PA sb 0] 40,Q,pt (W.size+1) (.loop R)]) (pur False)
   (F:=pt W.size (.deferred (some []))::shC p.hb p.hm s.cfg.cells::cz p.hm s.cm::slA 164 74 p.ka s.kept.length p.kc (flat cI s.kept)::F) ?_ ?_ ?_ ?_
  .refine cJ.2 ⟨(a4,c4),aA.shut [_,_,_,_,_,_,_,_,_] ?_⟩;rw[show kh s++((aR 0 s.rows).take 0).flatMap (dS s)=kh s by simp];exact h.o [3,4,5,8,9,12,14,15,0,2,6,7,1,10,11,13] 16
  .intro j E G H9 K1 h kt _;obtain⟨⟨a5,c5⟩,h⟩:=cJ.1 h;have h:=aA.open (A:=[_,_,_,_,_,_,_,_,_]) h;dsimp only at h;refine hy _ _ _ ?_;refine⟨_,_,_,_,rfl,h.getO 8 rfl,?_⟩;refine h.al λb3 _ h=>?_
   refine h.st 0 rfl rfl ?_;intro u8 h;refine⟨h.getO 9 rfl,h.stl 9 rfl λr0 h=>⟨_,_,_,h.r 1,_,h.r 7,_,_,_,h.q 0,?_⟩⟩
   have d:=Vk E;have y2:=pi d;have M:0<(bg s.rows (aR 0 s.rows)[j].1).epoch:=by
    have j3:=AG (i:=0) (l:=s.rows) (k:=(aR 0 s.rows)[j].1.toNat);rw[Vw,show (((aR 0 s.rows)[j].1.toNat:Nat):Int)=(aR 0 s.rows)[j].1 by omega]at j3;have h1:aL (aR 0 s.rows)[j].1 (aR 0 s.rows)=some (aR 0 s.rows)[j].2:=md wV d;have h2:=uj ok.rows (agent:=(aR 0 s.rows)[j].1);rw[h1]at h2;rw[<-h2];exact y2.2.2
   obtain⟨I,st,U⟩:=ok.str M;have hag:dS s (aR 0 s.rows)[j]=agB (aR 0 s.rows)[j].1 (aR 0 s.rows)[j].2 (bE s.ms (aR 0 s.rows)[j].1) st:=by
    unfold dS;rw[xi I U]
   have hagn:=xp ok (aR 0 s.rows)[j];have J:=oq (f:=dS s) (l:=(aR 0 s.rows).take j) (B:=345000) λx _=>xp ok x
   have P:((aR 0 s.rows).take j).length<=(aR 0 s.rows).length:=by rw[Vx];omega
   have T:345000*((aR 0 s.rows).take j).length<=345000*64:=W5 _ (by omega);have h:=lQ (lQ (lQ (lQ (lQ h))));have h:=h.o [13,8,0,1,9,10,2,3,11,4,5,6,7,12,14] 15;refine TK (e:=(aR 0 s.rows)[j].2) ok I U h λa6 c6 H12 h=>⟨_,_,_,rfl,h.r 12,?_⟩
   rw[<-hag]at h ⊢;refine dp h (i:=13) rfl rfl rfl (h.sl_rd 0 rfl) (by rw[UZ];omega) λa7 c7 h0 h=>⟨_,_,_,rfl,?_⟩
   refine h.st 12 rfl rfl ?_;intro t h;refine⟨h.getO 15 rfl,kt _ ?_⟩;have h:=h.setO 15 rfl (.loop R);have e5:kh s++((aR 0 s.rows).take (j+1)).flatMap (dS s)=(kh s++((aR 0 s.rows).take j).flatMap (dS s))++dS s (aR 0 s.rows)[j]:=by
    rw[jL (f:=dS s) E,Vj]
   refine cJ.2 ⟨(a7,c7),aA.shut [_,_,_,_,_,_,_,_,_] ?_⟩;dsimp only;rw[e5];exact h.o [12,13,2,5,6,9,14,1,15] 16
  .intro H9 h;obtain⟨⟨a5,c5⟩,h⟩:=cJ.1 h;have h:=aA.open (A:=[_,_,_,_,_,_,_,_,_]) h;dsimp only at h;rw[V8]at h;refine⟨.ready,none,by decide,by rw[nt h9 l0];exact h.getO 8 rfl,h.stl 8 rfl λu8 h=>⟨rfl,?_⟩⟩
   refine⟨_,_,_,h.r 0,_,h.rd 6 rfl _,⟨_,h.r 2,_,Ra h 13 14 rfl rfl,?_⟩⟩;refine h.al λb4 _ h=>⟨h.r 1,?_⟩
   refine nJ h 0 rfl λa6 c6 r0 h=>⟨_,_,_,rfl,h.r 2,?_⟩
   refine dp h (i:=3) rfl rfl rfl (h.sl_rd 0 rfl) (by rw[UZ];omega) λa7 c7 H12 h=>⟨_,_,_,rfl,?_⟩
   rw[<-N]at h ⊢;refine h.st 2 rfl rfl ?_;intro h0 h;have h:=h.o [2,3,4,5,6,7,8,9,12,13,14,15,16,17] 18;refine⟨_,h.rd 6 rfl _,⟨_,h.r 2,?_⟩⟩;refine I5 h λj1 t h=>⟨_,_,rfl,rfl,λR1 r8 r9 h7=>?_⟩
   have h:=h.rng R1;refine I6 (sb:=p.hb) (mb:=p.hm) (most:=s.cfg.cells) (m:=s.cm) (c0:=j1) (by omega)
    (λj=>exS λq:KQ×Nat=>star [cellsA y [.slice q.1 (jo s++((bA s.cm).take j).flatMap ceB).length q.2] 43,slA 5 1 q.1 (jo s++((bA s.cm).take j).flatMap ceB).length q.2 ((jo s++((bA s.cm).take j).flatMap ceB).map U8),shC p.hb p.hm s.cfg.cells,cz p.hm s.cm,pt (t.size+1) (.loop R1)])
    (λ_=>pur False) (star [cellsA y [.slice a7 (jo s).length c7] 43,slA 5 1 a7 (jo s).length c7 ((jo s).map U8),pt (t.size+1) (.loop R1)])
    (F:=pt t.size (.deferred (some []))::cellsA sb (dq s p) 145::Ma.markC p.mb p.mm s.ms::Ma.mapF p.mm s.ms.m::strmA Q p.tm s.sts::cellsA b [PA sb 0] 40::Q::Ro.rollC p.rb p.rm s.cfg.agents::Ro.mapE p.rm s.rows::pt W.size (.deferred (some []))::slA 164 74 p.ka s.kept.length p.kc (flat cI s.kept)::F) ?_ ?_ ?_ ?_ ?_
   .have h:=h.o [3,4,0,2,14,15,1,5,6,7,8,9,10,11,12,13,16] 17;have h:=aA.shut [_,_,_] h;exact h.o [1,2,3,0] 4
   .intro G w h;have h:=h.o [2,0,1] 3;have h:=aA.open (A:=[_,_,_]) h;refine cJ.2 ⟨(a7,c7),aA.shut [_,_,_,_,_] ?_⟩;rw[show jo s++((bA s.cm).take 0).flatMap ceB=jo s by simp];exact h.o [0,1,3,4,2] 5
   .intro j E G w K1 h kt _;obtain⟨⟨a8,c8⟩,h⟩:=cJ.1 h;have h:=aA.open (A:=[_,_,_,_,_]) h;dsimp only at h;refine h7 _ _ _ ?_;have d:=Vk E;have hwc:=xj ok.sh _ d;have L:(bA s.cm)[j].1.ser.size<=5000:=by
     obtain⟨q,hq,e⟩:=Bh d;rw[<-e];exact ser.cm q hq
    have h4:(cbB (bA s.cm)[j].1 (bA s.cm)[j].2).length<=10100:=hO _ d;have J:=oq (f:=ceB) (l:=(bA s.cm).take j) (B:=10100) λx hx=>hO x (VR hx)
    have P:((bA s.cm).take j).length<=(bA s.cm).length:=by rw[Vx];omega
    have T:10100*((bA s.cm).take j).length<=10100*1024:=W5 _ (by omega);refine⟨_,_,_,_,_,_,_,_,_,_,rfl,h.getO 4 rfl,?_⟩;refine h.al λb5 _ h=>?_
    refine h.st 0 rfl rfl ?_;intro y3 h;refine h.al λb6 _ h=>?_
    refine h.sta 0 rfl rfl λl5 h=>?_
    refine⟨h.getO 6 rfl,h.stl 6 rfl λh3 h=>⟨_,_,_,h.r 2,_,_,h.q 1,_,_,_,_,_,_,_,_,h.rda 0 rfl,?_⟩⟩
    refine KC (key:=(bA s.cm)[j].1) (c:=(bA s.cm)[j].2) hwc L h λa9 c9 h5 h=>⟨_,_,_,rfl,h.r 3,?_⟩
    refine dp h (i:=4) rfl rfl rfl (h.sl_rd 0 rfl) (by rw[UZ];omega) λD v Y h=>⟨_,_,_,rfl,?_⟩
    refine h.st 3 rfl rfl ?_;intro H21 h;refine⟨h.getO 7 rfl,kt _ ?_⟩;have h:=h.setO 7 rfl (.loop R1);have e5:jo s++((bA s.cm).take (j+1)).flatMap ceB=(jo s++((bA s.cm).take j).flatMap ceB)++ceB (bA s.cm)[j]:=by
     rw[jL (f:=ceB) E,Vj]
    refine cJ.2 ⟨(D,v),aA.shut [_,_,_,_,_] ?_⟩;dsimp only;rw[e5];exact h.o [3,4,5,6,7] 8
   .intro w h;obtain⟨⟨a8,c8⟩,h⟩:=cJ.1 h;have h:=aA.open (A:=[_,_,_,_,_]) h;dsimp only at h;rw[V8]at h;refine⟨.ready,none,by decide,by rw[nt r8 r9];exact h.getO 4 rfl,h.stl 4 rfl λy3 h=>⟨rfl,?_⟩⟩
    refine⟨_,_,_,h.r 0,_,h.rd 10 rfl _,⟨_,_,_,h.r 6,?_⟩⟩;refine h.al λb7 _ h=>⟨h.r 1,?_⟩
    refine nJ h 0 rfl λa9 c9 l5 h=>⟨_,_,_,rfl,h.r 2,?_⟩
    refine dp h (i:=3) rfl rfl rfl (h.sl_rd 0 rfl) (by rw[UZ];omega) λD v h3 h=>⟨_,_,_,rfl,?_⟩
    rw[<-S]at h ⊢;refine h.st 2 rfl rfl ?_;intro h5 h;refine⟨_,h.rd 12 rfl _,⟨_,_,_,h.r 8,?_⟩⟩;refine⟨λi C=>∃(j:Nat) (a:KQ) (c:Nat),i=j/\j<=s.kept.length/\
     aA C (cellsA y [.slice a (kZ s++(s.kept.take j).flatMap ceB).length c] 43::slA 5 1 a (kZ s++(s.kept.take j).flatMap ceB).length c ((kZ s++(s.kept.take j).flatMap ceB).map U8)::pt t.size (.deferred (some []))::pt W.size (.deferred (some []))::
      Q::cellsA sb (dq s p) 145::Ro.rollC p.rb p.rm s.cfg.agents::Ro.mapE p.rm s.rows::Ma.markC p.mb p.mm s.ms::Ma.mapF p.mm s.ms.m::shC p.hb p.hm s.cfg.cells::cz p.hm s.cm::strmA Q p.tm s.sts::slA 164 74 p.ka s.kept.length p.kc (flat cI s.kept)::F),
     λi _=>s.kept.length-i.toNat,⟨0,D,v,rfl,by omega,?_⟩,?_⟩
    .rw [show kZ s++(s.kept.take 0).flatMap ceB=kZ s by simp];exact h.o [2,3,7,16,13,8,14,15,9,10,4,5,11,17] 18
    rintro i Y ⟨j,a,c,rfl,E,h⟩;refine⟨λn=>?_,λn=>?_⟩
    .have n:j<s.kept.length:=by have:=Va n;omega
     have d:=Vk n;have h4:(cbB s.kept[j].1 s.kept[j].2).length<=10100:=O _ d;have J:=oq (f:=ceB) (l:=s.kept.take j) (B:=10100) λx hx=>O x (VR hx)
     have P:(s.kept.take j).length<=s.kept.length:=by rw[Vx];omega
     have T:10100*(s.kept.take j).length<=10100*50000:=W5 _ (by omega);have hr:=h.sl_rd 13 rfl;refine⟨by omega,_,_,hr.some iT (by omega) n,_,_,_,_,_,_,_,_,_,_,hr.els iT n,?_⟩;refine h.al λb9 _ h=>?_
     refine h.sta 0 rfl rfl λH21 h=>?_
     refine⟨_,_,_,h.r 1,_,_,h.q 0,_,_,_,_,_,_,_,_,h.rdt (l:=[_,_]) 0 rfl rfl,?_⟩;refine KC (key:=s.kept[j].1) (c:=s.kept[j].2) (ok.kept _ d) (ser.kept _ d) h λa9 c9 H22 h=>⟨_,_,_,rfl,h.r 2,?_⟩
     refine dp h (i:=3) rfl rfl rfl (h.sl_rd 0 rfl) (by rw[UZ];omega) λh6 j2 H23 h=>⟨_,_,_,rfl,?_⟩
     refine h.st 2 rfl rfl ?_;intro H24 h
     conv=>whnf
     rw[aJ (x:=(j:Int)+1)];have e5:kZ s++(s.kept.take (j+1)).flatMap ceB=(kZ s++(s.kept.take j).flatMap ceB)++ceB s.kept[j]:=by
      rw[jL (f:=ceB) n,Vj]
     refine⟨⟨j+1,h6,j2,by omega,n,?_⟩,by dsimp only;omega⟩;rw[e5];exact h.o [2,3,4,5,6,7,8,9,10,11,12,13,14,15] 16
    .have l6:s.kept.length<=j:=by have:=Vb n;omega
     rw[V2 l6]at h;refine⟨_,_,_,h.r 0,h.getO 2 rfl,?_⟩;have h:=h.setO 2 rfl (.deferred none);refine⟨h.getO 3 rfl,?_⟩;have h:=h.setO 3 rfl (.deferred none);refine k a c _ ?_;have h:=h.o [5,6,7,8,9,10,11,12,13,1,4] 14;have h:=cW.2 ⟨p,h⟩;exact h.o [1,2,0] 3
   .intro j w _ h;exact UY (aA.consP h).1 id
  .intro H9 h;exact UY (aA.consP h).1 id
 refine⟨_,h.rd 9 rfl _,⟨_,h.r 0,_,h.rd 9 rfl _,⟨_,h.r 0,_,h.rd 9 rfl _,⟨_,h.r 0,_,h.rd 9 rfl _,⟨_,h.r 0,_,Ma.Now_spec h 3 rfl,?_,?_⟩⟩⟩⟩⟩
 .refine h.al λb10 _ h=>⟨?_,?_⟩
  .refine pf (vs:=[s.now,s.boots,s.sunk,s.ms.now]) h (λH h=>h.ce_rd 0 rfl) (by simp) λa1 c1 H2 h=>⟨_,_,_,rfl,?_⟩
   refine h.al λb11 _ h=>?_
   refine h.st 0 rfl rfl ?_;intro H3 h;exact u _ _ _ _ (h.o [0,1,3,4,5,6,7,8,9,10,11,12,13] 14)
  .refine h.al λb12 _ h=>?_
   refine pf (vs:=[s.now,s.boots,s.sunk,s.ms.now]) h (λH h=>h.ce_rd 1 rfl) (by simp) λa1 c1 H2 h=>⟨_,_,_,rfl,?_⟩
   refine h.st 1 rfl rfl ?_;intro H3 h;exact u _ _ _ _ (h.o [1,0,3,4,5,6,7,8,9,10,11,12,13] 14)
 .refine h.al λb13 _ h=>⟨Ma.Now_spec h 4 rfl,h.r 1,h.r 10,h.r 1,h.r 10,h.r 1,h.r 10,h.r 1,h.r 10,?_⟩
  refine h.al λb14 _ h=>?_
  refine pf (vs:=[s.now,s.boots,s.sunk,s.ms.now]) h (λH h=>h.ce_rd 0 rfl) (by simp) λa1 c1 H2 h=>⟨_,_,_,rfl,?_⟩
  refine h.st 2 rfl rfl ?_;intro H3 h;exact u _ _ _ _ (h.o [2,0,3,4,5,6,7,8,9,10,11,12,13] 14)
end
def ld(hs:HS Pv)(s:RS):Except Int (HS Pv×RS):=match cG s with
 | .error e=>.error e
 | .ok (n,s1)=>match iX s1 with
  | .error e=>.error e
  | .ok (ev,s2)=>if gQ n [ev]=false then .error 10 else
   if 0<(hs.offer n [ev]).2.1.length\/0<(hs.offer n [ev]).2.2 then .error 10 else .ok ((hs.offer n [ev]).1,s2)
section
variable {F L:List aE}{H:aC}{K KP:KE}{Q Q':aE}{sb:Nat}{s:aI}
def WPost(rb hb:Nat)(Q:aE)(F:List aE)(K KP:KE):Except Int (HS Pv×RS)->Prop
 | .ok (hs,s)=>∀Q' H',aM Q Q'->s.e=0->aH s.bs->s.bs.length<=1099511627776->aA H' (Q'::crdA rb s::hldA Q' hb hs::F)->K (.tuple #[]) H'
 | .error e=>∀Q' H',e≠0->aM Q Q'->aA H' (Q'::F)->KP (pnV e) H'
theorem TM{rb hb:Nat}{r:RS}{hs:HS Pv}(ok:hs.Ok)(W:hs.next<=1125899906842624)(h:aA H (Q::crdA rb r::hldA Q hb hs::F))(hb0:aH r.bs)(G:r.bs.length<=1099511627776)
  (k:WPost rb hb Q F K KP (ld hs r)):CP 262 #[.agg #[PA rb 0],PA hb 0] H K KP:=by
 refine cNP 262 5208530270361417 [[],[],[(4,sI),(5,sA)]] ?_;refine h.al λb H0 h=>?_
 intro Jn Z;unfold ld at k;have y:∀(n:Int) (i:aE) (ev:Ev) (s2:RS) S D,(match (if gQ n [ev.p]=false then (.error 10:Except Int (HS Pv×RS)) else
    if 0<(hs.offer n [ev.p]).2.1.length\/0<(hs.offer n [ev.p]).2.2 then .error 10 else .ok ((hs.offer n [ev.p]).1,s2)) with|x=>WPost rb hb Q F K KP x)->aM Q i->ik i ev->s2.e=0->aH s2.bs->s2.bs.length<=1099511627776->
   aA D (cellsA S (cw ev) 99::i::crdA rb s2::hldA Q hb hs::cellsA b [PA rb 0] 388::F)->Jn n S 0 D:=by
  intro n i ev s2 S D k d f j s m h;dsimp only at k;refine Z _ _ _ _ ?_;refine⟨_,_,_,_,_,_,h.q 0,?_⟩;refine h.al λb1 _ h=>?_
  refine h.al λb2 _ h=>?_
  refine h.st 0 rfl rfl ?_;intro N h;refine⟨_,_,_,_,_,_,_,_,_,_,_,_,_,_,_,_,_,_,_,_,h.q 0,?_⟩;have I:flat cw [ev]=cw ev:=by simp[flat]
  refine Je (evs:=[ev]) (a:=some ⟨b1,0,none⟩) (c:=1) h ⟨λH h=>by rw[I];exact h.ce_rd 1 rfl,λe t H h=>by
   rw[Vo]at t;subst t;exact f.at h 3 rfl⟩ (by simp) λE h=>⟨_,rfl,?_⟩
  rw[wK];show ∀P:aC->Prop,_;intro P T;refine⟨λL=>?_,λL=>T _ ?_⟩
  .rw [UX (by simpa using L)]at k;exact k i _ (by decide) d (h.o [3] 7)
  .have R:gQ n [ev.p]=true:=by simpa using L
   rw[UW (by rw[R];simp)]at k;refine⟨_,_,_,_,_,_,h.q 2,?_⟩;refine h.al λb3 _ h=>?_
   have h:=h.o [6,0,4,5] 8;have h:=Au d h;refine Jp (items:=[ev]) h ok W (λH h=>by rw[I];exact h.ce_rd 0 rfl) (λe t=>by rw[Vo]at t;subst t;exact f) (by simp) λa2 c2 ready H4 A hl h=>⟨_,_,_,_,rfl,?_⟩
   have J:(hs.offer n ([ev].map Ev.p)).2.1.length=ready.length:=by rw[<-A,Vl]
   intro V O;refine⟨λu=>?_,λu=>O _ ?_⟩
   .have u:0<(hs.offer n [ev.p]).2.1.length\/0<(hs.offer n [ev.p]).2.2:=by
     simp only[Vr,Vc]at u
     rcases u with u|u
     .exact .inl (by have:(hs.offer n [ev.p]).2.1.length=ready.length:=J;omega)
     .exact .inr u
    rw[UX u]at k;exact k i _ (by decide) d (h.o [3] 5)
   .have u:¬(0<(hs.offer n [ev.p]).2.1.length\/0<(hs.offer n [ev.p]).2.2):=by
     simp only[Vp,Ve]at u;rintro (U|U)
     .exact u.1 (by have:(hs.offer n [ev.p]).2.1.length=ready.length:=J;omega)
     .exact u.2 U
    rw[UW u]at k;exact k i _ d j s m (h.o [3,4,1] 5)
 refine⟨_,h.q 0,_,h.q 0,?_,?_⟩
 .have h:=h.o [2,1,0,3] 4;refine jY h hb0 G ?_
  cases hr:cG r with
  | error e=>
   rw[hr]at k;exact λD t h=>k _ _ t (aM.refl Q) (h.o [0] 3)
  | ok q=>
  obtain⟨n,s1⟩:=q;rw[hr]at k;dsimp only at k;intro Y M B C h;refine⟨_,rfl,h.q 2,?_,?_⟩
  .have h:=h.o [1,0,2,3] 4;refine wP h B C ?_
   cases hr2:iX s1 with
   | error e=>
    rw[hr2]at k;exact λi D t v h=>k _ _ t v (h.o [0] 3)
   | ok q=>
   obtain⟨pv,s2⟩:=q;rw[hr2]at k;dsimp only at k;intro i ev N d f w j s m h;subst w;refine⟨_,_,_,_,_,_,rfl,?_⟩;refine h.al λb4 _ h=>?_
   refine h.st 0 rfl rfl ?_;intro E h;exact y n i ev s2 b4 E k d f j s m (h.o [0,1,2,4,3] 5)
  .refine h.al λb5 _ h=>⟨h.q 3,?_⟩
   have h:=h.o [2,1,0,3,4] 5;refine wP h B C ?_
   cases hr2:iX s1 with
   | error e=>
    rw[hr2]at k;exact λi D t v h=>k _ _ t v (h.o [0] 4)
   | ok q=>
   obtain⟨pv,s2⟩:=q;rw[hr2]at k;dsimp only at k;intro i ev N d f w j s m h;subst w;refine⟨_,_,_,_,_,_,rfl,?_⟩;refine h.st 2 rfl rfl ?_;intro E h;exact y n i ev s2 b5 E k d f j s m (h.o [2,0,1,4,3] 5)
 .refine h.al λb6 _ h=>⟨h.q 1,h.q 1,?_⟩
  have h:=h.o [3,2,0,1,4] 5;refine jY h hb0 G ?_
  cases hr:cG r with
  | error e=>
   rw[hr]at k;exact λD t h=>k _ _ t (aM.refl Q) (h.o [0] 4)
  | ok q=>
  obtain⟨n,s1⟩:=q;rw[hr]at k;dsimp only at k;intro Y M B C h;refine⟨_,rfl,h.q 3,?_⟩;have h:=h.o [1,0,2,3,4] 5;refine wP h B C ?_
  cases hr2:iX s1 with
  | error e=>
   rw[hr2]at k;exact λi D t v h=>k _ _ t v (h.o [0] 4)
  | ok q=>
  obtain⟨pv,s2⟩:=q;rw[hr2]at k;dsimp only at k;intro i ev N d f w j s m h;subst w;refine⟨_,_,_,_,_,_,rfl,?_⟩;refine h.st 2 rfl rfl ?_;intro E h;exact y n i ev s2 b6 E k d f j s m (h.o [2,0,1,4,3] 5)
end
def jb:Rd Ot:=λs=>match ge s with
 | .error e=>.error e
 | .ok (w,s1)=>
  if (aZ (aZ s1.bs.length s1).2.bs.length (aZ s1.bs.length s1).2).2.e≠0 then .error (aZ (aZ s1.bs.length s1).2.bs.length (aZ s1.bs.length s1).2).2.e else
  if (!(ij (bF (aZ s1.bs.length s1).1)).2.2 || !inM w 0 4611686018427387903)=true then .error 10 else
  if (kg (aZ (aZ s1.bs.length s1).2.bs.length (aZ s1.bs.length s1).2).1).2≠0 then .error (kg (aZ (aZ s1.bs.length s1).2.bs.length (aZ s1.bs.length s1).2).1).2 else
  .ok ((⟨w,bF (aZ s1.bs.length s1).1⟩,(kg (aZ (aZ s1.bs.length s1).2.bs.length (aZ s1.bs.length s1).2).1).1),(aZ (aZ s1.bs.length s1).2.bs.length (aZ s1.bs.length s1).2).2)
theorem il{α:Type}{s a:RS}{x y:α}(h:okR s x=.ok (y,a)):a=s/\y=x/\s.e=0:=by
 unfold okR at h
 split at h
 .cases h
 .rename_i h0
  cases h
  exact⟨rfl,rfl,by simpa using h0⟩
theorem uA{s a:RS}{w:Int}(h:ge s=.ok (w,a)):a.bs.length<=s.bs.length:=by
 rw[(il h).1];exact jM s
theorem gi{s a:RS}{w:Int}(h:cG s=.ok (w,a)):a.bs.length<=s.bs.length:=by
 rw[(il h).1];exact jM s
theorem uB{s a:RS}{w:Int}(h:eA s=.ok (w,a)):a.bs.length<=s.bs.length:=by
 rw[(il h).1];exact jM s
theorem sy{s a:RS}{m w:Int}(h:dP m s=.ok (w,a)):a.bs.length<=s.bs.length:=by
 rw[(il h).1];exact rL s m
theorem sC{s a:RS}{m w:Int}(h:upR m s=.ok (w,a)):a.bs.length<=s.bs.length:=by
 unfold upR at h
 cases e:cG s with
 | error e'=>rw[e]at h;cases h
 | ok q=>
  obtain⟨v,s1⟩:=q;rw[e]at h;dsimp only at h
  split at h
  .cases h;exact gi e
  .cases h
section
variable {F L:List aE}{H:aC}{K KP:KE}{Q Q':aE}{sb:Nat}{s:aI}
theorem KK{rb:Nat}{r:RS}(h:aA H (crdA rb r::F))(hb0:aH r.bs)(E:r.bs.length<=1000000000)
  (k:sd rb F (λo:Ot=>.tuple #[aggK o.1,aggC o.2]) K KP (jb r)):CP 205 #[.agg #[PA rb 0]] H K KP:=by
 refine cNP 205 5208464183038236 [[],[(4,sA)]] ?_;refine h.al λb _ h=>?_
 refine h.al λb1 _ h=>?_
 refine h.al λb2 H0 h=>?_
 intro O L;unfold jb at k;have d:∀(w:Int) (s1:RS) x t,ge r=.ok (w,s1)->aH s1.bs->s1.bs.length<=1099511627776->
   aA t (crdA rb (aZ s1.bs.length s1).2::cellsA x [aD w,.string (bF (aZ s1.bs.length s1).1)] 154::cellsA b2 (dx Cl.z) 161::cellsA b1 [aD 0,.string ⟨#[]⟩] 154::cellsA b [PA rb 0] 388::F)->O x 0 t:=by
  intro w s1 x C s a c h;have J:=uA s;rw[s]at k;dsimp only at k;have n:=lF (m:=s1.bs.length) a;have D:=mr s1 s1.bs.length;generalize aZ s1.bs.length s1=T1 at *;refine L _ _ _ ?_;refine⟨_,h.r 4,_,h.r 4,_,oN h,?_⟩;refine nD (most:=T1.2.bs.length) h n.1 (by omega) (by unfold aF;omega) λv h=>⟨_,rfl,_,h.r 4,_,mp h,?_⟩
  have i:=lF (m:=T1.2.bs.length) n.1;have I:=mr T1.2 T1.2.bs.length;generalize aZ T1.2.bs.length T1.2=T2 at *;refine j5 (λf=>⟨rfl,_,h.r 1,?_⟩) λf=>?_
  .rw [UW (by simpa using f)]at k;have M:=nI T1.1;refine IZ (by omega) h λla lc j h=>⟨_,_,_,_,_,rfl,?_⟩
   generalize (ij (bF T1.1))=P at *;refine h.al λb3 _ h=>?_
   refine h.st 0 rfl rfl ?_;intro R h;refine⟨_,λ_=>h.r 3,_,λ_=>oh,?_⟩
   intro G A;refine⟨λy=>?_,λy=>A _ ?_⟩
   .rw [UX y]at k;exact k _ (by decide) (h.o [] 7)
   .rw [UW (by rw[y];simp)]at k;refine wb i.2 h λa3 c3 V h=>⟨_,_,_,rfl,?_⟩
    refine SU rfl i.2 h (λH h=>h.sl_rd 0 rfl) (by omega) λQ h=>⟨_,_,_,_,_,_,_,_,_,rfl,?_⟩
    have N:=kg T2.1;generalize kg T2.1=B at *;refine h.al λb4 _ h=>?_
    refine h.sta 0 rfl rfl λT h=>?_
    refine j5 (λhb=>⟨rfl,?_⟩) λhb=>?_
    .rw [UW (by simpa using hb)]at k;refine⟨_,_,h.q 5,_,_,_,_,_,_,_,_,h.rda 0 rfl,?_⟩;refine h.st 7 rfl rfl ?_;intro S h;refine⟨h.rda 0 rfl,?_⟩;refine h.sta 6 rfl rfl λU h=>?_
     refine⟨_,_,h.q 7,_,_,_,_,_,_,_,_,h.rda 6 rfl,?_⟩;exact k _ f i.1 (by omega) (h.o [4] 9)
    .rw [UX hb]at k;exact k _ hb (h.o [] 9)
  .rw [UX f]at k;exact k _ f (h.o [] 5)
 refine⟨_,h.q 2,_,h.r 2,_,h.r 2,?_,?_⟩
 .have h:=h.o [3,0,1,2] 4;refine uh h hb0 (by omega) ?_
  cases hr:ge r with
  | error e=>
   rw[hr]at k;exact λt f h=>k _ f (h.o [] 3)
  | ok q=>
  obtain⟨w,s1⟩:=q;intro C u a c h;refine⟨_,rfl,h.r 3,h.r 3,_,oN h,?_,?_⟩
  .refine nD (most:=s1.bs.length) h a c (by unfold aF;omega) λv h=>⟨_,rfl,?_⟩
   refine h.al λb5 _ h=>?_
   refine h.st 0 rfl rfl ?_;intro j h;exact d w s1 b5 j hr a c (h.o [1,0,2,3,4] 5)
  .refine h.al λb6 _ h=>⟨oN (h.o [1] 2),h.r 4,h.r 4,?_⟩
   have h:=h.o [1,0,2,3,4] 5;refine nD (most:=s1.bs.length) h a c (by unfold aF;omega) λv h=>⟨_,rfl,?_⟩
   refine h.st 1 rfl rfl ?_;intro j h;exact d w s1 b6 j hr a c h
 .refine h.al λb7 _ h=>⟨h.r 3,h.r 3,h.q 3,?_⟩
  have h:=h.o [4,0,1,2,3] 5;refine uh h hb0 (by omega) ?_
  cases hr:ge r with
  | error e=>
   rw[hr]at k;exact λt f h=>k _ f (h.o [] 4)
  | ok q=>
  obtain⟨w,s1⟩:=q;intro C u a c h;refine⟨_,rfl,h.r 4,h.r 4,_,oN h,?_⟩;refine nD (most:=s1.bs.length) h a c (by unfold aF;omega) λv h=>⟨_,rfl,?_⟩
  refine h.st 1 rfl rfl ?_;intro j h;exact d w s1 b7 j hr a c h
end
def smpR:Rd bP:=λs=>match cG s with
 | .error e=>.error e
 | .ok (a,s1)=>match cG s1 with
  | .error e=>.error e
  | .ok (b,s2)=>match cG s2 with
   | .error e=>.error e
   | .ok (c,s3)=>match cG s3 with
    | .error e=>.error e
    | .ok (d,s4)=>.ok (⟨a,b,c,d⟩,s4)
def jp:Nat->Rd (List bP)
 | 0,s=>.ok ([],s)
 | n+1,s=>match jp n s with
  | .error e=>.error e
  | .ok (l,s1)=>match smpR s1 with
   | .error e=>.error e
   | .ok (x,s2)=>.ok (l++[x],s2)
def iD(hs:HS Pv):Nat->RS->Except Int (HS Pv×RS)
 | 0,s=>.ok (hs,s)
 | n+1,s=>match iD hs n s with
  | .error e=>.error e
  | .ok (h,s1)=>ld h s1
theorem KM:∀{n:Nat} {s:RS} {vs:List bP} {a:RS},jp n s=.ok (vs,a)->vs.length=n
 | 0,s,vs,a,h=>by cases h;rfl
 | n+1,s,vs,a,h=>by
  unfold jp at h
  split at h
  .cases h
  .rename_i c s1 b
   split at h
   .cases h
   .cases h
    rw[UZ,KM b];rfl
theorem KN{s:RS}{e:Int}:∀{n j:Nat},jp j s=.error e->j<=n->jp n s=.error e
 | 0,j,h,hj=>by
  obtain rfl:j=0:=by omega
  exact h
 | n+1,j,h,hj=>by
  rcases V0 n j with a|a
  .obtain rfl:j=n+1:=by omega
   exact h
  .unfold jp;rw[KN h a]
theorem KR{hs:HS Pv}{s:RS}{e:Int}:∀{n j:Nat},iD hs j s=.error e->j<=n->iD hs n s=.error e
 | 0,j,h,hj=>by
  obtain rfl:j=0:=by omega
  exact h
 | n+1,j,h,hj=>by
  rcases V0 n j with a|a
  .obtain rfl:j=n+1:=by omega
   exact h
  .unfold iD;rw[KR h a]
def ot(c:bG)(last:Int)(hd:Bool)(streak:Int)(l:List bP):Rd br:=λs5=>
 if ¬(l.length<=8/\0<=streak/\∀x∈l,x.ok) then .error 10 else match cG s5 with
  | .error e=>.error e
  | .ok (next,s6)=>if next<0\/1099511627776<next then .error 11 else match dP 256 s6 with
   | .error e=>.error e
   | .ok (m,s7)=>match iD ⟨next,c.hold,[]⟩ m.toNat s7 with
    | .error e=>.error e
    | .ok (hs,s8)=>.ok (⟨⟨c.rho,c.trust,hd,streak,l⟩,hs,last⟩,s8)
def nP(c:bG)(last:Int):Rd br:=λs1=>match eA s1 with
 | .error e=>.error e
 | .ok (hd,s2)=>match cG s2 with
  | .error e=>.error e
  | .ok (streak,s3)=>match dP 8 s3 with
   | .error e=>.error e
   | .ok (n,s4)=>match jp n.toNat s4 with
    | .error e=>.error e
    | .ok (l,s5)=>ot c last (decide (hd=1)) streak l s5
def mR(c:bG):Rd br:=λs=>match ge s with
 | .error e=>.error e
 | .ok (last,s1)=>if inM last (-1) 4611686018427387903=false then .error 10 else nP c last s1
theorem TN{s c:RS}{e:Pv}(h:iX s=.ok (e,c)):aF e.value:=by
 unfold iX at h
 cases h1:cG s with
 | error e'=>rw[h1]at h;cases h
 | ok q=>
  obtain⟨a,s1⟩:=q;rw[h1]at h;dsimp only at h
  cases h2:ge s1 with
  | error e'=>rw[h2]at h;cases h
  | ok q=>
   obtain⟨b,s2⟩:=q;rw[h2]at h;dsimp only at h;rw[(il h).2.1];show aF b;rw[(il h2).2.1];exact rJ _
structure qH(m:Int)(hs:HS Pv):Prop where
 ok:hs.Ok
 most:hs.most=m
 next:hs.next<=1099511627776
 rows:∀p∈hs.rows,p.1<1099511627776/\gP p.2=true/\aF p.2.value
theorem TO{m:Int}{hs a:HS Pv}{s e:RS}(g:qH m hs)(h:ld hs s=.ok (a,e)):qH m a:=by
 unfold ld at h
 cases h1:cG s with
 | error e'=>rw[h1]at h;cases h
 | ok q=>
  obtain⟨n,s1⟩:=q;rw[h1]at h;dsimp only at h
  cases h2:iX s1 with
  | error e'=>rw[h2]at h;cases h
  | ok q=>
   obtain⟨ev,s2⟩:=q;rw[h2]at h;dsimp only at h
   split at h
   .cases h
   rename_i hb
   split at h
   .cases h
   cases h
   have hb:gQ n [ev]=true:=by simpa using hb
   unfold gQ at hb;simp only[Vd,Vc,VL,Vf,Vy]at hb;have d:=HS.offer_ok g.ok n [ev];have b:=Kg (s:=hs) (first:=n) (B:=1099511627776) (items:=[ev]) g.next (λp c=>(g.rows p c).1) (by simp only[Vf,Vy];omega)
   refine⟨d.1,d.2.2.2.trans g.most,b.1,λp c=>⟨b.2 p c,?_⟩⟩
   rcases (ue (s:=hs) (first:=n) (items:=[ev])).2 p c with h|h
   .rw [Vo]at h;rw[h];exact⟨hb.2.2 ev (Vo.2 rfl),TN h2⟩
   .exact (g.rows p h).2
theorem Bj{m:Int}{hs:HS Pv}{s:RS}(g:qH m hs):∀{n:Nat} {a:HS Pv} {b:RS},iD hs n s=.ok (a,b)->qH m a
 | 0,a,b,h=>by cases h;exact g
 | n+1,a,b,h=>by
  unfold iD at h
  split at h
  .cases h
  .rename_i c;exact TO (Bj g c) h
def bitF(v m:Int):Bool:=!decide (aY .and .u64 v m=0)
def flR(c:bG)(t:Int):Rd (Fl×br):=λs=>match eA s with
 | .error e=>.error e
 | .ok (v,s1)=>match mR c s1 with
  | .error e=>.error e
  | .ok (st,s2)=>.ok ((⟨t,bitF v 1,bitF v 2,bitF v 4⟩,st),s2)
section
variable {F L:List aE}{H:aC}{K KP:KE}{Q Q':aE}{sb:Nat}{s:aI}
def APost(rb sb tm:Nat)(cs:Os)(sts:List (Option br))(a:Nat)(Q:aE)(F:List aE)(K KP:KE):Except Int ((Fl×br)×RS)->Prop
 | .ok (x,s)=>∀Q' H',aM Q Q'->s.e=0->aH s.bs->s.bs.length<=1099511627776->aA H' (Q'::crdA rb s::cellsA sb cs 145::strmA Q' tm (sts.set a (some x.2))::F)->K (mI x.1) H'
 | .error e=>∀Q' H',e≠0->aM Q Q'->aA H' (Q'::F)->KP (pnV e) H'
theorem xr:∀{bl:List (Option Nat)} {sts:List (Option br)} {k:Nat} {F:List aE},aA H (strsA Q bl sts::F)->aA H (strsA Q (bl.set k none) (sts.set k none)::F)
 | [],_,_,_,h=>h
 | none::_,[],0,_,h=>h
 | some _::_,[],0,_,h=>h
 | none::_,[],_+1,_,h=>h
 | some _::_,[],_+1,_,h=>h
 | none::bs,y::ss,0,_,h=>h
 | some x::bs,none::ss,0,_,h=>h
 | some x::bs,some y::ss,0,_,h=>(px.1 h).tl
 | none::bs,y::ss,k+1,_,h=>xr (bl:=bs) (sts:=ss) (k:=k) h
 | some x::bs,none::ss,k+1,_,h=>xr (bl:=bs) (sts:=ss) (k:=k) h
 | some x::bs,some y::ss,k+1,_,h=>by
  have h:=px.1 h;have h:=h.o [1,0] 2;have h:=xr (bl:=bs) (sts:=ss) (k:=k) h;have h:=h.o [1,0] 2;exact px.2 h
theorem TS{rb b b1 fb A tm cb hb:Nat}{a:Nat}{cs:Os}{sts:List (Option br)}{fl:Fl}{ck:Ck}{last m:Int}{r:RS}{hs:HS Pv}{P:Except Int ((Fl×br)×RS)}
  (g:qH hs.most hs) (Y:a<sts.length) (L:aT cs 18=some (.map (some tm))) (hm:0<=m/\m<=256) (hb0:aH r.bs) (O:r.bs.length<=1099511627776) (R:r.e=0)
  (W:P=match iD hs m.toNat r with|.error e=>.error e|.ok (h,s8)=>.ok ((fl,⟨ck,h,last⟩),s8))
  (k:APost rb sb tm cs sts a Q F K KP P)
  (h:aA H (Q::crdA rb r::hldA Q hb hs::cellsA A [PA cb 0,PA hb 0,aD last] 173::ckA cb ck::cellsA fb (encF fl) 185::cellsA b1 [aD 0,.bool false,.bool false,.bool false] 185::cellsA b [PA rb 0] 388::cellsA sb cs 145::strmA Q tm sts::F)) :
  ∃(f:Int->aC->Prop) (T:Int->aC->Nat),f 0 H/\
   ∀(t:Int),∀s:aC,f t s->lC.l1 sb 0 (a:Int) K KP b b1 fb 0 (some ⟨A,0,none⟩) (some ⟨hb,0,none⟩) m f T t s:=by
 refine⟨λi D=>∃(j:Nat) (w:aE) (d:HS Pv) (s1:RS),i=j/\(j:Int)<=m/\aM Q w/\iD hs j r=.ok (d,s1)/\s1.e=0/\aH s1.bs/\s1.bs.length<=1099511627776/\
  aA D (w::crdA rb s1::hldA w hb d::cellsA A [PA cb 0,PA hb 0,aD last] 173::ckA cb ck::cellsA fb (encF fl) 185::cellsA b1 [aD 0,.bool false,.bool false,.bool false] 185::cellsA b [PA rb 0] 388::cellsA sb cs 145::strmA Q tm sts::F),
  λi _=>m.toNat-i.toNat,⟨0,Q,hs,r,rfl,hm.1,aM.refl Q,rfl,R,hb0,O,h⟩,?_⟩
 rintro i H1 ⟨j,w,d,s1,rfl,hj,c,N,G,y,B,h⟩;unfold lC.l1;have g1:=Bj g N;refine⟨λC=>?_,λC=>?_⟩
 .have C:=Va C;refine⟨_,h.q 7,?_⟩;have h0:=g1.next;refine TM g1.ok (by omega) h y B ?_;have n:iD hs (j+1) r=ld d s1:=by
   rw[iD,N]
  cases hr:ld d s1 with
  | error e=>
   rw[hr]at n;rw[W,KR n (by omega)]at k;exact λU D he u h=>k U D he (c.trans u) (h.o [0] 8)
  | ok q=>
  obtain⟨u,s2⟩:=q;rw[hr]at n;intro U D I J S M h;refine⟨rfl,?_⟩;rw[aJ (x:=(j:Int)+1)];exact⟨⟨j+1,U,u,s2,by omega,by omega,c.trans I,n,J,S,M,h⟩,by dsimp only;omega⟩
 .have Z:=Vb C;have E:j=m.toNat:=by omega
  subst E;rw[W,N]at k;refine⟨_,(h.r 8).trans L,?_⟩;have h:=h.o [9,0,1,2,3,4,5,6,7,8] 10;have h:=JZ c h;obtain⟨bl,V,h⟩:=kU.1 h;refine h.mp_update (α:=Option Nat) (v:=some A) (x:=((a:Nat):Int)) qA ko2 0 rfl λH2 h=>?_
  refine⟨_,_,_,_,h.q 7,?_⟩;refine h.st 8 rfl rfl ?_;intro H3 h;refine⟨_,_,_,_,h.q 8,?_⟩;refine k w _ c G y B ?_;have h:=h.o [1,0,2,3,4,5,6,10] 11;have h:=xr (k:=a) h;have h:=h.o [5,6,4,1,0,2,3,7] 8;have h:aA H3 (strA w A ⟨ck,d,last⟩::_):=gS.2 ⟨cb,hb,h⟩;have h:=h.o [1,0,2,3,4,5] 6;have h:=Kc V Y h;exact h.o [1,2,3,0] 4
def withFl(fl:Fl):Except Int (br×RS)->Except Int ((Fl×br)×RS)
 | .error e=>.error e
 | .ok (st,s)=>.ok ((fl,st),s)
theorem TT{rb b b1 fb t tm cb hb0:Nat}{a:Nat}{cs:Os}{sts:List (Option br)}{fl:Fl}{ck0:Ck}{c:bG}{last streak:Int}{hd:Bool}{l:List bP}{la:KQ}{lc:Nat}{r:RS}
  (ok:j9 c) (M:ck0.rho=c.rho) (j2:ck0.least=c.trust) (ha:a<sts.length) (h1:aT cs 18=some (.map (some tm))) (h8:aT cs 8=some (aD c.hold)) (h2:aH r.bs) (W:r.bs.length<=1099511627776)
  (k:APost rb sb tm cs sts a Q F K KP (withFl fl (ot c last hd streak l r)))
  (h:aA H (ckA cb ck0::slA 58 4 la l.length lc (flat eV l)::Q::crdA rb r::cellsA t [PA cb 0,PA hb0 0,aD last] 173::cellsA fb (encF fl) 185::cellsA b1 [aD 0,.bool false,.bool false,.bool false] 185::cellsA b [PA rb 0] 388::cellsA sb cs 145::strmA Q tm sts::F)) :
  NN (some ⟨t,0,none⟩) (
 ∃v2,aK H (aV (some ⟨t,0,none⟩)) (aS (some ⟨t,0,none⟩))=some (.pointer v2)/\
 CF 261 #[(.pointer v2),(.bool hd),(aD streak),(.slice la l.length lc)] H λY G=>∃J,Y=(aD J)/\
 CP 203 #[(aD J)] G (λj3 f=>j3=(.tuple #[])/\
 ∃x,bD f b 0 [(.pointer x)]/\
 ∃v3,aK f sb (0+8)=some (aD v3)/\
 CP 201 #[(.agg #[(.pointer x)])] f (λh9 n=>∃E,h9=(aD E)/\
 aK n sb (0+8)=some (aD v3)/\
 CF 185 #[(aD E),(aD v3)] n λh4 N=>∃v I,h4=(.tuple #[(.pointer v),(aD I)])/\
 CP 203 #[(aD I)] N (λh0 B=>h0=(.tuple #[])/\
 NN (some ⟨t,0,none⟩) (
 ST B (aV (some ⟨t,0,none⟩)) ((aS (some ⟨t,0,none⟩))+1) [(.pointer v)] λs=>
 ∃y,bD s b 0 [(.pointer y)]/\
 CP 200 #[(.agg #[(.pointer y)]),(aD 256)] s (λZ D=>∃L,Z=(aD L)/\
 ∃(d:Int->aC->Prop) (h5:Int->aC->Nat),d 0 D/\
 ∀(u:Int),∀j:aC,d u j->lC.l1 sb 0 (a:Int) K KP b b1 fb 0 (some ⟨t,0,none⟩) v L d h5 u j) (λ(R:Value) (S:aC)=>
 KP R S))) (λ(A:Value) (U:aC)=>
 KP A U)) (λ(T:Value) (C:aC)=>
 KP T C)) (λ(O:Value) (P:aC)=>
 KP O P)):=by
 unfold ot at k;refine cY ⟨_,h.rd 4 rfl 0,?_⟩;refine QI (held:=hd) (streak:=streak) h (λH h=>h.sl_rd 0 rfl) (λhn H1 h=>⟨_,rfl,?_⟩) λw H1 h=>⟨_,rfl,?_⟩
 .rw [UX hn]at k;exact j5 (λe=>UY e (by decide)) λe=>k Q _ (by decide) (aM.refl Q) (h.o [2] 10)
 rw[UW (not_not_intro w)]at k;refine j5 (λ_=>⟨rfl,_,h.q 7,_,(h.r 8).trans h8,?_⟩) λe=>UY rfl e
 have h:=h.o [3,0,2,4,5,6,7,8,9] 10;refine jY h h2 W ?_
 cases hr:cG r with
 | error e=>
  rw[hr]at k;exact λH' he h=>k Q _ he (aM.refl Q) (h.o [1] 8)
 | ok q=>
 obtain⟨next,s6⟩:=q;rw[hr]at k;dsimp only at k;intro H2 l0 h3 h7 h;refine⟨_,rfl,(h.r 7).trans h8,?_⟩;refine Av (Q:=Q) h (λhn=>⟨_,_,rfl,?_⟩) λhb H3 i h=>⟨_,_,rfl,?_⟩
 .have hh:=ok.hd;rw[pO]at k;exact j5 (λe=>UY e (by decide)) λe=>k Q _ (by decide) (aM.refl Q) (h.o [2] 9)
 rw[nO]at k;refine j5 (λ_=>⟨rfl,cY ?_⟩) λe=>UY rfl e
 refine h.st 4 rfl rfl ?_;intro H4 h;refine⟨_,h.q 7,?_⟩;have h:=h.o [1,0,2,3,4,5,6,7,8,9] 10;refine ui (by unfold aF;decide) h h3 h7 ?_
 cases hr2:dP 256 s6 with
 | error e=>
  rw[hr2]at k;exact λH' he h=>k Q _ he (aM.refl Q) (h.o [2] 9)
 | ok q=>
 obtain⟨m,s7⟩:=q;rw[hr2]at k;dsimp only at k;have hm:0<=m/\m<=256:=by
  rw[(il hr2).2.1];unfold bX
  split
  .dsimp only;omega
  .split
   .split
    .dsimp only;omega
    .dsimp only;omega
   .dsimp only;omega
   .dsimp only;omega
 intro H5 h6 V j1 h;refine⟨_,rfl,?_⟩;have hg:qH c.hold (⟨next,c.hold,[]⟩:HS Pv):=⟨⟨i.1,i.2.2.1,i.2.2.2,⟨by simp[gG],λp w=>UY w (by simp)⟩⟩,rfl,i.2.1,λp w=>UY w (by simp)⟩
 refine TS (fl:=fl) (r:=s7) (m:=m) (hs:=⟨next,c.hold,[]⟩) (ck:=⟨c.rho,c.trust,hd,streak,l⟩) (last:=last) (cb:=cb) hg ha h1 hm V j1 h6 ?_ k ?_
 .cases iD ⟨next,c.hold,[]⟩ m.toNat s7 with
  | error e=>rfl
  | ok q=>rfl
 .have h:=h.o [3,0,1,4,2,5,6,7,8,9] 10;rw[M,j2]at h;exact h
end
section
variable {F L:List aE}{H:aC}{K KP:KE}{Q Q':aE}{sb:Nat}{s:aI}
theorem TU{rb b b1 fb U tm cb hb0:Nat}{a:Nat}{cs:Os}{sts:List (Option br)}{fl:Fl}{ck0:Ck}{c:bG}{last:Int}{r:RS}
  (ok:j9 c) (v:ck0.rho=c.rho) (Y:ck0.least=c.trust) (ha:a<sts.length) (G:aT cs 18=some (.map (some tm))) (h8:aT cs 8=some (aD c.hold)) (N:aH r.bs) (D:r.bs.length<=1099511627776)
  (k:APost rb sb tm cs sts a Q F K KP (withFl fl (nP c last r)))
  (h:aA H (crdA rb r::ckA cb ck0::Q::cellsA U [PA cb 0,PA hb0 0,aD last] 173::cellsA fb (encF fl) 185::cellsA b1 [aD 0,.bool false,.bool false,.bool false] 185::cellsA b [PA rb 0] 388::cellsA sb cs 145::strmA Q tm sts::F)) :
  lC.r3 sb 0 (a:Int) K KP b b1 fb 0 (some ⟨U,0,none⟩) H:=by
 unfold nP at k;unfold lC.r3;refine⟨_,h.q 6,_,h.q 6,?_⟩;refine ug h N D ?_
 cases hr:eA r with
 | error e=>
  rw[hr]at k;exact λs f h=>k Q _ f (aM.refl Q) (h.o [1] 8)
 | ok q=>
 obtain⟨hd,s2⟩:=q;rw[hr]at k;dsimp only at k;intro H1 h2 S M h;refine⟨_,rfl,h.q 6,?_⟩;refine jY h S M ?_
 cases hr2:cG s2 with
 | error e=>
  rw[hr2]at k;exact λs f h=>k Q _ f (aM.refl Q) (h.o [1] 8)
 | ok q=>
 obtain⟨streak,s3⟩:=q;rw[hr2]at k;dsimp only at k;intro H2 h5 C B h;refine⟨_,rfl,_,h.q 6,?_⟩;refine ui (by unfold aF;decide) h C B ?_
 cases hr3:dP 8 s3 with
 | error e=>
  rw[hr3]at k;exact λs f h=>k Q _ f (aM.refl Q) (h.o [1] 8)
 | ok q=>
 obtain⟨n,s4⟩:=q;rw[hr3]at k;dsimp only at k;have E:0<=n/\n<=8:=by
  rw[(il hr3).2.1];exact IP s3
 intro H3 h1 I L h;refine⟨_,rfl,?_⟩;refine⟨λla ln lc i s=>∃(j:Nat) (l:List bP) (s5:RS),i=j/\(j:Int)<=n/\ln=l.length/\jp j s4=.ok (l,s5)/\aH s5.bs/\s5.bs.length<=1099511627776/\
  aA s (ckA cb ck0::slA 58 4 la l.length lc (flat eV l)::Q::crdA rb s5::cellsA U [PA cb 0,PA hb0 0,aD last] 173::cellsA fb (encF fl) 185::cellsA b1 [aD 0,.bool false,.bool false,.bool false] 185::cellsA b [PA rb 0] 388::cellsA sb cs 145::strmA Q tm sts::F),
  λ_ _ _ i _=>n.toNat-i.toNat,⟨0,[],s4,rfl,E.1,rfl,rfl,I,L,(h.sl_nil 58 4).o [2,0,3,1,4,5,6,7,8,9] 10⟩,?_⟩
 rintro la ln lc i H4 ⟨j,l,s5,rfl,hj,rfl,t,u,w,h⟩;have h3:=KM t;refine⟨λy=>?_,λy=>?_⟩
 .have y:=Va y;have d:jp (j+1) s4=match smpR s5 with|.error e=>.error e|.ok (x,s2)=>.ok (l++[x],s2):=by
   rw[jp,t] <;> rfl
  have bad:∀e Q' s,smpR s5=.error e->e≠0->aM Q Q'->aA s (Q'::F)->KP (pnV e) s:=by
   intro e Q' s V f hs h;rw[V]at d;rw[KN d (by omega)]at k;exact k Q' s f hs h
  unfold smpR at bad d;refine⟨_,h.q 7,_,h.q 7,_,h.q 7,_,h.q 7,?_⟩;have h:=h.o [3,0,1,2,4,5,6,7,8,9] 10;refine jY h u w ?_
  cases q1:cG s5 with
  | error e=>
   rw[q1]at bad;exact λs f h=>bad _ Q _ rfl f (aM.refl Q) (h.o [2] 9)
  | ok q=>
  obtain⟨x1,s6⟩:=q;rw[q1]at bad d;dsimp only at bad d;intro H5 j1 P W h;refine⟨_,rfl,h.q 7,h.q 7,h.q 7,?_⟩;refine jY h P W ?_
  cases q2:cG s6 with
  | error e=>
   rw[q2]at bad;exact λs f h=>bad _ Q _ rfl f (aM.refl Q) (h.o [2] 9)
  | ok q=>
  obtain⟨x2,s7⟩:=q;rw[q2]at bad d;dsimp only at bad d;intro H6 h9 A Z h;refine⟨_,rfl,h.q 7,h.q 7,?_⟩;refine jY h A Z ?_
  cases q3:cG s7 with
  | error e=>
   rw[q3]at bad;exact λs f h=>bad _ Q _ rfl f (aM.refl Q) (h.o [2] 9)
  | ok q=>
  obtain⟨x3,s8⟩:=q;rw[q3]at bad d;dsimp only at bad d;intro H7 h7 R J h;refine⟨_,rfl,h.q 7,?_⟩;refine jY h R J ?_
  cases q4:cG s8 with
  | error e=>
   rw[q4]at bad;exact λs f h=>bad _ Q _ rfl f (aM.refl Q) (h.o [2] 9)
  | ok q=>
  obtain⟨x4,s9⟩:=q;rw[q4]at bad d;dsimp only at bad d;intro H8 h4 T O h;refine⟨_,rfl,?_⟩;refine h.al λb2 _ h=>?_
  refine h.append (m:=1) (ws:=eV ⟨x1,x2,x3,x4⟩) tV 3 rfl (h.ce_rd 0 rfl) rfl (zP _) (by omega) (by omega) λa5 c5 H9 h=>⟨_,_,_,rfl,?_⟩
  rw[aJ (x:=(j:Int)+1)];refine⟨⟨j+1,l++[⟨x1,x2,x3,x4⟩],s9,by omega,by omega,by rw[UZ];rfl,d,T,O,?_⟩,by dsimp only;omega⟩;have e:flat eV (l++[⟨x1,x2,x3,x4⟩])=flat eV l++eV ⟨x1,x2,x3,x4⟩:=by rw[dT];simp[flat]
  rw[e,UZ];exact h.o [2,3,4,1,5,6,7,8,9,10] 11
 .have h6:=Vb y;have h0:j=n.toNat:=by omega
  subst h0;rw[t]at k;dsimp only at k;exact TT (fl:=fl) (ck0:=ck0) (hb0:=hb0) ok v Y ha G h8 u w k h
end
def kD(s:aI)(a:Int):Rd (List En×Fl×br):=λr=>match cG r with
 | .error e=>.error e
 | .ok (ep,s1)=>match cG s1 with
  | .error e=>.error e
  | .ok (bt,s2)=>match cG s2 with
   | .error e=>.error e
   | .ok (tm,s3)=>if (gy s.cfg.agents s.rows a ⟨ep,bt,tm⟩).2≠0 then .error (gy s.cfg.agents s.rows a ⟨ep,bt,tm⟩).2 else match upR s.now s3 with
    | .error e=>.error e
    | .ok (t,s4)=>match flR s.cfg t s4 with
     | .error e=>.error e
     | .ok (x,s5)=>.ok (((gy s.cfg.agents s.rows a ⟨ep,bt,tm⟩).1,x.1,x.2),s5)
theorem KU{most:Int}{rows:List En}{a:Int}{e:En}(h:(gy most rows a e).2=0):0<=a/\a<=63/\1<=e.epoch/\(gy most rows a e).1=rows.set a.toNat e/\¬0<(bg rows a).epoch:=by
 unfold gy at h ⊢
 split at h
 .simp at h
 rename_i c;rw[UW c]
 split at h
 .simp at h
 rename_i b;rw[UW b]
 split at h
 .simp at h
 rename_i d;rw[UW d];unfold bad at c;exact⟨by omega,by omega,by omega,rfl,b⟩
section
variable {F L:List aE}{H:aC}{K KP:KE}{Q Q':aE}{sb:Nat}{s:aI}
theorem TV{rb b b1 fb:Nat}{a:Nat}{p:SAd}{t r3:Int}{r:RS}
  (ok:j9 s.cfg) (B:a<s.sts.length) (j:aH r.bs) (m:r.bs.length<=1099511627776)
  (k:APost rb sb p.tm (dq s p) s.sts a Q F K KP (flR s.cfg t r))
  (h:aA H (crdA rb r::Q::cellsA fb [aD t,.bool false,.bool false,.bool false] 185::cellsA b1 [aD 0,.bool false,.bool false,.bool false] 185::cellsA b [PA rb 0] 388::cellsA sb (dq s p) 145::strmA Q p.tm s.sts::F)) :
  lC.r4 sb 0 (a:Int) K KP b b1 r3 fb 0 H:=by
 unfold flR at k;unfold lC.r4;refine⟨_,h.q 4,?_⟩;refine ug h j m ?_
 cases hr:eA r with
 | error e=>
  rw[hr]at k;exact λE y h=>k Q _ y (aM.refl Q) (h.o [0] 6)
 | ok q=>
 obtain⟨v,s1⟩:=q;rw[hr]at k;dsimp only at k;intro L A n w h;refine⟨_,rfl,?_⟩;refine h.st 2 rfl rfl ?_;intro I h;refine h.st 2 rfl rfl ?_;intro J h;refine h.st 2 rfl rfl ?_;intro M h;have h:=h.o [5,0,1,2,3,4,6] 7;refine Kd (Q:=Q) ok h λN P h=>⟨_,rfl,?_⟩
 obtain⟨cb,f,h⟩:=gS.1 h;refine⟨_,h.q 8,?_⟩;have h:=h.o [4,0,1,2,3,5,6,7,8,9] 10;refine uh h n w ?_;unfold mR at k
 cases hr2:ge s1 with
 | error e=>
  rw[hr2]at k;exact λE y h=>k Q _ y (aM.refl Q) (h.o [4] 9)
 | ok q=>
 obtain⟨last,s2⟩:=q;rw[hr2]at k;dsimp only at k;intro G C u i h;refine⟨_,rfl,cY ?_⟩;refine h.st 1 rfl rfl ?_;intro O h;refine cY ⟨_,h.r 1,_,oh,?_⟩;intro D x;refine⟨λd=>?_,λd=>x _ ?_⟩
 .rw [UX (by rw[V1]at d;exact d)]at k;exact k Q _ (by decide) (aM.refl Q) (h.o [5] 10)
 .rw [UW (by rw[VI]at d;rw[d];simp)]at k;refine TU (fl:=⟨t,bitF v 1,bitF v 2,bitF v 4⟩) (ck0:=(lP s.cfg).ck) (hb0:=f) (c:=s.cfg) (last:=last) (cb:=cb) ok rfl rfl B rfl rfl u i ?_ (h.o [0,2,5,1,6,7,8,4,9] 10)
  cases hq:nP s.cfg last s2 with
  | error e=>rw[hq]at k;exact k
  | ok q=>rw[hq]at k;exact k
def BPost(rb sb:Nat)(s:aI)(p:SAd)(a:Int)(Q:aE)(F:List aE)(K KP:KE):Except Int ((List En×Fl×br)×RS)->Prop
 | .ok (x,r)=>∀Q' H',aM Q Q'->r.e=0->aH r.bs->r.bs.length<=1099511627776->aA H' (Q'::crdA rb r::cellsA sb (dq s p) 145::strmA Q' p.tm (s.sts.set a.toNat (some x.2.2))::Ro.rollC p.rb p.rm s.cfg.agents::Ro.mapE p.rm x.1::F)->K (mI x.2.1) H'
 | .error e=>∀Q' H',e≠0->aM Q Q'->aA H' (Q'::F)->KP (pnV e) H'
theorem TW{rb:Nat}{p:SAd}{a:Int}{r:RS}(ok:j9 s.cfg)(rok:fO s.rows)(M:s.sts.length=64)(A:aH r.bs)(B:r.bs.length<=1099511627776)
  (k:BPost rb sb s p a Q F K KP (kD s a r))
  (h:aA H (crdA rb r::Q::cellsA sb (dq s p) 145::Ro.rollC p.rb p.rm s.cfg.agents::Ro.mapE p.rm s.rows::strmA Q p.tm s.sts::F)) :
  CP 202 #[.agg #[PA rb 0],PA sb 0,aD a] H K KP:=by
 refine Om ?_;unfold kD at k;refine h.al λb _ h=>?_
 refine h.al λb1 _ h=>⟨_,h.r 4,_,h.q 1,_,h.q 1,_,h.q 1,?_⟩
 have h:=h.o [2,0,1,3,4,5,6,7] 8;refine jY h A B ?_
 cases q1:cG r with
 | error e=>
  rw[q1]at k;exact λi c h=>k Q _ c (aM.refl Q) (h.o [2] 7)
 | ok q=>
 obtain⟨ep,s1⟩:=q;rw[q1]at k;dsimp only at k;intro W N C E h;refine⟨_,rfl,h.q 2,h.q 2,h.r 4,?_⟩;refine jY h C E ?_
 cases q2:cG s1 with
 | error e=>
  rw[q2]at k;exact λi c h=>k Q _ c (aM.refl Q) (h.o [2] 7)
 | ok q=>
 obtain⟨bt,s2⟩:=q;rw[q2]at k;dsimp only at k;intro U P D y h;refine⟨_,rfl,h.q 2,h.r 4,?_⟩;refine jY h D y ?_
 cases q3:cG s2 with
 | error e=>
  rw[q3]at k;exact λi c h=>k Q _ c (aM.refl Q) (h.o [2] 7)
 | ok q=>
 obtain⟨tm,s3⟩:=q;rw[q3]at k;dsimp only at k;intro V S u n h;refine⟨_,rfl,h.r 4,?_⟩;have h:=h.o [5,6,0,1,2,3,4,7] 8;refine Ro.Set_spec rok (agent:=a) (x:=⟨ep,bt,tm⟩) h λY h=>⟨_,rfl,?_⟩
 have I:=KU (most:=s.cfg.agents) (rows:=s.rows) (a:=a) (e:=⟨ep,bt,tm⟩);generalize gy s.cfg.agents s.rows a ⟨ep,bt,tm⟩=G at *;refine j5 (λc=>⟨rfl,?_⟩) λc=>?_
 .rw [UW (by simpa using c)]at k;obtain⟨g1,g2,-⟩:=I c;have J:((a.toNat:Nat):Int)=a:=by omega
  intro T R;have j:∀(t:Int) (s4:RS) fb i,upR s.now s3=.ok (t,s4)->aH s4.bs->s4.bs.length<=1099511627776->
    aA i (crdA rb s4::Q::cellsA fb [aD t,.bool false,.bool false,.bool false] 185::cellsA b1 [aD 0,.bool false,.bool false,.bool false] 185::cellsA b [PA rb 0] 388::cellsA sb (dq s p) 145::strmA Q p.tm s.sts::Ro.rollC p.rb p.rm s.cfg.agents::Ro.mapE p.rm G.1::F)->T fb 0 i:=by
   intro t s4 fb L m d f h;rw[m]at k;dsimp only at k;refine R _ _ _ ?_;have:=TV (a:=a.toNat) (t:=t) (r3:=0) ok (by omega) d f (K:=K) (KP:=KP) ?_ h
   .rw [J]at this;rw[c];exact this
   .cases hq:flR s.cfg t s4 with
    | error e=>
     rw[hq]at k;exact λQ' i c hs h=>k Q' i c hs (h.o [0] 3)
    | ok q=>
     rw[hq]at k;exact λQ' i hs c hb O h=>k Q' i hs c hb O h
  refine⟨_,h.q 4,_,h.r 6,?_,?_⟩
  .have h:=h.o [2,0,1,3,4,5,6,7] 8;refine se h u n ?_
   cases m:upR s.now s3 with
   | error e=>
    rw[m]at k;exact λi c h=>k Q _ c (aM.refl Q) (h.o [4] 7)
   | ok q=>
   obtain⟨t,s4⟩:=q;intro L v d f h;refine⟨_,rfl,?_⟩;refine h.al λb3 _ h=>?_
   refine h.st 0 rfl rfl ?_;intro w h;exact j t s4 b3 w m d f (h.o [1,6,0,4,5,7,8,2,3] 9)
  .refine h.al λb4 _ h=>⟨h.r 7,h.q 5,?_⟩
   have h:=h.o [3,0,1,2,4,5,6,7,8] 9;refine se h u n ?_
   cases m:upR s.now s3 with
   | error e=>
    rw[m]at k;exact λi c h=>k Q _ c (aM.refl Q) (h.o [5] 8)
   | ok q=>
   obtain⟨t,s4⟩:=q;intro L v d f h;refine⟨_,rfl,?_⟩;refine h.st 1 rfl rfl ?_;intro w h;exact j t s4 b4 w m d f (h.o [0,6,1,4,5,7,8,2,3] 9)
 .rw [UX c]at k;exact k Q _ c (aM.refl Q) (h.o [5] 8)
end
structure PAg where
 rows:List En
 sts:List (Option br)
 fls:FM
def fh(s0:aI):Nat->Rd PAg
 | 0,r=>.ok (⟨s0.rows,s0.sts,[]⟩,r)
 | n+1,r=>match fh s0 n r with
  | .error e=>.error e
  | .ok (x,r1)=>match cG r1 with
   | .error e=>.error e
   | .ok (a,r2)=>match kD { s0 with rows:=x.rows,sts:=x.sts } a r2 with
    | .error e=>.error e
    | .ok (y,r3)=>.ok (⟨y.1,x.sts.set a.toNat (some y.2.2),mset a y.2.1 x.fls⟩,r3)
def fi(most:Int):Nat->Rd CM
 | 0,r=>.ok ([],r)
 | n+1,r=>match fi most n r with
  | .error e=>.error e
  | .ok (m,r1)=>match jb r1 with
   | .error e=>.error e
   | .ok (o,r2)=>if (jU most m o.1 o.2).2≠0 then .error (jU most m o.1 o.2).2 else .ok ((jU most m o.1 o.2).1,r2)
def eF:Nat->Rd (List Ot)
 | 0,r=>.ok ([],r)
 | n+1,r=>match eF n r with
  | .error e=>.error e
  | .ok (l,r1)=>match jb r1 with
   | .error e=>.error e
   | .ok (o,r2)=>.ok (l++[o],r2)
def kE(c:bG)(bs:List Int):Except Int aI:=match upR 4611686018427387903 ⟨0,bs⟩ with
 | .error e=>.error e
 | .ok (now,r1)=>match upR 1099511627776 r1 with
  | .error e=>.error e
  | .ok (boots,r2)=>match upR 1099511627776 r2 with
   | .error e=>.error e
   | .ok (sunk,r3)=>match upR now r3 with
    | .error e=>.error e
    | .ok (moment,r4)=>match ge r4 with
     | .error e=>.error e
     | .ok (value,r5)=>match dP 64 r5 with
      | .error e=>.error e
      | .ok (n,r6)=>match fh { bS c with now:=now,boots:=boots,sunk:=sunk } n.toNat r6 with
       | .error e=>.error e
       | .ok (x,r7)=>if ¬(moment-c.lag<=value/\value<=moment) then .error 11 else match dP 1024 r7 with
        | .error e=>.error e
        | .ok (m,r8)=>match fi c.cells m.toNat r8 with
         | .error e=>.error e
         | .ok (cm,r9)=>match eA r9 with
          | .error e=>.error e
          | .ok (k,r10)=>match eF k.toNat r10 with
           | .error e=>.error e
           | .ok (kept,r11)=>if (dG r11).e≠0 then .error (dG r11).e else
            .ok ⟨c,now,boots,sunk,x.rows,⟨c.lag,moment,value,x.fls⟩,cm,x.sts,kept⟩
def pA(c:bG)(bs:List Int):Except Int aI:=if fC c=false then .error 11 else match kE c bs with
 | .error _=>.error 10
 | .ok s=>if stB s=bs then .ok s else .error 10
section
variable {F L:List aE}{H:aC}{K KP:KE}{Q Q':aE}{sb:Nat}{s:aI}
theorem MSet_err{ms:MS}{mb rb ab:Nat}{now value:Int}(a:isT now)(d:1<=ms.lag/\ms.lag<=1099511627776)(b:¬(now-ms.lag<=value/\value<=now))(h:aA H (Ma.markC mb rb ms::F))(k:K (aD 11) H) :
  CF 204 #[PA mb 0,aD now,aD value,.map (some ab)] H K:=by
 refine cN 204 0x1d121561239951d41c [[]] ?_;have e1:i64.wrap (now-ms.lag)=now-ms.lag:=aJ;refine⟨_,Ma.isTime_spec,λ_=>trivial,_,λ_=>h.r 0,?_⟩
 dsimp only
 conv=>whnf
 rw[e1,Vs a];refine⟨λ_=>k,λc=>?_⟩
 simp only[Bool.not_true,W1,Vp,Ve]at c;exact UY ⟨by omega,by omega⟩ b
end
structure AgsOk(s0:aI)(x:PAg):Prop where
 rows:fO x.rows
 len:x.sts.length=64
 sts:∀st,some st∈x.sts->lM s0.cfg st
 reg:∀k:Nat,(∃st:br,x.sts[k]?=some (some st))↔∃e:En,x.rows[k]?=some e/\0<e.epoch
 fls:∀p∈x.fls,isAg p.1/\isT p.2.t/\p.2.t<=s0.now
 nd:(aG x.fls).Nodup
theorem Bk{x a b:Int}(h:inM x a b=true):a<=x/\x<=b:=by
 simp only[inM,Vd,Vc]at h;exact h
theorem ou{m v:Int}{s a:RS}(h:upR m s=.ok (v,a)):0<=v/\v<=m:=by
 unfold upR at h
 cases e:cG s with
 | error e'=>rw[e]at h;cases h
 | ok q=>
  obtain⟨u,s1⟩:=q;rw[e]at h;dsimp only at h
  split at h
  .rename_i h0
   cases h
   exact Bk h0
  .cases h
theorem longR_wf{v:Int}{s a:RS}(h:cG s=.ok (v,a)):aF v:=by
 rw[(il h).2.1];exact i64in _
theorem strR_ok{c:bG}{s j:RS}{st:br}(ok:j9 c)(h:mR c s=.ok (st,j)):lM c st:=by
 unfold mR at h
 cases h1:ge s with
 | error e=>rw[h1]at h;cases h
 | ok q=>
 obtain⟨last,s1⟩:=q;rw[h1]at h;dsimp only at h
 split at h
 .cases h
 rename_i a;have a:=Bk (by simpa using a);unfold nP at h
 cases h2:eA s1 with
 | error e=>rw[h2]at h;cases h
 | ok q=>
 obtain⟨hd,s2⟩:=q;rw[h2]at h;dsimp only at h
 cases h3:cG s2 with
 | error e=>rw[h3]at h;cases h
 | ok q=>
 obtain⟨streak,s3⟩:=q;have d:=longR_wf h3;rw[h3]at h;dsimp only at h
 cases h4:dP 8 s3 with
 | error e=>rw[h4]at h;cases h
 | ok q=>
 obtain⟨n,s4⟩:=q;rw[h4]at h;dsimp only at h
 cases h5:jp n.toNat s4 with
 | error e=>rw[h5]at h;cases h
 | ok q=>
 obtain⟨l,s5⟩:=q;rw[h5]at h;dsimp only at h;unfold ot at h
 split at h
 .cases h
 rename_i b;have b:=Decidable.not_not.1 b
 cases h6:cG s5 with
 | error e=>rw[h6]at h;cases h
 | ok q=>
 obtain⟨next,s6⟩:=q;rw[h6]at h;dsimp only at h
 split at h
 .cases h
 rename_i k
 cases h7:dP 256 s6 with
 | error e=>rw[h7]at h;cases h
 | ok q=>
 obtain⟨m,s7⟩:=q;rw[h7]at h;dsimp only at h;have f:qH c.hold (⟨next,c.hold,[]⟩:HS Pv):=⟨⟨by show 0<=next;omega,ok.hd.1,ok.hd.2,⟨by simp[gG],λp i=>UY i (by simp)⟩⟩,rfl,by show next<=_;omega,λp i=>UY i (by simp)⟩
 cases h8:iD ⟨next,c.hold,[]⟩ m.toNat s7 with
 | error e=>rw[h8]at h;cases h
 | ok q=>
 obtain⟨hs,s8⟩:=q;rw[h8]at h
 cases h
 have g:=Bj f h8;unfold aF at d;exact⟨⟨b.1,b.2.2,b.2.1,d.2⟩,rfl,rfl,g.ok,g.most,g.next,g.rows,a⟩
theorem agtR_ok{s0:aI}{x:PAg}{a:Int}{r u:RS}{y:List En×Fl×br}(ok:j9 s0.cfg)(b:isT s0.now)(g:AgsOk s0 x)(h:kD { s0 with rows:=x.rows,sts:=x.sts } a r=.ok (y,u)) :
  AgsOk s0 ⟨y.1,x.sts.set a.toNat (some y.2.2),mset a y.2.1 x.fls⟩:=by
 unfold kD at h
 cases h1:cG r with
 | error e=>rw[h1]at h;cases h
 | ok q=>
 obtain⟨ep,s1⟩:=q;rw[h1]at h;dsimp only at h
 cases h2:cG s1 with
 | error e=>rw[h2]at h;cases h
 | ok q=>
 obtain⟨bt,s2⟩:=q;rw[h2]at h;dsimp only at h
 cases h3:cG s2 with
 | error e=>rw[h3]at h;cases h
 | ok q=>
 obtain⟨tm,s3⟩:=q;rw[h3]at h;dsimp only at h
 split at h
 .cases h
 rename_i hs;have hs:(gy s0.cfg.agents x.rows a ⟨ep,bt,tm⟩).2=0:=by simpa using hs
 obtain⟨a1,a2,a3,a4,a5⟩:=KU hs;have d:=setR_ok (most:=s0.cfg.agents) g.rows a ⟨ep,bt,tm⟩
 cases h4:upR s0.now s3 with
 | error e=>rw[h4]at h;cases h
 | ok q=>
 obtain⟨t,s4⟩:=q;have n:=ou h4;rw[h4]at h;dsimp only at h
 cases h5:flR s0.cfg t s4 with
 | error e=>rw[h5]at h;cases h
 | ok q=>
 obtain⟨⟨fl,st⟩,s5⟩:=q;rw[h5]at h
 cases h
 unfold flR at h5
 cases h6:eA s4 with
 | error e=>rw[h6]at h5;cases h5
 | ok q=>
 obtain⟨v,s6⟩:=q;rw[h6]at h5;dsimp only at h5
 cases h7:mR s0.cfg s6 with
 | error e=>rw[h7]at h5;cases h5
 | ok q=>
 obtain⟨s,s7⟩:=q;rw[h7]at h5
 cases h5
 have m:=strR_ok ok h7;have i:a.toNat<x.sts.length:=by rw[g.len];omega
 have c:a.toNat<x.rows.length:=by rw[g.rows.len];omega
 refine⟨d,by show (x.sts.set _ _).length=64;rw[WY,g.len],λz f=>?_,λj=>?_,λp k=>?_,oF g.nd⟩
 .rcases WX f with f|f
  .exact g.sts z f
  .cases f;exact m
 .dsimp only;rw[a4]
  by_cases e:j=a.toNat
  .subst e;rw[List.getElem?_set_self i,List.getElem?_set_self c];exact⟨λ_=>⟨_,rfl,by show 0<ep;dsimp only at a3;omega⟩,λ_=>⟨_,rfl⟩⟩
  .rw [List.getElem?_set_ne (by omega),List.getElem?_set_ne (by omega)];exact g.reg j
 .rcases nM k with rfl|k
  .have h0:=b.2;exact⟨⟨by show 0<=a;omega,by show a<64;omega⟩,⟨n.1,by show t<=_;omega⟩,n.2⟩
  .exact g.fls p k
theorem Bl{s0:aI}(ok:cQ s0):∀{n:Nat} {r b:RS} {x:PAg},fh s0 n r=.ok (x,b)->AgsOk s0 x
 | 0,r,b,x,h=>by
  cases h
  exact⟨ok.rows,ok.len,ok.sts,ok.reg,λp c=>UY c (by simp),by simp⟩
 | n+1,r,b,x,h=>by
  unfold fh at h
  cases h1:fh s0 n r with
  | error e=>rw[h1]at h;cases h
  | ok q=>
  obtain⟨x1,r1⟩:=q;rw[h1]at h;dsimp only at h
  cases h2:cG r1 with
  | error e=>rw[h2]at h;cases h
  | ok q=>
  obtain⟨a,r2⟩:=q;rw[h2]at h;dsimp only at h
  cases h3:kD { s0 with rows:=x1.rows,sts:=x1.sts } a r2 with
  | error e=>rw[h3]at h;cases h
  | ok q=>
  obtain⟨y,r3⟩:=q;rw[h3]at h
  cases h
  exact agtR_ok ok.cfg ok.now (Bl ok h1) h3
theorem iRes_b{s:RS}(hb:aH s.bs):aH (dF s).2.bs:=gH hb
theorem Bm{s c:RS}{o:Ot}(hb:aH s.bs)(h:jb s=.ok (o,c)):WC o.2/\fX o.2=true/\(0<=o.1.win/\o.1.win<=4611686018427387903)/\aH c.bs:=by
 unfold jb at h
 cases e:ge s with
 | error e'=>rw[e]at h;cases h
 | ok q=>
  obtain⟨w,s1⟩:=q;rw[e]at h;dsimp only at h;have b:aH s1.bs:=by rw[(il e).1];exact iRes_b hb
  have t1:=lF (m:=s1.bs.length) b;have t2:=lF (m:=(aZ s1.bs.length s1).2.bs.length) t1.1
  split at h
  .cases h
  split at h
  .cases h
  rename_i a
  split at h
  .cases h
  rename_i d
  cases h
  have a:(!(ij (bF (aZ s1.bs.length s1).1)).2.2 || !inM w 0 4611686018427387903)=false:=by simpa only[Bool.not_eq_true] using a
  rw[Vp,VI]at a;exact⟨SQ t2.2,SR (by simpa using d),Bk (by simpa only[VI] using a.2),t2.1⟩
structure CelOk(most:Int)(m:CM):Prop where
 sh:ee most m
 win:∀p∈m,0<=p.1.win/\p.1.win<=4611686018427387903
theorem xt{most:Int}(h0:ee most []):∀{n:Nat} {r c:RS} {m:CM},aH r.bs->fi most n r=.ok (m,c)->CelOk most m/\aH c.bs
 | 0,r,c,m,hb,h=>by
  cases h
  exact⟨⟨h0,λp a=>UY a (by simp)⟩,hb⟩
 | n+1,r,c,m,hb,h=>by
  unfold fi at h
  cases h1:fi most n r with
  | error e=>rw[h1]at h;cases h
  | ok q=>
  obtain⟨m1,r1⟩:=q;rw[h1]at h;dsimp only at h;have b:=xt h0 hb h1
  cases h2:jb r1 with
  | error e=>rw[h2]at h;cases h
  | ok q=>
  obtain⟨o,r2⟩:=q;rw[h2]at h;dsimp only at h;have d:=Bm b.2 h2
  split at h
  .cases h
  rename_i hs
  cases h
  refine⟨⟨setS_ok b.1.sh d.1 (by unfold aF;omega),λp a=>?_⟩,d.2.2.2⟩
  unfold jU at a
  split at a
  .exact b.1.win p a
  split at a
  .exact b.1.win p a
  split at a
  .exact b.1.win p a
  rcases nM a with rfl|a
  .exact d.2.2.1
  .exact b.1.win p a
theorem xu:∀{n:Nat} {r b:RS} {l:List Ot},aH r.bs->eF n r=.ok (l,b)->(∀o∈l,WC o.2)/\aH b.bs
 | 0,r,b,l,hb,h=>by
  cases h
  exact⟨λo c=>UY c (by simp),hb⟩
 | n+1,r,b,l,hb,h=>by
  unfold eF at h
  cases h1:eF n r with
  | error e=>rw[h1]at h;cases h
  | ok q=>
  obtain⟨l1,r1⟩:=q;rw[h1]at h;dsimp only at h;have d:=xu hb h1
  cases h2:jb r1 with
  | error e=>rw[h2]at h;cases h
  | ok q=>
  obtain⟨o,r2⟩:=q;rw[h2]at h
  cases h
  have c:=Bm d.2 h2;refine⟨λx a=>?_,c.2.2.2⟩
  rcases Vz.1 a with a|a
  .exact d.1 x a
  .rw [Vo]at a;rw[a];exact c.1
section
variable {F L:List aE}{H:aC}{K KP:KE}{Q Q':aE}{sb:Nat}{s:aI}
theorem TX{b1 b2:Nat}{e v1:Int}{v:KQ}{d:FrameMode->aC->Prop}(n:e≠0)(h:aA H (cellsA b1 [.pointer v] 40::cellsA b2 [aD v1] 50::F))
  (k:∀b,aA b (cellsA b1 [.pointer none] 40::cellsA b2 [aD 10] 50::F)->d (bi (pnV e) true) b):cB Tryz.prog 196 [(PA b1 0),(PA b2 0)] (bi (pnV e) false) H d:=by
 have hd:cB Tryz.prog 196 [(PA b1 0),(PA b2 0)] (bi (pnV e) false) H λc b=>c=bi (pnV e) true/\aA b (cellsA b1 [.pointer none] 40::cellsA b2 [aD 10] 50::F):=by
  refine rE.defq (.inr ⟨rfl,rfl⟩) ?_;unfold rE.code;refine J4 ⟨_,rfl,?_⟩;intro y j;refine⟨λ_=>?_,λi=>UY i (by simpa using n)⟩
  refine h.st 0 rfl rfl ?_;intro u h;refine h.st 1 rfl rfl ?_;intro s h;refine j _ ?_
  skip
  exact h
 intro w m;refine (hd w m).mono λf x t a=>?_
 cases f <;> simp only at a ⊢
 exact⟨a.1,a.2.1▸k _ a.2.2⟩
theorem TY{b1 b2:Nat}{d:FrameMode->aC->Prop}(h:aA H F)
  (k:∀b,aA b F->d .returning b):cB Tryz.prog 196 [(PA b1 0),(PA b2 0)] .returning H d:=by
 have hd:cB Tryz.prog 196 [(PA b1 0),(PA b2 0)] .returning H λc b=>c=.returning/\aA b F:=by
  refine rE.defq (.inl ⟨rfl,rfl,rfl⟩) ?_;unfold rE.code;refine J3 ⟨_,rfl,?_⟩;intro s i;refine⟨λf=>UY f (by simp),λ_=>i _ ?_⟩
  skip
  exact h
 intro w j;refine (hd w j).mono λe m n a=>?_
 cases e <;> simp only at a ⊢
 exact⟨a.1,a.2.1▸k _ a.2.2⟩
end
end Go.Proofs.YtaaieblnikcndaaGreatDoor
