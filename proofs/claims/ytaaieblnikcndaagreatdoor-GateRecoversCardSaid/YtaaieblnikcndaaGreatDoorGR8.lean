/-
  Lemmas for GateRecovers: part 8 of what it rests on. Conditions: none.
-/
import Derived.Test.YtaaieblnikcndaaGreatDoorGR7
set_option linter.unusedVariables false
set_option linter.unusedSimpArgs false
set_option maxRecDepth 100000
set_option maxHeartbeats 16000000
open Go.IntKind (i64 u64 i8 u8 i32 u32 i16 u16)
namespace Go.Proofs.YtaaieblnikcndaaGreatDoor
open Go
section
variable {F L:List aE}{H:aC}{K KP:KE}{Q:aE}
theorem TO(s:RS):(aZ 4096 s).1.length<=4096:=by
 unfold aZ
 split
 .simp
 .split
  .split
   .simp
   .split
    .simp
    .rw [VY];omega
  .simp
  .simp
theorem evsQ_len{s b:RS}{l:List Pv}(h:mN s=.ok (l,b)):l.length<=64:=by
 unfold mN at h
 split at h
 .cases h
 .rename_i n s1 a;have:=AO h;unfold dO okR at a
  split at a
  .cases a
  .cases a
   have:=AN s;omega
theorem K2:∀{n:Nat} {s c:RS} {l:List Pv},j9 n s=.ok (l,c)->∀e∈l,fw e.name e.labs=true
 | 0,s,c,l,h=>by cases h;simp
 | n+1,s,c,l,h=>by
  unfold j9 at h
  split at h
  .cases h
  .rename_i i s1 f
   split at h
   .cases h
   .rename_i v s2 b
    cases h
    intro e a
    rcases VV.1 a with a|a
    .exact K2 f e a
    .rw [VI]at a;subst a;unfold evQ okR at b
     split at b
     .cases b
     .rename_i d
      cases b
      exact Jg (by simpa using d)
theorem TS{s b:RS}{l:List Pv}(h:mN s=.ok (l,b)):∀e∈l,e.labs.length<=1000000:=by
 unfold mN at h
 split at h
 .cases h
 .intro e a;have:=(mJ (K2 h e a)).len;omega
theorem TT{a:KQ}{c:Nat}{bs:List Int}(h:aA H (Q::F))(ha:∀H,aA H (Q::F)->aP H a (bs.map U8))(hb:aI bs)(hl:bs.length<=1099511627776)
  (k:QPost Q F K (nS bs)):CF 80 #[.slice a bs.length c] H K:=by
 refine Pk ?_;refine h.al λb _ h=>?_
 refine h.al λb1 _ h=>?_
 have pan:∀e Q' J cs v1,nS bs=.error e->e≠0->aM Q Q'->cs.length=14->aA J (cellsA b1 [aD v1] 50::cellsA b cs 81::Q'::F)->
   bI 167 X.calls=true/\cC Tryz.prog 167 (dv b 0 b1 0) (bi (pnF e) false) J λu H_=>u=bi (pnF e) true/\mw H_ b 0 λl=>aO H_ b1 0 λh9=>K (ei (.agg ⟨l⟩) h9) H_:=by
  intro e Q' J cs v1 w d hs j2 h;refine⟨rfl,Tn j2 h λH2 h=>⟨rfl,_,_,_,_,_,_,_,_,_,_,_,_,_,_,_,_,_,_,_,_,h.q 1,_,h.r 0,?_⟩⟩
  rw[w]at k;exact k Q' _ d hs h.tl.tl
 refine rQ h (λH h=>ha H h.tl.tl) hl λrb H2 h=>⟨_,rfl,?_⟩
 refine Tj h hb hl ?_;unfold nS at k pan
 cases hr0:py ⟨0,bs⟩ with
 | error e=>
  rw[hr0]at pan;exact λJ d h=>pan _ Q _ _ _ rfl d (aM.refl Q) rfl h
 | ok p=>
 obtain⟨n,s1⟩:=p;rw[hr0]at pan k;dsimp only at pan k;have hkd:=kindR_ok hr0;intro H4 r9 u8 l6 h;refine⟨_,rfl,?_⟩;refine h.st 2 rfl rfl ?_;intro H5 h;have h:aA H5 (crdA rb s1::cellsA b1 [aD 0] 50::cellsA b (cH { kind:=n } {}) 81::Q::F):=h;refine xd (k0:=n) h 2 rfl rfl λp pc H6 _ h=>⟨_,_,_,rfl,?_⟩
 have ho:=xc n;refine⟨λi J=>∃(j:Nat) (T:List Int) (s2:RS),i=j/\j<=(aU n).length/\jb j s1=.ok (T,s2)/\s2.e=0/\aI s2.bs/\s2.bs.length<=1099511627776/\
  aA J (crdA rb s2::slA 297 1 p (aU n).length pc ((aU n).map λi=>PA b i)::cellsA b1 [aD 0] 50::cellsA b (cH (jc { kind:=n } ((aU n).take j) T) {}) 81::Q::F),
  λi _=>(aU n).length-i.toNat,⟨0,[],s1,rfl,by omega,rfl,r9,u8,l6,h.o [1,0,2,3,4] 5⟩,?_⟩
 rintro i H7 ⟨j,T,s2,rfl,hj,W,he2,L,N,h⟩;have hvl:=AJ W;refine⟨λt=>?_,λt=>?_⟩
 .have t:j<(aU n).length:=by have:=V8 t;omega
  have Y:=(h.sl_rd 1 rfl).at t;have hi:=AH _ (VL t);refine⟨by omega,_,_,Y.1,_,Y.2,?_⟩;refine nL h L N λH8 h=>⟨_,rfl,cZ ?_⟩
  have G:=gK L;have R:=jQ s2;refine h.st 3 rfl (Nat.ble_eq_true_of_le (by show (aU n)[j]+1<=14;omega)) ?_;intro H9 h;refine⟨_,mB h,?_⟩;have E:jb (j+1) s1=match cG s2 with|.error e=>.error e|.ok (v,s2)=>.ok (T++[v],s2):=by
   rw[jb,W] <;> rfl
  unfold cG okR at E;refine sD (λe=>⟨rfl,?_⟩) λe=>?_
  .rw [V4 (by simpa using e)]at E;dsimp only at E;have hw:i64.wrap ((j:Int)+1)=((j+1:Nat):Int):=by rw[aJ];omega
   refine⟨⟨j+1,_,(bM s2).2,hw,t,E,e,G,by omega,?_⟩,by rw[hw];dsimp only;omega⟩;rw[Wn t,JN (by rw[VY];omega)];have h:aA H9 (crdA rb (bM s2).2::slA 297 1 p (aU n).length pc ((aU n).map λi=>PA b i)::cellsA b1 [aD 0] 50::cellsA b (cv (cH (jc { kind:=n } ((aU n).take j) T) {}) (0+(aU n)[j]) [aD (i64.wrap ((bM s2).1:Int))]) 81::Q::F):=by
    rw[VX];exact h
   rw[VX,encQ_set hi.1 hi.2]at h;exact h
  .rw [V5 e]at E;rw[AK E t]at pan;exact pan _ Q _ _ _ rfl e (aM.refl Q) (oh ..) (h.o [2,3] 4)
 have h7:j=(aU n).length:=by have:=V9 t;omega
 subst h7;rw[W]at pan k;dsimp only at pan k;rw[Wi]at h;have C:∀x:QA,(n≠5->x.ea=none/\x.ec=0)->(n≠8->x.la=none/\x.lc=0/\x.da=none/\x.dc=0)->(jc { kind:=n } (aU n) T).Sh x:=λx I M=>numF_sh I M
 obtain⟨a1,a2,a3,a4,a5⟩:=xf (aU n) T { kind:=n };obtain⟨f,hf⟩:∃f,jc { kind:=n } (aU n) T=f:=⟨_,rfl⟩;rw[hf]at k pan h a1 a2 a3 a4 a5;rw[hf]at C;refine⟨_,h.r 3,?_⟩;intro Jn hJ;have fin:∀(Q':aE) (g:Fq) (x:QA) (evs:List Ev) (s4:RS) J,mO f s2=.ok (g,s4)->aM Q Q'->(∀e∈evs,im Q' e)->g.evs=evs.map Ev.p->evs.length<=64->aI s4.bs->s4.bs.length<=1099511627776->g.Sh x->(∀e∈evs,e.labs.length<=1000000)->
   g.sl.length<=1000000->g.data.length<=1000000000->(x.da=none\/∃k o,x.da=some ⟨k,o,none⟩)->
   ∀A B:aE,(∀H F,aA H (A::F)->aP H x.la (flat dg g.sl))->(∀H F,aA H (B::F)->aP H x.da (g.data.map U8))->
   aA J (crdA rb s4::slA 99 4 x.ea evs.length x.ec (flat cx evs)::cellsA b1 [aD 0] 50::cellsA b (cH g x) 81::Q'::A::B::F)->Jn J:=by
  intro Q' g x evs s4 h4 s y O D h0 hb4 hl4 h1 j3 h6 Z r0 A B hA hB h;rw[s]at pan k;unfold endQ at pan k;dsimp only at pan k;refine hJ _ ?_;refine wv h λj1 h=>⟨_,rfl,?_⟩
  refine sD (λd=>⟨rfl,?_⟩) λd=>?_
  .rw [V4 (by simpa using d)]at pan k;refine⟨_,_,_,_,_,_,_,_,_,_,_,_,_,_,_,_,_,_,_,_,h.q 3,?_⟩;have h3:lP (crdA rb (dF s4)::slA 99 4 x.ea evs.length x.ec (flat cx evs)::cellsA b1 [aD 0] 50::cellsA b (cH g x) 81::Q'::A::B::F) x.ea evs:=
    ⟨λH h=>h.sl_rd 1 rfl,λe d H h=>(O e d).at h 4 rfl⟩
   have hQ:lQ (crdA rb (dF s4)::slA 99 4 x.ea evs.length x.ec (flat cx evs)::cellsA b1 [aD 0] 50::cellsA b (cH g x) 81::Q'::A::B::F) g x evs:=
    ⟨D,h3,λH h=>hA H _ (h.o [5] 7),λH h=>hB H _ (h.o [6] 7),r0,h1,by omega,j3,h6,Z⟩
   refine JA h hQ λr8 h=>⟨_,rfl,?_⟩
   intro y3 P;refine⟨λw=>?_,λw=>P _ ?_⟩
   .rw [V4 (by simpa using w)]at pan;exact pan _ Q' _ _ _ rfl (by decide) y rfl (h.o [2,3,4] 7)
   .rw [V5 (by simpa using w)]at k;refine⟨_,_,_,_,_,_,_,_,_,_,_,_,_,_,_,_,_,_,_,_,h.q 3,?_⟩;refine h.st 3 rfl rfl ?_;intro H13 h;refine h.st 2 rfl rfl ?_;intro H14 h;have h:=h.o [2,3,4,1] 7;refine⟨rfl,To h λH15 h=>⟨rfl,_,_,_,_,_,_,_,_,_,_,_,_,_,_,_,_,_,_,_,_,h.q 1,_,h.r 0,?_⟩⟩
    exact k Q' x evs _ y D O h1 h.tl.tl
  .rw [V5 d]at pan;exact pan _ Q' _ _ _ rfl d y rfl (h.o [2,3,4] 7)
 have S:∀(H:aC) (F:List aE),aA H (emp::F)->aP H none (flat dg []):=λH F _=>iv H none
 have U:∀(H:aC) (F:List aE),aA H (emp::F)->aP H none (([]:List Int).map U8):=λH F _=>iv H none
 refine⟨λI=>?_,λI=>?_⟩
 .have I:f.kind=5:=V8 I;have s:mO f s2=match mN s2 with|.error e=>.error e|.ok (l,s')=>.ok ({ f with evs:=l },s'):=by unfold mO;rw[V5 I] <;> rfl
  have h:=h.o [4,0,2,3] 5;refine Tk h L N ?_
  cases w:mN s2 with
  | error e=>
   rw[w]at s;exact λQ' J d hs h=>pan _ Q' _ _ _ (by rw[s];rfl) d hs rfl (h.o [1,2,0] 3)
  | ok q=>
  obtain⟨l,s3⟩:=q;rw[w]at s;dsimp only at s;have h0:=evsQ_len w;have V:=TS w;intro Q' evs a c H8 y D O l0 G R h;refine⟨_,_,_,rfl,?_⟩;refine h.st 4 rfl rfl ?_;intro H9 h;have l5:l.length=evs.length:=by rw[D,VM]
  obtain⟨e1,e2,e3⟩:=(C {} (λ_=>⟨rfl,rfl⟩) (λ_=>⟨rfl,rfl,rfl,rfl⟩)).em (by omega)
  refine fin Q' { f with evs:=l } { ea:=a,ec:=c } evs s3 _ s y O D (by omega) G R ?_ (λe d=>?_) (by dsimp only;rw[a4];simp) (by dsimp only;rw[a5];simp) (.inl rfl) emp emp (by dsimp only;rw[a4];exact S) (by dsimp only;rw[a5];exact U) ?_
  .exact⟨λh=>V6 I h,λ_=>⟨a3,a4,rfl,rfl,a5,rfl,rfl⟩,(C {} (λ_=>⟨rfl,rfl⟩) (λ_=>⟨rfl,rfl,rfl,rfl⟩)).nm⟩
  .exact V e.p (by rw[D];exact List.mem_map_of_mem d)
  .have e:cH { f with evs:=l } { ea:=a,ec:=c }=cv (cH f {}) 10 [.slice a evs.length c]:=by unfold cH;dsimp only;rw[l5];rfl
   rw[e];have h:=h.o [1,2,3,4,0] 5;have h:=(lV (lV h)).o [2,3,4,5,6,0,1] 7;exact h
 have I:¬f.kind=5:=V9 I;intro y3 P;obtain⟨e1,e2,e3⟩:=(C {} (λ_=>⟨rfl,rfl⟩) (λ_=>⟨rfl,rfl,rfl,rfl⟩)).ev (by rw[a1]at I;rw[a1];exact I)
 refine⟨λM=>?_,λM=>P _ ?_⟩
 .have M:f.kind=8:=V8 M;have s:mO f s2=match serQ s2 with|.error e=>.error e|.ok (x,s1)=>okR (aZ 4096 s1).2 { f with sn:=x.1,sl:=x.2,data:=(aZ 4096 s1).1 }:=by unfold mO;rw[V4 I,V5 M] <;> rfl
  refine JM h L N ?_
  cases w:serQ s2 with
  | error e=>
   rw[w]at s;exact λJ d h=>pan _ Q _ _ _ (by rw[s];rfl) d (aM.refl Q) rfl (h.o [1,2,3] 4)
  | ok q=>
  obtain⟨⟨nm,labs⟩,s3⟩:=q;rw[w]at s;dsimp only at s;unfold okR at s;have h2:labs.length<=1000000:=by
   unfold serQ okR at w
   split at w
   .cases w
   .rename_i hz
    cases w
    have:=(mJ (Jg (by simpa using hz))).len;omega
  intro a c H8 l0 G R h;dsimp only at h;refine⟨_,_,_,_,rfl,?_⟩;refine h.st 4 rfl rfl ?_;intro H9 h;have hd:=lK (m:=4096) G;have Z:=TO s3;have hdn:=mD s3 4096;refine nK h G R (by unfold aF;decide) λh4 h=>⟨_,rfl,?_⟩
  refine wp hd.2 h λta tc j1 h=>⟨_,_,_,rfl,?_⟩
  have y2:=ub h;refine h.st 5 rfl rfl ?_;intro r8 h;refine⟨_,mB (h.o [1,0,2,3,4,5,6] 7),?_⟩;refine sD (λd=>⟨rfl,P _ ?_⟩) λd=>?_
  .rw [V4 (by simpa using d)]at s;refine fin Q { f with sn:=nm,sl:=labs,data:=(aZ 4096 s3).1 } { la:=a,lc:=c,da:=ta,dc:=tc } [] (aZ 4096 s3).2 _ s (aM.refl Q) (λe d=>V6 d (by simp)) (by dsimp only;rw[e1];rfl) (by simp) hd.1 (by omega)
    ⟨λ_=>⟨e1,rfl,rfl⟩,λh=>V6 M h,(C {} (λ_=>⟨rfl,rfl⟩) (λ_=>⟨rfl,rfl,rfl,rfl⟩)).nm⟩ (λe d=>V6 d (by simp)) h2 (by dsimp only;omega) y2
    (slA 421 2 a labs.length c (flat dg labs)) (slA 5 1 ta (aZ 4096 s3).1.length tc ((aZ 4096 s3).1.map U8)) (λH F h=>h.sl_rd 0 rfl) (λH F h=>h.sl_rd 0 rfl) ?_
   have e:cH { f with sn:=nm,sl:=labs,data:=(aZ 4096 s3).1 } { la:=a,lc:=c,da:=ta,dc:=tc }=cv (cv (cH f {}) 11 [.string nm,.slice a labs.length c]) 13 [.slice ta (aZ 4096 s3).1.length tc]:=rfl;rw[e];have h:=h.o [1,4,5,6,2,0] 7;exact (h.sl_nil 99 4).o [1,0,2,3,4,5,6] 7
  .rw [V5 d]at s;exact pan _ Q _ _ _ (by rw[s];rfl) d (aM.refl Q) (by rw[oh,oh];rfl) (h.o [4,5,6] 7)
 .have M:¬f.kind=8:=V9 M;have s:mO f s2=.ok (f,s2):=by unfold mO;rw[V4 I,V4 M]
  have hs:=C {} (λ_=>⟨rfl,rfl⟩) (λ_=>⟨rfl,rfl,rfl,rfl⟩)
  refine fin Q f {} [] s2 _ s (aM.refl Q) (λe d=>V6 d (by simp)) (by rw[e1];rfl) (by simp) L N hs (λe d=>V6 d (by simp)) (by rw[a4];simp) (by rw[a5];simp) (.inl rfl) emp emp (by rw[a4];exact S) (by rw[a5];exact U) ?_
  have h:=h.o [0,2,3,4] 5;exact (lV (lV (h.sl_nil 99 4))).o [3,2,4,5,6,0,1] 7
def fH(bs:List Int):Except Int Fq:=if 65536<bs.length then .error 17 else if (dW bs).1≠0 then .error (dW bs).1 else nS (dW bs).2
theorem K3{a:KQ}{c:Nat}{bs:List Int}(h:aA H (Q::F))(B:∀H,aA H (Q::F)->aP H a (bs.map U8))(hb:aI bs)(i:bs.length<=c)
  (k:QPost Q F K (fH bs)):CF 28 #[.slice a bs.length c] H K:=by
 refine cM 28 119260 ?_;refine h.al λb _ h=>⟨λj=>?_,λj=>?_⟩
 .have j:=V8 j;have e:fH bs=.error 17:=by unfold fH;rw[pO]
  rw[e]at k;refine h.st 0 rfl rfl λv h=>⟨_,_,_,_,_,_,_,_,_,_,_,_,_,_,_,_,_,_,_,_,h.q 0,?_⟩
  exact k Q _ (by decide) (aM.refl Q) h.tl
 have j:=V9 j;refine G8 h (λH h=>B H h.tl) hb (by omega) i (λC D p v m h=>?_) λe v d m h=>?_
 .refine⟨_,_,_,_,rfl,λi=>V6 i (by simp),λ_=>?_⟩
  have w:p.length<=bs.length:=by
   have:=congrArg List.length (zJ m);rw[rY]at this;omega
  have n:aI p:=by have:=wD hb;rwa[m]at this
  have e:fH bs=nS p:=by unfold fH;rw[nO,m];rfl
  rw[e]at k;have h:=h.o [2,0,1] 3;refine TT h (λH h=>h.sl_rd 1 rfl) n (by omega) ?_
  cases hp:nS p with
  | error e=>
   rw[hp]at k;intro Q' A d hs h;refine⟨_,_,_,_,_,_,_,_,_,_,_,_,_,_,_,_,_,_,_,_,_,rfl,?_⟩;refine h.st 2 rfl rfl λu h=>⟨_,_,_,_,_,_,_,_,_,_,_,_,_,_,_,_,_,_,_,_,h.q 2,?_⟩
   exact k Q' _ d hs (h.o [0] 3)
  | ok f=>
   rw[hp]at k;intro Q' x evs A hs t y s h;refine⟨_,_,_,_,_,_,_,_,_,_,_,_,_,_,_,_,_,_,_,_,_,rfl,?_⟩;refine h.st 3 rfl rfl λu h=>⟨_,_,_,_,_,_,_,_,_,_,_,_,_,_,_,_,_,_,_,_,h.q 3,?_⟩
   exact k Q' x evs _ hs t y s (h.o [0,1] 4)
 .refine⟨_,_,_,_,rfl,λ_=>?_,λi=>V6 (by simpa using i) d⟩
  have e2:fH bs=.error e:=by unfold fH;rw[nO,m,V5 d]
  rw[e2]at k;refine h.st 0 rfl rfl λu h=>⟨_,_,_,_,_,_,_,_,_,_,_,_,_,_,_,_,_,_,_,_,h.q 0,?_⟩
  exact k Q _ d (aM.refl Q) h.tl
end
section
variable {F L:List aE}{H:aC}{K KP:KE}{Q Q':aE}{sb:Nat}{s:aH}
theorem TU(h:aA H (stA Q sb s::F)):bV Tryz.prog 34 #[PA sb 0] H (aD s.now):=by
 obtain⟨p,h⟩:=cX.1 h;exact cM 34 28 ⟨_,h.r 0,rfl,rfl⟩
theorem Bd(h:aA H (stA Q sb s::F)):bV Tryz.prog 29 #[PA sb 0] H (aD s.boots):=by
 obtain⟨p,h⟩:=cX.1 h;exact cM 29 28 ⟨_,h.r 0,rfl,rfl⟩
theorem TV(h:aA H (stA Q sb s::F)):bV Tryz.prog 106 #[PA sb 0] H (aD s.sunk):=by
 obtain⟨p,h⟩:=cX.1 h;exact cM 106 28 ⟨_,h.r 0,rfl,rfl⟩
theorem TW(d:s.kept.length<=1000000)(h:aA H (stA Q sb s::F))
  (k:∀a c b,aA b (slA 164 74 a s.kept.length c (flat cJ s.kept)::stA Q sb s::F)->K (.slice a s.kept.length c) b):CF 104 #[PA sb 0] H K:=by
 obtain⟨p,h⟩:=cX.1 h;refine cM 104 28 ⟨_,_,_,h.r 0,?_⟩;refine Jv h (λH h=>h.sl_rd 8 rfl) d λe f b h=>⟨_,_,_,rfl,k _ _ _ ?_⟩
 have h:=h.o [1,2,3,4,5,6,7,8,9,0] 10;have h:=cX.2 ⟨p,h⟩;exact h.o [1,0] 2
theorem K4{k:Nat}{st:br}(a:s.sts[k]?=some (some st)):s.sts.set k (some st)=s.sts:=by
 have b:k<s.sts.length:=(List.getElem?_eq_some_iff.1 a).1;have:s.sts[k]=some st:=by rw[List.getElem?_eq_getElem b]at a;exact Option.some.inj a
 rw[<-this,WS]
theorem K5{a:Int}{st:br}(h:dL s a=some st):0<=a/\s.sts[a.toNat]?=some (some st):=by
 unfold dL at h
 split at h
 .cases h
 .refine⟨by omega,?_⟩
  cases e:s.sts[a.toNat]? with
  | none=>rw[e]at h;simp at h
  | some x=>
   rw[e]at h
   cases x with
   | none=>simp at h
   | some y=>simp at h;rw[h]
theorem Be{st:br}(a:lS s.cfg st):∀q∈st.hs.rows,aF q.1:=λq b=>by
 have e:=(a.rows q b).1;have c:=(a.hs.rows.inb q b).1;have d:=a.hs.next0;unfold aF;omega
theorem Bf{st:br}(a:lS s.cfg st):st.hs.rows.length<=256:=by
 have b:=a.hs.rows.length;have c:=a.hs.most2;omega
theorem TX{a:Int}(ok:cR s)(h:aA H (stA Q sb s::F))(k:∀t,aA t (stA Q sb s::F)->K (.tuple #[.agg ⟨encA (lg s a).1⟩,.bool (lg s a).2]) t) :
  CF 75 #[PA sb 0,aD a] H K:=by
 refine OW ?_;refine h.al λb _ h=>?_
 have h:=h.o [1,0] 2;obtain⟨p,h⟩:=cX.1 h;refine⟨_,h.r 0,?_⟩;have h:=h.o [1,2,0,3,4,5,6,7,8,9] 10;refine Ro.Of_spec ok.rows (agent:=a) h λD h=>⟨_,_,_,_,rfl,?_⟩
 refine h.al λb1 _ h=>?_
 refine h.st 0 rfl rfl ?_;intro B h;unfold lg at k;refine⟨λj=>?_,λj=>?_⟩
 .rw [V4 (by simpa using j)]at k;refine h.st 10 rfl rfl ?_;intro w h;refine⟨_,_,_,_,_,_,_,_,_,_,_,h.q 10,?_⟩;have h:=h.o [3,1,2,4,5,6,7,8,9] 11;exact k _ (cX.2 ⟨p,h⟩)
 have n:0<(bg s.rows a).epoch:=by simpa using j
 rw[V5 n]at k;obtain⟨m,st,d⟩:=ok.str n;rw[xv m d]at k;dsimp only at k;have i:((a.toNat:Nat):Int)=a:=by omega
 have c:=ok.sts st (Wk d);refine⟨_,h.r 3,?_⟩;have h:=h.o [4,5,0,1,2,3,6,7,8,9,10] 11;refine Ma.Of_spec (a:=a) h λw h=>⟨_,_,_,_,_,rfl,?_⟩
 refine h.al λb2 _ h=>?_
 refine h.st 0 rfl rfl ?_;intro A h;have h:=h.o [9,0,1,2,3,4,5,6,7,8,10,11] 12;obtain⟨v,bl,f,h⟩:=qK h d;have h:=h.o [1,0,2,3,4,5,6,7,8,9,10,11,12,13] 14;obtain⟨cb,hb,h⟩:=gV.1 h;have e:=qL f h 3 rfl;rw[i]at e;have u:=Bf c;refine⟨_,h.r 11,_,e,_,_,_,h.q 8,_,_,_,_,h.q 5,cZ ⟨_,h.r 0,cZ ⟨_,h.r 0,_,ur (h.o [2] 3),cZ ⟨_,h.r 0,cZ ⟨_,h.rd 0 rfl 0,?_⟩⟩⟩⟩⟩;have h:=h.o [2,0,1,3,4,5,6,7,8,9,10,11,12,13,14,15] 16;refine AC h c.hs.rows.rising (Be c) (by omega) λJ wc y h=>⟨_,_,_,rfl,h.rd 2 rfl 0,h.r 2,h.q 6,h.q 9,?_⟩
 have h:=h.o [3,0,1,2,4,5,6,7,8,9,10,11,12,13,14,15,16] 17;have x:=c.ck.len;refine Ab h (by omega) λI C G h=>⟨_,_,_,rfl,h.r 4,h.q 7,h.q 10,?_⟩
 refine h.st 17 rfl rfl ?_;intro E h;refine⟨_,_,_,_,_,_,_,_,_,_,_,h.q 17,k _ ?_⟩;have h:=h.o [4,1,3,5,6,13,11,12,8,9,14,15,16] 18;have h:=gV.2 ⟨cb,hb,h⟩;have h:=h.o [1,0,2,3,4,5,6,7,8,9,10] 11;have h:=sF f h;rw[K4 d]at h;exact cX.2 ⟨p,h.o [1,2,3,4,5,6,7,0,8] 9⟩
end
structure Ou where
 kind:Int
 ag:Int:=0
 num:Int:=0
 ida:Int:=0
 ide:Int:=0
 seq:Int:=0
 reason:Int:=0
 win:Int:=0
 lo:Int:=0
 hi:Int:=0
 bs:List Int:=[]
structure Oy where
 o:Ou
 a:KQ
 c:Nat
abbrev bJ(y:Oy):Os:=[aB y.o.kind,aB y.o.ag,aB y.o.num,aB y.o.ida,aB y.o.ide,aB y.o.seq,aB y.o.reason,aB y.o.win,aB y.o.lo,aB y.o.hi,.slice y.a y.o.bs.length y.c]
theorem kH(y:Oy):(bJ y).length=11:=rfl
theorem pD(y:Oy):cT (bJ y)=true:=rfl
structure fQ(Q:aE)(y:Oy):Prop where
 kin:KIn Q y.a (y.o.bs.map U8)
 cap:y.o.bs.length<=y.c
theorem fQ.sub{Q Q':aE}{y:Oy}(h:fQ Q y)(hs:aM Q Q'):fQ Q' y:=⟨h.kin.sub hs,h.cap⟩
structure Fq.Bare(f:Fq):Prop where
 k5:f.kind≠5
 k8:f.kind≠8
 evs:f.evs=[]
 sn:f.sn=⟨#[]⟩
 sl:f.sl=[]
 data:f.data=[]
 nm:∀i,1<=i->i<=9->i∉aU f.kind->f.nums i=0
theorem Fq.Bare.rd{f:Fq}(h:f.Bare)(F:List aE):lQ F f {} []:=by
 refine⟨by rw[h.evs];rfl,⟨λH _=>iv H none,λe a=>V6 a (by simp)⟩,λH _=>by rw[h.sl];exact iv H none,λH _=>by rw[h.data];exact iv H none,.inl rfl,
  ⟨λ_=>⟨h.evs,rfl,rfl⟩,λ_=>⟨h.sn,h.sl,rfl,rfl,h.data,rfl,rfl⟩,h.nm⟩,by simp,λe a=>V6 a (by simp),by rw[h.sl];simp,by rw[h.data];simp⟩
def mV(ag ep bt:Int):Fq:={ kind:=2,ag:=ag,ep:=ep,bt:=bt }
def mW(ag ep next:Int):Fq:={ kind:=6,ag:=ag,ep:=ep,next:=next }
def dU(ag bt ct:Int):Fq:={ kind:=3,ag:=ag,bt:=bt,ct:=ct }
theorem nine{i:Nat}(b:1<=i)(a:i<=9):i=1\/i=2\/i=3\/i=4\/i=5\/i=6\/i=7\/i=8\/i=9:=by omega
theorem TY(ag ep bt:Int):(mV ag ep bt).Bare:=⟨show (2:Int)≠5 by decide,show (2:Int)≠8 by decide,rfl,rfl,rfl,rfl,λi b a h=>by
 rcases nine b a with rfl|rfl|rfl|rfl|rfl|rfl|rfl|rfl|rfl <;> first|rfl|exact V6 (show _∈aU 2 by decide) h⟩
theorem TZ(ag ep next:Int):(mW ag ep next).Bare:=⟨show (6:Int)≠5 by decide,show (6:Int)≠8 by decide,rfl,rfl,rfl,rfl,λi b a h=>by
 rcases nine b a with rfl|rfl|rfl|rfl|rfl|rfl|rfl|rfl|rfl <;> first|rfl|exact V6 (show _∈aU 6 by decide) h⟩
theorem Ua(ag bt ct:Int):(dU ag bt ct).Bare:=⟨show (3:Int)≠5 by decide,show (3:Int)≠8 by decide,rfl,rfl,rfl,rfl,λi b a h=>by
 rcases nine b a with rfl|rfl|rfl|rfl|rfl|rfl|rfl|rfl|rfl <;> first|rfl|exact V6 (show _∈aU 3 by decide) h⟩
def gX(f:Fq):Ou:={ kind:=1,ag:=f.ag,bs:=cA f }
def pE(o:Ot):Fq:={ kind:=8,win:=o.1.win,sn:=(il o.1.ser).1,sl:=(il o.1.ser).2.1,data:=dj o.2 }
def jC(num:Int)(o:Ot):Ou:={ kind:=3,num:=num,bs:=cA (pE o) }
def cI(e:bH):List Ou:=if e.kind=1 then [gX (mV e.agent e.epoch e.boot)] else if e.kind=2 then [gX (mW e.agent e.epoch e.next)] else
 if e.kind=3 then [{ kind:=2,ida:=e.ida,ide:=e.ide,seq:=e.seq,reason:=e.reason,win:=e.win,lo:=e.gap.lo,hi:=e.gap.hi }] else if e.kind=4 then [jC e.number e.out] else []
theorem Ub(t:Fa):(il t).2.1.length<=8:=by
 unfold il
 split
 .split
  .split
   .simp
   .split
    .rename_i a;exact (mJ a).len
    .simp
  .simp
 .split <;> simp
theorem slOy:SlT Tryz.prog 46 91 11 104:=iu (by kernel_rfl)
section
variable {F L:List aE}{H:aC}{K:KE}{Q:aE}
theorem Bg{f:Fq}(r:f.Bare)(h:aA H F)(k:∀a c d,aA d (slA 5 1 a (cA f).length c ((cA f).map U8)::F)->K (.agg ⟨bJ ⟨gX f,a,c⟩⟩) d) :
  CF 78 #[.agg ⟨cH f {}⟩] H K:=by
 refine cM 78 284 ?_;refine h.al λb _ h=>?_
 refine h.al λb1 _ h=>⟨_,_,_,_,_,_,_,_,_,_,_,_,_,_,_,_,_,_,_,_,h.q 1,?_⟩
 refine AI h (r.rd _) λa c e h=>⟨_,_,_,_,rfl,_,h.r 2,?_⟩
 refine h.st 1 rfl rfl ?_;intro i h;refine⟨_,_,_,_,_,_,_,_,_,_,_,_,_,h.q 1,?_⟩;exact k a c _ (h.o [0] 3)
theorem K6{n:Int}{o:Ot}(wc:WC o.2)(hs:o.1.ser.size<=1000000)(h:aA H F)(k:∀a c j,aA j (slA 5 1 a (cA (pE o)).length c ((cA (pE o)).map U8)::F)->K (.agg ⟨bJ ⟨jC n o,a,c⟩⟩) j) :
  CF 105 #[aD n,.agg ⟨cJ o⟩] H K:=by
 refine cM 105 4380 ?_;have t:=uo wc;have m:=Ub o.1.ser;refine h.al λb _ h=>?_
 refine h.al λb1 _ h=>⟨_,h.r 1,?_⟩
 refine Jp (by omega) h λla lc y h=>⟨_,_,_,_,_,rfl,?_⟩
 refine h.al λb2 _ h=>?_
 refine h.st 0 rfl rfl ?_;intro C h;refine⟨_,h.r 3,_,_,_,_,h.q 0,_,_,_,_,_,_,_,_,h.rdt (l:=[_,_]) 3 rfl rfl,?_⟩;refine Ja wc h λda dc w h=>⟨_,_,_,rfl,h.q 1,h.r 4,?_⟩
 have u:=ub h;refine AI (f:=pE o) (x:={ la:=la,lc:=lc,da:=da,dc:=dc }) (evs:=[]) h ⟨rfl,⟨λH _=>iv H none,λe d=>V6 d (by simp)⟩,λH h=>h.sl_rd 2 rfl,λH h=>h.sl_rd 0 rfl,u,
   ⟨λ_=>⟨rfl,rfl,rfl⟩,λh=>V6 rfl h,λi v s h=>by rcases nine v s with rfl|rfl|rfl|rfl|rfl|rfl|rfl|rfl|rfl <;> first|rfl|exact V6 (show _∈aU 8 by decide) h⟩,
   by simp,λe d=>V6 d (by simp),by show (il o.1.ser).2.1.length<=_;omega,by show (dj o.2).length<=_;omega⟩ λa c B h=>⟨_,_,_,_,rfl,?_⟩
 refine h.st 4 rfl rfl ?_;intro A h;refine⟨_,_,_,_,_,_,_,_,_,_,_,_,_,h.q 4,?_⟩;exact k a c _ (h.o [0] 6)
theorem K7{a:KQ}{c:Nat}{b:List bH}(hl:b.length<=1000000)(hw:∀e∈b,e.kind=4->WC e.out.2/\e.out.1.ser.size<=1000000)(h:aA H (Q::F))(ha:∀H,aA H F->aP H a (flat dP b))
  (k:∀Q' ys a' c' f,aM Q Q'->ys.map Oy.o=b.flatMap cI->(∀y∈ys,fQ Q' y)->aA f (Q'::slA 91 11 a' ys.length c' (flat bJ ys)::F)->K (.slice a' ys.length c') f) :
  CF 108 #[.slice a b.length c] H K:=by
 refine cN 108 0x11215612399251151714171417417494c [[(3,sS)],[(3,sS)],[(3,sS)],[(3,sS)],[(3,sS),(10,sI)]] ?_;refine⟨λla Z lc i f=>∃(j:Nat) (ys:List Oy) (Q':aE),i=j/\j<=b.length/\Z=ys.length/\ys.length<=j/\aM Q Q'/\ys.map Oy.o=(b.take j).flatMap cI/\(∀y∈ys,fQ Q' y)/\aA f (Q'::slA 91 11 la ys.length lc (flat bJ ys)::F),
  λ_ _ _ i _=>b.length-i.toNat,⟨0,[],Q,rfl,by omega,rfl,by simp,aM.refl Q,rfl,λy U=>V6 U (by simp),(h.sl_nil 91 11).o [1,0] 2⟩,?_⟩
 rintro la Z lc i H1 ⟨j,ys,Q',rfl,hj,rfl,h6,t,d,J,h⟩;refine⟨λW=>?_,λW=>?_⟩
 .have u:j<b.length:=by have:=V8 W;omega
  have hr:=ha _ h.tl.tl;have N:i64.wrap ((j:Int)+1)=((j+1:Nat):Int):=by rw[aJ];omega
  refine⟨by omega,_,_,hr.some Ko (by omega) u,_,_,_,_,_,_,_,_,_,_,_,_,_,_,_,_,_,_,_,_,_,_,_,hr.els Ko u,?_⟩;have P:=hw _ (VL u);have R:(b.take (j+1)).flatMap cI=(b.take j).flatMap cI++cI b[j]:=jP u;obtain⟨e,he⟩:∃e,b[j]=e:=⟨_,rfl⟩;rw[he]at P R ⊢;refine h.al λb1 _ h=>?_
  refine h.sta 0 rfl rfl λH2 h=>?_
  have h:aA H2 (cellsA b1 (dP e) 305::Q'::slA 91 11 la ys.length lc (flat bJ ys)::F):=h;refine⟨_,h.r 0,?_⟩;intro Jn hJ;have fin:∀(E:List Oy) O a2 c2 f,aM Q O->E.map Oy.o=(b.take j).flatMap cI++cI e->E.length<=j+1->(∀y∈E,fQ O y)->aA f (O::slA 91 11 a2 E.length c2 (flat bJ E)::F)->Jn a2 E.length c2 f:=by
   intro E O a2 c2 f hs hm S hi h;exact hJ _ _ _ _ ⟨⟨j+1,E,O,N,u,rfl,S,hs,by rw[hm,R],hi,h⟩,by rw[N];dsimp only;omega⟩
  have one:∀(y:Oy) (A:aE) a2 c2 f,cI e=[y.o]->fQ (A*Q') y->aA f (A::Q'::slA 91 11 a2 (ys.length+1) c2 (flat bJ ys++bJ y)::F)->Jn a2 (ys.length+1) c2 f:=by
   intro y A a2 c2 f s U h;have e1:flat bJ ys++bJ y=flat bJ (ys++[y]):=by rw[dS];simp[flat]
   have e2:ys.length+1=(ys++[y]).length:=by simp
   rw[e1,e2]at h;rw[e2];refine fin (ys++[y]) (A*Q') a2 c2 _ (t.trans (aM.add A Q')) (by rw[VW,d,s];rfl) (by simp;omega) (λz L=>?_) (gy.2 h)
   rcases VV.1 L with L|L
   .exact (J z L).sub (aM.add A Q')
   .rw [VI]at L;rw[L];exact U
  refine⟨λv=>?_,λv=>?_⟩
  .have v:=V8 v;have s:cI e=[gX (mV e.agent e.epoch e.boot)]:=by unfold cI;rw[V5 v]
   refine⟨_,h.r 0,_,h.r 0,?_⟩;refine h.al λb2 _ h=>?_
   refine h.st 0 rfl rfl ?_;intro H5 h;refine⟨_,_,_,h.q 0,_,h.r 1,?_⟩;refine Bg (TY e.agent e.epoch e.boot) h λC n H6 h=>⟨_,_,_,_,_,_,_,_,_,_,_,_,_,rfl,?_⟩
   refine h.al λb3 _ h=>?_
   refine h.append (m:=1) (ws:=bJ ⟨gX (mV e.agent e.epoch e.boot),C,n⟩) slOy 5 rfl (h.ce_rd 0 rfl) rfl (pD _) (by omega) (by omega) λa5 c5 Y h=>⟨_,_,_,rfl,?_⟩
   exact one ⟨gX (mV e.agent e.epoch e.boot),C,n⟩ _ _ _ _ s ⟨KIn.sl (c:=n),h.sl_nc 1 rfl⟩ (h.o [1,4,5] 6)
  have v:=V9 v;intro h0 x;refine⟨λw=>?_,λw=>?_⟩
  .have w:=V8 w;have s:cI e=[gX (mW e.agent e.epoch e.next)]:=by unfold cI;rw[V4 v,V5 w]
   refine⟨_,h.r 0,_,h.r 0,?_⟩;refine h.al λb2 _ h=>?_
   refine h.st 0 rfl rfl ?_;intro H5 h;refine⟨_,_,_,h.q 0,_,h.r 1,?_⟩;refine Bg (TZ e.agent e.epoch e.next) h λC n H6 h=>⟨_,_,_,_,_,_,_,_,_,_,_,_,_,rfl,?_⟩
   refine h.al λb3 _ h=>?_
   refine h.append (m:=1) (ws:=bJ ⟨gX (mW e.agent e.epoch e.next),C,n⟩) slOy 5 rfl (h.ce_rd 0 rfl) rfl (pD _) (by omega) (by omega) λa5 c5 Y h=>⟨_,_,_,rfl,?_⟩
   exact x _ _ _ _ (one ⟨gX (mW e.agent e.epoch e.next),C,n⟩ _ _ _ _ s ⟨KIn.sl (c:=n),h.sl_nc 1 rfl⟩ (h.o [1,4,5] 6))
  have w:=V9 w;intro h7 I;refine⟨λD=>?_,λD=>?_⟩
  .have D:=V8 D;obtain⟨o3,G⟩:∃o3:Ou,o3={ kind:=2,ida:=e.ida,ide:=e.ide,seq:=e.seq,reason:=e.reason,win:=e.win,lo:=e.gap.lo,hi:=e.gap.hi }:=⟨_,rfl⟩;have s:cI e=[o3]:=by unfold cI;rw[V4 v,V4 w,V5 D,G]
   refine⟨_,_,_,h.q 0,_,_,h.q 0,_,_,h.q 0,?_⟩;refine h.al λb3 _ h=>?_
   refine h.append (m:=1) (ws:=bJ ⟨o3,none,0⟩) slOy 3 rfl (h.ce_rd 0 (by rw[G];rfl)) rfl (pD _) (by omega) (by omega) λa5 c5 Y h=>⟨_,_,_,rfl,?_⟩
   refine I _ _ _ _ (x _ _ _ _ (one ⟨o3,none,0⟩ emp _ _ _ s ?_ (lV (h.o [2,3] 4))));rw[G];exact⟨KIn.nil _ _,Wd _⟩
  have D:=V9 D;intro h5 M;refine⟨λB=>?_,λB=>?_⟩
  .have B:=V8 B;have s:cI e=[jC e.number e.out]:=by unfold cI;rw[V4 v,V4 w,V4 D,V5 B]
   obtain⟨wc,V⟩:=P B;refine⟨_,h.r 0,_,_,_,_,_,_,_,_,_,_,h.rdt (l:=[_,_,_,_,_,_,_,_,_,_,_,_,_]) 0 rfl rfl,?_⟩;refine K6 wc V h λC n H6 h=>⟨_,_,_,_,_,_,_,_,_,_,_,_,_,rfl,?_⟩
   refine h.al λb3 _ h=>?_
   refine h.append (m:=1) (ws:=bJ ⟨jC e.number e.out,C,n⟩) slOy 4 rfl (h.ce_rd 0 rfl) rfl (pD _) (by omega) (by omega) λa5 c5 Y h=>⟨_,_,_,rfl,?_⟩
   exact M _ _ _ _ (I _ _ _ _ (x _ _ _ _ (one ⟨jC e.number e.out,C,n⟩ _ _ _ _ s ⟨KIn.sl (c:=n),h.sl_nc 1 rfl⟩ (h.o [1,3,4] 5))))
  .have B:=V9 B;have s:cI e=[]:=by unfold cI;rw[V4 v,V4 w,V4 D,V4 B]
   exact M _ _ _ _ (I _ _ _ _ (x _ _ _ _ (fin ys Q' _ _ _ t (by rw[s,We,d]) (by omega) J h.tl)))
 .have T:j=b.length:=by have:=V9 W;omega
  subst T;rw[Wi]at d;exact k Q' ys _ _ _ t d J h
end
structure Sn where
 bt:Int
 ct:Int
 ag:Int
 ep:Int
 at_:Int
abbrev gE(s:Sn):Os:=[aB s.bt,aB s.ct,aB s.ag,aB s.ep,aB s.at_]
theorem mX(s:Sn):(gE s).length=5:=rfl
theorem K8(s:Sn):cT (gE s)=true:=rfl
structure Pb where
 boot:Int
 most:Int
 count:Int
 out:List Sn
 last:List (Int×Int)
def tmB(t:Int):Bool:=decide (0<=t)&&decide (t<=4611686018427387903)
structure jD(p:Pb):Prop where
 count:0<=p.count/\p.count<=1000000000000
 most:1<=p.most/\p.most<=1024
 out:p.out.length<=1024
 last:∀x∈p.last,0<=x.2/\x.2<=4611686018427387903
 boot:aF p.boot
def dueP(p:Pb)(ag now period:Int):Bool:=tmB now&&tmB period&&(match aK ag p.last with|none=>true|some t=>decide (period<=now-t))
def sndOk(ag ep now:Int):Bool:=decide (0<=ag)&&decide (ag<64)&&decide (1<=ep)&&decide (ep<=1099511627776)&&tmB now
def sndP(p:Pb)(ag ep now:Int):Pb:=
 { p with count:=p.count+1,last:=mset ag now p.last,out:=if p.most<((p.out++[(⟨p.boot,p.count,ag,ep,now⟩:Sn)]).length:Int) then (p.out++[(⟨p.boot,p.count,ag,ep,now⟩:Sn)]).drop 1 else p.out++[(⟨p.boot,p.count,ag,ep,now⟩:Sn)] }
def isN(bt ct:Int)(s:Sn):Bool:=s.bt == bt&&(s.ct == ct&&true)
def fD(p:Pb)(ag ep bt ct:Int):Int×Int×Pb:=
 if bt≠p.boot then (-1,22,p) else match p.out.findIdx? (isN bt ct) with
 | none=>(-1,19,p)
 | some i=>match p.out[i]? with
  | none=>(-1,19,p)
  | some s=>if s.ag≠ag\/s.ep≠ep then (-1,10,p) else (s.at_,0,{ p with out:=p.out.take i++p.out.drop (i+1) })
theorem mtP:lE Tryz.prog 244 2 2 aD 0:=qn Tryz.underlying244 (by kernel_rfl)
theorem slSn:SlT Tryz.prog 245 326 5 40:=iu (by kernel_rfl)
def prbA(pb:Nat)(p:Pb):aE:=exS λx:KQ×Nat×Nat=>star [cellsA pb [aD p.boot,aD p.most,aD p.count,.slice x.1 p.out.length x.2.1,.map (some x.2.2)] 247,slA 326 5 x.1 p.out.length x.2.1 (flat gE p.out),mapA aD aD x.2.2 p.last]
section
variable {F L:List aE}{H:aC}{K:KE}{pb:Nat}{p:Pb}
theorem mY:aA H (prbA pb p::F)↔∃a c m,aA H (cellsA pb [aD p.boot,aD p.most,aD p.count,.slice a p.out.length c,.map (some m)] 247::slA 326 5 a p.out.length c (flat gE p.out)::mapA aD aD m p.last::F):=by
 unfold prbA;rw[cK]
 constructor
 .rintro⟨x,h⟩;exact⟨x.1,x.2.1,x.2.2,aA.open h⟩
 .rintro⟨a,c,m,h⟩;exact⟨(a,c,m),aA.shut [_,_,_] h⟩
theorem Bh{t:Int}:bV Tryz.prog 164 #[aD t] H (.bool (tmB t)):=by
 unfold bV;exact cM 164 28 ⟨rfl,rfl⟩
theorem K9{boot most:Int}(h:aA H F)
  (k1:¬(1<=boot/\boot<=1099511627776/\1<=most/\most<=1024)->K (.tuple #[.pointer none,aD 11]) H)
  (k2:1<=boot/\boot<=1099511627776/\1<=most/\most<=1024->∀b c,aA c (prbA b ⟨boot,most,0,[],[]⟩::F)->K (.tuple #[PA b 0,aD 0]) c) :
  CF 48 #[aD boot,aD most] H K:=by
 refine cM 48 476 ⟨λa=>k1 ?_,λa=>?_⟩
 .simp only[VR,VA]at a;omega
 .simp only[VP,VD]at a;refine h.alm aD aD λmb _ h=>?_
  refine h.al λb d h=>?_
  refine k2 (by omega) b _ (mY.2 ⟨none,0,mb,?_⟩);exact (h.sl_nil 326 5).o [1,0,2] 3
theorem Uc{ag now period:Int}(ok:jD p)(h:aA H (prbA pb p::F)):bV Tryz.prog 76 #[PA pb 0,aD ag,aD now,aD period] H (.bool (dueP p ag now period)):=by
 unfold bV;obtain⟨a,c,m,h⟩:=mY.1 h;refine cM 76 7452 ⟨_,Bh,_,λ_=>Bh,λb=>?_,λb=>?_⟩
 .have e:dueP p ag now period=false:=by
   unfold dueP;simp only[VR,Wb]at b
   rcases b with b|b <;> rw[b] <;> simp
  rw[e];exact⟨rfl,rfl⟩
 .simp only[VP,Wq]at b;have e:dueP p ag now period=(match aK ag p.last with|none=>true|some t=>decide (period<=now-t)):=by
   unfold dueP;rw[b.1,b.2];rfl
  rw[e];have d:=h.mp_look mtP Ro.ko2 (x:=ag) 2 rfl;refine⟨_,h.r 0,?_⟩
  cases hm:aK ag p.last with
  | none=>
   refine⟨0,false,(d.2 hm).1,rfl,rfl⟩
  | some t=>
   refine⟨t,true,(d.1 t hm).1,?_,rfl⟩;have i:=ok.last (ag,t) (hI hm);have f:=b.1;unfold tmB at f;simp only[VB,VA]at f;dsimp only at i;show Value.bool (!true||decide (period<=i64.wrap (now-t)))=_;rw[aJ];rfl
theorem KA{a:KQ}{c:Nat}{l:List Sn}{i j:Nat}{v:Int}(m:v=j)(y:i<j)(C:j<=l.length)(h:aA H (slA 326 5 a l.length c (flat gE l)::F))
  (k:∀d,aA d (slA 326 5 a (l.take i++l.drop j).length c (flat gE (l.take i++l.drop j))::F)->K (.slice a (l.take i++l.drop j).length c) d):CF 163 #[.slice a l.length c,aD i,aD v] H K:=by
 subst m;have x:=h.sl_nc 0 rfl;have b:(l.take i++l.drop j).length=i+(l.length-j):=by rw[V7,VY,VU];omega
 refine cM 163 18682140 ?_;refine⟨⟨by omega,by omega,by omega,by omega⟩,λt=>V6 (V8 t) (by omega),λt=>?_⟩
 refine⟨⟨by omega,by omega,by omega⟩,⟨by omega,by omega,by omega⟩,?_⟩;have n:=h.sl_rd 0 rfl;have hs:=n.some mX (by omega) (k:=0) (by omega);have e0:cq a 0 c 5=a:=by
  unfold cq;rw[nO,hs,Wj,iQ];simp
 have s:=n.subK (k:=j) (c:=c) (sz:=5) (by rw[fg mX];omega);rw[tv mX]at s;have A:=h.sl_take 0 rfl i (by omega);show cB Tryz.prog (Builtin.append_ #[245,245] 245 #[.slice (cq a 0 c 5) i c,.slice (cq a j c 5) (l.length-j) (c-j)]) H _;rw[e0];refine aA.appendIn slSn A 0 rfl s (by rw[fg mX,VU]) (lC K8 _) (by omega) λd w=>⟨_,_,_,rfl,⟨by omega,by omega,by omega⟩,?_⟩
 have e:(flat gE l).take (i*5)++flat gE (l.drop j)=flat gE (l.take i++l.drop j):=by rw[dS,<-Ec mX]
 have f:aA d (slA 326 5 a (i+(l.length-j)) c ((flat gE l).take (i*5)++flat gE (l.drop j))::F):=w;rw[e,<-b]at f;have u:=k;rw[b]at u;rw[b]at f;exact aA.clearS slSn (by kernel_rfl) f 0 rfl (by omega) λ_ D B=>u _ B
theorem Ud{s:Sn}{b:Nat}{n0 n1:Int}(h:aA H F)(i:Nat)(c:aW i F=cellsA b [aD n0,aD n1] 101)(k:∀a,aA a F->K (.bool (isN n0 n1 s)) a) :
  CF 162 #[.agg ⟨gE s⟩,PA b 0] H K:=by
 refine cM 162 28 ?_;refine h.al λb1 _ h=>?_
 have e:=(tE (P:=Tryz.prog) (t:=101) (xs:=[aD s.bt,aD s.ct]) (ys:=[aD n0,aD n1]) (r:=(s.bt == n0&&(s.ct == n1&&true))) (by kernel_rfl)).1;exact⟨_,_,h.q 0,_,_,h.rds (i+1) c rfl,_,e,k _ h.tl⟩
theorem Ue{a:KQ}{c b:Nat}{l:List Sn}{n0 n1:Int}(C:l.length<=1000000)(h:aA H F)(i:Nat)(w:aW i F=cellsA b [aD n0,aD n1] 101)(A:∀H,aA H F->aP H a (flat gE l))
  (k1:l.findIdx? (isN n0 n1)=none->∀k,aA k F->K (aD (-1)) k) (k2:∀j,l.findIdx? (isN n0 n1)=some j->∀k,aA k F->K (aD (j:Nat)) k) :
  CF 161 #[.slice a l.length c,.func (.func 162) #[] #[PA b 0]] H K:=by
 refine cN 161 0x1215612399251b4c [[(8,sI)]] ?_;refine⟨λi k=>∃j:Nat,i=j/\j<=l.length/\(∀q (e:q<l.length),q<j->isN n0 n1 l[q]=false)/\aA k F,λi _=>l.length-i.toNat,⟨0,rfl,by omega,λq _ e=>V6 e (by omega),h⟩,?_⟩
 rintro i E ⟨j,rfl,D,f,h⟩;refine⟨λm=>?_,λm=>?_⟩
 .have d:j<l.length:=by have:=V8 m;omega
  have n:=A _ h;refine⟨by omega,_,_,n.some mX (by omega) d,_,_,_,_,_,n.els mX d,rfl,?_⟩;refine Ud (s:=l[j]) h _ w λG h=>⟨_,rfl,λhm=>?_,λhm=>?_⟩
  .refine k2 j ?_ _ h;rw[List.findIdx?_eq_some_iff_getElem];exact⟨d,hm,λq e=>by rw[f q (by omega) e];decide⟩
  .have t:i64.wrap ((j:Int)+1)=((j+1:Nat):Int):=by rw[aJ];omega
   refine⟨⟨j+1,t,d,λq e y=>?_,h⟩,by rw[t];dsimp only;omega⟩
   rcases Wa q j with u|u
   .exact f q e u
   .obtain rfl:q=j:=by omega
    exact hm
 .have B:j=l.length:=by have:=V9 m;omega
  refine k1 ?_ _ h;rw[List.findIdx?_eq_none_iff];intro x v;obtain⟨q,e,rfl⟩:=Wz v;exact f q e (by omega)
theorem Uf{ag ep n0 n1:Int}(ok:jD p)(h:aA H (prbA pb p::F))
  (k:∀n,aA n (prbA pb (fD p ag ep n0 n1).2.2::F)->K (.tuple #[aD (fD p ag ep n0 n1).1,aD (fD p ag ep n0 n1).2.1]) n) :
  CF 74 #[PA pb 0,aD ag,aD ep,.agg #[aD n0,aD n1]] H K:=by
 obtain⟨a,c,m,h⟩:=mY.1 h;refine cM 74 488447260 ?_;unfold fD at k;refine h.al λb _ h=>⟨_,h.r 0,_,h.r 1,λd=>?_,λd=>?_⟩
 .rw [V5 (by simpa using d)]at k;exact k _ (mY.2 ⟨a,c,m,h.tl⟩)
 rw[V4 (by simpa using d)]at k;have v:=ok.out;refine⟨_,_,_,h.r 1,?_⟩;refine Ue (by omega) h 0 rfl (λH h=>h.sl_rd 2 rfl) (λw u h=>⟨_,rfl,λ_=>?_,λd=>V6 d (by simp)⟩) λj s u h=>⟨_,rfl,λd=>V6 (V8 d) (by omega),λ_=>?_⟩
 .rw [w]at k;exact k _ (mY.2 ⟨a,c,m,h.tl⟩)
 obtain⟨e,-,-⟩:=List.findIdx?_eq_some_iff_getElem.1 s;rw[s]at k;dsimp only at k;rw[List.getElem?_eq_getElem e]at k;dsimp only at k;have f:=h.sl_rd 2 rfl;refine⟨_,_,_,h.rd 1 rfl _,⟨by omega,by omega⟩,_,_,f.some mX (by omega) e,_,_,_,_,_,f.els mX e,?_⟩;refine h.al λb2 _ h=>?_
 refine h.st 0 rfl rfl ?_;intro y h;refine⟨_,h.r 0,_,λ_=>h.r 0,λd=>?_,λd=>?_⟩
 .rw [V5 (by simpa using d)]at k;exact k _ (mY.2 ⟨a,c,m,h.o [2,3,4] 5⟩)
 rw[V4 (by simpa using d)]at k;refine⟨_,_,_,h.r 2,?_⟩;have t:i64.wrap ((j:Int)+1)=((j+1:Nat):Int):=by rw[aJ];omega
 have h:=h.o [3,0,2,4] 5;refine KA (i:=j) (j:=j+1) t (by omega) (by omega) h λx h=>⟨_,_,_,rfl,?_⟩
 refine h.st 2 rfl rfl ?_;intro A h;exact⟨_,h.r 1,k _ (mY.2 ⟨a,c,m,h.o [2,0,3] 4⟩)⟩
theorem KC{ag ep now:Int}(ok:jD p)(hs:sndOk ag ep now=true)(h:aA H (prbA pb p::F))
  (k:∀n,aA n (prbA pb (sndP p ag ep now)::F)->K (.tuple #[.agg #[aD p.boot,aD p.count],aD 0]) n) :
  CF 77 #[PA pb 0,aD ag,aD ep,aD now] H K:=by
 obtain⟨a,c,m,h⟩:=mY.1 h;have D:=ok.out;have t:=ok.count;unfold sndOk at hs;simp only[VB,VA]at hs;refine cN 77 31959155165468 [[]] ?_;refine h.al λb _ h=>⟨_,λ_=>Bh,λd=>?_,λd=>?_⟩
 .exfalso;simp only[VR,VA,Wb]at d;rw[hs.2]at d
  rcases d with d|d
  .omega
  .cases d
 refine⟨_,h.r 1,_,h.r 1,?_⟩;refine h.al λb1 _ h=>⟨h.r 2,h.r 2,?_⟩
 refine h.st 0 rfl rfl ?_;intro G h;refine⟨_,h.r 2,?_⟩;refine h.st 2 rfl rfl ?_;intro J h;refine⟨_,_,_,h.r 2,_,_,h.q 0,?_⟩;refine h.al λb2 _ h=>⟨h.r 3,?_⟩
 refine h.append (m:=1) (ws:=gE ⟨p.boot,p.count,ag,ep,now⟩) slSn 4 rfl (h.ce_rd 0 rfl) rfl (K8 _) (by omega) (by omega) λa5 c5 E h=>⟨_,_,_,rfl,?_⟩
 refine h.st 3 rfl rfl ?_;intro C h;have B:i64.wrap (p.count+1)=p.count+1:=aJ;have w:flat gE p.out++gE ⟨p.boot,p.count,ag,ep,now⟩=flat gE (p.out++[(⟨p.boot,p.count,ag,ep,now⟩:Sn)]):=by rw[dS];simp[flat]
 obtain⟨o1,f⟩:∃o1,p.out++[(⟨p.boot,p.count,ag,ep,now⟩:Sn)]=o1:=⟨_,rfl⟩;have s:p.out.length+1=o1.length:=by rw[<-f];simp
 have h:aA C (cellsA b2 (gE ⟨p.boot,p.count,ag,ep,now⟩) 326::cellsA b1 [aD p.boot,aD p.count] 101::cellsA b [aD 0,aD 0] 101::cellsA pb [aD p.boot,aD p.most,aD (i64.wrap (p.count+1)),.slice a5 (p.out.length+1) c5,.map (some m)] 247::slA 326 5 a5 (p.out.length+1) c5 (flat gE p.out++gE ⟨p.boot,p.count,ag,ep,now⟩)::mapA aD aD m p.last::F):=h;rw[B,w,f,s]at h;refine⟨_,_,_,h.r 3,_,h.r 3,?_⟩;intro x y;have fin:∀(o2:List Sn) n,o2=(if p.most<(o1.length:Int) then o1.drop 1 else o1)->aA n (cellsA b1 [aD p.boot,aD p.count] 101::cellsA b [aD 0,aD 0] 101::cellsA pb [aD p.boot,aD p.most,aD (p.count+1),.slice a5 o2.length c5,.map (some m)] 247::slA 326 5 a5 o2.length c5 (flat gE o2)::mapA aD aD m p.last::F)->x n:=by
  intro o2 n e h;refine y _ ?_;refine⟨_,h.r 2,?_⟩;refine h.mp_update (α:=Int) (v:=now) mtP Ro.ko2 4 rfl λA h=>?_
  refine⟨_,_,h.q 0,?_⟩;refine h.st 1 rfl rfl ?_;intro u h;refine⟨_,_,h.q 1,?_⟩;have e2:sndP p ag ep now=⟨p.boot,p.most,p.count+1,o2,mset ag now p.last⟩:=by unfold sndP;rw[f,<-e]
  rw[e2]at k;exact k _ (mY.2 ⟨a5,c5,m,h.o [2,3,4] 5⟩)
 refine⟨λd=>?_,λd=>?_⟩
 .have d:=V8 d;refine⟨_,_,_,h.r 3,?_⟩;have h:=h.o [4,1,2,3,5] 6;refine KA (i:=0) (j:=1) rfl (by omega) (by omega) h λI h=>⟨_,_,_,rfl,?_⟩
  rw[Yi,Wl]at h ⊢;refine h.st 3 rfl rfl ?_;intro A h;exact fin (o1.drop 1) _ (by rw[V5 d]) (h.o [1,2,3,0,4] 5)
 .have d:=V9 d;exact fin o1 _ (by rw[V4 d]) (h.o [1,2,3,4,5] 6)
end
theorem Bi{α:Type}:∀{l:List (Option α)} {i:Nat} {p:Int×Option α},p∈cW i l->∃(k:Nat) (b:α),p=(((i+k:Nat):Int),some b)/\l[k]?=some (some b)
 | [],i,p,h=>by simp[cW]at h
 | none::r,i,p,h=>by
  obtain⟨k,b,c,a⟩:=Bi (l:=r) (i:=i+1) h;exact⟨k+1,b,by rw[c,show i+1+k=i+(k+1) by omega],by simpa using a⟩
 | some b::r,i,p,h=>by
  rcases VN.1 h with rfl|h
  .exact⟨0,b,rfl,rfl⟩
  .obtain⟨k,d,c,a⟩:=Bi (l:=r) (i:=i+1) h;exact⟨k+1,d,by rw[c,show i+1+k=i+(k+1) by omega],by simpa using a⟩
theorem KD{Q:aE}{bl:List (Option Nat)}{sts:List (Option br)}{k b:Nat}{s:br}(c:bl[k]?=some (some b))(a:sts[k]?=some (some s)) :
  strsA Q bl sts=strA Q b s*strsA Q (bl.set k none) (sts.set k none):=by
 obtain⟨l1,e1⟩:=List.getElem?_eq_some_iff.1 c;obtain⟨l2,e2⟩:=List.getElem?_eq_some_iff.1 a;rw[pB (k:=k) (by rw[List.getElem?_set_self l1]) (by rw[List.getElem?_set_self l2]),Yr,Yr,<-e1,<-e2,WS,WS]
section
variable {F L:List aE}{H:aC}{K:KE}{Q:aE}
theorem oC{A B:aE}:aA H ((A*B)::L)↔aA H (A::B::L):=by
 unfold aA star;rw[star];rw[jv]
theorem KF{sb:Nat}{s:aH}(Y:s.kept.length<=1000000)(ok:cR s)(h:aA H (stA Q sb s::F))(k:∀J G,aA G (stA Q J s::stA Q sb s::F)->K (PA J 0) G):CF 18 #[PA sb 0] H K:=by
 obtain⟨p,h⟩:=cX.1 h;refine Ph ⟨_,_,_,_,_,_,_,_,_,_,_,_,_,_,_,_,_,_,_,_,_,_,h.rda 0 rfl,?_⟩;refine h.al λb _ h=>?_
 refine h.sta 0 rfl rfl λH1 h=>?_
 have h:aA _ (cellsA b (dr s p) 145::_):=h;refine⟨_,h.r 1,_,h.r 1,_,h.r 1,?_⟩;refine Ro.Clone_spec (h.o [2,3,0,1,4,5,6,7,8,9] 10) λA t H2 h=>⟨_,rfl,h.r 5,h.r 5,?_⟩
 refine Ma.Clone_spec (h.o [6,7,0,1,2,3,4,5,8,9,10,11] 12) λD x H3 h=>⟨_,rfl,h.r 9,?_⟩
 refine Sf (h.o [10,11,0,1,2,3,4,5,6,7,8,9,12,13] 14) λn u H4 h=>⟨_,rfl,?_⟩
 refine h.st 12 rfl rfl λ_ h=>h.st 12 rfl rfl λ_ h=>h.st 12 rfl rfl λ_ h=>⟨_,_,_,h.r 13,?_⟩
 refine Jv (l:=s.kept) h (λH h=>h.sl_rd 15 rfl) Y λC y H8 h=>⟨_,_,_,rfl,?_⟩
 refine h.st 13 rfl rfl λ_ h=>?_
 refine h.alm aD ptV λb1 _ h=>?_
 refine h.st 14 rfl rfl λW h=>⟨_,h.r 15,?_⟩
 have h:=h.o [16,0,14,1,2,3,4,5,6,7,8,9,10,11,12,13,15,17] 18;obtain⟨bl,hm,h⟩:=ld.1 h;have h5:bl.length=s.sts.length:=by have:=congrArg List.length hm;simpa using this
 obtain⟨R,hR⟩:∃R:List aE,R=slA 164 74 C s.kept.length y (flat cJ s.kept)::shC n u s.cfg.cells::cz u s.cm::shC p.hb p.hm s.cfg.cells::cz p.hm s.cm::Ma.markC D x s.ms::Ma.mapF x s.ms.m::Ma.markC p.mb p.mm s.ms::Ma.mapF p.mm s.ms.m::
  Ro.rollC A t s.cfg.agents::Ro.mapE t s.rows::Ro.rollC p.rb p.rm s.cfg.agents::Ro.mapE p.rm s.rows::cellsA sb (dr s p) 145::slA 164 74 p.ka s.kept.length p.kc (flat cJ s.kept)::F:=⟨_,rfl⟩
 have h:aA W (mapA aD ptV p.tm (cW 0 bl)::strsA Q bl s.sts::mapA aD ptV b1 []::cellsA b (dr s ⟨A,t,D,x,n,u,b1,C,y⟩) 145::R):=by rw[hR];exact h
 refine h.rg_new qI 0 rfl λV h7 h=>⟨V,rfl,?_⟩
 refine⟨λG=>∃(dn:List (Int×Option Nat)) (c:List (Option Nat)) (a:List (Option br)),c.map Option.isSome=a.map Option.isSome/\a.length=s.sts.length/\
  (∀k:Nat,k<s.sts.length->a[k]?=if ((k:Nat):Int)∈aG dn then s.sts[k]? else some none)/\
  aA G (kO aD ptV V p.tm (cW 0 bl) dn::strsA Q bl s.sts::mapA aD ptV b1 (cW 0 c)::strsA Q c a::cellsA b (dr s ⟨A,t,D,x,n,u,b1,C,y⟩) 145::R),λG=>(cW 0 bl).length-oR G V,
  ⟨[],List.replicate 64 none,List.replicate 64 none,by simp,by simp[ok.len],λk S=>by rw[ok.len]at S;rw[List.getElem?_replicate,V5 S,V4 (by simp[aG])],?_⟩,?_⟩
 .rw [AW];have e:cW 0 (List.replicate 64 (none:Option Nat))=[]:=by decide
  rw[e];exact (lV h).o [1,2,3,0,4] 5
 rintro H2 ⟨dn,c,a,B,h2,E,h⟩;obtain⟨h6,h8⟩:=h.rg_count 0 rfl;refine h.rg_next 0 rfl (λhp=>.inl ⟨rfl,λU=>(by cases U),λ_=>?_⟩) λq h3 T H3 h=>.inr ⟨_,_,rfl,λ_=>?_,λU=>(by cases U)⟩
 .
  have h:=h.rg_map 0 rfl;have e:a=s.sts:=by
   apply WU;intro i
   rcases Wa i s.sts.length with hi|hi
   .rw [E i hi]
    split
    .rfl
    .rename_i hn;have hb:bl[i]?=some none:=by
      cases d:bl[i]? with
      | none=>rw[List.getElem?_eq_none_iff]at d;omega
      | some o=>
       cases o with
       | none=>rfl
       | some b0=>
        exfalso;have hl:=ux (l:=bl) (i:=0) (k:=i);rw[d,VX]at hl;refine hn ?_;have:((i:Int),some b0)∈cW 0 bl:=hI hl;exact VH.2 ⟨_,hp.mem_iff.2 this,rfl⟩
     have:=qJ hm i;rw[hb]at this
     cases hs:s.sts[i]? with
     | none=>rw[hs]at this;cases this
     | some o=>rw[hs]at this;cases o with
      | none=>rfl
      | some _=>cases this
   .rw [List.getElem?_eq_none (by omega),List.getElem?_eq_none hi]
  rw[e]at h B;subst hR;refine k b _ ?_;have h:=ld.2 ⟨bl,hm,h⟩;have h:=ld.2 ⟨c,B,h.o [1,2,0,3] 4⟩;have h:=cX.2 ⟨p,h.o [16,14,15,10,11,6,7,1,17,0,2,3,4,5,8,9,12,13] 18⟩;exact cX.2 ⟨⟨A,t,D,x,n,u,b1,C,y⟩,h.o [2,8,9,6,7,4,5,1,3,0] 10⟩
 .obtain⟨i,bk,rfl,d⟩:=Bi h3;rw[VX]at *;have h1:i<s.sts.length:=by have:=(List.getElem?_eq_some_iff.1 d).1;omega
  have f:∃st,s.sts[i]?=some (some st):=by
   have:=qJ hm i;rw[d]at this
   cases hs:s.sts[i]? with
   | none=>rw[hs]at this;cases this
   | some o=>rw[hs]at this;cases o with
    | none=>cases this
    | some st=>exact⟨st,rfl⟩
  obtain⟨st,f⟩:=f;have O:=ok.sts st (Wk f);have L:=aA.rg_entry (P:=Tryz.prog) h 0 rfl;obtain⟨Z,I⟩:=h.rg_count 0 rfl;rw[V7,Wv]at Z I;refine⟨_,_,L,?_⟩;have h:=h.o [1,0,2,3,4] 5;have h:aA H3 (strsA Q bl s.sts::_):=h;rw[KD d f]at h;have h:=oC.1 h;obtain⟨cb,hb,h⟩:=gV.1 h;refine⟨_,h.r 7,cZ ⟨_,h.r 0,cZ ⟨_,h.r 0,cZ ⟨_,h.r 0,?_⟩⟩⟩⟩;refine Rt (h.o [1,0,2,3,4,5,6,7] 8) (by have:=O.ck.len;omega) λh0 H5 h=>⟨_,rfl,h.r 2,h.r 2,h.r 8,?_⟩
  refine J5 (h.o [3,0,1,2,4,5,6,7,8] 9) λn H6 h=>⟨_,rfl,h.r 4,h.r 9,?_⟩
  refine h.al λb3 _ h=>⟨h.r 10,?_⟩
  refine h.mp_update (v:=some b3) qI ko2 8 rfl λH7 h=>⟨?_,?_⟩
  .have w:a[i]?=some none:=by rw[E i h1,V4 T]
   have M:c[i]?=some none:=by
    have:=qJ B i;rw[w]at this
    cases hs:c[i]? with
    | none=>rw[hs]at this;cases this
    | some o=>rw[hs]at this;cases o with
     | none=>rfl
     | some _=>cases this
   have N:i<c.length:=(List.getElem?_eq_some_iff.1 M).1;refine⟨dn++[((i:Int),some bk)],c.set i (some b3),a.set i (some st),?_,by rw[Y7,h2],λj hj=>?_,?_⟩
   .rw [Yq,Yq,B];rfl
   .rw [List.getElem?_set];have S:aG (dn++[((i:Int),some bk)])=aG dn++[(i:Int)]:=by simp[aG]
    rw[S]
    by_cases e:i=j
    .subst e;rw[V5 rfl,pO,V5 (by simp),f]
    .rw [V4 e,E j hj];have:(((j:Nat):Int)∈aG dn++[(i:Int)])↔((j:Nat):Int)∈aG dn:=by
      rw[VV,VI];exact⟨λh=>h.elim id λh=>V6 h (by omega),.inl⟩
     simp only[this]
   .have em:mapA aD ptV b1 (mset ((i:Nat):Int) (some b3) (cW 0 c))=mapA aD ptV b1 (cW 0 (c.set i (some b3))):=nC (by
     have:=xo (b:=b3) (l:=c) (i:=0) (k:=i) N;rw[VX]at this;exact this.symm)
    rw[<-pB (b:=b3) (s:=st) M w,KD d f];have h:=gV.2 ⟨h0,n,h.o [0,3,1,2,4,5,6,7,8,9,10] 11⟩;have h:=gV.2 ⟨cb,hb,h.o [3,2,1,0,4,5,6,7,8] 9⟩;have h:=oC.2 (h.o [0,2,1,3,4,5,6] 7);have h:=oC.2 (h.o [1,4,0,2,3,5] 6);have h:=h.o [2,1,3,0,4] 5;rw[<-em];exact h
  .obtain⟨h4,_⟩:=h.rg_count 7 rfl;rw[V7,Wv]at h4;simp only;omega
end
structure Opt where
 cfg:bD
 period:Int
 probes:Int
 segment:Int
 save:Int
abbrev io(o:Opt):Os:=[aB o.cfg.width,aB o.cfg.policy,aB o.cfg.most,aB o.cfg.lag,aB o.cfg.rho,aB o.cfg.trust,aB o.cfg.agents,aB o.cfg.cells,aB o.cfg.hold,aB o.period,aB o.probes,aB o.segment,aB o.save]
structure GAd where
 bb:Nat
 rb:Nat
 sb:Nat
 pv:Value
 pa:KQ
 pc:Nat
abbrev lh(o:Opt)(x:GAd)(n:Nat)(recs:Int):Os:=[aB o.cfg.width,aB o.cfg.policy,aB o.cfg.most,aB o.cfg.lag,aB o.cfg.rho,aB o.cfg.trust,aB o.cfg.agents,aB o.cfg.cells,aB o.cfg.hold,aB o.period,aB o.probes,aB o.segment,aB o.save,
 PA x.bb 0,PA x.sb 0,x.pv,.slice x.pa n x.pc,aB recs]
theorem sJ{s:aH}{r:Rp}(h:(bO s r).2.2=0):r.right=true:=by
 unfold bO at h
 split at h
 .cases h
 .rename_i a;simpa using a
theorem Ug{s:aH}{r:Rp}(h:(bO s r).2.2≠0):(bO s r).1=s/\(bO s r).2.1=[]:=by
 unfold bO at h ⊢
 split
 .exact⟨rfl,rfl⟩
 split
 .exact⟨rfl,rfl⟩
 split
 .rename_i c a b;rw[V4 c,V4 a,V5 b]at h;exact V6 rfl h
 split
 .rename_i c a b d;rw[V4 c,V4 a,V4 b,V5 d]at h;unfold fB at h ⊢
  split
  .exact⟨rfl,rfl⟩
  .rename_i e;rw[V4 e]at h
   split at h <;> exact V6 rfl h
 rename_i c a b d;rw[V4 c,V4 a,V4 b,V4 d]at h
 split at h
 .exact V6 rfl h
 split at h
 .exact V6 rfl h
 split at h
 .exact V6 rfl h
 split at h <;> exact V6 rfl h
theorem Rp.bytes_len(r:Rp):r.bytes.length<=100000:=by
 unfold Rp.bytes
 split
 .rename_i a;have b:=Rp.right_len a;have c:=dK [r.kind];have l1:=J7 r (cu r.kind);have lo:=wX r.kind;have l2:=AG r.evs;have l3:=dK [(r.evs.length:Int)];simp only[VE,VZ]at c l3;unfold nmB at l1;have l4:(if r.kind=4 then aN [(r.evs.length:Int)] else []).length<=10:=by
   split
   .omega
   .simp
  simp only[V7];omega
 .simp
theorem Rp.bytes_by(r:Rp):aI r.bytes:=by
 unfold Rp.bytes
 split
 .refine dD (dD (dD (iE _) (jz λi _=>iE _)) ?_) (jz λe _=>wY e)
  split
  .exact iE _
  .exact kB
 .exact kB
theorem Bj{rows:DR}{s:RL}{r:Rp}(hs:s.seg<2147483647)(a:r.right=true):iA rows s ⟨r.kind,r.bytes⟩=0:=by
 have b:1<=r.kind/\r.kind<=7:=by
  unfold Rp.right at a;simp only[VB,VA]at a;omega
 have c:=Rp.bytes_len r;have h0:iz r.kind r.bytes.length=0:=by
  unfold iz;rw[nO,nO]
 unfold iA;dsimp only;rw[V4 (by rw[h0];simp),nO]
section
variable {F L:List aE}{H:aC}{K:KE}{Q:aE}{gb db:Nat}{x:GAd}{o:Opt}{s:aH}{recs:Int}{ys:List Oy}{saved:Bool}{num seg:Int}{rl:RL}{rows:DR}{syn:Nat}
theorem KH{r:Rp}{a:KQ}{c:Nat}{evs:List Ev}(ok:cR s)(G:s.sunk<=4611686018427387903)(h2:s.kept.length<=1000000)(n:oB Q F r a evs)
  (R:∀e∈(bO s r).2.1,e.kind=4->WC e.out.2/\e.out.1.ser.size<=1000000) (S:(bO s r).2.1.length<=1000000)
  (E:rl.ok) (w:rows.length<=549755813888) (B:rl.seg<2147483647) (P:0<=recs/\recs<=1000000000) (h1:ys.length<=1000000000) (L:∀y∈ys,fQ Q y)
  (h:aA H (Q::cellsA gb (lh o x ys.length recs) 110::stA Q x.sb s::slA 91 11 x.pa ys.length x.pc (flat bJ ys)::bookA x.bb x.rb saved num seg::reelA x.rb db rl::diskX db rows syn::F))
  (k1:(bO s r).2.2≠0->∀Q' A,aM Q Q'->aA A (Q'::cellsA gb (lh o x ys.length recs) 110::stA Q' x.sb s::slA 91 11 x.pa ys.length x.pc (flat bJ ys)::bookA x.bb x.rb saved num seg::reelA x.rb db rl::diskX db rows syn::F)->K (aD (bO s r).2.2) A)
  (k2:(bO s r).2.2=0->∀Q' C pa pc A,aM Q Q'->C.map Oy.o=ys.map Oy.o++(bO s r).2.1.flatMap cI->(∀y∈C,fQ Q' y)->
   aA A (Q'::cellsA gb (lh o { x with pa:=pa,pc:=pc } C.length (recs+1)) 110::stA Q' x.sb (bO s r).1::slA 91 11 pa C.length pc (flat bJ C)::bookA x.bb x.rb saved num seg::reelA x.rb db (dp rows rl ⟨r.kind,r.bytes⟩)::diskX db (fY rows rl ⟨r.kind,r.bytes⟩) syn::F)->K (aD 0) A) :
  CF 47 #[PA gb 0,.agg ⟨de r a c⟩] H K:=by
 refine cN 47 0x11217491d21b111c [[(5,sP)]] ?_;refine h.al λb _ h=>⟨some ⟨x.sb,0,none⟩,h.r 2,some ⟨x.bb,0,none⟩,h.r 2,some ⟨x.rb,0,none⟩,h.r 5,?_⟩
 refine⟨_,GM (h.o [6,0,1,2,3,4,5,7] 8),?_⟩;intro Jn U;refine⟨λk=>V6 (V8 k) (by omega),λ_=>U _ _ ?_⟩
 refine⟨_,_,_,_,_,_,_,_,_,_,_,_,_,_,h.q 0,?_⟩;have h:=h.o [1,3,0,2,4,5,6,7] 8;have M:oB Q (cellsA b (de r a c) 61::cellsA gb (lh o x ys.length recs) 110::slA 91 11 x.pa ys.length x.pc (flat bJ ys)::bookA x.bb x.rb saved num seg::reelA x.rb db rl::diskX db rows syn::F) r a evs:=
  ⟨n.eq,λH h=>n.rd H (h.o [] 6),n.labs,n.len,n.vals⟩
 refine Ba ok G (by omega) M h λI ea ec H2 j h=>⟨_,_,_,_,rfl,λk=>?_,λk=>?_⟩
 .have v:(bO s r).2.2≠0:=by simpa using k
  have e1:=(Ug v).1;rw[e1]at h;exact k1 v I _ j (h.o [0,4,2,5,6,7,8] 9)
 have v:(bO s r).2.2=0:=by simpa using k
 have N:=sJ v;have hA:=Bj (rows:=rows) B N;have hk:1<=r.kind/\r.kind<=7:=by
  unfold Rp.right at N;simp only[VB,VA]at N;omega
 obtain⟨d,V⟩:∃d,(bO s r).2.1=d:=⟨_,rfl⟩;rw[V]at h R S k2 ⊢;have h0:=Rp.bytes_len r;refine⟨some ⟨x.bb,0,none⟩,h.r 4,_,h.r 3,_,_,_,_,_,_,_,_,_,_,_,_,_,_,h.q 3,?_⟩;refine SY n.eq h ⟨λH h=>n.rd H (h.o [] 9),λe v H h=>((n.labs e v).sub j).at h 0 rfl⟩ (by have:=n.len;omega) λda dc H3 h=>⟨_,_,_,rfl,h.r 4,h.r 5,?_⟩
 refine h.al λb1 _ h=>⟨h.r 5,h.r 6,?_⟩
 have h:=h.o [8,9,10,0,1,2,3,4,5,6,7] 11;refine QW h (λhn=>V6 hn (by omega)) λ_=>?_
 have h:=h.o [1,2,0,3,4,5,6,7,8,9,10] 11;have f:([(⟨da,dc,r.bytes⟩:Fy)]:List Fy).flatMap Fy.bs=r.bytes:=by simp
 refine GW (parts:=[⟨da,dc,r.bytes⟩]) (kind:=r.kind) E w h (λH h=>h.ce_rd 1 rfl) (λH h y t=>by rw[VI]at t;subst t;exact h.sl_rd 2 rfl) (by rw[f];exact Rp.bytes_by r) (by simp) (by rw[f];omega) λH4 h=>⟨_,_,rfl,_,_,rfl,λk=>?_,λk=>?_⟩
 .rw [f,hA]at k;exact V6 k (by simp)
 rw[f]at h;refine h.st 9 rfl rfl ?_;intro H5 h;refine⟨_,h.r 9,?_⟩;refine h.st 9 rfl rfl ?_;intro W h;refine⟨_,_,_,h.r 9,?_⟩;have Z:i64.wrap (recs+1)=recs+1:=aJ;have h:aA W (_::_::_::_::_::I::slA 305 87 ea d.length ec (flat dP d)::_::_::cellsA gb (lh o x ys.length (i64.wrap (recs+1))) 110::slA 91 11 x.pa ys.length x.pc (flat bJ ys)::F):=h;rw[Z]at h;have h:=h.o [5,6,7,9,10,2,0,1] 11;refine K7 S R h (λH h=>h.sl_rd 0 rfl) λO i wa wc H7 u hm J h=>⟨_,_,_,rfl,h.r 4,?_⟩
 have T:i.length<=1000000:=by
  have e1:i.length=(d.flatMap cI).length:=by rw[<-hm,VM]
  have:∀l:List bH,(l.flatMap cI).length<=l.length:=by
   intro l
   induction l with
   | nil=>simp
   | cons e l ih=>
    rw[Wg,V7,VE];have:(cI e).length<=1:=by unfold cI;split <;> (try split) <;> (try split) <;> (try split) <;> simp
    omega
  have:=this d;omega
 refine h.append (m:=i.length) (ws:=flat bJ i) slOy 5 rfl (h.sl_rd 1 rfl) (fg kH _) (lC pD _) (by omega) (by omega) λpa pc H8 h=>⟨_,_,_,rfl,?_⟩
 refine h.st 4 rfl rfl ?_;intro Y h;have e2:ys.length+i.length=(ys++i).length:=by rw[V7]
 have h:aA Y (O::_::_::stA I x.sb (bO s r).1::cellsA gb (lh o { x with pa:=pa,pc:=pc } (ys.length+i.length) (recs+1)) 110::slA 91 11 pa (ys.length+i.length) pc (flat bJ ys++flat bJ i)::_):=h;rw[e2,<-dS]at h;have h:=h.o [0,4,3,5,6,7,8] 9;have D:=qM u (h.o [2,0,1,3,4,5,6] 7);refine k2 v O (ys++i) pa pc _ (j.trans u) (by rw[VW,hm]) (λy t=>?_) (D.o [1,2,0,3,4,5,6] 7)
 rcases VV.1 t with t|t
 .exact (L y t).sub (j.trans u)
 .exact J y t
end
def fe(o:Opt):Bool:=fC o.cfg&&decide (1<=o.probes/\o.probes<=1024)&&decide (1<=o.period/\o.period<=1099511627776)&&decide (64<=o.segment/\o.segment<=1048576)&&decide (1<=o.save/\o.save<=1048576)
section
variable {F L:List aE}{H:aC}{K:KE}{Q:aE}{o:Opt}
theorem Bk(h:aA H F)(k:∀a,aA a F->K (.bool (fe o)) a):CF 35 #[.agg ⟨io o⟩] H K:=by
 refine cM 35 284 ?_;refine h.al λb _ h=>⟨_,h.r 0,?_⟩
 have key:∀(r1:Int) a,(r1=0↔1<=o.probes/\o.probes<=1024)->aA a F->
   K (.bool (((((((fC o.cfg&&(decide (r1=0)))&&(decide (1<=o.period)))&&(decide (o.period<=1099511627776)))&&(decide (64<=o.segment)))&&(decide (o.segment<=1048576)))&&(decide (1<=o.save)))&&(decide (o.save<=1048576)))) a:=by
  intro r1 a f h;have e:(((((((fC o.cfg&&(decide (r1=0)))&&(decide (1<=o.period)))&&(decide (o.period<=1099511627776)))&&(decide (64<=o.segment)))&&(decide (o.segment<=1048576)))&&(decide (1<=o.save)))&&(decide (o.save<=1048576)))=fe o:=by
   unfold fe;rw[Wp];simp only[VB,VA];rw[f]
   constructor
   .rintro⟨⟨⟨⟨⟨⟨⟨h1,h2⟩,h3⟩,h4⟩,h5⟩,h6⟩,h7⟩,h8⟩;exact⟨⟨⟨⟨h1,h2⟩,h3,h4⟩,h5,h6⟩,h7,h8⟩
   .rintro⟨⟨⟨⟨h1,h2⟩,h3,h4⟩,h5,h6⟩,h7,h8⟩;exact⟨⟨⟨⟨⟨⟨⟨h1,h2⟩,h3⟩,h4⟩,h5⟩,h6⟩,h7⟩,h8⟩
  rw[e];exact k _ h
 refine K9 h (λm=>⟨_,_,rfl,?_⟩) λi pb j h=>⟨_,_,rfl,?_⟩
 .refine⟨_,_,_,_,_,_,_,_,_,h.q 0,Bc (c:=o.cfg) h λd h=>⟨_,rfl,_,λ_=>h.r 0,_,λ_=>h.r 0,_,λ_=>h.r 0,_,λ_=>h.r 0,_,λ_=>h.r 0,_,λ_=>h.r 0,?_⟩⟩
  exact key 11 _ (by omega) h.tl
 .refine⟨_,_,_,_,_,_,_,_,_,h.q 1,Bc (c:=o.cfg) h λd h=>⟨_,rfl,_,λ_=>h.r 1,_,λ_=>h.r 1,_,λ_=>h.r 1,_,λ_=>h.r 1,_,λ_=>h.r 1,_,λ_=>h.r 1,?_⟩⟩
  exact key 0 _ (by omega) h.tl.tl
end
theorem bvI(x:Int):(BitVec.ofInt 64 x).toNat=(x%18446744073709551616).toNat:=by rw[BitVec.toNat_ofInt];rfl
theorem bv_ones:BitVec.ofInt 64 (18446744073709551615:Int)=BitVec.allOnes 64:=by decide
theorem bv_ones':BitVec.ofInt 64 (-1:Int)=BitVec.allOnes 64:=by decide
theorem KJ:BitVec.ofInt 64 (0:Int)=0#64:=by decide
theorem Uh{x:Int}(h:0<=x/\x<18446744073709551616):aY .xor .u64 x 0=x:=by
 unfold aY;show u64.wrap ((BitVec.ofInt 64 x^^^BitVec.ofInt 64 0).toNat:Int)=x;rw[KJ,BitVec.xor_zero,bvI,df];omega
theorem Ui{x:Int}(h:0<=x/\x<18446744073709551616):aY .xor .u64 x 18446744073709551615=18446744073709551615-x:=by
 unfold aY;show u64.wrap ((BitVec.ofInt 64 x^^^BitVec.ofInt 64 18446744073709551615).toNat:Int)=_;rw[bv_ones,BitVec.xor_allOnes,BitVec.toNat_not,bvI,df];omega
theorem Uj{x:Int}(h:aF x):aY .xor .i64 x 0=x:=by
 unfold aY aF at *;show i64.wrap ((BitVec.ofInt 64 x^^^BitVec.ofInt 64 0).toNat:Int)=x;rw[KJ,BitVec.xor_zero,bvI,jM];omega
theorem Uk{x:Int}(h:aF x):aY .xor .i64 x (-1)=-x-1:=by
 unfold aY aF at *;show i64.wrap ((BitVec.ofInt 64 x^^^BitVec.ofInt 64 (-1)).toNat:Int)=_;rw[bv_ones',BitVec.xor_allOnes,BitVec.toNat_not,bvI,jM];omega
theorem andU_one{n:Nat}(h:n<18446744073709551616):aY .and .u64 (n:Int) 1=((n%2:Nat):Int):=by
 have:=and64 (m:=1) h (by decide);rw[Nat.and_one_is_mod]at this;exact this
theorem turnI_eq{v:Int}(h:aF v):qt v=if 0<=v then 2*v else -2*v-1:=by
 unfold qt;show aY .xor .u64 (u64.wrap (u64.wrap v*2^1)) (u64.wrap (Int.fdiv v (2^63)))=_;unfold aF at h;have e2:((2:Int)^63)=9223372036854775808:=by decide
 have e1:((2:Int)^1)=2:=by decide
 rw[e1,e2]
 split
 .have a:Int.fdiv v 9223372036854775808=0:=by
   rw[WY v (by decide)];omega
  rw[a,show u64.wrap 0=0 from rfl,Uh (tT _),df,df];omega
 .have a:Int.fdiv v 9223372036854775808=-1:=by
   rw[WY v (by decide)];omega
  rw[a,show u64.wrap (-1)=18446744073709551615 from rfl,Ui (tT _),df,df];omega
theorem Ul{n:Nat}(h:n<18446744073709551616):rS n=if n%2=0 then ((n/2:Nat):Int) else -((n/2:Nat):Int)-1:=by
 unfold rS;show aY .xor .i64 (i64.wrap (Int.fdiv n (2^1))) (i64.wrap (0-i64.wrap (aY .and .u64 n 1)))=_;have e1:((2:Int)^1)=2:=by decide
 rw[e1,andU_one h,WY _ (by decide)];have a:i64.wrap ((n:Int)/2)=((n/2:Nat):Int):=by rw[jM];omega
 rw[a]
 split
 .rename_i h0;rw[h0];show aY .xor .i64 _ 0=_;exact Uj (by unfold aF;omega)
 .rename_i h0;have b:n%2=1:=by omega
  rw[b];show aY .xor .i64 _ (-1)=_;exact Uk (by unfold aF;omega)
theorem KK{v:Int}(h:aF v):rS (turnN v)=v:=by
 rw[Ul (tU v)];have e:=zq v;rw[turnI_eq h]at e;unfold aF at h
 split at e <;> split <;> omega
theorem Bl{u:Nat}(h:u<18446744073709551616)(r:List Int):rdU 0 0 (bR u++r)=.ok u (bR u).length:=by
 have:=wl (w:=u) (acc:=0) (i:=0) r (by simpa using h) (by omega) (by omega);simpa using this
theorem oD{u:Nat}(h:u<18446744073709551616)(r:List Int):bM ⟨0,bR u++r⟩=(u,⟨0,r⟩):=by
 unfold bM;rw[V4 (by simp),Bl h];simp
theorem Um{v:Int}(h:aF v):i64.wrap ((u64N v:Nat):Int)=v:=by
 unfold aF at h;have:=wZ v;rw[<-this,df,jM];omega
theorem usB1(v:Int):aN [v]=bR (u64N v):=by simp[aN]
theorem mZ(v:Int)(l:List Int):aN (v::l)=aN [v]++aN l:=by simp[aN]
theorem intsB1(v:Int):cY [v]=bR (turnN v):=by simp[cY]
theorem KM{v:Int}(h:0<=v)(a:v<18446744073709551616):((u64N v:Nat):Int)=v:=by
 rw[<-wZ,df];omega
theorem uF{v:Int}(h:0<=v)(a:v<18446744073709551616)(r:List Int):dZ ⟨0,aN [v]++r⟩=.ok (v,⟨0,r⟩):=by
 unfold dZ;rw[usB1,oD (su v),KM h a];rfl
theorem kI{v:Int}(h:aF v)(r:List Int):cG ⟨0,aN [v]++r⟩=.ok (v,⟨0,r⟩):=by
 unfold cG;rw[usB1,oD (su v),Um h];rfl
theorem uG{v:Int}(h:aF v)(r:List Int):gj ⟨0,cY [v]++r⟩=.ok (v,⟨0,r⟩):=by
 unfold gj dE;rw[intsB1,oD (tU v),KK h];rfl
theorem Bm{m:Int}{n:Nat}(h:(n:Int)<=m)(a:n<18446744073709551616)(r:List Int):bY m ⟨0,bR n++r⟩=((n:Int),⟨0,r⟩):=by
 unfold bY;rw[V4 (by simp),Bl a];dsimp only;rw[nO];simp
theorem uH{m:Int}{n:Nat}(h:(n:Int)<=m)(a:n<9223372036854775808)(r:List Int):dO m ⟨0,aN [(n:Int)]++r⟩=.ok ((n:Int),⟨0,r⟩):=by
 unfold dO;have e:u64N (n:Int)=n:=by have:=KM (v:=(n:Int)) (by omega) (by omega);omega
 rw[usB1,e,Bm h (by omega)];rfl
theorem uI{m v:Int}(h:0<=v/\v<=m)(a:aF v)(r:List Int):upR m ⟨0,aN [v]++r⟩=.ok (v,⟨0,r⟩):=by
 unfold upR;rw[kI a];dsimp only;rw[V5 (by simp[inM,h])]
theorem Un(s:Fa):(fh s).length=s.size:=by
 unfold fh;simp
theorem uJ{m:Int}{s:Fa}(h:(s.size:Int)<=m)(b:s.size<18446744073709551616)(r:List Int):aZ m ⟨0,dd s++r⟩=(fh s,⟨0,r⟩):=by
 unfold aZ dd;rw[V4 (by simp),VK,Bl b];dsimp only;have a:=Un s;rw[nO,V4 (by simp only[V7];omega)];rw[Yn,Yv (by omega),Wc (by omega),<-Yw,Yn,<-a,Yn]
theorem xy(s:Fa):bG (fh s)=s:=by
 unfold bG;apply ByteArray.ext;apply Array.toList_inj.1;rw[strOfNums_data];unfold fh;apply W9
 .simp
 .intro i b a;simp
abbrev bL(l:List UInt8):Fa:=⟨l.toArray⟩
theorem qO(l:List UInt8):aX (bL l)=l:=by simp[aX,bL]
theorem pF(s:Fa):bL (aX s)=s:=by
 apply ByteArray.ext;simp[aX,bL]
theorem sK{s t:Fa}(h:aX s=aX t):s=t:=by rw[<-pF s,<-pF t,h]
theorem pG(s t:Fa):aX (s++t)=aX s++aX t:=by
 unfold aX;rw[ByteArray.data_append,Array.toList_append]
theorem sL(s:Fa)(i j:Nat):aX (s.extract i j)=((aX s).drop i).take (j-i):=by
 unfold aX;rw[ByteArray.data_extract,Array.toList_extract]
theorem KN{c:UInt8}{a b:List UInt8}(h:c∉a):cV c (a++c::b)=a.length:=by
 unfold cV;have e:(a++c::b).idxOf c=a.length:=by
  rw[List.idxOf_append,V4 h,List.idxOf_cons_self];omega
 rw[e,V5 (by simp)]
theorem KR{c:UInt8}{a:List UInt8}(h:c∉a):cV c a=-1:=by
 unfold cV;rw[V4];intro b;exact h (List.idxOf_lt_length_iff.1 b)
theorem KU{c:UInt8}{s:Fa}{a b:List UInt8}(e:aX s=a++c::b)(h:c∉a):gi c s=(bL a,bL b,true):=by
 unfold gi;have hs:s.size=a.length+(b.length+1):=by rw[<-kW,e];simp
 rw[e,KN h,pO];congr 1
 .apply sK;rw[sL,e,qO];simp
 .congr 1;apply sK;rw[sL,e,qO];have:((a.length:Int)).toNat+1=a.length+1:=by omega
  rw[this,<-Yw,Yn,List.drop_one,List.tail_cons];exact Wc (by omega)
theorem cutS_no{c:UInt8}{s:Fa}(h:c∉aX s):gi c s=(s,⟨#[]⟩,false):=by
 unfold gi;rw[KR h,V4 (by decide)]
theorem sufS_at{c:UInt8}{s:Fa}{a:List UInt8}(e:aX s=a++[c]):mK c s=(bL a,true):=by
 unfold mK;have hs:s.size=a.length+1:=by rw[<-kW,e];simp
 have b:s.extract (s.size-1) s.size=(⟨#[c]⟩:Fa):=by
  apply sK;rw[sL,e,hs];simp
 rw[b,V5 (by simp;omega)];congr 1;apply sK;rw[sL,e,qO,hs];simp
theorem join2(p q:List UInt8)(r:List (List UInt8)):Go.Lib.join (p::q::r) [44]=p++44::Go.Lib.join (q::r) [44]:=by
 rw[Go.Lib.join_cons,Go.Lib.join_cons];simp[Go.Lib.joinTail]
theorem KV:∀{ps:List (List UInt8)} {n:Nat} {s:Fa},ps≠[]->(∀p∈ps,(44:UInt8)∉p)->ps.length<=n+1->aX s=Go.Lib.join ps [44]->iZ n s=ps.map bL
 | [],_,_,h,_,_,_=>V6 rfl h
 | [p],n,s,_,hp,_,e=>by
  have e:aX s=p:=by rw[e,Go.Lib.join_one]
  have a:(44:UInt8)∉aX s:=by rw[e];exact hp p (VO ..)
  have b:s=bL p:=by rw[<-e,pF]
  cases n with
  | zero=>simp[iZ,b]
  | succ n=>
   unfold iZ;rw[KR a,V5 (by decide),b];rfl
 | p::q::r,0,s,_,_,hl,_=>by simp at hl
 | p::q::r,n+1,s,_,hp,hl,e=>by
  have e:aX s=p++44::Go.Lib.join (q::r) [44]:=by rw[e,join2]
  have a:=hp p (VO ..);have hs:s.size=p.length+((Go.Lib.join (q::r) [44]).length+1):=by rw[<-kW,e];simp
  unfold iZ;rw[e,KN a,nO];have e1:s.extract 0 ((p.length:Int)).toNat=bL p:=by
   apply sK;rw[sL,e,qO];simp
  have e2:aX (s.extract (((p.length:Int)).toNat+1) s.size)=Go.Lib.join (q::r) [44]:=by
   rw[sL,e,VJ,<-Yw,Yn,List.drop_one,List.tail_cons];exact Wc (by omega)
  rw[e1,KV (n:=n) (by simp) (λx c=>hp x (VQ _ c)) (by simpa using hl) e2]
  rfl
theorem Bn{c:UInt8}(h:pq c=true):c≠44/\c≠61/\c≠123/\c≠125:=by
 unfold pq lowC at h;refine⟨?_,?_,?_,?_⟩ <;> (rintro rfl;revert h;decide)
theorem valC_not{c:UInt8}(h:valC c=true):c≠44/\c≠61/\c≠123/\c≠125:=by
 unfold valC at h;refine⟨?_,?_,?_,?_⟩ <;> (rintro rfl;revert h;decide)
theorem Bo{s:Fa}(h:jZ s=true):∀c∈aX s,pq c=true:=by
 unfold jZ at h;simp only[VB,Wt]at h;exact h.2
theorem KW{l:bS}(h:ij l=true):(∀c∈aX l.value,valC c=true)/\jZ l.name=true:=by
 unfold ij at h;simp only[VB,Wt]at h;exact⟨h.1.2,h.2⟩
theorem xz(l:bS):aX (fx l)=aX l.name++61::aX l.value:=by
 unfold fx;rw[pG,pG,VK];rfl
theorem partL_no{l:bS}(h:ij l=true):(44:UInt8)∉aX (fx l):=by
 obtain⟨b,a⟩:=KW h;rw[xz];simp only[VV,VN,not_or];exact⟨λhm=>(Bn (Bo a _ hm)).1 rfl,by decide,λhm=>(valC_not (b _ hm)).1 rfl⟩
theorem KX:∀{ps:List (List UInt8)},(∀p∈ps,1<=p.length)->ps.length<=(Go.Lib.join ps [44]).length
 | [],_=>by simp
 | [p],h=>by rw[Go.Lib.join_one];have:=h p (VO ..);simpa using this
 | p::q::r,h=>by
  have b:=KX (ps:=q::r) λx a=>h x (VQ _ a)
  rw[join2];simp only[VE,V7]at *;omega
theorem Uo{labs:List bS}(d:∀l∈labs,ij l=true)(e:labs.length<=8):kE (labs.map fx)=some labs:=by
 have key:∀j,j<=labs.length->kE ((labs.take j).map fx)=some (labs.take j):=by
  intro j
  induction j with
  | zero=>intro _;rfl
  | succ j b=>
   intro f;have b:=b (by omega);have a:j<labs.length:=by omega
   rw[WI,List.getElem?_eq_getElem a,Option.toList_some,VW];unfold kE at b ⊢;rw[WR,b];show sr (some (labs.take j)) (fx labs[j])=_;have d:=d _ (VL a);have c:(61:UInt8)∉aX labs[j].name:=λhm=>(Bn (Bo (KW d).2 _ hm)).2.1 rfl
   unfold sr;rw[KU (xz labs[j]) c];dsimp only;rw[VY,V5 (by simp;omega),pF,pF]
 have:=key labs.length (VF _)
 rwa[Wi]at this
theorem Up{name:Fa}{labs:List bS}(h:fw name labs=true):il (gh name labs)=(name,labs,true):=by
 have e:=mJ h;have a:(123:UInt8)∉aX name:=λhm=>(Bn (Bo e.named _ hm)).2.2.1 rfl
 unfold gh;rw[V5 h]
 split
 .rename_i h0;subst h0;unfold il;rw[cutS_no a];dsimp only;rw[V4 (by simp),V5 h]
 .rename_i h0;have f:aX (kg labs)=Go.Lib.join ((labs.map fx).map aX) [44]:=qO _;have e1:aX (((name++(⟨#[123]⟩:Fa))++kg labs)++(⟨#[125]⟩:Fa))=aX name++123::(aX (kg labs)++[125]):=by
   rw[pG,pG,pG,VK,VK];rfl
  have j:gR (kg labs)=labs.map fx:=by
   have d:∀p∈(labs.map fx).map aX,(44:UInt8)∉p/\1<=p.length:=by
    intro p c;obtain⟨b,hb,rfl⟩:=VH.1 c;obtain⟨l,i,rfl⟩:=VH.1 hb;exact⟨partL_no (e.val l i),by rw[xz];simp;omega⟩
   have:=KX (ps:=(labs.map fx).map aX) λp c=>(d p c).2
   have:=KV (ps:=(labs.map fx).map aX) (n:=(kg labs).size) (s:=kg labs) (by simpa using h0) (λp c=>(d p c).1) (by rw[<-kW,f];omega) f
   unfold gR;rw[this,Wu,Wu];apply WP;intro l _;exact pF _
  unfold il;rw[KU e1 a];dsimp only;rw[V5 rfl,sufS_at (qO _)];dsimp only;rw[V5 rfl,pF,j,Uo e.val e.len,pF];dsimp only;rw[V5 h]
theorem KY{labs:List bS}(b:∀l∈labs,ij l=true)(r:List Int):∀j,j<=labs.length->dJ j ⟨0,labs.flatMap iX++r⟩=(labs.take j,⟨0,(labs.drop j).flatMap iX++r⟩)
 | 0,_=>rfl
 | j+1,h=>by
  have c:=KY b r j (by omega);have a:j<labs.length:=by omega
  have hs:=sk (b _ (VL a));have e:(labs.drop j).flatMap iX++r=dd labs[j].name++(dd labs[j].value++((labs.drop (j+1)).flatMap iX++r)):=by
   rw[Wx a,Wg];simp[iX]
  unfold dJ;rw[c];dsimp only;rw[e,uJ (m:=64) (by omega) (by omega)];dsimp only;rw[uJ (m:=64) (by omega) (by omega),xy,xy,WI,List.getElem?_eq_getElem a];rfl
theorem Uq{name:Fa}{labs:List bS}(h:fw name labs=true)(r:List Int):cO ⟨0,iY name labs++r⟩=⟨name,labs,0,⟨0,r⟩⟩:=by
 have a:=mJ h;have hs:=sj a.named;unfold iY;rw[V5 h];have e:serB name labs++r=dd name++(bR labs.length++(labs.flatMap iX++r)):=by unfold serB;simp
 unfold cO;rw[e,uJ (m:=64) (by omega) (by omega)];dsimp only;have b:=a.len;rw[Bm (m:=8) (by omega) (by omega)];dsimp only;rw[VJ,KY a.val r labs.length (VF _),Wi,W6];dsimp only;rw[V4 (by simp),xy,V5 h];rfl
def flN(bs:List Bool):Nat->Int
 | 0=>0
 | n+1=>flN bs n+if bs.getD n false then (2:Int)^n else 0
def cbB(k:Ky)(c:Cl):List Int:=cY [k.win]++dC [k.ser,bG (dj c)]
abbrev smB(x:bQ):List Int:=aN [x.asked,x.got,x.sent,x.came]
abbrev rwB(p:Int×Pv):List Int:=aN [p.1]++evB p.2
def agB1(a:Int)(e:En)(fl:Fl)(st:br):List Int:=
 (aN [a,e.epoch,e.boot,e.time,fl.t,flN [fl.out,fl.was,fl.held] 3]++cY [st.last])++aN [flN [st.ck.held] 1,st.ck.streak,(st.ck.smps.length:Int)]
def agB(a:Int)(e:En)(fl:Fl)(st:br):List Int:=
 ((agB1 a e fl st++st.ck.smps.flatMap smB)++aN [st.hs.next,(st.hs.rows.length:Int)])++st.hs.rows.flatMap rwB
theorem xA(bs:List Bool):∀n,n<=3->0<=flN bs n/\flN bs n<(2:Int)^n
 | 0,_=>⟨Wh _,by show (0:Int)<1;decide⟩
 | n+1,h=>by
  have b:=xA bs n (by omega);have a:(2:Int)^(n+1)=2^n+2^n:=by rw[Int.pow_succ];omega
  unfold flN;rw[a]
  split <;> omega
section
variable {F L:List aE}{H:aC}{K KP:KE}{Q Q':aE}{sb:Nat}{s:aH}
theorem KZ{b:Nat}{bs:List Bool}(A:bs.length<=3)(h:aA H F)(i:Nat)(w:aW i F=cellsA b (bs.map .bool) 4):bV Tryz.prog 119 #[.slice (some ⟨b,0,none⟩) bs.length bs.length] H (aD (flN bs bs.length)):=by
 refine cN 119 0x1121561239925117494c [[(3,sI)],[(3,sI),(8,sI)]] ?_;refine⟨λsum i n=>n=H/\∃j:Nat,i=j/\j<=bs.length/\sum=flN bs j,λ_ i _=>bs.length-i.toNat,⟨rfl,0,rfl,by omega,rfl⟩,?_⟩
 rintro sum t s ⟨rfl,j,rfl,B,rfl⟩;refine⟨λf=>?_,λf=>?_⟩
 .have c:j<bs.length:=by have:=V8 f;omega
  have d:=(h.ce_rd i w).at c;refine⟨by omega,_,_,d.1,_,d.2,?_⟩;have hb:=xA bs j (by omega);have y:(2:Int)^j<=4:=by
   rcases (by omega:j=0\/j=1\/j=2) with rfl|rfl|rfl <;> decide
  have hs:flN bs (j+1)=flN bs j+if bs[j] then (2:Int)^j else 0:=by
   show flN bs j+(if bs.getD j false then _ else _)=_
   rw[ow _ c]
  intro v u;have a:v (flN bs (j+1)) s:=by
   refine u _ _ ?_
   conv=>whnf
   rw[aJ (x:=(j:Int)+1)];exact⟨⟨rfl,j+1,by omega,c,rfl⟩,by dsimp only;omega⟩
  refine⟨λm=>⟨by omega,?_⟩,λm=>?_⟩
  .rw [hs,V5 m]at a;have e:i64.wrap (1*2^(min (Int.toNat (j:Int)) (i64.bits)))=(2:Int)^j:=by
    rcases (by omega:j=0\/j=1\/j=2) with rfl|rfl|rfl <;> decide
   conv=>whnf
   rw[e,aJ];exact a
  .rw [hs,V4 (by rw[m];simp),Int.add_zero]at a;exact a
 .have k:j=bs.length:=by have:=V9 f;omega
  subst k;exact⟨rfl,rfl⟩
theorem La{k:Ky}{c:Cl}(wc:WC c)(hs:k.ser.size<=5000):(cbB k c).length<=10100:=by
 have b:=mC [k.win];have d:=lJ (s:=k.ser) (by omega);have f:=uo wc;have a:=lJ (s:=bG (dj c)) (by rw[nQ];omega);rw[nQ]at a;have e:dC [k.ser,bG (dj c)]=dd k.ser++dd (bG (dj c)):=by simp[dC]
 unfold cbB;rw[V7,e,V7];simp only[VE,VZ]at b;omega
theorem Lb{key:Ky}{c:Cl}(wc:WC c)(hs:key.ser.size<=5000)(h:aA H F)
  (k:∀a v t,aA t (slA 5 1 a (cbB key c).length v ((cbB key c).map U8)::F)->K (.slice a (cbB key c).length v) t):CF 57 #[aggK key,aggC c] H K:=by
 have m:=La wc hs;have D:=uo wc;have A:=nQ (dj c);refine cM 57 28 ?_;refine h.al λb _ h=>?_
 refine h.al λb1 _ h=>⟨_,h.r 1,_,h.r 1,_,_,_,_,_,_,_,_,h.rda 0 rfl,?_⟩
 refine h.al λb2 _ h=>⟨h.rda 1 rfl,h.r 2,?_⟩
 refine qG h 0 rfl λa1 c1 G h=>⟨_,_,_,rfl,h.rda 2 rfl,h.r 3,?_⟩
 refine Ja wc h λa2 c2 E h=>⟨_,_,_,rfl,h.r 4,?_⟩
 have f:=rR (c:=c2) (bs:=dj c) (by
  rcases (ky (F:=star _) h).2 with ⟨d,_⟩|⟨b,pre,post,C,fr,d,_⟩
  .exact .inl d
  .exact .inr ⟨_,_,d⟩) (h.sl_rd 0 rfl)
 refine⟨_,f,?_⟩;refine h.al λb3 _ h=>?_
 have e:dC [key.ser,bG (dj c)]=dd key.ser++dd (bG (dj c)):=by simp[dC]
 have l1:=lJ (s:=key.ser) (by omega);have l2:=lJ (s:=bG (dj c)) (by omega);refine wt (ts:=[key.ser,bG (dj c)]) h (λH h=>h.ce_rd 0 rfl) (λi=>?_) (by
   intro x u;simp only[VN,WF,or_false]at u
   rcases u with rfl|rfl <;> omega) (by simp) λa3 c3 B h=>⟨_,_,_,rfl,?_⟩
 .have j:(dC ([key.ser,bG (dj c)].take i)).length<=(dC [key.ser,bG (dj c)]).length:=by
   have w:[key.ser,bG (dj c)]=[key.ser,bG (dj c)].take i++[key.ser,bG (dj c)].drop i:=(Ww _ _).symm;rw[show (dC [key.ser,bG (dj c)]).length=(dC ([key.ser,bG (dj c)].take i++[key.ser,bG (dj c)].drop i)).length by rw[<-w]];unfold dC;rw[W4,V7];omega
  rw[e,V7]at j;omega
 .have n:(cY [key.win]++dC [key.ser,bG (dj c)]).length<=10100:=m;rw[V7]at n;refine dq h (i:=3) rfl rfl rfl (h.sl_rd 0 rfl) (by omega) λa4 c4 y h=>⟨_,_,_,rfl,?_⟩
  exact k _ _ _ (h.o [3] 7)
theorem Lc(l:List bQ):(l.flatMap smB).length<=40*l.length:=by
 induction l with
 | nil=>simp
 | cons i l ih=>
  have:(smB i).length<=10*4:=dK [i.asked,i.got,i.sent,i.came];rw[Wg,V7,VE];omega
theorem Ld(l:cy Pv):(l.flatMap rwB).length<=1330*l.length:=by
 induction l with
 | nil=>simp
 | cons i l ih=>
  have a:=dK [i.1];have b:=xa i.2;rw[Wg,V7,VE,V7];simp only[VE,VZ]at a;omega
theorem Ur{a:Int}{e:En}{st:br}(ok:cR s)(ha:0<=a)(y:s.sts[a.toNat]?=some (some st)){p:SAd}{A1 A2 A3 A4 A5:aE}(h:aA H (Q::cellsA sb (dr s p) 145::A1::A2::Ma.markC p.mb p.mm s.ms::Ma.mapF p.mm s.ms.m::A3::A4::strmA Q p.tm s.sts::A5::F))
  (k:∀B D C,aA C (slA 5 1 B (agB a e (bF s.ms a) st).length D ((agB a e (bF s.ms a) st).map U8)::Q::cellsA sb (dr s p) 145::A1::A2::Ma.markC p.mb p.mm s.ms::Ma.mapF p.mm s.ms.m::A3::A4::strmA Q p.tm s.sts::A5::F)->K (.slice B (agB a e (bF s.ms a) st).length D) C) :
  CF 54 #[PA sb 0,aD a,aggE e] H K:=by
 have G:((a.toNat:Nat):Int)=a:=by omega
 have d:=ok.sts st (Wk y);have y3:=d.ck.len;have Y:=Bf d;refine Pe ?_;refine h.al λb _ h=>?_
 have h:=h.o [9,2,3,4,5,6,7,8,10,0,1] 11;obtain⟨I,bl,u,h⟩:=qK h y;have h:=h.o [1,0,2,3,4,5,6,7,8,9,10,11,12] 13;obtain⟨cb,hb,h⟩:=gV.1 h;have v:=qL u h 3 rfl;rw[G]at v;refine⟨_,h.r 5,_,v,_,h.r 5,?_⟩;have h:=h.o [8,9,0,1,2,3,4,5,6,7,10,11,12,13,14] 15;refine Ma.Of_spec (a:=a) h λH1 h=>⟨_,_,_,_,_,rfl,?_⟩
 refine h.al λb1 _ h=>?_
 refine h.st 0 rfl rfl ?_;intro H2 h;refine⟨_,h.r 14,_,h.r 14,_,h.r 14,_,h.r 0,_,h.r 0,_,h.r 0,_,h.r 0,?_⟩;refine h.al λb2 _ h=>⟨h.r 1,h.r 15,h.r 15,h.r 15,_,KZ (bs:=[(bF s.ms a).out,(bF s.ms a).was,(bF s.ms a).held]) (by simp) h 0 rfl,?_⟩
 refine h.al λb3 _ h=>?_
 refine pw (vs:=[a,e.epoch,e.boot,e.time,(bF s.ms a).t,flN [(bF s.ms a).out,(bF s.ms a).was,(bF s.ms a).held] 3]) h (λH h=>h.ce_rd 0 rfl) (by simp) λa1 c1 H3 h=>⟨_,_,_,rfl,cZ ⟨_,h.r 6,?_⟩⟩
 have q1:=dK [a,e.epoch,e.boot,e.time,(bF s.ms a).t,flN [(bF s.ms a).out,(bF s.ms a).was,(bF s.ms a).held] 3];have q2:=mC [st.last];have q3:=dK [flN [st.ck.held] 1,st.ck.streak,(st.ck.smps.length:Int)];have q4:=dK [st.hs.next,(st.hs.rows.length:Int)];simp only[VE,VZ]at q1 q2 q3 q4;unfold agB agB1 at k;generalize aN [a,e.epoch,e.boot,e.time,(bF s.ms a).t,flN [(bF s.ms a).out,(bF s.ms a).was,(bF s.ms a).held] 3]=X1 at *;refine h.al λb4 _ h=>?_
 refine qG h 0 rfl λa2 c2 H4 h=>⟨_,_,_,rfl,?_⟩
 generalize cY [st.last]=X2 at *;refine dq h (i:=2) rfl rfl rfl (h.sl_rd 0 rfl) (by omega) λa3 c3 H5 h=>⟨_,_,_,rfl,?_⟩
 have h:=h.o [9,2,6,7,8,10,11,12,13,14,15,16,17,18,20] 21;refine cZ ⟨_,h.rd 4 rfl 0,?_⟩;refine Ab h (by omega) λsa sc H6 h=>⟨_,_,_,rfl,cZ ⟨_,h.rd 5 rfl 0,_,ug (h.o [1] 2),cZ ⟨_,h.rd 5 rfl 0,?_⟩⟩⟩
 refine h.al λb5 _ h=>⟨h.rd 6 rfl 0,_,KZ (bs:=[st.ck.held]) (by simp) h 0 rfl,_,Rr (h.o [2] 3),?_⟩
 refine h.al λb6 _ h=>?_
 refine pw (vs:=[flN [st.ck.held] 1,st.ck.streak,(st.ck.smps.length:Int)]) h (λH h=>h.ce_rd 0 rfl) (by simp) λa4 c4 H7 h=>⟨_,_,_,rfl,?_⟩
 generalize aN [flN [st.ck.held] 1,st.ck.streak,(st.ck.smps.length:Int)]=X3 at *;refine dq h (i:=5) rfl rfl rfl (h.sl_rd 0 rfl) (by rw[V7];omega) λa5 c5 H8 h=>⟨_,_,_,rfl,?_⟩
 have hO:((X1++X2)++X3).length<=100:=by simp only[V7];omega
 generalize (X1++X2)++X3=O at *;refine⟨λB U D i C=>∃j:Nat,i=j/\j<=st.ck.smps.length/\U=(O++(st.ck.smps.take j).flatMap smB).length/\
  aA C (slA 5 1 B (O++(st.ck.smps.take j).flatMap smB).length D ((O++(st.ck.smps.take j).flatMap smB).map U8)::slA 58 4 sa st.ck.smps.length sc (flat eW st.ck.smps)::ckA cb st.ck::Ma.markC p.mb p.mm s.ms::Ma.mapF p.mm s.ms.m::cellsA I [PA cb 0,PA hb 0,aD st.last] 173::hldA Q hb st.hs::mapA aD ptV p.tm (cW 0 bl)::lR Q bl s.sts a.toNat::
   cellsA sb (dr s p) 145::A1::A2::A3::A4::A5::Q::F),
  λ_ _ _ i _=>st.ck.smps.length-i.toNat,⟨0,rfl,by omega,by simp,?_⟩,?_⟩
 .rw [show O++(st.ck.smps.take 0).flatMap smB=O by simp];exact h.o [5,3,4,6,7,8,9,10,11,12,13,14,15,16,17,18] 19
 rintro a6 n6 c6 i H9 ⟨j,rfl,hj,rfl,h⟩;have L:=Lc (st.ck.smps.take j);have S:(st.ck.smps.take j).length<=st.ck.smps.length:=by rw[VY];omega
 refine⟨λc=>?_,λc=>?_⟩
 .have c:j<st.ck.smps.length:=by have:=V8 c;omega
  have V:=h.sl_rd 1 rfl;refine⟨by omega,_,_,V.some kD (by omega) c,_,_,_,_,V.els kD c,?_⟩;refine h.al λb8 _ h=>?_
  refine h.st 0 rfl rfl ?_;intro P h;refine⟨_,h.r 0,_,h.r 0,_,h.r 0,_,h.r 0,?_⟩;refine h.al λb9 _ h=>?_
  refine pw (vs:=[st.ck.smps[j].asked,st.ck.smps[j].got,st.ck.smps[j].sent,st.ck.smps[j].came]) h (λH h=>h.ce_rd 0 rfl) (by simp) λa7 c7 R h=>⟨_,_,_,rfl,?_⟩
  have q5:=dK [st.ck.smps[j].asked,st.ck.smps[j].got,st.ck.smps[j].sent,st.ck.smps[j].came];simp only[VE,VZ]at q5;refine dq h (i:=3) rfl rfl rfl (h.sl_rd 0 rfl) (by rw[V7];omega) λa8 c8 T h=>⟨_,_,_,rfl,?_⟩
  rw[aJ (x:=(j:Int)+1)];have e5:O++(st.ck.smps.take (j+1)).flatMap smB=(O++(st.ck.smps.take j).flatMap smB)++aN [st.ck.smps[j].asked,st.ck.smps[j].got,st.ck.smps[j].sent,st.ck.smps[j].came]:=by
   rw[jP (f:=smB) c,VK]
  rw[<-e5]at h ⊢;exact⟨⟨j+1,by omega,c,rfl,h.o [3,4,5,6,7,8,9,10,11,12,13,14,15,16,17,18] 19⟩,by dsimp only;omega⟩
 have A:st.ck.smps.length<=j:=by have:=V9 c;omega
 rw[Wc A]at h L ⊢;have l0:(O++st.ck.smps.flatMap smB).length<=500:=by rw[V7];omega
 generalize O++st.ck.smps.flatMap smB=O2 at *;refine cZ ⟨_,h.r 5,cZ ⟨_,h.r 5,?_⟩⟩;have h:=h.o [6,0,2,3,4,5,7,8,9,10,11,12,13,14,15] 16;refine AC h d.hs.rows.rising (Be d) (by omega) λwa wc P h=>⟨_,_,_,rfl,h.r 6,?_⟩
 have h:=h.o [1,0,2,3,4,5,6,7,8,9,10,11,12,13,14,15] 16;refine J5 h λl6 R h=>⟨_,rfl,?_⟩
 refine SX h d.hs.rows.rising (Be d) (by omega) λea ec evs T w N h=>⟨_,_,_,rfl,?_⟩
 have j1:evs.length=st.hs.rows.length:=by have:=congrArg List.length w;simpa using this
 refine cZ ⟨_,h.r 8,_,ur (h.o [2] 3),?_⟩;refine h.al λh2 _ h=>?_
 refine pw (vs:=[st.hs.next,(st.hs.rows.length:Int)]) h (λH h=>h.ce_rd 0 rfl) (by simp) λa7 c7 r8 h=>⟨_,_,_,rfl,?_⟩
 generalize aN [st.hs.next,(st.hs.rows.length:Int)]=X4 at *;refine dq h (i:=6) rfl rfl rfl (h.sl_rd 0 rfl) (by omega) λa8 c8 h5 h=>⟨_,_,_,rfl,?_⟩
 have j2:(O2++X4).length<=600:=by rw[V7];omega
 generalize O2++X4=O3 at *;have h7:(aG st.hs.rows).length=st.hs.rows.length:=by simp[aG]
 refine⟨λB U D i C=>∃j:Nat,i=j/\j<=st.hs.rows.length/\U=(O3++(st.hs.rows.take j).flatMap rwB).length/\
  aA C (slA 5 1 B (O3++(st.hs.rows.take j).flatMap rwB).length D ((O3++(st.hs.rows.take j).flatMap rwB).map U8)::slA 99 4 ea evs.length ec (flat cx evs)::slA 2 1 wa st.hs.rows.length wc ((aG st.hs.rows).map aD)::hldA Q hb st.hs::ckA cb st.ck::Ma.markC p.mb p.mm s.ms::Ma.mapF p.mm s.ms.m::cellsA I [PA cb 0,PA hb 0,aD st.last] 173::mapA aD ptV p.tm (cW 0 bl)::lR Q bl s.sts a.toNat::
   cellsA sb (dr s p) 145::A1::A2::A3::A4::A5::Q::F),
  λ_ _ _ i _=>st.hs.rows.length-i.toNat,⟨0,rfl,by omega,by simp,?_⟩,?_⟩
 .rw [show O3++(st.hs.rows.take 0).flatMap rwB=O3 by simp];exact h.o [6,2,5,4,7,8,9,10,11,12,13,14,15,16,17,18,19] 20
 rintro a9 n9 c9 i h8 ⟨j,rfl,hj,rfl,h⟩;have L:=Ld (st.hs.rows.take j);have S:(st.hs.rows.take j).length<=st.hs.rows.length:=by rw[VY];omega
 refine⟨λc=>?_,λc=>?_⟩
 .have c:j<st.hs.rows.length:=by have:=V8 c;omega
  have M:j<(aG st.hs.rows).length:=by omega
  have n:j<evs.length:=by omega
  have E:=(h.sl_rd 2 rfl).at M;refine⟨by omega,_,_,E.1,_,E.2,?_⟩;refine h.al λj3 _ h=>?_
  refine nR h 0 rfl λZ h3 h6 h=>⟨_,_,_,rfl,?_⟩
  have q5:=dK [(aG st.hs.rows)[j]];simp only[VE,VZ]at q5;refine dq h (i:=2) rfl rfl rfl (h.sl_rd 0 rfl) (by rw[V7];omega) λh4 l5 W h=>⟨_,_,_,rfl,?_⟩
  have J:=h.sl_rd 3 rfl;refine⟨by omega,_,_,J.some fG (by omega) n,_,_,_,_,_,_,J.els fG n,?_⟩;refine J6 (e:=evs[j]) h (λH h=>(N _ (VL n)).at h 18 rfl) λu8 y2 r9 h=>⟨_,_,_,rfl,?_⟩
  have q6:=xa evs[j].p;refine dq h (i:=3) rfl rfl rfl (h.sl_rd 0 rfl) (by simp only[V7];omega) λr0 h0 h9 h=>⟨_,_,_,rfl,?_⟩
  rw[aJ (x:=(j:Int)+1)];have ek:(aG st.hs.rows)[j]=st.hs.rows[j].1:=by simp[aG]
  have ep:evs[j].p=st.hs.rows[j].2:=by
   have h1:(evs.map Ev.p)[j]'(by simpa using n)=(st.hs.rows.map (·.2))[j]'(by simpa using c):=by simp only[w]
   simpa using h1
  have e5:O3++(st.hs.rows.take (j+1)).flatMap rwB=((O3++(st.hs.rows.take j).flatMap rwB)++aN [(aG st.hs.rows)[j]])++evB evs[j].p:=by
   rw[jP (f:=rwB) c,ek,ep,VK,VK]
  rw[<-e5]at h ⊢;exact⟨⟨j+1,by omega,c,rfl,h.o [3,4,5,6,7,8,9,10,11,12,13,14,15,16,17,18,19] 20⟩,by dsimp only;omega⟩
 .have A:st.hs.rows.length<=j:=by have:=V9 c;omega
  rw[Wc A]at h ⊢;refine k _ _ _ ?_;have h:=h.o [7,4,3,8,9,10,11,12,5,6,13,14,15,0,16] 17;have h:=gV.2 ⟨cb,hb,h⟩;have h:=h.o [1,0,2,3,4,5,6,7,8,9,10,11,12] 13;have h:=sF u h;rw[K4 y]at h;exact h.o [9,10,1,2,3,4,5,6,7,0,8] 11
end
def dR(s:aH)(p:Int×En):List Int:=match dL s p.1 with
 | some st=>agB p.1 p.2 (bF s.ms p.1) st
 | none=>[]
def nStr(s:aH):Nat:=(s.sts.filter Option.isSome).length
abbrev ceB(o:Ot):List Int:=cbB o.1 o.2
def ku(s:aH):List Int:=(aN [s.now,s.boots,s.sunk,s.ms.now]++cY [s.ms.value])++aN [(nStr s:Int)]
def jr(s:aH):List Int:=(ku s++(aR 0 s.rows).flatMap (dR s))++aN [(s.cm.length:Int)]
def li(s:aH):List Int:=(jr s++(bA s.cm).flatMap ceB)++aN [(s.kept.length:Int)]
def stB(s:aH):List Int:=li s++s.kept.flatMap ceB
structure qP(s:aH):Prop where
 cm:∀p∈s.cm,p.1.ser.size<=5000
 kept:∀o∈s.kept,o.1.ser.size<=5000
theorem Bp{α:Type}:∀{l:List (Option α)} {i:Nat},(cW i l).length=(l.filter Option.isSome).length
 | [],i=>rfl
 | none::r,i=>Bp (l:=r) (i:=i+1)
 | some b::r,i=>by
  show (_::cW (i+1) r).length=_;rw[VE,Bp (l:=r)];rfl
theorem Le{α β:Type}:∀{l:List (Option α)} {m:List (Option β)},l.map Option.isSome=m.map Option.isSome->(l.filter Option.isSome).length=(m.filter Option.isSome).length
 | [],[],_=>rfl
 | x::r,y::m,h=>by
  simp only[Wf,List.cons.injEq]at h;have a:=Le h.2;rw[Wm,Wm,h.1]
  split
  .rw [VE,VE,a]
  .exact a
 | [],y::m,h=>by simp at h
 | x::r,[],h=>by simp at h
theorem Bq{m:CM}{o:Ot}(h:o∈bA m):∃p∈m,p.1=o.1:=by
 unfold bA at h;obtain⟨k,b,rfl⟩:=VH.1 h;have:=(kV _).mem_iff.1 b;obtain⟨p,a,e⟩:=VH.1 this;exact⟨p,a,e⟩
section
variable {F L:List aE}{H:aC}{K KP:KE}{Q Q':aE}{sb:Nat}{s:aH}
theorem agB_len{a:Int}{e:En}{fl:Fl}{st:br}(b:lS s.cfg st):(agB a e fl st).length<=345000:=by
 have q1:=dK [a,e.epoch,e.boot,e.time,fl.t,flN [fl.out,fl.was,fl.held] 3];have q2:=mC [st.last];have q3:=dK [flN [st.ck.held] 1,st.ck.streak,(st.ck.smps.length:Int)];have q4:=dK [st.hs.next,(st.hs.rows.length:Int)];have q5:=Lc st.ck.smps;have q6:=Ld st.hs.rows;have d:=b.ck.len;have c:=Bf b;unfold agB agB1;simp only[V7,VE,VZ]at *;omega
theorem xB(ok:cR s)(p:Int×En):(dR s p).length<=345000:=by
 unfold dR
 cases h:dL s p.1 with
 | none=>simp
 | some st=>exact agB_len (ok.sts st (Wk (K5 h).2))
theorem oE{α:Type}{f:α->List Int}{B:Nat}:∀{l:List α},(∀x∈l,(f x).length<=B)->(l.flatMap f).length<=B*l.length
 | [],_=>by simp
 | x::r,h=>by
  have c:=h x (VO ..);have b:=oE (l:=r) λy a=>h y (VQ _ a)
  rw[Wg,V7,VE,Nat.mul_succ];omega
theorem xC{o:Ot}(wc:WC o.2)(hs:o.1.ser.size<=5000):(ceB o).length<=10100:=La wc hs
theorem Lf:(ku s).length<=60:=by
 have q1:=dK [s.now,s.boots,s.sunk,s.ms.now];have q2:=mC [s.ms.value];have q3:=dK [(nStr s:Int)];unfold ku;simp only[V7,VE,VZ]at *;omega
theorem strm_len{tm:Nat}{sts:List (Option br)}(h:aA H (strmA Q tm sts::F)):dm Tryz.prog (Builtin.len_ #[142] 3 #[(.map (some tm))]) H (.int .i64 ((sts.filter Option.isSome).length:Nat)):=by
 obtain⟨bl,hm,h⟩:=ld.1 h;have:=h.mp_len (ty:=3) qI 0 rfl;rw[Bp,Le hm]at this;exact this
theorem Br(ok:cR s)(ser:qP s)(hkl:s.kept.length<=50000)(h:aA H (Q::stA Q sb s::F))
  (k:∀a c y,aA y (slA 5 1 a (stB s).length c ((stB s).map U8)::Q::stA Q sb s::F)->K (.slice a (stB s).length c) y) :
  CF 17 #[PA sb 0] H K:=by
 refine cL 17 (.r (.seq (.regJ [(3,sA)]) (.r (.r (.seq (.r (.blk (.rng [sI,.agg [.int .i64,.int .i64,.int .i64]] [none] (.r .reg) (.blk .reg)))) (.r (.seq (.r (.blk (.rng [.agg [.int .i64,.str],.agg [.int .i64,.int .i64,.int .u64,.int .i64,.int .i64,.int .i64,.int .i64,.vec .i64 65]] [none] (.r .reg) (.blk .reg)))) (.r (.seq (.r (.blk (.loop [(95,sI)] (.r (.seq (.cond .no .no) (.seq (.blk (.r .reg)) .reg)))))) (.r .no)))))))))) ?_;refine h.al λb _ h=>?_
 have h:=h.o [2,0,1] 3;obtain⟨p,h⟩:=cX.1 h;intro Jn hJ;have y3:=xj ok.rows;have hagl:((aR 0 s.rows).flatMap (dR s)).length<=345000*64:=by
  have:=oE (f:=dR s) (l:=aR 0 s.rows) (B:=345000) λx _=>xB ok x
  have:345000*(aR 0 s.rows).length<=345000*64:=Yd _ y3;omega
 have hol:=um (m:=s.cm);have hcl:=ok.sh.len;have hcm:=ok.sh.m2;have hO:∀o∈bA s.cm,(ceB o).length<=10100:=λo V=>by
  obtain⟨q,hq,e⟩:=Bq V;exact xC (xw ok.sh o V) (by rw[<-e];exact ser.cm q hq)
 have S:∀o∈s.kept,(ceB o).length<=10100:=λo V=>xC (ok.kept o V) (ser.kept o V)
 have u:∀D a c y,aA y (cellsA D [.slice a (aN [s.now,s.boots,s.sunk,s.ms.now]).length c] 43::slA 5 1 a (aN [s.now,s.boots,s.sunk,s.ms.now]).length c ((aN [s.now,s.boots,s.sunk,s.ms.now]).map U8)::
   cellsA sb (dr s p) 145::Ro.rollC p.rb p.rm s.cfg.agents::Ro.mapE p.rm s.rows::Ma.markC p.mb p.mm s.ms::Ma.mapF p.mm s.ms.m::shC p.hb p.hm s.cfg.cells::cz p.hm s.cm::strmA Q p.tm s.sts::slA 164 74 p.ka s.kept.length p.kc (flat cJ s.kept)::cellsA b [PA sb 0] 40::Q::F)->Jn D 0 y:=by
  intro D a0 c0 H1 h;refine hJ _ _ _ ?_;have q1:=dK [s.now,s.boots,s.sunk,s.ms.now];have q2:=mC [s.ms.value];have q3:=dK [(nStr s:Int)];have q4:=dK [(s.cm.length:Int)];have q5:=dK [(s.kept.length:Int)];simp only[VE,VZ]at q1 q2 q3 q4 q5;have hS1:=Lf (s:=s);have eS1:ku s=(aN [s.now,s.boots,s.sunk,s.ms.now]++cY [s.ms.value])++aN [(nStr s:Int)]:=rfl;have I:jr s=(ku s++(aR 0 s.rows).flatMap (dR s))++aN [(s.cm.length:Int)]:=rfl;have M:li s=(jr s++(bA s.cm).flatMap ceB)++aN [(s.kept.length:Int)]:=rfl;have hS2:(jr s).length<=22100000:=by rw[I,V7,V7];omega
  have hcl2:((bA s.cm).flatMap ceB).length<=10100*1024:=by
   have h1:=oE (f:=ceB) (l:=bA s.cm) (B:=10100) hO;have:10100*(bA s.cm).length<=10100*1024:=Yd _ (by omega);omega
  have hS3:(li s).length<=40000000:=by rw[M,V7,V7];omega
  generalize aN [s.now,s.boots,s.sunk,s.ms.now]=X0 at *;refine⟨_,_,_,h.r 0,_,h.rd 11 rfl _,⟨_,h.r 2,_,Ma.Value_spec h 5 rfl,?_⟩⟩;refine h.al λb1 _ h=>⟨h.r 1,?_⟩
  refine qG h 0 rfl λa1 c1 H2 h=>⟨_,_,_,rfl,h.r 2,?_⟩
  refine dq h (i:=3) rfl rfl rfl (h.sl_rd 0 rfl) (by omega) λa2 c2 H3 h=>⟨_,_,_,rfl,?_⟩
  generalize cY [s.ms.value]=X1 at *;refine h.st 2 rfl rfl ?_;intro H4 h;have h:=h.o [2,3,4,5,6,7,8,9,10,11,12,13,14] 15;refine⟨_,_,_,h.r 0,_,h.rd 11 rfl _,⟨_,h.r 2,_,strm_len (h.o [9] 10),?_⟩⟩;refine h.al λb2 _ h=>⟨h.r 1,?_⟩
  refine nR h 0 rfl λa3 c3 H5 h=>⟨_,_,_,rfl,h.r 2,?_⟩
  refine dq h (i:=3) rfl rfl rfl (h.sl_rd 0 rfl) (by rw[V7];unfold nStr at q3;omega) λa4 c4 H6 h=>⟨_,_,_,rfl,?_⟩
  rw[show (X0++X1)++aN [((s.sts.filter Option.isSome).length:Int)]=ku s from eS1.symm]at h ⊢;refine h.st 2 rfl rfl ?_;intro H7 h;have h:=h.o [2,3,4,5,6,7,8,9,10,11,12,13,14] 15;refine⟨_,h.rd 11 rfl _,⟨_,h.r 2,?_⟩⟩;refine Ro.All_spec h λl6 W h=>⟨_,_,rfl,rfl,λR l5 y2 hy=>?_⟩
  have h:=h.rng R;refine Ro.All1_spec (rb:=p.rb) (mb:=p.rm) (most:=s.cfg.agents) (c0:=l6) ok.rows (λj=>exS λq:KQ×Nat=>star [cellsA D [.slice q.1 (ku s++((aR 0 s.rows).take j).flatMap (dR s)).length q.2] 43,slA 5 1 q.1 (ku s++((aR 0 s.rows).take j).flatMap (dR s)).length q.2 ((ku s++((aR 0 s.rows).take j).flatMap (dR s)).map U8),
    cellsA sb (dr s p) 145,Ma.markC p.mb p.mm s.ms,Ma.mapF p.mm s.ms.m,strmA Q p.tm s.sts,cellsA b [PA sb 0] 40,Q,pt (W.size+1) (.loop R)]) (pur False)
   (F:=pt W.size (.deferred (some []))::shC p.hb p.hm s.cfg.cells::cz p.hm s.cm::slA 164 74 p.ka s.kept.length p.kc (flat cJ s.kept)::F) ?_ ?_ ?_ ?_
  .refine cK.2 ⟨(a4,c4),aA.shut [_,_,_,_,_,_,_,_,_] ?_⟩;rw[show ku s++((aR 0 s.rows).take 0).flatMap (dR s)=ku s by simp];exact h.o [3,4,5,8,9,12,14,15,0,2,6,7,1,10,11,13] 16
  .intro j E G H9 K1 h kt _;obtain⟨⟨a5,c5⟩,h⟩:=cK.1 h;have h:=aA.open (A:=[_,_,_,_,_,_,_,_,_]) h;dsimp only at h;refine hy _ _ _ ?_;refine⟨_,_,_,_,rfl,h.getO 8 rfl,?_⟩;refine h.al λb3 _ h=>?_
   refine h.st 0 rfl rfl ?_;intro Y h;refine⟨h.getO 9 rfl,h.stl 9 rfl λh4 h=>⟨_,_,_,h.r 1,_,h.r 7,_,_,_,h.q 0,?_⟩⟩
   have d:=VL E;have htk:=pz d;have P:0<(bg s.rows (aR 0 s.rows)[j].1).epoch:=by
    have h5:=AQ (i:=0) (l:=s.rows) (k:=(aR 0 s.rows)[j].1.toNat);rw[VX,show (((aR 0 s.rows)[j].1.toNat:Nat):Int)=(aR 0 s.rows)[j].1 by omega]at h5;have h1:aK (aR 0 s.rows)[j].1 (aR 0 s.rows)=some (aR 0 s.rows)[j].2:=mo xh d;have h2:=uw ok.rows (agent:=(aR 0 s.rows)[j].1);rw[h1]at h2;rw[<-h2];exact htk.2.2
   obtain⟨U,st,L⟩:=ok.str P;have j2:dR s (aR 0 s.rows)[j]=agB (aR 0 s.rows)[j].1 (aR 0 s.rows)[j].2 (bF s.ms (aR 0 s.rows)[j].1) st:=by
    unfold dR;rw[xv U L]
   have hagn:=xB ok (aR 0 s.rows)[j];have O:=oE (f:=dR s) (l:=(aR 0 s.rows).take j) (B:=345000) λx _=>xB ok x
   have N:((aR 0 s.rows).take j).length<=(aR 0 s.rows).length:=by rw[VY];omega
   have J:345000*((aR 0 s.rows).take j).length<=345000*64:=Yd _ (by omega);have h:=lV (lV (lV (lV (lV h))));have h:=h.o [13,8,0,1,9,10,2,3,11,4,5,6,7,12,14] 15;refine Ur (e:=(aR 0 s.rows)[j].2) ok U L h λa6 c6 r8 h=>⟨_,_,_,rfl,h.r 12,?_⟩
   rw[<-j2]at h ⊢;refine dq h (i:=13) rfl rfl rfl (h.sl_rd 0 rfl) (by rw[V7];omega) λa7 c7 H13 h=>⟨_,_,_,rfl,?_⟩
   refine h.st 12 rfl rfl ?_;intro t h;refine⟨h.getO 15 rfl,kt _ ?_⟩;have h:=h.setO 15 rfl (.loop R);have e5:ku s++((aR 0 s.rows).take (j+1)).flatMap (dR s)=(ku s++((aR 0 s.rows).take j).flatMap (dR s))++dR s (aR 0 s.rows)[j]:=by
    rw[jP (f:=dR s) E,VK]
   refine cK.2 ⟨(a7,c7),aA.shut [_,_,_,_,_,_,_,_,_] ?_⟩;dsimp only;rw[e5];exact h.o [12,13,2,5,6,9,14,1,15] 16
  .intro H9 h;obtain⟨⟨a5,c5⟩,h⟩:=cK.1 h;have h:=aA.open (A:=[_,_,_,_,_,_,_,_,_]) h;dsimp only at h;rw[Wi]at h;refine⟨.ready,none,by decide,by rw[nD l5 y2];exact h.getO 8 rfl,h.stl 8 rfl λY h=>⟨rfl,?_⟩⟩
   refine⟨_,_,_,h.r 0,_,h.rd 6 rfl _,⟨_,h.r 2,_,RI h 13 14 rfl rfl,?_⟩⟩;refine h.al λb4 _ h=>⟨h.r 1,?_⟩
   refine nR h 0 rfl λa6 c6 h4 h=>⟨_,_,_,rfl,h.r 2,?_⟩
   refine dq h (i:=3) rfl rfl rfl (h.sl_rd 0 rfl) (by rw[V7];omega) λa7 c7 r8 h=>⟨_,_,_,rfl,?_⟩
   rw[<-I]at h ⊢;refine h.st 2 rfl rfl ?_;intro H13 h;have h:=h.o [2,3,4,5,6,7,8,9,12,13,14,15,16,17] 18;refine⟨_,h.rd 6 rfl _,⟨_,h.r 2,?_⟩⟩;refine IP h λh3 t h=>⟨_,_,rfl,rfl,λR1 r0 h6 h8=>?_⟩
   have h:=h.rng R1;refine IQ (sb:=p.hb) (mb:=p.hm) (most:=s.cfg.cells) (m:=s.cm) (c0:=h3) (by omega)
    (λj=>exS λq:KQ×Nat=>star [cellsA D [.slice q.1 (jr s++((bA s.cm).take j).flatMap ceB).length q.2] 43,slA 5 1 q.1 (jr s++((bA s.cm).take j).flatMap ceB).length q.2 ((jr s++((bA s.cm).take j).flatMap ceB).map U8),shC p.hb p.hm s.cfg.cells,cz p.hm s.cm,pt (t.size+1) (.loop R1)])
    (λ_=>pur False) (star [cellsA D [.slice a7 (jr s).length c7] 43,slA 5 1 a7 (jr s).length c7 ((jr s).map U8),pt (t.size+1) (.loop R1)])
    (F:=pt t.size (.deferred (some []))::cellsA sb (dr s p) 145::Ma.markC p.mb p.mm s.ms::Ma.mapF p.mm s.ms.m::strmA Q p.tm s.sts::cellsA b [PA sb 0] 40::Q::Ro.rollC p.rb p.rm s.cfg.agents::Ro.mapE p.rm s.rows::pt W.size (.deferred (some []))::slA 164 74 p.ka s.kept.length p.kc (flat cJ s.kept)::F) ?_ ?_ ?_ ?_ ?_
   .have h:=h.o [3,4,0,2,14,15,1,5,6,7,8,9,10,11,12,13,16] 17;have h:=aA.shut [_,_,_] h;exact h.o [1,2,3,0] 4
   .intro G C h;have h:=h.o [2,0,1] 3;have h:=aA.open (A:=[_,_,_]) h;refine cK.2 ⟨(a7,c7),aA.shut [_,_,_,_,_] ?_⟩;rw[show jr s++((bA s.cm).take 0).flatMap ceB=jr s by simp];exact h.o [0,1,3,4,2] 5
   .intro j E G C K1 h kt _;obtain⟨⟨a8,c8⟩,h⟩:=cK.1 h;have h:=aA.open (A:=[_,_,_,_,_]) h;dsimp only at h;refine h8 _ _ _ ?_;have d:=VL E;have j3:=xw ok.sh _ d;have T:(bA s.cm)[j].1.ser.size<=5000:=by
     obtain⟨q,hq,e⟩:=Bq d;rw[<-e];exact ser.cm q hq
    have u8:(cbB (bA s.cm)[j].1 (bA s.cm)[j].2).length<=10100:=hO _ d;have O:=oE (f:=ceB) (l:=(bA s.cm).take j) (B:=10100) λx hx=>hO x (W0 hx)
    have N:((bA s.cm).take j).length<=(bA s.cm).length:=by rw[VY];omega
    have J:10100*((bA s.cm).take j).length<=10100*1024:=Yd _ (by omega);refine⟨_,_,_,_,_,_,_,_,_,_,rfl,h.getO 4 rfl,?_⟩;refine h.al λb5 _ h=>?_
    refine h.st 0 rfl rfl ?_;intro h9 h;refine h.al λb6 _ h=>?_
    refine h.sta 0 rfl rfl λZ h=>?_
    refine⟨h.getO 6 rfl,h.stl 6 rfl λH18 h=>⟨_,_,_,h.r 2,_,_,h.q 1,_,_,_,_,_,_,_,_,h.rda 0 rfl,?_⟩⟩
    refine Lb (key:=(bA s.cm)[j].1) (c:=(bA s.cm)[j].2) j3 T h λa9 c9 l0 h=>⟨_,_,_,rfl,h.r 3,?_⟩
    refine dq h (i:=4) rfl rfl rfl (h.sl_rd 0 rfl) (by rw[V7];omega) λv w j1 h=>⟨_,_,_,rfl,?_⟩
    refine h.st 3 rfl rfl ?_;intro H21 h;refine⟨h.getO 7 rfl,kt _ ?_⟩;have h:=h.setO 7 rfl (.loop R1);have e5:jr s++((bA s.cm).take (j+1)).flatMap ceB=(jr s++((bA s.cm).take j).flatMap ceB)++ceB (bA s.cm)[j]:=by
     rw[jP (f:=ceB) E,VK]
    refine cK.2 ⟨(v,w),aA.shut [_,_,_,_,_] ?_⟩;dsimp only;rw[e5];exact h.o [3,4,5,6,7] 8
   .intro C h;obtain⟨⟨a8,c8⟩,h⟩:=cK.1 h;have h:=aA.open (A:=[_,_,_,_,_]) h;dsimp only at h;rw[Wi]at h;refine⟨.ready,none,by decide,by rw[nD r0 h6];exact h.getO 4 rfl,h.stl 4 rfl λh9 h=>⟨rfl,?_⟩⟩
    refine⟨_,_,_,h.r 0,_,h.rd 10 rfl _,⟨_,_,_,h.r 6,?_⟩⟩;refine h.al λb7 _ h=>⟨h.r 1,?_⟩
    refine nR h 0 rfl λa9 c9 Z h=>⟨_,_,_,rfl,h.r 2,?_⟩
    refine dq h (i:=3) rfl rfl rfl (h.sl_rd 0 rfl) (by rw[V7];omega) λv w H18 h=>⟨_,_,_,rfl,?_⟩
    rw[<-M]at h ⊢;refine h.st 2 rfl rfl ?_;intro l0 h;refine⟨_,h.rd 12 rfl _,⟨_,_,_,h.r 8,?_⟩⟩;refine⟨λi y=>∃(j:Nat) (a:KQ) (c:Nat),i=j/\j<=s.kept.length/\
     aA y (cellsA D [.slice a (li s++(s.kept.take j).flatMap ceB).length c] 43::slA 5 1 a (li s++(s.kept.take j).flatMap ceB).length c ((li s++(s.kept.take j).flatMap ceB).map U8)::pt t.size (.deferred (some []))::pt W.size (.deferred (some []))::
      Q::cellsA sb (dr s p) 145::Ro.rollC p.rb p.rm s.cfg.agents::Ro.mapE p.rm s.rows::Ma.markC p.mb p.mm s.ms::Ma.mapF p.mm s.ms.m::shC p.hb p.hm s.cfg.cells::cz p.hm s.cm::strmA Q p.tm s.sts::slA 164 74 p.ka s.kept.length p.kc (flat cJ s.kept)::F),
     λi _=>s.kept.length-i.toNat,⟨0,v,w,rfl,by omega,?_⟩,?_⟩
    .rw [show li s++(s.kept.take 0).flatMap ceB=li s by simp];exact h.o [2,3,7,16,13,8,14,15,9,10,4,5,11,17] 18
    rintro i j1 ⟨j,a,c,rfl,E,h⟩;refine⟨λn=>?_,λn=>?_⟩
    .have n:j<s.kept.length:=by have:=V8 n;omega
     have d:=VL n;have u8:(cbB s.kept[j].1 s.kept[j].2).length<=10100:=S _ d;have O:=oE (f:=ceB) (l:=s.kept.take j) (B:=10100) λx hx=>S x (W0 hx)
     have N:(s.kept.take j).length<=s.kept.length:=by rw[VY];omega
     have J:10100*(s.kept.take j).length<=10100*50000:=Yd _ (by omega);have hr:=h.sl_rd 13 rfl;refine⟨by omega,_,_,hr.some iW (by omega) n,_,_,_,_,_,_,_,_,_,_,hr.els iW n,?_⟩;refine h.al λb9 _ h=>?_
     refine h.sta 0 rfl rfl λH21 h=>?_
     refine⟨_,_,_,h.r 1,_,_,h.q 0,_,_,_,_,_,_,_,_,h.rdt (l:=[_,_]) 0 rfl rfl,?_⟩;refine Lb (key:=s.kept[j].1) (c:=s.kept[j].2) (ok.kept _ d) (ser.kept _ d) h λa9 c9 H22 h=>⟨_,_,_,rfl,h.r 2,?_⟩
     refine dq h (i:=3) rfl rfl rfl (h.sl_rd 0 rfl) (by rw[V7];omega) λh7 r9 H23 h=>⟨_,_,_,rfl,?_⟩
     refine h.st 2 rfl rfl ?_;intro H24 h
     conv=>whnf
     rw[aJ (x:=(j:Int)+1)];have e5:li s++(s.kept.take (j+1)).flatMap ceB=(li s++(s.kept.take j).flatMap ceB)++ceB s.kept[j]:=by
      rw[jP (f:=ceB) n,VK]
     refine⟨⟨j+1,h7,r9,by omega,n,?_⟩,by dsimp only;omega⟩;rw[e5];exact h.o [2,3,4,5,6,7,8,9,10,11,12,13,14,15] 16
    .have h0:s.kept.length<=j:=by have:=V9 n;omega
     rw[Wc h0]at h;refine⟨_,_,_,h.r 0,h.getO 2 rfl,?_⟩;have h:=h.setO 2 rfl (.deferred none);refine⟨h.getO 3 rfl,?_⟩;have h:=h.setO 3 rfl (.deferred none);refine k a c _ ?_;have h:=h.o [5,6,7,8,9,10,11,12,13,1,4] 14;have h:=cX.2 ⟨p,h⟩;exact h.o [1,2,0] 3
   .intro j C _ h;exact V6 (aA.consP h).1 id
  .intro H9 h;exact V6 (aA.consP h).1 id
 refine⟨_,h.rd 9 rfl _,⟨_,h.r 0,_,h.rd 9 rfl _,⟨_,h.r 0,_,h.rd 9 rfl _,⟨_,h.r 0,_,h.rd 9 rfl _,⟨_,h.r 0,_,Ma.Now_spec h 3 rfl,?_,?_⟩⟩⟩⟩⟩
 .refine h.al λb10 _ h=>⟨?_,?_⟩
  .refine pw (vs:=[s.now,s.boots,s.sunk,s.ms.now]) h (λH h=>h.ce_rd 0 rfl) (by simp) λa1 c1 H2 h=>⟨_,_,_,rfl,?_⟩
   refine h.al λb11 _ h=>?_
   refine h.st 0 rfl rfl ?_;intro H3 h;exact u _ _ _ _ (h.o [0,1,3,4,5,6,7,8,9,10,11,12,13] 14)
  .refine h.al λb12 _ h=>?_
   refine pw (vs:=[s.now,s.boots,s.sunk,s.ms.now]) h (λH h=>h.ce_rd 1 rfl) (by simp) λa1 c1 H2 h=>⟨_,_,_,rfl,?_⟩
   refine h.st 1 rfl rfl ?_;intro H3 h;exact u _ _ _ _ (h.o [1,0,3,4,5,6,7,8,9,10,11,12,13] 14)
 .refine h.al λb13 _ h=>⟨Ma.Now_spec h 4 rfl,h.r 1,h.r 10,h.r 1,h.r 10,h.r 1,h.r 10,h.r 1,h.r 10,?_⟩
  refine h.al λb14 _ h=>?_
  refine pw (vs:=[s.now,s.boots,s.sunk,s.ms.now]) h (λH h=>h.ce_rd 0 rfl) (by simp) λa1 c1 H2 h=>⟨_,_,_,rfl,?_⟩
  refine h.st 2 rfl rfl ?_;intro H3 h;exact u _ _ _ _ (h.o [2,0,3,4,5,6,7,8,9,10,11,12,13] 14)
end
def lj(hs:HS Pv)(s:RS):Except Int (HS Pv×RS):=match cG s with
 | .error e=>.error e
 | .ok (n,s1)=>match ja s1 with
  | .error e=>.error e
  | .ok (ev,s2)=>if gT n [ev]=false then .error 10 else
   if 0<(hs.offer n [ev]).2.1.length\/0<(hs.offer n [ev]).2.2 then .error 10 else .ok ((hs.offer n [ev]).1,s2)
section
variable {F L:List aE}{H:aC}{K KP:KE}{Q Q':aE}{sb:Nat}{s:aH}
def WPost(rb hb:Nat)(Q:aE)(F:List aE)(K KP:KE):Except Int (HS Pv×RS)->Prop
 | .ok (hs,s)=>∀Q' H',aM Q Q'->s.e=0->aI s.bs->s.bs.length<=1099511627776->aA H' (Q'::crdA rb s::hldA Q' hb hs::F)->K (.tuple #[]) H'
 | .error e=>∀Q' H',e≠0->aM Q Q'->aA H' (Q'::F)->KP (pnV e) H'
theorem Us{rb hb:Nat}{r:RS}{hs:HS Pv}(ok:hs.Ok)(hn:hs.next<=1125899906842624)(h:aA H (Q::crdA rb r::hldA Q hb hs::F))(hb0:aI r.bs)(G:r.bs.length<=1099511627776)
  (k:WPost rb hb Q F K KP (lj hs r)):CP 262 #[.agg #[PA rb 0],PA hb 0] H K KP:=by
 refine cNP 262 5208530270361417 [[],[],[(4,sI),(5,sA)]] ?_;refine h.al λb H0 h=>?_
 intro V W;unfold lj at k;have y:∀(n:Int) (i:aE) (ev:Ev) (s2:RS) M D,(match (if gT n [ev.p]=false then (.error 10:Except Int (HS Pv×RS)) else
    if 0<(hs.offer n [ev.p]).2.1.length\/0<(hs.offer n [ev.p]).2.2 then .error 10 else .ok ((hs.offer n [ev.p]).1,s2)) with|x=>WPost rb hb Q F K KP x)->aM Q i->im i ev->s2.e=0->aI s2.bs->s2.bs.length<=1099511627776->
   aA D (cellsA M (cx ev) 99::i::crdA rb s2::hldA Q hb hs::cellsA b [PA rb 0] 388::F)->V n M 0 D:=by
  intro n i ev s2 M D k d f j m t h;dsimp only at k;refine W _ _ _ _ ?_;refine⟨_,_,_,_,_,_,h.q 0,?_⟩;refine h.al λb1 _ h=>?_
  refine h.al λb2 _ h=>?_
  refine h.st 0 rfl rfl ?_;intro R h;refine⟨_,_,_,_,_,_,_,_,_,_,_,_,_,_,_,_,_,_,_,_,h.q 0,?_⟩;have J:flat cx [ev]=cx ev:=by simp[flat]
  refine Ju (evs:=[ev]) (a:=some ⟨b1,0,none⟩) (c:=1) h ⟨λH h=>by rw[J];exact h.ce_rd 1 rfl,λe s H h=>by
   rw[VI]at s;subst s;exact f.at h 3 rfl⟩ (by simp) λE h=>⟨_,rfl,?_⟩
  rw[wW];show ∀P:aC->Prop,_;intro P O;refine⟨λL=>?_,λL=>O _ ?_⟩
  .rw [V5 (by simpa using L)]at k;exact k i _ (by decide) d (h.o [3] 7)
  .have S:gT n [ev.p]=true:=by simpa using L
   rw[V4 (by rw[S];simp)]at k;refine⟨_,_,_,_,_,_,h.q 2,?_⟩;refine h.al λb3 _ h=>?_
   have h:=h.o [6,0,4,5] 8;have h:=AA d h;refine J4 (items:=[ev]) h ok hn (λH h=>by rw[J];exact h.ce_rd 0 rfl) (λe s=>by rw[VI]at s;subst s;exact f) (by simp) λa2 c2 ready H4 C hl h=>⟨_,_,_,_,rfl,?_⟩
   have I:(hs.offer n ([ev].map Ev.p)).2.1.length=ready.length:=by rw[<-C,VM]
   intro Z T;refine⟨λu=>?_,λu=>T _ ?_⟩
   .have u:0<(hs.offer n [ev.p]).2.1.length\/0<(hs.offer n [ev.p]).2.2:=by
     simp only[VR,VA]at u
     rcases u with u|u
     .exact .inl (by have:(hs.offer n [ev.p]).2.1.length=ready.length:=I;omega)
     .exact .inr u
    rw[V5 u]at k;exact k i _ (by decide) d (h.o [3] 5)
   .have u:¬(0<(hs.offer n [ev.p]).2.1.length\/0<(hs.offer n [ev.p]).2.2):=by
     simp only[VP,VD]at u;rintro (U|U)
     .exact u.1 (by have:(hs.offer n [ev.p]).2.1.length=ready.length:=I;omega)
     .exact u.2 U
    rw[V4 u]at k;exact k i _ d j m t (h.o [3,4,1] 5)
 refine⟨_,h.q 0,_,h.q 0,?_,?_⟩
 .have h:=h.o [2,1,0,3] 4;refine kj h hb0 G ?_
  cases hr:cG r with
  | error e=>
   rw[hr]at k;exact λD s h=>k _ _ s (aM.refl Q) (h.o [0] 3)
  | ok q=>
  obtain⟨n,s1⟩:=q;rw[hr]at k;dsimp only at k;intro Y N B A h;refine⟨_,rfl,h.q 2,?_,?_⟩
  .have h:=h.o [1,0,2,3] 4;refine xb h B A ?_
   cases hr2:ja s1 with
   | error e=>
    rw[hr2]at k;exact λi D s v h=>k _ _ s v (h.o [0] 3)
   | ok q=>
   obtain⟨pv,s2⟩:=q;rw[hr2]at k;dsimp only at k;intro i ev R d f w j m t h;subst w;refine⟨_,_,_,_,_,_,rfl,?_⟩;refine h.al λb4 _ h=>?_
   refine h.st 0 rfl rfl ?_;intro E h;exact y n i ev s2 b4 E k d f j m t (h.o [0,1,2,4,3] 5)
  .refine h.al λb5 _ h=>⟨h.q 3,?_⟩
   have h:=h.o [2,1,0,3,4] 5;refine xb h B A ?_
   cases hr2:ja s1 with
   | error e=>
    rw[hr2]at k;exact λi D s v h=>k _ _ s v (h.o [0] 4)
   | ok q=>
   obtain⟨pv,s2⟩:=q;rw[hr2]at k;dsimp only at k;intro i ev R d f w j m t h;subst w;refine⟨_,_,_,_,_,_,rfl,?_⟩;refine h.st 2 rfl rfl ?_;intro E h;exact y n i ev s2 b5 E k d f j m t (h.o [2,0,1,4,3] 5)
 .refine h.al λb6 _ h=>⟨h.q 1,h.q 1,?_⟩
  have h:=h.o [3,2,0,1,4] 5;refine kj h hb0 G ?_
  cases hr:cG r with
  | error e=>
   rw[hr]at k;exact λD s h=>k _ _ s (aM.refl Q) (h.o [0] 4)
  | ok q=>
  obtain⟨n,s1⟩:=q;rw[hr]at k;dsimp only at k;intro Y N B A h;refine⟨_,rfl,h.q 3,?_⟩;have h:=h.o [1,0,2,3,4] 5;refine xb h B A ?_
  cases hr2:ja s1 with
  | error e=>
   rw[hr2]at k;exact λi D s v h=>k _ _ s v (h.o [0] 4)
  | ok q=>
  obtain⟨pv,s2⟩:=q;rw[hr2]at k;dsimp only at k;intro i ev R d f w j m t h;subst w;refine⟨_,_,_,_,_,_,rfl,?_⟩;refine h.st 2 rfl rfl ?_;intro E h;exact y n i ev s2 b6 E k d f j m t (h.o [2,0,1,4,3] 5)
end
def jd:Rd Ot:=λs=>match gj s with
 | .error e=>.error e
 | .ok (w,s1)=>
  if (aZ (aZ s1.bs.length s1).2.bs.length (aZ s1.bs.length s1).2).2.e≠0 then .error (aZ (aZ s1.bs.length s1).2.bs.length (aZ s1.bs.length s1).2).2.e else
  if (!(il (bG (aZ s1.bs.length s1).1)).2.2 || !inM w 0 4611686018427387903)=true then .error 10 else
  if (kr (aZ (aZ s1.bs.length s1).2.bs.length (aZ s1.bs.length s1).2).1).2≠0 then .error (kr (aZ (aZ s1.bs.length s1).2.bs.length (aZ s1.bs.length s1).2).1).2 else
  .ok ((⟨w,bG (aZ s1.bs.length s1).1⟩,(kr (aZ (aZ s1.bs.length s1).2.bs.length (aZ s1.bs.length s1).2).1).1),(aZ (aZ s1.bs.length s1).2.bs.length (aZ s1.bs.length s1).2).2)
theorem ip{α:Type}{s a:RS}{x y:α}(h:okR s x=.ok (y,a)):a=s/\y=x/\s.e=0:=by
 unfold okR at h
 split at h
 .cases h
 .rename_i h0
  cases h
  exact⟨rfl,rfl,by simpa using h0⟩
theorem uK{s a:RS}{w:Int}(h:gj s=.ok (w,a)):a.bs.length<=s.bs.length:=by
 rw[(ip h).1];exact jQ s
theorem gl{s a:RS}{w:Int}(h:cG s=.ok (w,a)):a.bs.length<=s.bs.length:=by
 rw[(ip h).1];exact jQ s
theorem uL{s a:RS}{w:Int}(h:dZ s=.ok (w,a)):a.bs.length<=s.bs.length:=by
 rw[(ip h).1];exact jQ s
theorem sM{s a:RS}{m w:Int}(h:dO m s=.ok (w,a)):a.bs.length<=s.bs.length:=by
 rw[(ip h).1];exact rV s m
theorem sO{s a:RS}{m w:Int}(h:upR m s=.ok (w,a)):a.bs.length<=s.bs.length:=by
 unfold upR at h
 cases e:cG s with
 | error e'=>rw[e]at h;cases h
 | ok q=>
  obtain⟨v,s1⟩:=q;rw[e]at h;dsimp only at h
  split at h
  .cases h;exact gl e
  .cases h
section
variable {F L:List aE}{H:aC}{K KP:KE}{Q Q':aE}{sb:Nat}{s:aH}
theorem Lg{rb:Nat}{r:RS}(h:aA H (crdA rb r::F))(hb0:aI r.bs)(D:r.bs.length<=1000000000)
  (k:sw rb F (λo:Ot=>.tuple #[aggK o.1,aggC o.2]) K KP (jd r)):CP 205 #[.agg #[PA rb 0]] H K KP:=by
 refine cNP 205 5208464183038236 [[],[(4,sA)]] ?_;refine h.al λb _ h=>?_
 refine h.al λb1 _ h=>?_
 refine h.al λb2 H0 h=>?_
 intro L J;unfold jd at k;have d:∀(w:Int) (s1:RS) x t,gj r=.ok (w,s1)->aI s1.bs->s1.bs.length<=1099511627776->
   aA t (crdA rb (aZ s1.bs.length s1).2::cellsA x [aD w,.string (bG (aZ s1.bs.length s1).1)] 154::cellsA b2 (dx Cl.z) 161::cellsA b1 [aD 0,.string ⟨#[]⟩] 154::cellsA b [PA rb 0] 388::F)->L x 0 t:=by
  intro w s1 x C n a c h;have E:=uK n;rw[n]at k;dsimp only at k;have s:=lK (m:=s1.bs.length) a;have I:=mD s1 s1.bs.length;generalize aZ s1.bs.length s1=T1 at *;refine J _ _ _ ?_;refine⟨_,h.r 4,_,h.r 4,_,oW h,?_⟩;refine nK (most:=T1.2.bs.length) h s.1 (by omega) (by unfold aF;omega) λA h=>⟨_,rfl,_,h.r 4,_,mB h,?_⟩
  have i:=lK (m:=T1.2.bs.length) s.1;have O:=mD T1.2 T1.2.bs.length;generalize aZ T1.2.bs.length T1.2=T2 at *;refine j7 (λf=>⟨rfl,_,h.r 1,?_⟩) λf=>?_
  .rw [V4 (by simpa using f)]at k;have M:=nQ T1.1;refine Jp (by omega) h λla lc j h=>⟨_,_,_,_,_,rfl,?_⟩
   generalize (il (bG T1.1))=P at *;refine h.al λb3 _ h=>?_
   refine h.st 0 rfl rfl ?_;intro V h;refine⟨_,λ_=>h.r 3,_,λ_=>oz,?_⟩
   intro N v;refine⟨λy=>?_,λy=>v _ ?_⟩
   .rw [V5 y]at k;exact k _ (by decide) (h.o [] 7)
   .rw [V4 (by rw[y];simp)]at k;refine wp i.2 h λa3 c3 R h=>⟨_,_,_,rfl,?_⟩
    refine Tz rfl i.2 h (λH h=>h.sl_rd 0 rfl) (by omega) λQ h=>⟨_,_,_,_,_,_,_,_,_,rfl,?_⟩
    have G:=kr T2.1;generalize kr T2.1=B at *;refine h.al λb4 _ h=>?_
    refine h.sta 0 rfl rfl λU h=>?_
    refine j7 (λhb=>⟨rfl,?_⟩) λhb=>?_
    .rw [V4 (by simpa using hb)]at k;refine⟨_,_,h.q 5,_,_,_,_,_,_,_,_,h.rda 0 rfl,?_⟩;refine h.st 7 rfl rfl ?_;intro T h;refine⟨h.rda 0 rfl,?_⟩;refine h.sta 6 rfl rfl λS h=>?_
     refine⟨_,_,h.q 7,_,_,_,_,_,_,_,_,h.rda 6 rfl,?_⟩;exact k _ f i.1 (by omega) (h.o [4] 9)
    .rw [V5 hb]at k;exact k _ hb (h.o [] 9)
  .rw [V5 f]at k;exact k _ f (h.o [] 5)
 refine⟨_,h.q 2,_,h.r 2,_,h.r 2,?_,?_⟩
 .have h:=h.o [3,0,1,2] 4;refine uu h hb0 (by omega) ?_
  cases hr:gj r with
  | error e=>
   rw[hr]at k;exact λt f h=>k _ f (h.o [] 3)
  | ok q=>
  obtain⟨w,s1⟩:=q;intro C u a c h;refine⟨_,rfl,h.r 3,h.r 3,_,oW h,?_,?_⟩
  .refine nK (most:=s1.bs.length) h a c (by unfold aF;omega) λA h=>⟨_,rfl,?_⟩
   refine h.al λb5 _ h=>?_
   refine h.st 0 rfl rfl ?_;intro j h;exact d w s1 b5 j hr a c (h.o [1,0,2,3,4] 5)
  .refine h.al λb6 _ h=>⟨oW (h.o [1] 2),h.r 4,h.r 4,?_⟩
   have h:=h.o [1,0,2,3,4] 5;refine nK (most:=s1.bs.length) h a c (by unfold aF;omega) λA h=>⟨_,rfl,?_⟩
   refine h.st 1 rfl rfl ?_;intro j h;exact d w s1 b6 j hr a c h
 .refine h.al λb7 _ h=>⟨h.r 3,h.r 3,h.q 3,?_⟩
  have h:=h.o [4,0,1,2,3] 5;refine uu h hb0 (by omega) ?_
  cases hr:gj r with
  | error e=>
   rw[hr]at k;exact λt f h=>k _ f (h.o [] 4)
  | ok q=>
  obtain⟨w,s1⟩:=q;intro C u a c h;refine⟨_,rfl,h.r 4,h.r 4,_,oW h,?_⟩;refine nK (most:=s1.bs.length) h a c (by unfold aF;omega) λA h=>⟨_,rfl,?_⟩
  refine h.st 1 rfl rfl ?_;intro j h;exact d w s1 b7 j hr a c h
end
def smpR:Rd bQ:=λs=>match cG s with
 | .error e=>.error e
 | .ok (a,s1)=>match cG s1 with
  | .error e=>.error e
  | .ok (b,s2)=>match cG s2 with
   | .error e=>.error e
   | .ok (c,s3)=>match cG s3 with
    | .error e=>.error e
    | .ok (d,s4)=>.ok (⟨a,b,c,d⟩,s4)
def jt:Nat->Rd (List bQ)
 | 0,s=>.ok ([],s)
 | n+1,s=>match jt n s with
  | .error e=>.error e
  | .ok (l,s1)=>match smpR s1 with
   | .error e=>.error e
   | .ok (x,s2)=>.ok (l++[x],s2)
def iG(hs:HS Pv):Nat->RS->Except Int (HS Pv×RS)
 | 0,s=>.ok (hs,s)
 | n+1,s=>match iG hs n s with
  | .error e=>.error e
  | .ok (h,s1)=>lj h s1
theorem Lh:∀{n:Nat} {s:RS} {vs:List bQ} {a:RS},jt n s=.ok (vs,a)->vs.length=n
 | 0,s,vs,a,h=>by cases h;rfl
 | n+1,s,vs,a,h=>by
  unfold jt at h
  split at h
  .cases h
  .rename_i c s1 b
   split at h
   .cases h
   .cases h
    rw[V7,Lh b];rfl
theorem Li{s:RS}{e:Int}:∀{n j:Nat},jt j s=.error e->j<=n->jt n s=.error e
 | 0,j,h,hj=>by
  obtain rfl:j=0:=by omega
  exact h
 | n+1,j,h,hj=>by
  rcases Wa n j with a|a
  .obtain rfl:j=n+1:=by omega
   exact h
  .unfold jt;rw[Li h a]
theorem Lj{hs:HS Pv}{s:RS}{e:Int}:∀{n j:Nat},iG hs j s=.error e->j<=n->iG hs n s=.error e
 | 0,j,h,hj=>by
  obtain rfl:j=0:=by omega
  exact h
 | n+1,j,h,hj=>by
  rcases Wa n j with a|a
  .obtain rfl:j=n+1:=by omega
   exact h
  .unfold iG;rw[Lj h a]
def oF(c:bD)(last:Int)(hd:Bool)(streak:Int)(l:List bQ):Rd br:=λs5=>
 if ¬(l.length<=8/\0<=streak/\∀x∈l,x.ok) then .error 10 else match cG s5 with
  | .error e=>.error e
  | .ok (next,s6)=>if next<0\/1099511627776<next then .error 11 else match dO 256 s6 with
   | .error e=>.error e
   | .ok (m,s7)=>match iG ⟨next,c.hold,[]⟩ m.toNat s7 with
    | .error e=>.error e
    | .ok (hs,s8)=>.ok (⟨⟨c.rho,c.trust,hd,streak,l⟩,hs,last⟩,s8)
def nW(c:bD)(last:Int):Rd br:=λs1=>match dZ s1 with
 | .error e=>.error e
 | .ok (hd,s2)=>match cG s2 with
  | .error e=>.error e
  | .ok (streak,s3)=>match dO 8 s3 with
   | .error e=>.error e
   | .ok (n,s4)=>match jt n.toNat s4 with
    | .error e=>.error e
    | .ok (l,s5)=>oF c last (decide (hd=1)) streak l s5
def ne(c:bD):Rd br:=λs=>match gj s with
 | .error e=>.error e
 | .ok (last,s1)=>if inM last (-1) 4611686018427387903=false then .error 10 else nW c last s1
theorem Ut{s c:RS}{e:Pv}(h:ja s=.ok (e,c)):aF e.value:=by
 unfold ja at h
 cases h1:cG s with
 | error e'=>rw[h1]at h;cases h
 | ok q=>
  obtain⟨a,s1⟩:=q;rw[h1]at h;dsimp only at h
  cases h2:gj s1 with
  | error e'=>rw[h2]at h;cases h
  | ok q=>
   obtain⟨b,s2⟩:=q;rw[h2]at h;dsimp only at h;rw[(ip h).2.1];show aF b;rw[(ip h2).2.1];exact rT _
structure qQ(m:Int)(hs:HS Pv):Prop where
 ok:hs.Ok
 most:hs.most=m
 next:hs.next<=1099511627776
 rows:∀p∈hs.rows,p.1<1099511627776/\gS p.2=true/\aF p.2.value
theorem Uu{m:Int}{hs a:HS Pv}{s e:RS}(g:qQ m hs)(h:lj hs s=.ok (a,e)):qQ m a:=by
 unfold lj at h
 cases h1:cG s with
 | error e'=>rw[h1]at h;cases h
 | ok q=>
  obtain⟨n,s1⟩:=q;rw[h1]at h;dsimp only at h
  cases h2:ja s1 with
  | error e'=>rw[h2]at h;cases h
  | ok q=>
   obtain⟨ev,s2⟩:=q;rw[h2]at h;dsimp only at h
   split at h
   .cases h
   rename_i hb
   split at h
   .cases h
   cases h
   have hb:gT n [ev]=true:=by simpa using hb
   unfold gT at hb;simp only[VB,VA,Wt,VE,VZ]at hb;have d:=HS.offer_ok g.ok n [ev];have b:=Kv (s:=hs) (first:=n) (B:=1099511627776) (items:=[ev]) g.next (λp c=>(g.rows p c).1) (by simp only[VE,VZ];omega)
   refine⟨d.1,d.2.2.2.trans g.most,b.1,λp c=>⟨b.2 p c,?_⟩⟩
   rcases (uq (s:=hs) (first:=n) (items:=[ev])).2 p c with h|h
   .rw [VI]at h;rw[h];exact⟨hb.2.2 ev (VI.2 rfl),Ut h2⟩
   .exact (g.rows p h).2
theorem Bs{m:Int}{hs:HS Pv}{s:RS}(g:qQ m hs):∀{n:Nat} {a:HS Pv} {b:RS},iG hs n s=.ok (a,b)->qQ m a
 | 0,a,b,h=>by cases h;exact g
 | n+1,a,b,h=>by
  unfold iG at h
  split at h
  .cases h
  .rename_i c;exact Uu (Bs g c) h
def bitF(v m:Int):Bool:=!decide (aY .and .u64 v m=0)
def flR(c:bD)(t:Int):Rd (Fl×br):=λs=>match dZ s with
 | .error e=>.error e
 | .ok (v,s1)=>match ne c s1 with
  | .error e=>.error e
  | .ok (st,s2)=>.ok ((⟨t,bitF v 1,bitF v 2,bitF v 4⟩,st),s2)
section
variable {F L:List aE}{H:aC}{K KP:KE}{Q Q':aE}{sb:Nat}{s:aH}
def APost(rb sb tm:Nat)(cs:Os)(sts:List (Option br))(a:Nat)(Q:aE)(F:List aE)(K KP:KE):Except Int ((Fl×br)×RS)->Prop
 | .ok (x,s)=>∀Q' H',aM Q Q'->s.e=0->aI s.bs->s.bs.length<=1099511627776->aA H' (Q'::crdA rb s::cellsA sb cs 145::strmA Q' tm (sts.set a (some x.2))::F)->K (mP x.1) H'
 | .error e=>∀Q' H',e≠0->aM Q Q'->aA H' (Q'::F)->KP (pnV e) H'
theorem xD:∀{bl:List (Option Nat)} {sts:List (Option br)} {k:Nat} {F:List aE},aA H (strsA Q bl sts::F)->aA H (strsA Q (bl.set k none) (sts.set k none)::F)
 | [],_,_,_,h=>h
 | none::_,[],0,_,h=>h
 | some _::_,[],0,_,h=>h
 | none::_,[],_+1,_,h=>h
 | some _::_,[],_+1,_,h=>h
 | none::bs,y::ss,0,_,h=>h
 | some x::bs,none::ss,0,_,h=>h
 | some x::bs,some y::ss,0,_,h=>(oC.1 h).tl
 | none::bs,y::ss,k+1,_,h=>xD (bl:=bs) (sts:=ss) (k:=k) h
 | some x::bs,none::ss,k+1,_,h=>xD (bl:=bs) (sts:=ss) (k:=k) h
 | some x::bs,some y::ss,k+1,_,h=>by
  have h:=oC.1 h;have h:=h.o [1,0] 2;have h:=xD (bl:=bs) (sts:=ss) (k:=k) h;have h:=h.o [1,0] 2;exact oC.2 h
theorem Uv{rb b b1 fb B tm cb hb:Nat}{a:Nat}{cs:Os}{sts:List (Option br)}{fl:Fl}{ck:Ck}{last m:Int}{r:RS}{hs:HS Pv}{P:Except Int ((Fl×br)×RS)}
  (g:qQ hs.most hs) (ha:a<sts.length) (L:aT cs 18=some (.map (some tm))) (hm:0<=m/\m<=256) (hb0:aI r.bs) (E:r.bs.length<=1099511627776) (U:r.e=0)
  (W:P=match iG hs m.toNat r with|.error e=>.error e|.ok (h,s8)=>.ok ((fl,⟨ck,h,last⟩),s8))
  (k:APost rb sb tm cs sts a Q F K KP P)
  (h:aA H (Q::crdA rb r::hldA Q hb hs::cellsA B [PA cb 0,PA hb 0,aD last] 173::ckA cb ck::cellsA fb (encF fl) 185::cellsA b1 [aD 0,.bool false,.bool false,.bool false] 185::cellsA b [PA rb 0] 388::cellsA sb cs 145::strmA Q tm sts::F)) :
  ∃(f:Int->aC->Prop) (I:Int->aC->Nat),f 0 H/\
   ∀(s:Int),∀t:aC,f s t->lH.l1 sb 0 (a:Int) K KP b b1 fb 0 (some ⟨B,0,none⟩) (some ⟨hb,0,none⟩) m f I s t:=by
 refine⟨λi D=>∃(j:Nat) (w:aE) (d:HS Pv) (s1:RS),i=j/\(j:Int)<=m/\aM Q w/\iG hs j r=.ok (d,s1)/\s1.e=0/\aI s1.bs/\s1.bs.length<=1099511627776/\
  aA D (w::crdA rb s1::hldA w hb d::cellsA B [PA cb 0,PA hb 0,aD last] 173::ckA cb ck::cellsA fb (encF fl) 185::cellsA b1 [aD 0,.bool false,.bool false,.bool false] 185::cellsA b [PA rb 0] 388::cellsA sb cs 145::strmA Q tm sts::F),
  λi _=>m.toNat-i.toNat,⟨0,Q,hs,r,rfl,hm.1,aM.refl Q,rfl,U,hb0,E,h⟩,?_⟩
 rintro i H1 ⟨j,w,d,s1,rfl,hj,c,S,M,A,y,h⟩;unfold lH.l1;have g1:=Bs g S;refine⟨λC=>?_,λC=>?_⟩
 .have C:=V8 C;refine⟨_,h.q 7,?_⟩;have Z:=g1.next;refine Us g1.ok (by omega) h A y ?_;have n:iG hs (j+1) r=lj d s1:=by
   rw[iG,S]
  cases hr:lj d s1 with
  | error e=>
   rw[hr]at n;rw[W,Lj n (by omega)]at k;exact λR D he u h=>k R D he (c.trans u) (h.o [0] 8)
  | ok q=>
  obtain⟨u,s2⟩:=q;rw[hr]at n;intro R D G J N T h;refine⟨rfl,?_⟩;rw[aJ (x:=(j:Int)+1)];exact⟨⟨j+1,R,u,s2,by omega,by omega,c.trans G,n,J,N,T,h⟩,by dsimp only;omega⟩
 .have Y:=V9 C;have O:j=m.toNat:=by omega
  subst O;rw[W,S]at k;refine⟨_,(h.r 8).trans L,?_⟩;have h:=h.o [9,0,1,2,3,4,5,6,7,8] 10;have h:=Kp c h;obtain⟨bl,V,h⟩:=ld.1 h;refine h.mp_update (α:=Option Nat) (v:=some B) (x:=((a:Nat):Int)) qI ko2 0 rfl λH2 h=>?_
  refine⟨_,_,_,_,h.q 7,?_⟩;refine h.st 8 rfl rfl ?_;intro H3 h;refine⟨_,_,_,_,h.q 8,?_⟩;refine k w _ c M A y ?_;have h:=h.o [1,0,2,3,4,5,6,10] 11;have h:=xD (k:=a) h;have h:=h.o [5,6,4,1,0,2,3,7] 8;have h:aA H3 (strA w B ⟨ck,d,last⟩::_):=gV.2 ⟨cb,hb,h⟩;have h:=h.o [1,0,2,3,4,5] 6;have h:=Ks V ha h;exact h.o [1,2,3,0] 4
def withFl(fl:Fl):Except Int (br×RS)->Except Int ((Fl×br)×RS)
 | .error e=>.error e
 | .ok (st,s)=>.ok ((fl,st),s)
theorem Uw{rb b b1 fb t tm cb hb0:Nat}{a:Nat}{cs:Os}{sts:List (Option br)}{fl:Fl}{ck0:Ck}{c:bD}{last streak:Int}{hd:Bool}{l:List bQ}{la:KQ}{lc:Nat}{r:RS}
  (ok:jB c) (x:ck0.rho=c.rho) (j2:ck0.least=c.trust) (ha:a<sts.length) (j1:aT cs 18=some (.map (some tm))) (h8:aT cs 8=some (aD c.hold)) (W:aI r.bs) (h5:r.bs.length<=1099511627776)
  (k:APost rb sb tm cs sts a Q F K KP (withFl fl (oF c last hd streak l r)))
  (h:aA H (ckA cb ck0::slA 58 4 la l.length lc (flat eW l)::Q::crdA rb r::cellsA t [PA cb 0,PA hb0 0,aD last] 173::cellsA fb (encF fl) 185::cellsA b1 [aD 0,.bool false,.bool false,.bool false] 185::cellsA b [PA rb 0] 388::cellsA sb cs 145::strmA Q tm sts::F)) :
  NN (some ⟨t,0,none⟩) (
 ∃v2,aL H (aV (some ⟨t,0,none⟩)) (aS (some ⟨t,0,none⟩))=some (.pointer v2)/\
 CF 261 #[(.pointer v2),(.bool hd),(aD streak),(.slice la l.length lc)] H λh6 B=>∃C,h6=(aD C)/\
 CP 203 #[(aD C)] B (λh4 d=>h4=(.tuple #[])/\
 ∃U,bE d b 0 [(.pointer U)]/\
 ∃v3,aL d sb (0+8)=some (aD v3)/\
 CP 201 #[(.agg #[(.pointer U)])] d (λh0 u=>∃P,h0=(aD P)/\
 aL u sb (0+8)=some (aD v3)/\
 CF 185 #[(aD P),(aD v3)] u λh1 J=>∃v A,h1=(.tuple #[(.pointer v),(aD A)])/\
 CP 203 #[(aD A)] J (λV y=>V=(.tuple #[])/\
 NN (some ⟨t,0,none⟩) (
 ST y (aV (some ⟨t,0,none⟩)) ((aS (some ⟨t,0,none⟩))+1) [(.pointer v)] λs=>
 ∃D,bE s b 0 [(.pointer D)]/\
 CP 200 #[(.agg #[(.pointer D)]),(aD 256)] s (λY E=>∃I,Y=(aD I)/\
 ∃(f:Int->aC->Prop) (h7:Int->aC->Nat),f 0 E/\
 ∀(j:Int),∀n:aC,f j n->lH.l1 sb 0 (a:Int) K KP b b1 fb 0 (some ⟨t,0,none⟩) v I f h7 j n) (λ(L:Value) (O:aC)=>
 KP L O))) (λ(T:Value) (N:aC)=>
 KP T N)) (λ(R:Value) (M:aC)=>
 KP R M)) (λ(w:Value) (S:aC)=>
 KP w S)):=by
 unfold oF at k;refine cZ ⟨_,h.rd 4 rfl 0,?_⟩;refine Ru (held:=hd) (streak:=streak) h (λH h=>h.sl_rd 0 rfl) (λhn H1 h=>⟨_,rfl,?_⟩) λG H1 h=>⟨_,rfl,?_⟩
 .rw [V5 hn]at k;exact j7 (λe=>V6 e (by decide)) λe=>k Q _ (by decide) (aM.refl Q) (h.o [2] 10)
 rw[V4 (not_not_intro G)]at k;refine j7 (λ_=>⟨rfl,_,h.q 7,_,(h.r 8).trans h8,?_⟩) λe=>V6 rfl e
 have h:=h.o [3,0,2,4,5,6,7,8,9] 10;refine kj h W h5 ?_
 cases hr:cG r with
 | error e=>
  rw[hr]at k;exact λH' Z h=>k Q _ Z (aM.refl Q) (h.o [1] 8)
 | ok q=>
 obtain⟨next,s6⟩:=q;rw[hr]at k;dsimp only at k;intro H2 l5 h2 j3 h;refine⟨_,rfl,(h.r 7).trans h8,?_⟩;refine AB (Q:=Q) h (λhn=>⟨_,_,rfl,?_⟩) λhb H3 i h=>⟨_,_,rfl,?_⟩
 .have hh:=ok.hd;rw[pO]at k;exact j7 (λe=>V6 e (by decide)) λe=>k Q _ (by decide) (aM.refl Q) (h.o [2] 9)
 rw[nO]at k;refine j7 (λ_=>⟨rfl,cZ ?_⟩) λe=>V6 rfl e
 refine h.st 4 rfl rfl ?_;intro H4 h;refine⟨_,h.q 7,?_⟩;have h:=h.o [1,0,2,3,4,5,6,7,8,9] 10;refine uv (by unfold aF;decide) h h2 j3 ?_
 cases hr2:dO 256 s6 with
 | error e=>
  rw[hr2]at k;exact λH' Z h=>k Q _ Z (aM.refl Q) (h.o [2] 9)
 | ok q=>
 obtain⟨m,s7⟩:=q;rw[hr2]at k;dsimp only at k;have hm:0<=m/\m<=256:=by
  rw[(ip hr2).2.1];unfold bY
  split
  .dsimp only;omega
  .split
   .split
    .dsimp only;omega
    .dsimp only;omega
   .dsimp only;omega
   .dsimp only;omega
 intro H5 h9 h3 l0 h;refine⟨_,rfl,?_⟩;have hg:qQ c.hold (⟨next,c.hold,[]⟩:HS Pv):=⟨⟨i.1,i.2.2.1,i.2.2.2,⟨by simp[gJ],λp G=>V6 G (by simp)⟩⟩,rfl,i.2.1,λp G=>V6 G (by simp)⟩
 refine Uv (fl:=fl) (r:=s7) (m:=m) (hs:=⟨next,c.hold,[]⟩) (ck:=⟨c.rho,c.trust,hd,streak,l⟩) (last:=last) (cb:=cb) hg ha j1 hm h3 l0 h9 ?_ k ?_
 .cases iG ⟨next,c.hold,[]⟩ m.toNat s7 with
  | error e=>rfl
  | ok q=>rfl
 .have h:=h.o [3,0,1,4,2,5,6,7,8,9] 10;rw[x,j2]at h;exact h
end
section
variable {F L:List aE}{H:aC}{K KP:KE}{Q Q':aE}{sb:Nat}{s:aH}
theorem Ux{rb b b1 fb E tm cb hb0:Nat}{a:Nat}{cs:Os}{sts:List (Option br)}{fl:Fl}{ck0:Ck}{c:bD}{last:Int}{r:RS}
  (ok:jB c) (u:ck0.rho=c.rho) (R:ck0.least=c.trust) (ha:a<sts.length) (N:aT cs 18=some (.map (some tm))) (h8:aT cs 8=some (aD c.hold)) (D:aI r.bs) (M:r.bs.length<=1099511627776)
  (k:APost rb sb tm cs sts a Q F K KP (withFl fl (nW c last r)))
  (h:aA H (crdA rb r::ckA cb ck0::Q::cellsA E [PA cb 0,PA hb0 0,aD last] 173::cellsA fb (encF fl) 185::cellsA b1 [aD 0,.bool false,.bool false,.bool false] 185::cellsA b [PA rb 0] 388::cellsA sb cs 145::strmA Q tm sts::F)) :
  lH.r3 sb 0 (a:Int) K KP b b1 fb 0 (some ⟨E,0,none⟩) H:=by
 unfold nW at k;unfold lH.r3;refine⟨_,h.q 6,_,h.q 6,?_⟩;refine ut h D M ?_
 cases hr:dZ r with
 | error e=>
  rw[hr]at k;exact λs f h=>k Q _ f (aM.refl Q) (h.o [1] 8)
 | ok q=>
 obtain⟨hd,s2⟩:=q;rw[hr]at k;dsimp only at k;intro H1 h9 P I h;refine⟨_,rfl,h.q 6,?_⟩;refine kj h P I ?_
 cases hr2:cG s2 with
 | error e=>
  rw[hr2]at k;exact λs f h=>k Q _ f (aM.refl Q) (h.o [1] 8)
 | ok q=>
 obtain⟨streak,s3⟩:=q;rw[hr2]at k;dsimp only at k;intro H2 h5 O Y h;refine⟨_,rfl,_,h.q 6,?_⟩;refine uv (by unfold aF;decide) h O Y ?_
 cases hr3:dO 8 s3 with
 | error e=>
  rw[hr3]at k;exact λs f h=>k Q _ f (aM.refl Q) (h.o [1] 8)
 | ok q=>
 obtain⟨n,s4⟩:=q;rw[hr3]at k;dsimp only at k;have G:0<=n/\n<=8:=by
  rw[(ip hr3).2.1];exact Jf s3
 intro H3 j1 B T h;refine⟨_,rfl,?_⟩;refine⟨λla ln lc i s=>∃(j:Nat) (l:List bQ) (s5:RS),i=j/\(j:Int)<=n/\ln=l.length/\jt j s4=.ok (l,s5)/\aI s5.bs/\s5.bs.length<=1099511627776/\
  aA s (ckA cb ck0::slA 58 4 la l.length lc (flat eW l)::Q::crdA rb s5::cellsA E [PA cb 0,PA hb0 0,aD last] 173::cellsA fb (encF fl) 185::cellsA b1 [aD 0,.bool false,.bool false,.bool false] 185::cellsA b [PA rb 0] 388::cellsA sb cs 145::strmA Q tm sts::F),
  λ_ _ _ i _=>n.toNat-i.toNat,⟨0,[],s4,rfl,G.1,rfl,rfl,B,T,(h.sl_nil 58 4).o [2,0,3,1,4,5,6,7,8,9] 10⟩,?_⟩
 rintro la ln lc i H4 ⟨j,l,s5,rfl,hj,rfl,t,v,w,h⟩;have h4:=Lh t;refine⟨λy=>?_,λy=>?_⟩
 .have y:=V8 y;have d:jt (j+1) s4=match smpR s5 with|.error e=>.error e|.ok (x,s2)=>.ok (l++[x],s2):=by
   rw[jt,t] <;> rfl
  have bad:∀e Q' s,smpR s5=.error e->e≠0->aM Q Q'->aA s (Q'::F)->KP (pnV e) s:=by
   intro e Q' s C f hs h;rw[C]at d;rw[Li d (by omega)]at k;exact k Q' s f hs h
  unfold smpR at bad d;refine⟨_,h.q 7,_,h.q 7,_,h.q 7,_,h.q 7,?_⟩;have h:=h.o [3,0,1,2,4,5,6,7,8,9] 10;refine kj h v w ?_
  cases q1:cG s5 with
  | error e=>
   rw[q1]at bad;exact λs f h=>bad _ Q _ rfl f (aM.refl Q) (h.o [2] 9)
  | ok q=>
  obtain⟨x1,s6⟩:=q;rw[q1]at bad d;dsimp only at bad d;intro H5 h6 J V h;refine⟨_,rfl,h.q 7,h.q 7,h.q 7,?_⟩;refine kj h J V ?_
  cases q2:cG s6 with
  | error e=>
   rw[q2]at bad;exact λs f h=>bad _ Q _ rfl f (aM.refl Q) (h.o [2] 9)
  | ok q=>
  obtain⟨x2,s7⟩:=q;rw[q2]at bad d;dsimp only at bad d;intro H6 h7 L U h;refine⟨_,rfl,h.q 7,h.q 7,?_⟩;refine kj h L U ?_
  cases q3:cG s7 with
  | error e=>
   rw[q3]at bad;exact λs f h=>bad _ Q _ rfl f (aM.refl Q) (h.o [2] 9)
  | ok q=>
  obtain⟨x3,s8⟩:=q;rw[q3]at bad d;dsimp only at bad d;intro H7 h3 Z h0 h;refine⟨_,rfl,h.q 7,?_⟩;refine kj h Z h0 ?_
  cases q4:cG s8 with
  | error e=>
   rw[q4]at bad;exact λs f h=>bad _ Q _ rfl f (aM.refl Q) (h.o [2] 9)
  | ok q=>
  obtain⟨x4,s9⟩:=q;rw[q4]at bad d;dsimp only at bad d;intro H8 h1 S W h;refine⟨_,rfl,?_⟩;refine h.al λb2 _ h=>?_
  refine h.append (m:=1) (ws:=eW ⟨x1,x2,x3,x4⟩) uf 3 rfl (h.ce_rd 0 rfl) rfl (zY _) (by omega) (by omega) λa5 c5 H9 h=>⟨_,_,_,rfl,?_⟩
  rw[aJ (x:=(j:Int)+1)];refine⟨⟨j+1,l++[⟨x1,x2,x3,x4⟩],s9,by omega,by omega,by rw[V7];rfl,d,S,W,?_⟩,by dsimp only;omega⟩;have e:flat eW (l++[⟨x1,x2,x3,x4⟩])=flat eW l++eW ⟨x1,x2,x3,x4⟩:=by rw[dS];simp[flat]
  rw[e,V7];exact h.o [2,3,4,1,5,6,7,8,9,10] 11
 .have h2:=V9 y;have A:j=n.toNat:=by omega
  subst A;rw[t]at k;dsimp only at k;exact Uw (fl:=fl) (ck0:=ck0) (hb0:=hb0) ok u R ha N h8 v w k h
end
def kJ(s:aH)(a:Int):Rd (List En×Fl×br):=λr=>match cG r with
 | .error e=>.error e
 | .ok (ep,s1)=>match cG s1 with
  | .error e=>.error e
  | .ok (bt,s2)=>match cG s2 with
   | .error e=>.error e
   | .ok (tm,s3)=>if (gC s.cfg.agents s.rows a ⟨ep,bt,tm⟩).2≠0 then .error (gC s.cfg.agents s.rows a ⟨ep,bt,tm⟩).2 else match upR s.now s3 with
    | .error e=>.error e
    | .ok (t,s4)=>match flR s.cfg t s4 with
     | .error e=>.error e
     | .ok (x,s5)=>.ok (((gC s.cfg.agents s.rows a ⟨ep,bt,tm⟩).1,x.1,x.2),s5)
theorem Lk{most:Int}{rows:List En}{a:Int}{e:En}(h:(gC most rows a e).2=0):0<=a/\a<=63/\1<=e.epoch/\(gC most rows a e).1=rows.set a.toNat e/\¬0<(bg rows a).epoch:=by
 unfold gC at h ⊢
 split at h
 .simp at h
 rename_i c;rw[V4 c]
 split at h
 .simp at h
 rename_i b;rw[V4 b]
 split at h
 .simp at h
 rename_i d;rw[V4 d];unfold bad at c;exact⟨by omega,by omega,by omega,rfl,b⟩
section
variable {F L:List aE}{H:aC}{K KP:KE}{Q Q':aE}{sb:Nat}{s:aH}
theorem Uy{rb b b1 fb:Nat}{a:Nat}{p:SAd}{t r3:Int}{r:RS}
  (ok:jB s.cfg) (E:a<s.sts.length) (w:aI r.bs) (i:r.bs.length<=1099511627776)
  (k:APost rb sb p.tm (dr s p) s.sts a Q F K KP (flR s.cfg t r))
  (h:aA H (crdA rb r::Q::cellsA fb [aD t,.bool false,.bool false,.bool false] 185::cellsA b1 [aD 0,.bool false,.bool false,.bool false] 185::cellsA b [PA rb 0] 388::cellsA sb (dr s p) 145::strmA Q p.tm s.sts::F)) :
  lH.r4 sb 0 (a:Int) K KP b b1 r3 fb 0 H:=by
 unfold flR at k;unfold lH.r4;refine⟨_,h.q 4,?_⟩;refine ut h w i ?_
 cases hr:dZ r with
 | error e=>
  rw[hr]at k;exact λC x h=>k Q _ x (aM.refl Q) (h.o [0] 6)
 | ok q=>
 obtain⟨v,s1⟩:=q;rw[hr]at k;dsimp only at k;intro G B n j h;refine⟨_,rfl,?_⟩;refine h.st 2 rfl rfl ?_;intro N h;refine h.st 2 rfl rfl ?_;intro M h;refine h.st 2 rfl rfl ?_;intro P h;have h:=h.o [5,0,1,2,3,4,6] 7;refine Kt (Q:=Q) ok h λL J h=>⟨_,rfl,?_⟩
 obtain⟨cb,f,h⟩:=gV.1 h;refine⟨_,h.q 8,?_⟩;have h:=h.o [4,0,1,2,3,5,6,7,8,9] 10;refine uu h n j ?_;unfold ne at k
 cases hr2:gj s1 with
 | error e=>
  rw[hr2]at k;exact λC x h=>k Q _ x (aM.refl Q) (h.o [4] 9)
 | ok q=>
 obtain⟨last,s2⟩:=q;rw[hr2]at k;dsimp only at k;intro I A m y h;refine⟨_,rfl,cZ ?_⟩;refine h.st 1 rfl rfl ?_;intro O h;refine cZ ⟨_,h.r 1,_,oz,?_⟩;intro D u;refine⟨λd=>?_,λd=>u _ ?_⟩
 .rw [V5 (by rw[Wb]at d;exact d)]at k;exact k Q _ (by decide) (aM.refl Q) (h.o [5] 10)
 .rw [V4 (by rw[Wq]at d;rw[d];simp)]at k;refine Ux (fl:=⟨t,bitF v 1,bitF v 2,bitF v 4⟩) (ck0:=(lU s.cfg).ck) (hb0:=f) (c:=s.cfg) (last:=last) (cb:=cb) ok rfl rfl E rfl rfl m y ?_ (h.o [0,2,5,1,6,7,8,4,9] 10)
  cases hq:nW s.cfg last s2 with
  | error e=>rw[hq]at k;exact k
  | ok q=>rw[hq]at k;exact k
def BPost(rb sb:Nat)(s:aH)(p:SAd)(a:Int)(Q:aE)(F:List aE)(K KP:KE):Except Int ((List En×Fl×br)×RS)->Prop
 | .ok (x,r)=>∀Q' H',aM Q Q'->r.e=0->aI r.bs->r.bs.length<=1099511627776->aA H' (Q'::crdA rb r::cellsA sb (dr s p) 145::strmA Q' p.tm (s.sts.set a.toNat (some x.2.2))::Ro.rollC p.rb p.rm s.cfg.agents::Ro.mapE p.rm x.1::F)->K (mP x.2.1) H'
 | .error e=>∀Q' H',e≠0->aM Q Q'->aA H' (Q'::F)->KP (pnV e) H'
theorem Uz{rb:Nat}{p:SAd}{a:Int}{r:RS}(ok:jB s.cfg)(rok:fP s.rows)(M:s.sts.length=64)(I:aI r.bs)(w:r.bs.length<=1099511627776)
  (k:BPost rb sb s p a Q F K KP (kJ s a r))
  (h:aA H (crdA rb r::Q::cellsA sb (dr s p) 145::Ro.rollC p.rb p.rm s.cfg.agents::Ro.mapE p.rm s.rows::strmA Q p.tm s.sts::F)) :
  CP 202 #[.agg #[PA rb 0],PA sb 0,aD a] H K KP:=by
 refine OL ?_;unfold kJ at k;refine h.al λb _ h=>?_
 refine h.al λb1 _ h=>⟨_,h.r 4,_,h.q 1,_,h.q 1,_,h.q 1,?_⟩
 have h:=h.o [2,0,1,3,4,5,6,7] 8;refine kj h I w ?_
 cases q1:cG r with
 | error e=>
  rw[q1]at k;exact λf c h=>k Q _ c (aM.refl Q) (h.o [2] 7)
 | ok q=>
 obtain⟨ep,s1⟩:=q;rw[q1]at k;dsimp only at k;intro U R C y h;refine⟨_,rfl,h.q 2,h.q 2,h.r 4,?_⟩;refine kj h C y ?_
 cases q2:cG s1 with
 | error e=>
  rw[q2]at k;exact λf c h=>k Q _ c (aM.refl Q) (h.o [2] 7)
 | ok q=>
 obtain⟨bt,s2⟩:=q;rw[q2]at k;dsimp only at k;intro W P B J h;refine⟨_,rfl,h.q 2,h.r 4,?_⟩;refine kj h B J ?_
 cases q3:cG s2 with
 | error e=>
  rw[q3]at k;exact λf c h=>k Q _ c (aM.refl Q) (h.o [2] 7)
 | ok q=>
 obtain⟨tm,s3⟩:=q;rw[q3]at k;dsimp only at k;intro V T n u h;refine⟨_,rfl,h.r 4,?_⟩;have h:=h.o [5,6,0,1,2,3,4,7] 8;refine Ro.Set_spec rok (agent:=a) (x:=⟨ep,bt,tm⟩) h λY h=>⟨_,rfl,?_⟩
 have E:=Lk (most:=s.cfg.agents) (rows:=s.rows) (a:=a) (e:=⟨ep,bt,tm⟩);generalize gC s.cfg.agents s.rows a ⟨ep,bt,tm⟩=G at *;refine j7 (λc=>⟨rfl,?_⟩) λc=>?_
 .rw [V4 (by simpa using c)]at k;obtain⟨g1,g2,-⟩:=E c;have v:((a.toNat:Nat):Int)=a:=by omega
  intro N O;have j:∀(t:Int) (s4:RS) fb f,upR s.now s3=.ok (t,s4)->aI s4.bs->s4.bs.length<=1099511627776->
    aA f (crdA rb s4::Q::cellsA fb [aD t,.bool false,.bool false,.bool false] 185::cellsA b1 [aD 0,.bool false,.bool false,.bool false] 185::cellsA b [PA rb 0] 388::cellsA sb (dr s p) 145::strmA Q p.tm s.sts::Ro.rollC p.rb p.rm s.cfg.agents::Ro.mapE p.rm G.1::F)->N fb 0 f:=by
   intro t s4 fb L m d i h;rw[m]at k;dsimp only at k;refine O _ _ _ ?_;have:=Uy (a:=a.toNat) (t:=t) (r3:=0) ok (by omega) d i (K:=K) (KP:=KP) ?_ h
   .rw [v]at this;rw[c];exact this
   .cases hq:flR s.cfg t s4 with
    | error e=>
     rw[hq]at k;exact λQ' f c hs h=>k Q' f c hs (h.o [0] 3)
    | ok q=>
     rw[hq]at k;exact λQ' f hs c hb S h=>k Q' f hs c hb S h
  refine⟨_,h.q 4,_,h.r 6,?_,?_⟩
  .have h:=h.o [2,0,1,3,4,5,6,7] 8;refine sx h n u ?_
   cases m:upR s.now s3 with
   | error e=>
    rw[m]at k;exact λf c h=>k Q _ c (aM.refl Q) (h.o [4] 7)
   | ok q=>
   obtain⟨t,s4⟩:=q;intro L D d i h;refine⟨_,rfl,?_⟩;refine h.al λb3 _ h=>?_
   refine h.st 0 rfl rfl ?_;intro A h;exact j t s4 b3 A m d i (h.o [1,6,0,4,5,7,8,2,3] 9)
  .refine h.al λb4 _ h=>⟨h.r 7,h.q 5,?_⟩
   have h:=h.o [3,0,1,2,4,5,6,7,8] 9;refine sx h n u ?_
   cases m:upR s.now s3 with
   | error e=>
    rw[m]at k;exact λf c h=>k Q _ c (aM.refl Q) (h.o [5] 8)
   | ok q=>
   obtain⟨t,s4⟩:=q;intro L D d i h;refine⟨_,rfl,?_⟩;refine h.st 1 rfl rfl ?_;intro A h;exact j t s4 b4 A m d i (h.o [0,6,1,4,5,7,8,2,3] 9)
 .rw [V5 c]at k;exact k Q _ c (aM.refl Q) (h.o [5] 8)
end
structure PAg where
 rows:List En
 sts:List (Option br)
 fls:FM
def fm(s0:aH):Nat->Rd PAg
 | 0,r=>.ok (⟨s0.rows,s0.sts,[]⟩,r)
 | n+1,r=>match fm s0 n r with
  | .error e=>.error e
  | .ok (x,r1)=>match cG r1 with
   | .error e=>.error e
   | .ok (a,r2)=>match kJ { s0 with rows:=x.rows,sts:=x.sts } a r2 with
    | .error e=>.error e
    | .ok (y,r3)=>.ok (⟨y.1,x.sts.set a.toNat (some y.2.2),mset a y.2.1 x.fls⟩,r3)
def fo(most:Int):Nat->Rd CM
 | 0,r=>.ok ([],r)
 | n+1,r=>match fo most n r with
  | .error e=>.error e
  | .ok (m,r1)=>match jd r1 with
   | .error e=>.error e
   | .ok (o,r2)=>if (jY most m o.1 o.2).2≠0 then .error (jY most m o.1 o.2).2 else .ok ((jY most m o.1 o.2).1,r2)
def eE:Nat->Rd (List Ot)
 | 0,r=>.ok ([],r)
 | n+1,r=>match eE n r with
  | .error e=>.error e
  | .ok (l,r1)=>match jd r1 with
   | .error e=>.error e
   | .ok (o,r2)=>.ok (l++[o],r2)
def kK(c:bD)(bs:List Int):Except Int aH:=match upR 4611686018427387903 ⟨0,bs⟩ with
 | .error e=>.error e
 | .ok (now,r1)=>match upR 1099511627776 r1 with
  | .error e=>.error e
  | .ok (boots,r2)=>match upR 1099511627776 r2 with
   | .error e=>.error e
   | .ok (sunk,r3)=>match upR now r3 with
    | .error e=>.error e
    | .ok (moment,r4)=>match gj r4 with
     | .error e=>.error e
     | .ok (value,r5)=>match dO 64 r5 with
      | .error e=>.error e
      | .ok (n,r6)=>match fm { bT c with now:=now,boots:=boots,sunk:=sunk } n.toNat r6 with
       | .error e=>.error e
       | .ok (x,r7)=>if ¬(moment-c.lag<=value/\value<=moment) then .error 11 else match dO 1024 r7 with
        | .error e=>.error e
        | .ok (m,r8)=>match fo c.cells m.toNat r8 with
         | .error e=>.error e
         | .ok (cm,r9)=>match dZ r9 with
          | .error e=>.error e
          | .ok (k,r10)=>match eE k.toNat r10 with
           | .error e=>.error e
           | .ok (kept,r11)=>if (dF r11).e≠0 then .error (dF r11).e else
            .ok ⟨c,now,boots,sunk,x.rows,⟨c.lag,moment,value,x.fls⟩,cm,x.sts,kept⟩
def pH(c:bD)(bs:List Int):Except Int aH:=if fC c=false then .error 11 else match kK c bs with
 | .error _=>.error 10
 | .ok s=>if stB s=bs then .ok s else .error 10
section
variable {F L:List aE}{H:aC}{K KP:KE}{Q Q':aE}{sb:Nat}{s:aH}
theorem MSet_err{ms:MS}{mb rb ab:Nat}{now value:Int}(b:isT now)(d:1<=ms.lag/\ms.lag<=1099511627776)(c:¬(now-ms.lag<=value/\value<=now))(h:aA H (Ma.markC mb rb ms::F))(k:K (aD 11) H) :
  CF 204 #[PA mb 0,aD now,aD value,.map (some ab)] H K:=by
 refine cN 204 0x1d121561239951d41c [[]] ?_;have e1:i64.wrap (now-ms.lag)=now-ms.lag:=aJ;refine⟨_,Ma.isTime_spec,λ_=>trivial,_,λ_=>h.r 0,?_⟩
 dsimp only
 conv=>whnf
 rw[e1,VS b];refine⟨λ_=>k,λa=>?_⟩
 simp only[Bool.not_true,Yc,VP,VD]at a;exact V6 ⟨by omega,by omega⟩ c
end
structure AgsOk(s0:aH)(x:PAg):Prop where
 rows:fP x.rows
 len:x.sts.length=64
 sts:∀st,some st∈x.sts->lS s0.cfg st
 reg:∀k:Nat,(∃st:br,x.sts[k]?=some (some st))↔∃e:En,x.rows[k]?=some e/\0<e.epoch
 fls:∀p∈x.fls,isAg p.1/\isT p.2.t/\p.2.t<=s0.now
 nd:(aG x.fls).Nodup
theorem Bt{x a b:Int}(h:inM x a b=true):a<=x/\x<=b:=by
 simp only[inM,VB,VA]at h;exact h
theorem oG{m v:Int}{s a:RS}(h:upR m s=.ok (v,a)):0<=v/\v<=m:=by
 unfold upR at h
 cases e:cG s with
 | error e'=>rw[e]at h;cases h
 | ok q=>
  obtain⟨u,s1⟩:=q;rw[e]at h;dsimp only at h
  split at h
  .rename_i h0
   cases h
   exact Bt h0
  .cases h
theorem longR_wf{v:Int}{s a:RS}(h:cG s=.ok (v,a)):aF v:=by
 rw[(ip h).2.1];exact i64in _
theorem strR_ok{c:bD}{s j:RS}{st:br}(ok:jB c)(h:ne c s=.ok (st,j)):lS c st:=by
 unfold ne at h
 cases h1:gj s with
 | error e=>rw[h1]at h;cases h
 | ok q=>
 obtain⟨last,s1⟩:=q;rw[h1]at h;dsimp only at h
 split at h
 .cases h
 rename_i a;have a:=Bt (by simpa using a);unfold nW at h
 cases h2:dZ s1 with
 | error e=>rw[h2]at h;cases h
 | ok q=>
 obtain⟨hd,s2⟩:=q;rw[h2]at h;dsimp only at h
 cases h3:cG s2 with
 | error e=>rw[h3]at h;cases h
 | ok q=>
 obtain⟨streak,s3⟩:=q;have d:=longR_wf h3;rw[h3]at h;dsimp only at h
 cases h4:dO 8 s3 with
 | error e=>rw[h4]at h;cases h
 | ok q=>
 obtain⟨n,s4⟩:=q;rw[h4]at h;dsimp only at h
 cases h5:jt n.toNat s4 with
 | error e=>rw[h5]at h;cases h
 | ok q=>
 obtain⟨l,s5⟩:=q;rw[h5]at h;dsimp only at h;unfold oF at h
 split at h
 .cases h
 rename_i b;have b:=Decidable.not_not.1 b
 cases h6:cG s5 with
 | error e=>rw[h6]at h;cases h
 | ok q=>
 obtain⟨next,s6⟩:=q;rw[h6]at h;dsimp only at h
 split at h
 .cases h
 rename_i k
 cases h7:dO 256 s6 with
 | error e=>rw[h7]at h;cases h
 | ok q=>
 obtain⟨m,s7⟩:=q;rw[h7]at h;dsimp only at h;have f:qQ c.hold (⟨next,c.hold,[]⟩:HS Pv):=⟨⟨by show 0<=next;omega,ok.hd.1,ok.hd.2,⟨by simp[gJ],λp i=>V6 i (by simp)⟩⟩,rfl,by show next<=_;omega,λp i=>V6 i (by simp)⟩
 cases h8:iG ⟨next,c.hold,[]⟩ m.toNat s7 with
 | error e=>rw[h8]at h;cases h
 | ok q=>
 obtain⟨hs,s8⟩:=q;rw[h8]at h
 cases h
 have g:=Bs f h8;unfold aF at d;exact⟨⟨b.1,b.2.2,b.2.1,d.2⟩,rfl,rfl,g.ok,g.most,g.next,g.rows,a⟩
theorem agtR_ok{s0:aH}{x:PAg}{a:Int}{r u:RS}{y:List En×Fl×br}(ok:jB s0.cfg)(c:isT s0.now)(g:AgsOk s0 x)(h:kJ { s0 with rows:=x.rows,sts:=x.sts } a r=.ok (y,u)) :
  AgsOk s0 ⟨y.1,x.sts.set a.toNat (some y.2.2),mset a y.2.1 x.fls⟩:=by
 unfold kJ at h
 cases h1:cG r with
 | error e=>rw[h1]at h;cases h
 | ok q=>
 obtain⟨ep,s1⟩:=q;rw[h1]at h;dsimp only at h
 cases h2:cG s1 with
 | error e=>rw[h2]at h;cases h
 | ok q=>
 obtain⟨bt,s2⟩:=q;rw[h2]at h;dsimp only at h
 cases h3:cG s2 with
 | error e=>rw[h3]at h;cases h
 | ok q=>
 obtain⟨tm,s3⟩:=q;rw[h3]at h;dsimp only at h
 split at h
 .cases h
 rename_i hs;have hs:(gC s0.cfg.agents x.rows a ⟨ep,bt,tm⟩).2=0:=by simpa using hs
 obtain⟨a1,a2,a3,a4,a5⟩:=Lk hs;have d:=setR_ok (most:=s0.cfg.agents) g.rows a ⟨ep,bt,tm⟩
 cases h4:upR s0.now s3 with
 | error e=>rw[h4]at h;cases h
 | ok q=>
 obtain⟨t,s4⟩:=q;have n:=oG h4;rw[h4]at h;dsimp only at h
 cases h5:flR s0.cfg t s4 with
 | error e=>rw[h5]at h;cases h
 | ok q=>
 obtain⟨⟨fl,st⟩,s5⟩:=q;rw[h5]at h
 cases h
 unfold flR at h5
 cases h6:dZ s4 with
 | error e=>rw[h6]at h5;cases h5
 | ok q=>
 obtain⟨v,s6⟩:=q;rw[h6]at h5;dsimp only at h5
 cases h7:ne s0.cfg s6 with
 | error e=>rw[h7]at h5;cases h5
 | ok q=>
 obtain⟨s,s7⟩:=q;rw[h7]at h5
 cases h5
 have i:=strR_ok ok h7;have m:a.toNat<x.sts.length:=by rw[g.len];omega
 have f:a.toNat<x.rows.length:=by rw[g.rows.len];omega
 refine⟨d,by show (x.sts.set _ _).length=64;rw[Y7,g.len],λz b=>?_,λj=>?_,λp k=>?_,oP g.nd⟩
 .rcases Y6 b with b|b
  .exact g.sts z b
  .cases b;exact i
 .dsimp only;rw[a4]
  by_cases e:j=a.toNat
  .subst e;rw[List.getElem?_set_self m,List.getElem?_set_self f];exact⟨λ_=>⟨_,rfl,by show 0<ep;dsimp only at a3;omega⟩,λ_=>⟨_,rfl⟩⟩
  .rw [List.getElem?_set_ne (by omega),List.getElem?_set_ne (by omega)];exact g.reg j
 .rcases nU k with rfl|k
  .have h0:=c.2;exact⟨⟨by show 0<=a;omega,by show a<64;omega⟩,⟨n.1,by show t<=_;omega⟩,n.2⟩
  .exact g.fls p k
theorem Bu{s0:aH}(ok:cR s0):∀{n:Nat} {r b:RS} {x:PAg},fm s0 n r=.ok (x,b)->AgsOk s0 x
 | 0,r,b,x,h=>by
  cases h
  exact⟨ok.rows,ok.len,ok.sts,ok.reg,λp c=>V6 c (by simp),by simp⟩
 | n+1,r,b,x,h=>by
  unfold fm at h
  cases h1:fm s0 n r with
  | error e=>rw[h1]at h;cases h
  | ok q=>
  obtain⟨x1,r1⟩:=q;rw[h1]at h;dsimp only at h
  cases h2:cG r1 with
  | error e=>rw[h2]at h;cases h
  | ok q=>
  obtain⟨a,r2⟩:=q;rw[h2]at h;dsimp only at h
  cases h3:kJ { s0 with rows:=x1.rows,sts:=x1.sts } a r2 with
  | error e=>rw[h3]at h;cases h
  | ok q=>
  obtain⟨y,r3⟩:=q;rw[h3]at h
  cases h
  exact agtR_ok ok.cfg ok.now (Bu ok h1) h3
theorem iRes_b{s:RS}(hb:aI s.bs):aI (dE s).2.bs:=gK hb
theorem Bv{s c:RS}{o:Ot}(hb:aI s.bs)(h:jd s=.ok (o,c)):WC o.2/\ge o.2=true/\(0<=o.1.win/\o.1.win<=4611686018427387903)/\aI c.bs:=by
 unfold jd at h
 cases e:gj s with
 | error e'=>rw[e]at h;cases h
 | ok q=>
  obtain⟨w,s1⟩:=q;rw[e]at h;dsimp only at h;have b:aI s1.bs:=by rw[(ip e).1];exact iRes_b hb
  have t1:=lK (m:=s1.bs.length) b;have t2:=lK (m:=(aZ s1.bs.length s1).2.bs.length) t1.1
  split at h
  .cases h
  split at h
  .cases h
  rename_i a
  split at h
  .cases h
  rename_i d
  cases h
  have a:(!(il (bG (aZ s1.bs.length s1).1)).2.2 || !inM w 0 4611686018427387903)=false:=by simpa only[Bool.not_eq_true] using a
  rw[VP,Wq]at a;exact⟨Tx t2.2,Ty (by simpa using d),Bt (by simpa only[Wq] using a.2),t2.1⟩
structure CelOk(most:Int)(m:CM):Prop where
 sh:dX most m
 win:∀p∈m,0<=p.1.win/\p.1.win<=4611686018427387903
theorem xE{most:Int}(h0:dX most []):∀{n:Nat} {r c:RS} {m:CM},aI r.bs->fo most n r=.ok (m,c)->CelOk most m/\aI c.bs
 | 0,r,c,m,hb,h=>by
  cases h
  exact⟨⟨h0,λp a=>V6 a (by simp)⟩,hb⟩
 | n+1,r,c,m,hb,h=>by
  unfold fo at h
  cases h1:fo most n r with
  | error e=>rw[h1]at h;cases h
  | ok q=>
  obtain⟨m1,r1⟩:=q;rw[h1]at h;dsimp only at h;have b:=xE h0 hb h1
  cases h2:jd r1 with
  | error e=>rw[h2]at h;cases h
  | ok q=>
  obtain⟨o,r2⟩:=q;rw[h2]at h;dsimp only at h;have d:=Bv b.2 h2
  split at h
  .cases h
  rename_i hs
  cases h
  refine⟨⟨setS_ok b.1.sh d.1 (by unfold aF;omega),λp a=>?_⟩,d.2.2.2⟩
  unfold jY at a
  split at a
  .exact b.1.win p a
  split at a
  .exact b.1.win p a
  split at a
  .exact b.1.win p a
  rcases nU a with rfl|a
  .exact d.2.2.1
  .exact b.1.win p a
theorem xF:∀{n:Nat} {r c:RS} {l:List Ot},aI r.bs->eE n r=.ok (l,c)->(∀o∈l,WC o.2)/\aI c.bs
 | 0,r,c,l,hb,h=>by
  cases h
  exact⟨λo b=>V6 b (by simp),hb⟩
 | n+1,r,c,l,hb,h=>by
  unfold eE at h
  cases h1:eE n r with
  | error e=>rw[h1]at h;cases h
  | ok q=>
  obtain⟨l1,r1⟩:=q;rw[h1]at h;dsimp only at h;have d:=xF hb h1
  cases h2:jd r1 with
  | error e=>rw[h2]at h;cases h
  | ok q=>
  obtain⟨o,r2⟩:=q;rw[h2]at h
  cases h
  have b:=Bv d.2 h2;refine⟨λx a=>?_,b.2.2.2⟩
  rcases VV.1 a with a|a
  .exact d.1 x a
  .rw [VI]at a;rw[a];exact b.1
section
variable {F L:List aE}{H:aC}{K KP:KE}{Q Q':aE}{sb:Nat}{s:aH}
theorem U0{b1 b2:Nat}{e v1:Int}{v:KQ}{d:FrameMode->aC->Prop}(j:e≠0)(h:aA H (cellsA b1 [.pointer v] 40::cellsA b2 [aD v1] 50::F))
  (k:∀a,aA a (cellsA b1 [.pointer none] 40::cellsA b2 [aD 10] 50::F)->d (bi (pnV e) true) a):cC Tryz.prog 196 [(PA b1 0),(PA b2 0)] (bi (pnV e) false) H d:=by
 have hd:cC Tryz.prog 196 [(PA b1 0),(PA b2 0)] (bi (pnV e) false) H λc a=>c=bi (pnV e) true/\aA a (cellsA b1 [.pointer none] 40::cellsA b2 [aD 10] 50::F):=by
  refine rO.defq (.inr ⟨rfl,rfl⟩) ?_;unfold rO.code;refine JK ⟨_,rfl,?_⟩;intro x n;refine⟨λ_=>?_,λm=>V6 m (by simpa using j)⟩
  refine h.st 0 rfl rfl ?_;intro y h;refine h.st 1 rfl rfl ?_;intro u h;refine n _ ?_
  skip
  exact h
 intro w i;refine (hd w i).mono λf s t b=>?_
 cases f <;> simp only at b ⊢
 exact⟨b.1,b.2.1▸k _ b.2.2⟩
theorem U1{b1 b2:Nat}{d:FrameMode->aC->Prop}(h:aA H F)
  (k:∀a,aA a F->d .returning a):cC Tryz.prog 196 [(PA b1 0),(PA b2 0)] .returning H d:=by
 have hd:cC Tryz.prog 196 [(PA b1 0),(PA b2 0)] .returning H λc a=>c=.returning/\aA a F:=by
  refine rO.defq (.inl ⟨rfl,rfl,rfl⟩) ?_;unfold rO.code;refine JJ ⟨_,rfl,?_⟩;intro s j;refine⟨λi=>V6 i (by simp),λ_=>j _ ?_⟩
  skip
  exact h
 intro w f;refine (hd w f).mono λe m n b=>?_
 cases e <;> simp only at b ⊢
 exact⟨b.1,b.2.1▸k _ b.2.2⟩
end
end Go.Proofs.YtaaieblnikcndaaGreatDoor
