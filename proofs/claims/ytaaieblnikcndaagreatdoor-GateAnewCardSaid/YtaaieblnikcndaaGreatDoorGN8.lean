/-
  Lemmas for GateAnew: part 8 of what it rests on. Conditions: none.
-/
import Derived.Test.YtaaieblnikcndaaGreatDoorGN7
set_option linter.unusedVariables false
set_option linter.unusedSimpArgs false
set_option maxRecDepth 100000
set_option maxHeartbeats 16000000
open Go.IntKind (i64 u64 i8 u8 i32 u32 i16 u16)
namespace Go.Proofs.YtaaieblnikcndaaGreatDoor
open Go
section
variable {F L:List aE}{H:aD}{K KP:KE}{Q:aE}
theorem TG(s:RS):(aY 4096 s).1.length<=4096:=by
 unfold aY
 split
 .simp
 .split
  .split
   .simp
   .split
    .simp
    .rw [VU];omega
  .simp
  .simp
theorem evsQ_len{s b:RS}{l:List Pv}(h:mM s=.ok (l,b)):l.length<=64:=by
 unfold mM at h
 split at h
 .cases h
 .rename_i n s1 a;have:=AR h;unfold dM okR at a
  split at a
  .cases a
  .cases a
   have:=AQ s;omega
theorem K5:∀{n:Nat} {s c:RS} {l:List Pv},j8 n s=.ok (l,c)->∀e∈l,fx e.name e.labs=true
 | 0,s,c,l,h=>by cases h;simp
 | n+1,s,c,l,h=>by
  unfold j8 at h
  split at h
  .cases h
  .rename_i i s1 f
   split at h
   .cases h
   .rename_i v s2 b
    cases h
    intro e a
    rcases VR.1 a with a|a
    .exact K5 f e a
    .rw [VE]at a;subst a;unfold evQ okR at b
     split at b
     .cases b
     .rename_i d
      cases b
      exact Jj (by simpa using d)
theorem TH{s a:RS}{l:List Pv}(h:mM s=.ok (l,a)):∀e∈l,e.labs.length<=1000000:=by
 unfold mM at h
 split at h
 .cases h
 .intro e b;have:=(mI (K5 h e b)).len;omega
theorem TJ{a:KQ}{c:Nat}{bs:List Int}(h:aA H (Q::F))(ha:∀H,aA H (Q::F)->aP H a (bs.map U8))(hb:aH bs)(hl:bs.length<=1099511627776)
  (k:QPost Q F K (nR bs)):CF 80 #[.slice a bs.length c] H K:=by
 refine Pe ?_;refine h.al λb _ h=>?_
 refine h.al λb1 _ h=>?_
 have pan:∀e Q' J cs v1,nR bs=.error e->e≠0->aM Q Q'->cs.length=14->aA J (cellsA b1 [aC v1] 50::cellsA b cs 81::Q'::F)->
   bJ 167 X.calls=true/\cC Tryz.prog 167 (dt b 0 b1 0) (bi (pnF e) false) J λu H_=>u=bi (pnF e) true/\mt H_ b 0 λl=>aO H_ b1 0 λl5=>K (eA (.agg ⟨l⟩) l5) H_:=by
  intro e Q' J cs v1 w d hs j2 h;refine⟨rfl,Th j2 h λH2 h=>⟨rfl,_,_,_,_,_,_,_,_,_,_,_,_,_,_,_,_,_,_,_,_,h.q 1,_,h.r 0,?_⟩⟩
  rw[w]at k;exact k Q' _ d hs h.tl.tl
 refine rR h (λH h=>ha H h.tl.tl) hl λrb H2 h=>⟨_,rfl,?_⟩
 refine Td h hb hl ?_;unfold nR at k pan
 cases hr0:pz ⟨0,bs⟩ with
 | error e=>
  rw[hr0]at pan;exact λJ d h=>pan _ Q _ _ _ rfl d (aM.refl Q) rfl h
 | ok p=>
 obtain⟨n,s1⟩:=p;rw[hr0]at pan k;dsimp only at pan k;have hkd:=kindR_ok hr0;intro H4 l0 r0 r9 h;refine⟨_,rfl,?_⟩;refine h.st 2 rfl rfl ?_;intro H5 h;have h:aA H5 (crdA rb s1::cellsA b1 [aC 0] 50::cellsA b (cG { kind:=n } {}) 81::Q::F):=h;refine xb (k0:=n) h 2 rfl rfl λp pc H6 _ h=>⟨_,_,_,rfl,?_⟩
 have ho:=xa n;refine⟨λi J=>∃(j:Nat) (U:List Int) (s2:RS),i=j/\j<=(aV n).length/\jc j s1=.ok (U,s2)/\s2.e=0/\aH s2.bs/\s2.bs.length<=1099511627776/\
  aA J (crdA rb s2::slA 297 1 p (aV n).length pc ((aV n).map λi=>PA b i)::cellsA b1 [aC 0] 50::cellsA b (cG (jd { kind:=n } ((aV n).take j) U) {}) 81::Q::F),
  λi _=>(aV n).length-i.toNat,⟨0,[],s1,rfl,by omega,rfl,l0,r0,r9,h.o [1,0,2,3,4] 5⟩,?_⟩
 rintro i H7 ⟨j,U,s2,rfl,hj,V,he2,L,N,h⟩;have hvl:=AM V;refine⟨λs=>?_,λs=>?_⟩
 .have s:j<(aV n).length:=by have:=V4 s;omega
  have h2:=(h.sl_rd 1 rfl).at s;have hi:=AJ _ (VF s);refine⟨by omega,_,_,h2.1,_,h2.2,?_⟩;refine nK h L N λH8 h=>⟨_,rfl,cZ ?_⟩
  have G:=gL L;have O:=jQ s2;refine h.st 3 rfl (Nat.ble_eq_true_of_le (by show (aV n)[j]+1<=14;omega)) ?_;intro H9 h;refine⟨_,mA h,?_⟩;have E:jc (j+1) s1=match cH s2 with|.error e=>.error e|.ok (v,s2)=>.ok (U++[v],s2):=by
   rw[jc,V] <;> rfl
  unfold cH okR at E;refine sC (λe=>⟨rfl,?_⟩) λe=>?_
  .rw [V0 (by simpa using e)]at E;dsimp only at E;have hw:i64.wrap ((j:Int)+1)=((j+1:Nat):Int):=by rw[aK];omega
   refine⟨⟨j+1,_,(bM s2).2,hw,s,E,e,G,by omega,?_⟩,by rw[hw];dsimp only;omega⟩;rw[Wj s,JQ (by rw[VU];omega)];have h:aA H9 (crdA rb (bM s2).2::slA 297 1 p (aV n).length pc ((aV n).map λi=>PA b i)::cellsA b1 [aC 0] 50::cellsA b (cv (cG (jd { kind:=n } ((aV n).take j) U) {}) (0+(aV n)[j]) [aC (i64.wrap ((bM s2).1:Int))]) 81::Q::F):=by
    rw[VQ];exact h
   rw[VQ,encQ_set hi.1 hi.2]at h;exact h
  .rw [V1 e]at E;rw[AN E s]at pan;exact pan _ Q _ _ _ rfl e (aM.refl Q) (oe ..) (h.o [2,3] 4)
 have j1:j=(aV n).length:=by have:=V5 s;omega
 subst j1;rw[V]at pan k;dsimp only at pan k;rw[Wf]at h;have C:∀x:QA,(n≠5->x.ea=none/\x.ec=0)->(n≠8->x.la=none/\x.lc=0/\x.da=none/\x.dc=0)->(jd { kind:=n } (aV n) U).Sh x:=λx I M=>numF_sh I M
 obtain⟨a1,a2,a3,a4,a5⟩:=xd (aV n) U { kind:=n };obtain⟨f,hf⟩:∃f,jd { kind:=n } (aV n) U=f:=⟨_,rfl⟩;rw[hf]at k pan h a1 a2 a3 a4 a5;rw[hf]at C;refine⟨_,h.r 3,?_⟩;intro Jn hJ;have fin:∀(Q':aE) (g:Fq) (x:QA) (evs:List Ev) (s4:RS) J,mN f s2=.ok (g,s4)->aM Q Q'->(∀e∈evs,io Q' e)->g.evs=evs.map Ev.p->evs.length<=64->aH s4.bs->s4.bs.length<=1099511627776->g.Sh x->(∀e∈evs,e.labs.length<=1000000)->
   g.sl.length<=1000000->g.data.length<=1000000000->(x.da=none\/∃k o,x.da=some ⟨k,o,none⟩)->
   ∀A B:aE,(∀H F,aA H (A::F)->aP H x.la (flat dg g.sl))->(∀H F,aA H (B::F)->aP H x.da (g.data.map U8))->
   aA J (crdA rb s4::slA 99 4 x.ea evs.length x.ec (flat cw evs)::cellsA b1 [aC 0] 50::cellsA b (cG g x) 81::Q'::A::B::F)->Jn J:=by
  intro Q' g x evs s4 h3 t y P D h0 hb4 hl4 Z u8 l6 h1 h6 A B hA hB h;rw[t]at pan k;unfold endQ at pan k;dsimp only at pan k;refine hJ _ ?_;refine wu h λy2 h=>⟨_,rfl,?_⟩
  refine sC (λd=>⟨rfl,?_⟩) λd=>?_
  .rw [V0 (by simpa using d)]at pan k;refine⟨_,_,_,_,_,_,_,_,_,_,_,_,_,_,_,_,_,_,_,_,h.q 3,?_⟩;have y3:lP (crdA rb (dF s4)::slA 99 4 x.ea evs.length x.ec (flat cw evs)::cellsA b1 [aC 0] 50::cellsA b (cG g x) 81::Q'::A::B::F) x.ea evs:=
    ⟨λH h=>h.sl_rd 1 rfl,λe d H h=>(P e d).at h 4 rfl⟩
   have hQ:lQ (crdA rb (dF s4)::slA 99 4 x.ea evs.length x.ec (flat cw evs)::cellsA b1 [aC 0] 50::cellsA b (cG g x) 81::Q'::A::B::F) g x evs:=
    ⟨D,y3,λH h=>hA H _ (h.o [5] 7),λH h=>hB H _ (h.o [6] 7),h6,Z,by omega,u8,l6,h1⟩
   refine JD h hQ λr8 h=>⟨_,rfl,?_⟩
   intro h7 R;refine⟨λw=>?_,λw=>R _ ?_⟩
   .rw [V0 (by simpa using w)]at pan;exact pan _ Q' _ _ _ rfl (by decide) y rfl (h.o [2,3,4] 7)
   .rw [V1 (by simpa using w)]at k;refine⟨_,_,_,_,_,_,_,_,_,_,_,_,_,_,_,_,_,_,_,_,h.q 3,?_⟩;refine h.st 3 rfl rfl ?_;intro H13 h;refine h.st 2 rfl rfl ?_;intro H14 h;have h:=h.o [2,3,4,1] 7;refine⟨rfl,Ti h λH15 h=>⟨rfl,_,_,_,_,_,_,_,_,_,_,_,_,_,_,_,_,_,_,_,_,h.q 1,_,h.r 0,?_⟩⟩
    exact k Q' x evs _ y D P Z h.tl.tl
  .rw [V1 d]at pan;exact pan _ Q' _ _ _ rfl d y rfl (h.o [2,3,4] 7)
 have T:∀(H:aD) (F:List aE),aA H (emp::F)->aP H none (flat dg []):=λH F _=>iu H none
 have S:∀(H:aD) (F:List aE),aA H (emp::F)->aP H none (([]:List Int).map U8):=λH F _=>iu H none
 refine⟨λI=>?_,λI=>?_⟩
 .have I:f.kind=5:=V4 I;have t:mN f s2=match mM s2 with|.error e=>.error e|.ok (l,s')=>.ok ({ f with evs:=l },s'):=by unfold mN;rw[V1 I] <;> rfl
  have h:=h.o [4,0,2,3] 5;refine Te h L N ?_
  cases w:mM s2 with
  | error e=>
   rw[w]at t;exact λQ' J d hs h=>pan _ Q' _ _ _ (by rw[t];rfl) d hs rfl (h.o [1,2,0] 3)
  | ok q=>
  obtain⟨l,s3⟩:=q;rw[w]at t;dsimp only at t;have h0:=evsQ_len w;have W:=TH w;intro Q' evs a c H8 y D P h4 G O h;refine⟨_,_,_,rfl,?_⟩;refine h.st 4 rfl rfl ?_;intro H9 h;have j3:l.length=evs.length:=by rw[D,VH]
  obtain⟨e1,e2,e3⟩:=(C {} (λ_=>⟨rfl,rfl⟩) (λ_=>⟨rfl,rfl,rfl,rfl⟩)).em (by omega)
  refine fin Q' { f with evs:=l } { ea:=a,ec:=c } evs s3 _ t y P D (by omega) G O ?_ (λe d=>?_) (by dsimp only;rw[a4];simp) (by dsimp only;rw[a5];simp) (.inl rfl) emp emp (by dsimp only;rw[a4];exact T) (by dsimp only;rw[a5];exact S) ?_
  .exact⟨λh=>V2 I h,λ_=>⟨a3,a4,rfl,rfl,a5,rfl,rfl⟩,(C {} (λ_=>⟨rfl,rfl⟩) (λ_=>⟨rfl,rfl,rfl,rfl⟩)).nm⟩
  .exact W e.p (by rw[D];exact List.mem_map_of_mem d)
  .have e:cG { f with evs:=l } { ea:=a,ec:=c }=cv (cG f {}) 10 [.slice a evs.length c]:=by unfold cG;dsimp only;rw[j3];rfl
   rw[e];have h:=h.o [1,2,3,4,0] 5;have h:=(lV (lV h)).o [2,3,4,5,6,0,1] 7;exact h
 have I:¬f.kind=5:=V5 I;intro h7 R;obtain⟨e1,e2,e3⟩:=(C {} (λ_=>⟨rfl,rfl⟩) (λ_=>⟨rfl,rfl,rfl,rfl⟩)).ev (by rw[a1]at I;rw[a1];exact I)
 refine⟨λM=>?_,λM=>R _ ?_⟩
 .have M:f.kind=8:=V4 M;have t:mN f s2=match serQ s2 with|.error e=>.error e|.ok (x,s1)=>okR (aY 4096 s1).2 { f with sn:=x.1,sl:=x.2,data:=(aY 4096 s1).1 }:=by unfold mN;rw[V0 I,V1 M] <;> rfl
  refine JP h L N ?_
  cases w:serQ s2 with
  | error e=>
   rw[w]at t;exact λJ d h=>pan _ Q _ _ _ (by rw[t];rfl) d (aM.refl Q) rfl (h.o [1,2,3] 4)
  | ok q=>
  obtain⟨⟨nm,labs⟩,s3⟩:=q;rw[w]at t;dsimp only at t;unfold okR at t;have Y:labs.length<=1000000:=by
   unfold serQ okR at w
   split at w
   .cases w
   .rename_i hz
    cases w
    have:=(mI (Jj (by simpa using hz))).len;omega
  intro a c H8 h4 G O h;dsimp only at h;refine⟨_,_,_,_,rfl,?_⟩;refine h.st 4 rfl rfl ?_;intro H9 h;have hd:=lJ (m:=4096) G;have h1:=TG s3;have hdn:=mC s3 4096;refine nJ h G O (by unfold aF;decide) λh3 h=>⟨_,rfl,?_⟩
  refine wo hd.2 h λta tc y2 h=>⟨_,_,_,rfl,?_⟩
  have h9:=ua h;refine h.st 5 rfl rfl ?_;intro r8 h;refine⟨_,mA (h.o [1,0,2,3,4,5,6] 7),?_⟩;refine sC (λd=>⟨rfl,R _ ?_⟩) λd=>?_
  .rw [V0 (by simpa using d)]at t;refine fin Q { f with sn:=nm,sl:=labs,data:=(aY 4096 s3).1 } { la:=a,lc:=c,da:=ta,dc:=tc } [] (aY 4096 s3).2 _ t (aM.refl Q) (λe d=>V2 d (by simp)) (by dsimp only;rw[e1];rfl) (by simp) hd.1 (by omega)
    ⟨λ_=>⟨e1,rfl,rfl⟩,λh=>V2 M h,(C {} (λ_=>⟨rfl,rfl⟩) (λ_=>⟨rfl,rfl,rfl,rfl⟩)).nm⟩ (λe d=>V2 d (by simp)) Y (by dsimp only;omega) h9
    (slA 421 2 a labs.length c (flat dg labs)) (slA 5 1 ta (aY 4096 s3).1.length tc ((aY 4096 s3).1.map U8)) (λH F h=>h.sl_rd 0 rfl) (λH F h=>h.sl_rd 0 rfl) ?_
   have e:cG { f with sn:=nm,sl:=labs,data:=(aY 4096 s3).1 } { la:=a,lc:=c,da:=ta,dc:=tc }=cv (cv (cG f {}) 11 [.string nm,.slice a labs.length c]) 13 [.slice ta (aY 4096 s3).1.length tc]:=rfl;rw[e];have h:=h.o [1,4,5,6,2,0] 7;exact (h.sl_nil 99 4).o [1,0,2,3,4,5,6] 7
  .rw [V1 d]at t;exact pan _ Q _ _ _ (by rw[t];rfl) d (aM.refl Q) (by rw[oe,oe];rfl) (h.o [4,5,6] 7)
 .have M:¬f.kind=8:=V5 M;have t:mN f s2=.ok (f,s2):=by unfold mN;rw[V0 I,V0 M]
  have hs:=C {} (λ_=>⟨rfl,rfl⟩) (λ_=>⟨rfl,rfl,rfl,rfl⟩)
  refine fin Q f {} [] s2 _ t (aM.refl Q) (λe d=>V2 d (by simp)) (by rw[e1];rfl) (by simp) L N hs (λe d=>V2 d (by simp)) (by rw[a4];simp) (by rw[a5];simp) (.inl rfl) emp emp (by rw[a4];exact T) (by rw[a5];exact S) ?_
  have h:=h.o [0,2,3,4] 5;exact (lV (lV (h.sl_nil 99 4))).o [3,2,4,5,6,0,1] 7
def fJ(bs:List Int):Except Int Fq:=if 65536<bs.length then .error 17 else if (dW bs).1≠0 then .error (dW bs).1 else nR (dW bs).2
theorem Bf{a:KQ}{c:Nat}{bs:List Int}(h:aA H (Q::F))(A:∀H,aA H (Q::F)->aP H a (bs.map U8))(hb:aH bs)(i:bs.length<=c)
  (k:QPost Q F K (fJ bs)):CF 28 #[.slice a bs.length c] H K:=by
 refine cM 28 119260 ?_;refine h.al λb _ h=>⟨λm=>?_,λm=>?_⟩
 .have m:=V4 m;have e:fJ bs=.error 17:=by unfold fJ;rw[pO]
  rw[e]at k;refine h.st 0 rfl rfl λv h=>⟨_,_,_,_,_,_,_,_,_,_,_,_,_,_,_,_,_,_,_,_,h.q 0,?_⟩
  exact k Q _ (by decide) (aM.refl Q) h.tl
 have m:=V5 m;refine GB h (λH h=>A H h.tl) hb (by omega) i (λC D p v d h=>?_) λe v j d h=>?_
 .refine⟨_,_,_,_,rfl,λi=>V2 i (by simp),λ_=>?_⟩
  have B:p.length<=bs.length:=by
   have:=congrArg List.length (zL d);rw[rY]at this;omega
  have t:aH p:=by have:=wB hb;rwa[d]at this
  have e:fJ bs=nR p:=by unfold fJ;rw[nO,d];rfl
  rw[e]at k;have h:=h.o [2,0,1] 3;refine TJ h (λH h=>h.sl_rd 1 rfl) t (by omega) ?_
  cases hp:nR p with
  | error e=>
   rw[hp]at k;intro Q' y j hs h;refine⟨_,_,_,_,_,_,_,_,_,_,_,_,_,_,_,_,_,_,_,_,_,rfl,?_⟩;refine h.st 2 rfl rfl λu h=>⟨_,_,_,_,_,_,_,_,_,_,_,_,_,_,_,_,_,_,_,_,h.q 2,?_⟩
   exact k Q' _ j hs (h.o [0] 3)
  | ok f=>
   rw[hp]at k;intro Q' x evs y hs s w n h;refine⟨_,_,_,_,_,_,_,_,_,_,_,_,_,_,_,_,_,_,_,_,_,rfl,?_⟩;refine h.st 3 rfl rfl λu h=>⟨_,_,_,_,_,_,_,_,_,_,_,_,_,_,_,_,_,_,_,_,h.q 3,?_⟩
   exact k Q' x evs _ hs s w n (h.o [0,1] 4)
 .refine⟨_,_,_,_,rfl,λ_=>?_,λi=>V2 (by simpa using i) j⟩
  have e2:fJ bs=.error e:=by unfold fJ;rw[nO,d,V1 j]
  rw[e2]at k;refine h.st 0 rfl rfl λu h=>⟨_,_,_,_,_,_,_,_,_,_,_,_,_,_,_,_,_,_,_,_,h.q 0,?_⟩
  exact k Q _ j (aM.refl Q) h.tl
end
section
variable {F L:List aE}{H:aD}{K KP:KE}{Q Q':aE}{sb:Nat}{s:aI}
theorem TK(h:aA H (stA Q sb s::F)):bV Tryz.prog 34 #[PA sb 0] H (aC s.now):=by
 obtain⟨p,h⟩:=cX.1 h;exact cM 34 28 ⟨_,h.r 0,rfl,rfl⟩
theorem Bg(h:aA H (stA Q sb s::F)):bV Tryz.prog 29 #[PA sb 0] H (aC s.boots):=by
 obtain⟨p,h⟩:=cX.1 h;exact cM 29 28 ⟨_,h.r 0,rfl,rfl⟩
theorem TM(h:aA H (stA Q sb s::F)):bV Tryz.prog 106 #[PA sb 0] H (aC s.sunk):=by
 obtain⟨p,h⟩:=cX.1 h;exact cM 106 28 ⟨_,h.r 0,rfl,rfl⟩
theorem TN(d:s.kept.length<=1000000)(h:aA H (stA Q sb s::F))
  (k:∀a c b,aA b (slA 164 74 a s.kept.length c (flat cI s.kept)::stA Q sb s::F)->K (.slice a s.kept.length c) b):CF 104 #[PA sb 0] H K:=by
 obtain⟨p,h⟩:=cX.1 h;refine cM 104 28 ⟨_,_,_,h.r 0,?_⟩;refine Jy h (λH h=>h.sl_rd 8 rfl) d λe f b h=>⟨_,_,_,rfl,k _ _ _ ?_⟩
 have h:=h.o [1,2,3,4,5,6,7,8,9,0] 10;have h:=cX.2 ⟨p,h⟩;exact h.o [1,0] 2
theorem K6{k:Nat}{st:br}(a:s.sts[k]?=some (some st)):s.sts.set k (some st)=s.sts:=by
 have b:k<s.sts.length:=(List.getElem?_eq_some_iff.1 a).1;have:s.sts[k]=some st:=by rw[List.getElem?_eq_getElem b]at a;exact Option.some.inj a
 rw[<-this,WN]
theorem K7{a:Int}{st:br}(h:dP s a=some st):0<=a/\s.sts[a.toNat]?=some (some st):=by
 unfold dP at h
 split at h
 .cases h
 .refine⟨by omega,?_⟩
  cases e:s.sts[a.toNat]? with
  | none=>rw[e]at h;simp at h
  | some x=>
   rw[e]at h
   cases x with
   | none=>simp at h
   | some y=>simp at h;rw[h]
theorem Bh{st:br}(a:lS s.cfg st):∀q∈st.hs.rows,aF q.1:=λq b=>by
 have d:=(a.rows q b).1;have e:=(a.hs.rows.inb q b).1;have c:=a.hs.next0;unfold aF;omega
theorem Bi{st:br}(a:lS s.cfg st):st.hs.rows.length<=256:=by
 have b:=a.hs.rows.length;have c:=a.hs.most2;omega
theorem TO{a:Int}(ok:cR s)(h:aA H (stA Q sb s::F))(k:∀n,aA n (stA Q sb s::F)->K (.tuple #[.agg ⟨encA (lh s a).1⟩,.bool (lh s a).2]) n) :
  CF 75 #[PA sb 0,aC a] H K:=by
 refine OR ?_;refine h.al λb _ h=>?_
 have h:=h.o [1,0] 2;obtain⟨p,h⟩:=cX.1 h;refine⟨_,h.r 0,?_⟩;have h:=h.o [1,2,0,3,4,5,6,7,8,9] 10;refine Ro.Of_spec ok.rows (agent:=a) h λA h=>⟨_,_,_,_,rfl,?_⟩
 refine h.al λb1 _ h=>?_
 refine h.st 0 rfl rfl ?_;intro B h;unfold lh at k;refine⟨λj=>?_,λj=>?_⟩
 .rw [V0 (by simpa using j)]at k;refine h.st 10 rfl rfl ?_;intro x h;refine⟨_,_,_,_,_,_,_,_,_,_,_,h.q 10,?_⟩;have h:=h.o [3,1,2,4,5,6,7,8,9] 11;exact k _ (cX.2 ⟨p,h⟩)
 have u:0<(bg s.rows a).epoch:=by simpa using j
 rw[V1 u]at k;obtain⟨m,st,d⟩:=ok.str u;rw[xt m d]at k;dsimp only at k;have i:((a.toNat:Nat):Int)=a:=by omega
 have c:=ok.sts st (Wg d);refine⟨_,h.r 3,?_⟩;have h:=h.o [4,5,0,1,2,3,6,7,8,9,10] 11;refine Ma.Of_spec (a:=a) h λx h=>⟨_,_,_,_,_,rfl,?_⟩
 refine h.al λb2 _ h=>?_
 refine h.st 0 rfl rfl ?_;intro y h;have h:=h.o [9,0,1,2,3,4,5,6,7,8,10,11] 12;obtain⟨w,bl,e,h⟩:=qK h d;have h:=h.o [1,0,2,3,4,5,6,7,8,9,10,11,12,13] 14;obtain⟨cb,hb,h⟩:=gW.1 h;have f:=qL e h 3 rfl;rw[i]at f;have t:=Bi c;refine⟨_,h.r 11,_,f,_,_,_,h.q 8,_,_,_,_,h.q 5,cZ ⟨_,h.r 0,cZ ⟨_,h.r 0,_,uq (h.o [2] 3),cZ ⟨_,h.r 0,cZ ⟨_,h.rd 0 rfl 0,?_⟩⟩⟩⟩⟩;have h:=h.o [2,0,1,3,4,5,6,7,8,9,10,11,12,13,14,15] 16;refine AE h c.hs.rows.rising (Bh c) (by omega) λE wc D h=>⟨_,_,_,rfl,h.rd 2 rfl 0,h.r 2,h.q 6,h.q 9,?_⟩
 have h:=h.o [3,0,1,2,4,5,6,7,8,9,10,11,12,13,14,15,16] 17;have v:=c.ck.len;refine Ad h (by omega) λG I J h=>⟨_,_,_,rfl,h.r 4,h.q 7,h.q 10,?_⟩
 refine h.st 17 rfl rfl ?_;intro C h;refine⟨_,_,_,_,_,_,_,_,_,_,_,h.q 17,k _ ?_⟩;have h:=h.o [4,1,3,5,6,13,11,12,8,9,14,15,16] 18;have h:=gW.2 ⟨cb,hb,h⟩;have h:=h.o [1,0,2,3,4,5,6,7,8,9,10] 11;have h:=sE e h;rw[K6 d]at h;exact cX.2 ⟨p,h.o [1,2,3,4,5,6,7,0,8] 9⟩
end
structure Ou where
 kind:Int
 ag:Int:=0
 num:Int:=0
 ida:Int:=0
 ide:Int:=0
 seq:Int:=0
 reason:Int:=0
 win:Int:=0
 lo:Int:=0
 hi:Int:=0
 bs:List Int:=[]
structure Oy where
 o:Ou
 a:KQ
 c:Nat
abbrev bH(y:Oy):Os:=[aB y.o.kind,aB y.o.ag,aB y.o.num,aB y.o.ida,aB y.o.ide,aB y.o.seq,aB y.o.reason,aB y.o.win,aB y.o.lo,aB y.o.hi,.slice y.a y.o.bs.length y.c]
theorem jB(y:Oy):(bH y).length=11:=rfl
theorem pE(y:Oy):cT (bH y)=true:=rfl
structure fK(Q:aE)(y:Oy):Prop where
 kin:KIn Q y.a (y.o.bs.map U8)
 cap:y.o.bs.length<=y.c
theorem fK.sub{Q Q':aE}{y:Oy}(h:fK Q y)(hs:aM Q Q'):fK Q' y:=⟨h.kin.sub hs,h.cap⟩
structure Fq.Bare(f:Fq):Prop where
 k5:f.kind≠5
 k8:f.kind≠8
 evs:f.evs=[]
 sn:f.sn=⟨#[]⟩
 sl:f.sl=[]
 data:f.data=[]
 nm:∀i,1<=i->i<=9->i∉aV f.kind->f.nums i=0
theorem Fq.Bare.rd{f:Fq}(h:f.Bare)(F:List aE):lQ F f {} []:=by
 refine⟨by rw[h.evs];rfl,⟨λH _=>iu H none,λe a=>V2 a (by simp)⟩,λH _=>by rw[h.sl];exact iu H none,λH _=>by rw[h.data];exact iu H none,.inl rfl,
  ⟨λ_=>⟨h.evs,rfl,rfl⟩,λ_=>⟨h.sn,h.sl,rfl,rfl,h.data,rfl,rfl⟩,h.nm⟩,by simp,λe a=>V2 a (by simp),by rw[h.sl];simp,by rw[h.data];simp⟩
def mU(ag ep bt:Int):Fq:={ kind:=2,ag:=ag,ep:=ep,bt:=bt }
def mV(ag ep next:Int):Fq:={ kind:=6,ag:=ag,ep:=ep,next:=next }
def dT(ag bt ct:Int):Fq:={ kind:=3,ag:=ag,bt:=bt,ct:=ct }
theorem nine{i:Nat}(a:1<=i)(b:i<=9):i=1\/i=2\/i=3\/i=4\/i=5\/i=6\/i=7\/i=8\/i=9:=by omega
theorem TS(ag ep bt:Int):(mU ag ep bt).Bare:=⟨show (2:Int)≠5 by decide,show (2:Int)≠8 by decide,rfl,rfl,rfl,rfl,λi b a h=>by
 rcases nine b a with rfl|rfl|rfl|rfl|rfl|rfl|rfl|rfl|rfl <;> first|rfl|exact V2 (show _∈aV 2 by decide) h⟩
theorem TT(ag ep next:Int):(mV ag ep next).Bare:=⟨show (6:Int)≠5 by decide,show (6:Int)≠8 by decide,rfl,rfl,rfl,rfl,λi b a h=>by
 rcases nine b a with rfl|rfl|rfl|rfl|rfl|rfl|rfl|rfl|rfl <;> first|rfl|exact V2 (show _∈aV 6 by decide) h⟩
theorem TU(ag bt ct:Int):(dT ag bt ct).Bare:=⟨show (3:Int)≠5 by decide,show (3:Int)≠8 by decide,rfl,rfl,rfl,rfl,λi b a h=>by
 rcases nine b a with rfl|rfl|rfl|rfl|rfl|rfl|rfl|rfl|rfl <;> first|rfl|exact V2 (show _∈aV 3 by decide) h⟩
def gY(f:Fq):Ou:={ kind:=1,ag:=f.ag,bs:=cA f }
def pF(o:Ot):Fq:={ kind:=8,win:=o.1.win,sn:=(im o.1.ser).1,sl:=(im o.1.ser).2.1,data:=dm o.2 }
def jC(num:Int)(o:Ot):Ou:={ kind:=3,num:=num,bs:=cA (pF o) }
def cK(e:bI):List Ou:=if e.kind=1 then [gY (mU e.agent e.epoch e.boot)] else if e.kind=2 then [gY (mV e.agent e.epoch e.next)] else
 if e.kind=3 then [{ kind:=2,ida:=e.ida,ide:=e.ide,seq:=e.seq,reason:=e.reason,win:=e.win,lo:=e.gap.lo,hi:=e.gap.hi }] else if e.kind=4 then [jC e.number e.out] else []
theorem TV(t:Fa):(im t).2.1.length<=8:=by
 unfold im
 split
 .split
  .split
   .simp
   .split
    .rename_i a;exact (mI a).len
    .simp
  .simp
 .split <;> simp
theorem slOy:SlT Tryz.prog 46 91 11 104:=iP (by kernel_rfl)
section
variable {F L:List aE}{H:aD}{K:KE}{Q:aE}
theorem Bj{f:Fq}(r:f.Bare)(h:aA H F)(k:∀a c d,aA d (slA 5 1 a (cA f).length c ((cA f).map U8)::F)->K (.agg ⟨bH ⟨gY f,a,c⟩⟩) d) :
  CF 78 #[.agg ⟨cG f {}⟩] H K:=by
 refine cM 78 284 ?_;refine h.al λb _ h=>?_
 refine h.al λb1 _ h=>⟨_,_,_,_,_,_,_,_,_,_,_,_,_,_,_,_,_,_,_,_,h.q 1,?_⟩
 refine AK h (r.rd _) λa c i h=>⟨_,_,_,_,rfl,_,h.r 2,?_⟩
 refine h.st 1 rfl rfl ?_;intro e h;refine⟨_,_,_,_,_,_,_,_,_,_,_,_,_,h.q 1,?_⟩;exact k a c _ (h.o [0] 3)
theorem K8{n:Int}{o:Ot}(wc:WC o.2)(hs:o.1.ser.size<=1000000)(h:aA H F)(k:∀a c j,aA j (slA 5 1 a (cA (pF o)).length c ((cA (pF o)).map U8)::F)->K (.agg ⟨bH ⟨jC n o,a,c⟩⟩) j) :
  CF 105 #[aC n,.agg ⟨cI o⟩] H K:=by
 refine cM 105 4380 ?_;have m:=un wc;have v:=TV o.1.ser;refine h.al λb _ h=>?_
 refine h.al λb1 _ h=>⟨_,h.r 1,?_⟩
 refine Js (by omega) h λla lc A h=>⟨_,_,_,_,_,rfl,?_⟩
 refine h.al λb2 _ h=>?_
 refine h.st 0 rfl rfl ?_;intro B h;refine⟨_,h.r 3,_,_,_,_,h.q 0,_,_,_,_,_,_,_,_,h.rdt (l:=[_,_]) 3 rfl rfl,?_⟩;refine Jd wc h λda dc w h=>⟨_,_,_,rfl,h.q 1,h.r 4,?_⟩
 have s:=ua h;refine AK (f:=pF o) (x:={ la:=la,lc:=lc,da:=da,dc:=dc }) (evs:=[]) h ⟨rfl,⟨λH _=>iu H none,λe d=>V2 d (by simp)⟩,λH h=>h.sl_rd 2 rfl,λH h=>h.sl_rd 0 rfl,s,
   ⟨λ_=>⟨rfl,rfl,rfl⟩,λh=>V2 rfl h,λi t u h=>by rcases nine t u with rfl|rfl|rfl|rfl|rfl|rfl|rfl|rfl|rfl <;> first|rfl|exact V2 (show _∈aV 8 by decide) h⟩,
   by simp,λe d=>V2 d (by simp),by show (im o.1.ser).2.1.length<=_;omega,by show (dm o.2).length<=_;omega⟩ λa c C h=>⟨_,_,_,_,rfl,?_⟩
 refine h.st 4 rfl rfl ?_;intro y h;refine⟨_,_,_,_,_,_,_,_,_,_,_,_,_,h.q 4,?_⟩;exact k a c _ (h.o [0] 6)
theorem K9{a:KQ}{c:Nat}{b:List bI}(hl:b.length<=1000000)(hw:∀e∈b,e.kind=4->WC e.out.2/\e.out.1.ser.size<=1000000)(h:aA H (Q::F))(ha:∀H,aA H F->aP H a (flat dN b))
  (k:∀Q' ys a' c' f,aM Q Q'->ys.map Oy.o=b.flatMap cK->(∀y∈ys,fK Q' y)->aA f (Q'::slA 91 11 a' ys.length c' (flat bH ys)::F)->K (.slice a' ys.length c') f) :
  CF 108 #[.slice a b.length c] H K:=by
 refine cN 108 0x11215612399251151714171417417494c [[(3,sS)],[(3,sS)],[(3,sS)],[(3,sS)],[(3,sS),(10,sI)]] ?_;refine⟨λla ln lc i f=>∃(j:Nat) (ys:List Oy) (Q':aE),i=j/\j<=b.length/\ln=ys.length/\ys.length<=j/\aM Q Q'/\ys.map Oy.o=(b.take j).flatMap cK/\(∀y∈ys,fK Q' y)/\aA f (Q'::slA 91 11 la ys.length lc (flat bH ys)::F),
  λ_ _ _ i _=>b.length-i.toNat,⟨0,[],Q,rfl,by omega,rfl,by simp,aM.refl Q,rfl,λy Y=>V2 Y (by simp),(h.sl_nil 91 11).o [1,0] 2⟩,?_⟩
 rintro la ln lc i H1 ⟨j,ys,Q',rfl,hj,rfl,h7,t,d,G,h⟩;refine⟨λV=>?_,λV=>?_⟩
 .have s:j<b.length:=by have:=V4 V;omega
  have hr:=ha _ h.tl.tl;have M:i64.wrap ((j:Int)+1)=((j+1:Nat):Int):=by rw[aK];omega
  refine⟨by omega,_,_,hr.some Kr (by omega) s,_,_,_,_,_,_,_,_,_,_,_,_,_,_,_,_,_,_,_,_,_,_,_,hr.els Kr s,?_⟩;have N:=hw _ (VF s);have O:(b.take (j+1)).flatMap cK=(b.take j).flatMap cK++cK b[j]:=jP s;obtain⟨e,he⟩:∃e,b[j]=e:=⟨_,rfl⟩;rw[he]at N O ⊢;refine h.al λb1 _ h=>?_
  refine h.sta 0 rfl rfl λH2 h=>?_
  have h:aA H2 (cellsA b1 (dN e) 305::Q'::slA 91 11 la ys.length lc (flat bH ys)::F):=h;refine⟨_,h.r 0,?_⟩;intro Z hJ;have fin:∀(C:List Oy) P a2 c2 f,aM Q P->C.map Oy.o=(b.take j).flatMap cK++cK e->C.length<=j+1->(∀y∈C,fK P y)->aA f (P::slA 91 11 a2 C.length c2 (flat bH C)::F)->Z a2 C.length c2 f:=by
   intro C P a2 c2 f hs hm W hi h;exact hJ _ _ _ _ ⟨⟨j+1,C,P,M,s,rfl,W,hs,by rw[hm,O],hi,h⟩,by rw[M];dsimp only;omega⟩
  have one:∀(y:Oy) (A:aE) a2 c2 f,cK e=[y.o]->fK (A*Q') y->aA f (A::Q'::slA 91 11 a2 (ys.length+1) c2 (flat bH ys++bH y)::F)->Z a2 (ys.length+1) c2 f:=by
   intro y A a2 c2 f n Y h;have e1:flat bH ys++bH y=flat bH (ys++[y]):=by rw[dR];simp[flat]
   have e2:ys.length+1=(ys++[y]).length:=by simp
   rw[e1,e2]at h;rw[e2];refine fin (ys++[y]) (A*Q') a2 c2 _ (t.trans (aM.add A Q')) (by rw[VT,d,n];rfl) (by simp;omega) (λz L=>?_) (gu.2 h)
   rcases VR.1 L with L|L
   .exact (G z L).sub (aM.add A Q')
   .rw [VE]at L;rw[L];exact Y
  refine⟨λv=>?_,λv=>?_⟩
  .have v:=V4 v;have n:cK e=[gY (mU e.agent e.epoch e.boot)]:=by unfold cK;rw[V1 v]
   refine⟨_,h.r 0,_,h.r 0,?_⟩;refine h.al λb2 _ h=>?_
   refine h.st 0 rfl rfl ?_;intro H5 h;refine⟨_,_,_,h.q 0,_,h.r 1,?_⟩;refine Bj (TS e.agent e.epoch e.boot) h λE u H6 h=>⟨_,_,_,_,_,_,_,_,_,_,_,_,_,rfl,?_⟩
   refine h.al λb3 _ h=>?_
   refine h.append (m:=1) (ws:=bH ⟨gY (mU e.agent e.epoch e.boot),E,u⟩) slOy 5 rfl (h.ce_rd 0 rfl) rfl (pE _) (by omega) (by omega) λa5 c5 S h=>⟨_,_,_,rfl,?_⟩
   exact one ⟨gY (mU e.agent e.epoch e.boot),E,u⟩ _ _ _ _ n ⟨KIn.sl (c:=u),h.sl_nc 1 rfl⟩ (h.o [1,4,5] 6)
  have v:=V5 v;intro h0 x;refine⟨λw=>?_,λw=>?_⟩
  .have w:=V4 w;have n:cK e=[gY (mV e.agent e.epoch e.next)]:=by unfold cK;rw[V0 v,V1 w]
   refine⟨_,h.r 0,_,h.r 0,?_⟩;refine h.al λb2 _ h=>?_
   refine h.st 0 rfl rfl ?_;intro H5 h;refine⟨_,_,_,h.q 0,_,h.r 1,?_⟩;refine Bj (TT e.agent e.epoch e.next) h λE u H6 h=>⟨_,_,_,_,_,_,_,_,_,_,_,_,_,rfl,?_⟩
   refine h.al λb3 _ h=>?_
   refine h.append (m:=1) (ws:=bH ⟨gY (mV e.agent e.epoch e.next),E,u⟩) slOy 5 rfl (h.ce_rd 0 rfl) rfl (pE _) (by omega) (by omega) λa5 c5 S h=>⟨_,_,_,rfl,?_⟩
   exact x _ _ _ _ (one ⟨gY (mV e.agent e.epoch e.next),E,u⟩ _ _ _ _ n ⟨KIn.sl (c:=u),h.sl_nc 1 rfl⟩ (h.o [1,4,5] 6))
  have w:=V5 w;intro h5 I;refine⟨λD=>?_,λD=>?_⟩
  .have D:=V4 D;obtain⟨o3,J⟩:∃o3:Ou,o3={ kind:=2,ida:=e.ida,ide:=e.ide,seq:=e.seq,reason:=e.reason,win:=e.win,lo:=e.gap.lo,hi:=e.gap.hi }:=⟨_,rfl⟩;have n:cK e=[o3]:=by unfold cK;rw[V0 v,V0 w,V1 D,J]
   refine⟨_,_,_,h.q 0,_,_,h.q 0,_,_,h.q 0,?_⟩;refine h.al λb3 _ h=>?_
   refine h.append (m:=1) (ws:=bH ⟨o3,none,0⟩) slOy 3 rfl (h.ce_rd 0 (by rw[J];rfl)) rfl (pE _) (by omega) (by omega) λa5 c5 S h=>⟨_,_,_,rfl,?_⟩
   refine I _ _ _ _ (x _ _ _ _ (one ⟨o3,none,0⟩ emp _ _ _ n ?_ (lV (h.o [2,3] 4))));rw[J];exact⟨KIn.nil _ _,VX _⟩
  have D:=V5 D;intro h6 R;refine⟨λB=>?_,λB=>?_⟩
  .have B:=V4 B;have n:cK e=[jC e.number e.out]:=by unfold cK;rw[V0 v,V0 w,V0 D,V1 B]
   obtain⟨wc,U⟩:=N B;refine⟨_,h.r 0,_,_,_,_,_,_,_,_,_,_,h.rdt (l:=[_,_,_,_,_,_,_,_,_,_,_,_,_]) 0 rfl rfl,?_⟩;refine K8 wc U h λE u H6 h=>⟨_,_,_,_,_,_,_,_,_,_,_,_,_,rfl,?_⟩
   refine h.al λb3 _ h=>?_
   refine h.append (m:=1) (ws:=bH ⟨jC e.number e.out,E,u⟩) slOy 4 rfl (h.ce_rd 0 rfl) rfl (pE _) (by omega) (by omega) λa5 c5 S h=>⟨_,_,_,rfl,?_⟩
   exact R _ _ _ _ (I _ _ _ _ (x _ _ _ _ (one ⟨jC e.number e.out,E,u⟩ _ _ _ _ n ⟨KIn.sl (c:=u),h.sl_nc 1 rfl⟩ (h.o [1,3,4] 5))))
  .have B:=V5 B;have n:cK e=[]:=by unfold cK;rw[V0 v,V0 w,V0 D,V0 B]
   exact R _ _ _ _ (I _ _ _ _ (x _ _ _ _ (fin ys Q' _ _ _ t (by rw[n,Wc,d]) (by omega) G h.tl)))
 .have T:j=b.length:=by have:=V5 V;omega
  subst T;rw[Wf]at d;exact k Q' ys _ _ _ t d G h
end
structure Sn where
 bt:Int
 ct:Int
 ag:Int
 ep:Int
 at_:Int
abbrev gF(s:Sn):Os:=[aB s.bt,aB s.ct,aB s.ag,aB s.ep,aB s.at_]
theorem mW(s:Sn):(gF s).length=5:=rfl
theorem KA(s:Sn):cT (gF s)=true:=rfl
structure Pb where
 boot:Int
 most:Int
 count:Int
 out:List Sn
 last:List (Int×Int)
def tmB(t:Int):Bool:=decide (0<=t)&&decide (t<=4611686018427387903)
structure jD(p:Pb):Prop where
 count:0<=p.count/\p.count<=1000000000000
 most:1<=p.most/\p.most<=1024
 out:p.out.length<=1024
 last:∀x∈p.last,0<=x.2/\x.2<=4611686018427387903
 boot:aF p.boot
def dueP(p:Pb)(ag now period:Int):Bool:=tmB now&&tmB period&&(match aJ ag p.last with|none=>true|some t=>decide (period<=now-t))
def sndOk(ag ep now:Int):Bool:=decide (0<=ag)&&decide (ag<64)&&decide (1<=ep)&&decide (ep<=1099511627776)&&tmB now
def sndP(p:Pb)(ag ep now:Int):Pb:=
 { p with count:=p.count+1,last:=mset ag now p.last,out:=if p.most<((p.out++[(⟨p.boot,p.count,ag,ep,now⟩:Sn)]).length:Int) then (p.out++[(⟨p.boot,p.count,ag,ep,now⟩:Sn)]).drop 1 else p.out++[(⟨p.boot,p.count,ag,ep,now⟩:Sn)] }
def isN(bt ct:Int)(s:Sn):Bool:=s.bt == bt&&(s.ct == ct&&true)
def fE(p:Pb)(ag ep bt ct:Int):Int×Int×Pb:=
 if bt≠p.boot then (-1,22,p) else match p.out.findIdx? (isN bt ct) with
 | none=>(-1,19,p)
 | some i=>match p.out[i]? with
  | none=>(-1,19,p)
  | some s=>if s.ag≠ag\/s.ep≠ep then (-1,10,p) else (s.at_,0,{ p with out:=p.out.take i++p.out.drop (i+1) })
theorem mtP:kA Tryz.prog 244 2 2 aC 0:=og Tryz.underlying244 (by kernel_rfl)
theorem slSn:SlT Tryz.prog 245 326 5 40:=iP (by kernel_rfl)
def prbA(pb:Nat)(p:Pb):aE:=exS λx:KQ×Nat×Nat=>star [cellsA pb [aC p.boot,aC p.most,aC p.count,.slice x.1 p.out.length x.2.1,.map (some x.2.2)] 247,slA 326 5 x.1 p.out.length x.2.1 (flat gF p.out),mapA aC aC x.2.2 p.last]
section
variable {F L:List aE}{H:aD}{K:KE}{pb:Nat}{p:Pb}
theorem mX:aA H (prbA pb p::F)↔∃a c m,aA H (cellsA pb [aC p.boot,aC p.most,aC p.count,.slice a p.out.length c,.map (some m)] 247::slA 326 5 a p.out.length c (flat gF p.out)::mapA aC aC m p.last::F):=by
 unfold prbA;rw[cJ]
 constructor
 .rintro⟨x,h⟩;exact⟨x.1,x.2.1,x.2.2,aA.open h⟩
 .rintro⟨a,c,m,h⟩;exact⟨(a,c,m),aA.shut [_,_,_] h⟩
theorem Bk{t:Int}:bV Tryz.prog 164 #[aC t] H (.bool (tmB t)):=by
 unfold bV;exact cM 164 28 ⟨rfl,rfl⟩
theorem KC{boot most:Int}(h:aA H F)
  (k1:¬(1<=boot/\boot<=1099511627776/\1<=most/\most<=1024)->K (.tuple #[.pointer none,aC 11]) H)
  (k2:1<=boot/\boot<=1099511627776/\1<=most/\most<=1024->∀b c,aA c (prbA b ⟨boot,most,0,[],[]⟩::F)->K (.tuple #[PA b 0,aC 0]) c) :
  CF 48 #[aC boot,aC most] H K:=by
 refine cM 48 476 ⟨λa=>k1 ?_,λa=>?_⟩
 .simp only[VN,V6]at a;omega
 .simp only[VK,V8]at a;refine h.alm aC aC λmb _ h=>?_
  refine h.al λb d h=>?_
  refine k2 (by omega) b _ (mX.2 ⟨none,0,mb,?_⟩);exact (h.sl_nil 326 5).o [1,0,2] 3
theorem TW{ag now period:Int}(ok:jD p)(h:aA H (prbA pb p::F)):bV Tryz.prog 76 #[PA pb 0,aC ag,aC now,aC period] H (.bool (dueP p ag now period)):=by
 unfold bV;obtain⟨a,c,m,h⟩:=mX.1 h;refine cM 76 7452 ⟨_,Bk,_,λ_=>Bk,λb=>?_,λb=>?_⟩
 .have e:dueP p ag now period=false:=by
   unfold dueP;simp only[VN,VY]at b
   rcases b with b|b <;> rw[b] <;> simp
  rw[e];exact⟨rfl,rfl⟩
 .simp only[VK,Wm]at b;have e:dueP p ag now period=(match aJ ag p.last with|none=>true|some t=>decide (period<=now-t)):=by
   unfold dueP;rw[b.1,b.2];rfl
  rw[e];have f:=h.mp_look mtP Ro.ko2 (x:=ag) 2 rfl;refine⟨_,h.r 0,?_⟩
  cases hm:aJ ag p.last with
  | none=>
   refine⟨0,false,(f.2 hm).1,rfl,rfl⟩
  | some t=>
   refine⟨t,true,(f.1 t hm).1,?_,rfl⟩;have i:=ok.last (ag,t) (iv hm);have d:=b.1;unfold tmB at d;simp only[V7,V6]at d;dsimp only at i;show Value.bool (!true||decide (period<=i64.wrap (now-t)))=_;rw[aK];rfl
theorem KD{a:KQ}{c:Nat}{l:List Sn}{i j:Nat}{n:Int}(m:n=j)(A:i<j)(D:j<=l.length)(h:aA H (slA 326 5 a l.length c (flat gF l)::F))
  (k:∀d,aA d (slA 326 5 a (l.take i++l.drop j).length c (flat gF (l.take i++l.drop j))::F)->K (.slice a (l.take i++l.drop j).length c) d):CF 163 #[.slice a l.length c,aC i,aC n] H K:=by
 subst m;have B:=h.sl_nc 0 rfl;have b:(l.take i++l.drop j).length=i+(l.length-j):=by rw[V3,VU,VP];omega
 refine cM 163 18682140 ?_;refine⟨⟨by omega,by omega,by omega,by omega⟩,λv=>V2 (V4 v) (by omega),λv=>?_⟩
 refine⟨⟨by omega,by omega,by omega⟩,⟨by omega,by omega,by omega⟩,?_⟩;have s:=h.sl_rd 0 rfl;have hs:=s.some mW (by omega) (k:=0) (by omega);have e0:cq a 0 c 5=a:=by
  unfold cq;rw[nO,hs,We,iQ];simp
 have t:=s.subK (k:=j) (c:=c) (sz:=5) (by rw[fi mW];omega);rw[tu mW]at t;have y:=h.sl_take 0 rfl i (by omega);show cB Tryz.prog (Builtin.append_ #[245,245] 245 #[.slice (cq a 0 c 5) i c,.slice (cq a j c 5) (l.length-j) (c-j)]) H _;rw[e0];refine aA.appendIn slSn y 0 rfl t (by rw[fi mW,VP]) (lC KA _) (by omega) λd x=>⟨_,_,_,rfl,⟨by omega,by omega,by omega⟩,?_⟩
 have e:(flat gF l).take (i*5)++flat gF (l.drop j)=flat gF (l.take i++l.drop j):=by rw[dR,<-Ee mW]
 have f:aA d (slA 326 5 a (i+(l.length-j)) c ((flat gF l).take (i*5)++flat gF (l.drop j))::F):=x;rw[e,<-b]at f;have u:=k;rw[b]at u;rw[b]at f;exact aA.clearS slSn (by kernel_rfl) f 0 rfl (by omega) λ_ C w=>u _ w
theorem TX{s:Sn}{b:Nat}{n0 n1:Int}(h:aA H F)(i:Nat)(c:aW i F=cellsA b [aC n0,aC n1] 101)(k:∀a,aA a F->K (.bool (isN n0 n1 s)) a) :
  CF 162 #[.agg ⟨gF s⟩,PA b 0] H K:=by
 refine cM 162 28 ?_;refine h.al λb1 _ h=>?_
 have e:=(qn (P:=Tryz.prog) (t:=101) (xs:=[aC s.bt,aC s.ct]) (ys:=[aC n0,aC n1]) (r:=(s.bt == n0&&(s.ct == n1&&true))) (by kernel_rfl)).1;exact⟨_,_,h.q 0,_,_,h.rds (i+1) c rfl,_,e,k _ h.tl⟩
theorem TY{a:KQ}{c b:Nat}{l:List Sn}{n0 n1:Int}(G:l.length<=1000000)(h:aA H F)(i:Nat)(w:aW i F=cellsA b [aC n0,aC n1] 101)(y:∀H,aA H F->aP H a (flat gF l))
  (k1:l.findIdx? (isN n0 n1)=none->∀f,aA f F->K (aC (-1)) f) (k2:∀j,l.findIdx? (isN n0 n1)=some j->∀f,aA f F->K (aC (j:Nat)) f) :
  CF 161 #[.slice a l.length c,.func (.func 162) #[] #[PA b 0]] H K:=by
 refine cN 161 0x1215612399251b4c [[(8,sI)]] ?_;refine⟨λi f=>∃j:Nat,i=j/\j<=l.length/\(∀q (e:q<l.length),q<j->isN n0 n1 l[q]=false)/\aA f F,λi _=>l.length-i.toNat,⟨0,rfl,by omega,λq _ e=>V2 e (by omega),h⟩,?_⟩
 rintro i D ⟨j,rfl,E,k,h⟩;refine⟨λm=>?_,λm=>?_⟩
 .have d:j<l.length:=by have:=V4 m;omega
  have t:=y _ h;refine⟨by omega,_,_,t.some mW (by omega) d,_,_,_,_,_,t.els mW d,rfl,?_⟩;refine TX (s:=l[j]) h _ w λC h=>⟨_,rfl,λhm=>?_,λhm=>?_⟩
  .refine k2 j ?_ _ h;rw[List.findIdx?_eq_some_iff_getElem];exact⟨d,hm,λq e=>by rw[k q (by omega) e];decide⟩
  .have u:i64.wrap ((j:Int)+1)=((j+1:Nat):Int):=by rw[aK];omega
   refine⟨⟨j+1,u,d,λq e B=>?_,h⟩,by rw[u];dsimp only;omega⟩
   rcases VV q j with n|n
   .exact k q e n
   .obtain rfl:q=j:=by omega
    exact hm
 .have v:j=l.length:=by have:=V5 m;omega
  refine k1 ?_ _ h;rw[List.findIdx?_eq_none_iff];intro x A;obtain⟨q,e,rfl⟩:=Wu A;exact k q e (by omega)
theorem TZ{ag ep n0 n1:Int}(ok:jD p)(h:aA H (prbA pb p::F))
  (k:∀f,aA f (prbA pb (fE p ag ep n0 n1).2.2::F)->K (.tuple #[aC (fE p ag ep n0 n1).1,aC (fE p ag ep n0 n1).2.1]) f) :
  CF 74 #[PA pb 0,aC ag,aC ep,.agg #[aC n0,aC n1]] H K:=by
 obtain⟨a,c,m,h⟩:=mX.1 h;refine cM 74 488447260 ?_;unfold fE at k;refine h.al λb _ h=>⟨_,h.r 0,_,h.r 1,λd=>?_,λd=>?_⟩
 .rw [V1 (by simpa using d)]at k;exact k _ (mX.2 ⟨a,c,m,h.tl⟩)
 rw[V0 (by simpa using d)]at k;have v:=ok.out;refine⟨_,_,_,h.r 1,?_⟩;refine TY (by omega) h 0 rfl (λH h=>h.sl_rd 2 rfl) (λt w h=>⟨_,rfl,λ_=>?_,λd=>V2 d (by simp)⟩) λj s w h=>⟨_,rfl,λd=>V2 (V4 d) (by omega),λ_=>?_⟩
 .rw [t]at k;exact k _ (mX.2 ⟨a,c,m,h.tl⟩)
 obtain⟨e,-,-⟩:=List.findIdx?_eq_some_iff_getElem.1 s;rw[s]at k;dsimp only at k;rw[List.getElem?_eq_getElem e]at k;dsimp only at k;have n:=h.sl_rd 2 rfl;refine⟨_,_,_,h.rd 1 rfl _,⟨by omega,by omega⟩,_,_,n.some mW (by omega) e,_,_,_,_,_,n.els mW e,?_⟩;refine h.al λb2 _ h=>?_
 refine h.st 0 rfl rfl ?_;intro x h;refine⟨_,h.r 0,_,λ_=>h.r 0,λd=>?_,λd=>?_⟩
 .rw [V1 (by simpa using d)]at k;exact k _ (mX.2 ⟨a,c,m,h.o [2,3,4] 5⟩)
 rw[V0 (by simpa using d)]at k;refine⟨_,_,_,h.r 2,?_⟩;have u:i64.wrap ((j:Int)+1)=((j+1:Nat):Int):=by rw[aK];omega
 have h:=h.o [3,0,2,4] 5;refine KD (i:=j) (j:=j+1) u (by omega) (by omega) h λy h=>⟨_,_,_,rfl,?_⟩
 refine h.st 2 rfl rfl ?_;intro A h;exact⟨_,h.r 1,k _ (mX.2 ⟨a,c,m,h.o [2,0,3] 4⟩)⟩
theorem KF{ag ep now:Int}(ok:jD p)(hs:sndOk ag ep now=true)(h:aA H (prbA pb p::F))
  (k:∀n,aA n (prbA pb (sndP p ag ep now)::F)->K (.tuple #[.agg #[aC p.boot,aC p.count],aC 0]) n) :
  CF 77 #[PA pb 0,aC ag,aC ep,aC now] H K:=by
 obtain⟨a,c,m,h⟩:=mX.1 h;have C:=ok.out;have u:=ok.count;unfold sndOk at hs;simp only[V7,V6]at hs;refine cN 77 31959155165468 [[]] ?_;refine h.al λb _ h=>⟨_,λ_=>Bk,λd=>?_,λd=>?_⟩
 .exfalso;simp only[VN,V6,VY]at d;rw[hs.2]at d
  rcases d with d|d
  .omega
  .cases d
 refine⟨_,h.r 1,_,h.r 1,?_⟩;refine h.al λb1 _ h=>⟨h.r 2,h.r 2,?_⟩
 refine h.st 0 rfl rfl ?_;intro E h;refine⟨_,h.r 2,?_⟩;refine h.st 2 rfl rfl ?_;intro G h;refine⟨_,_,_,h.r 2,_,_,h.q 0,?_⟩;refine h.al λb2 _ h=>⟨h.r 3,?_⟩
 refine h.append (m:=1) (ws:=gF ⟨p.boot,p.count,ag,ep,now⟩) slSn 4 rfl (h.ce_rd 0 rfl) rfl (KA _) (by omega) (by omega) λa5 c5 I h=>⟨_,_,_,rfl,?_⟩
 refine h.st 3 rfl rfl ?_;intro y h;have B:i64.wrap (p.count+1)=p.count+1:=aK;have D:flat gF p.out++gF ⟨p.boot,p.count,ag,ep,now⟩=flat gF (p.out++[(⟨p.boot,p.count,ag,ep,now⟩:Sn)]):=by rw[dR];simp[flat]
 obtain⟨o1,f⟩:∃o1,p.out++[(⟨p.boot,p.count,ag,ep,now⟩:Sn)]=o1:=⟨_,rfl⟩;have s:p.out.length+1=o1.length:=by rw[<-f];simp
 have h:aA y (cellsA b2 (gF ⟨p.boot,p.count,ag,ep,now⟩) 326::cellsA b1 [aC p.boot,aC p.count] 101::cellsA b [aC 0,aC 0] 101::cellsA pb [aC p.boot,aC p.most,aC (i64.wrap (p.count+1)),.slice a5 (p.out.length+1) c5,.map (some m)] 247::slA 326 5 a5 (p.out.length+1) c5 (flat gF p.out++gF ⟨p.boot,p.count,ag,ep,now⟩)::mapA aC aC m p.last::F):=h;rw[B,D,f,s]at h;refine⟨_,_,_,h.r 3,_,h.r 3,?_⟩;intro t w;have fin:∀(o2:List Sn) n,o2=(if p.most<(o1.length:Int) then o1.drop 1 else o1)->aA n (cellsA b1 [aC p.boot,aC p.count] 101::cellsA b [aC 0,aC 0] 101::cellsA pb [aC p.boot,aC p.most,aC (p.count+1),.slice a5 o2.length c5,.map (some m)] 247::slA 326 5 a5 o2.length c5 (flat gF o2)::mapA aC aC m p.last::F)->t n:=by
  intro o2 n e h;refine w _ ?_;refine⟨_,h.r 2,?_⟩;refine h.mp_update (α:=Int) (v:=now) mtP Ro.ko2 4 rfl λA h=>?_
  refine⟨_,_,h.q 0,?_⟩;refine h.st 1 rfl rfl ?_;intro x h;refine⟨_,_,h.q 1,?_⟩;have e2:sndP p ag ep now=⟨p.boot,p.most,p.count+1,o2,mset ag now p.last⟩:=by unfold sndP;rw[f,<-e]
  rw[e2]at k;exact k _ (mX.2 ⟨a5,c5,m,h.o [2,3,4] 5⟩)
 refine⟨λd=>?_,λd=>?_⟩
 .have d:=V4 d;refine⟨_,_,_,h.r 3,?_⟩;have h:=h.o [4,1,2,3,5] 6;refine KD (i:=0) (j:=1) rfl (by omega) (by omega) h λJ h=>⟨_,_,_,rfl,?_⟩
  rw[Yc,Wh]at h ⊢;refine h.st 3 rfl rfl ?_;intro A h;exact fin (o1.drop 1) _ (by rw[V1 d]) (h.o [1,2,3,0,4] 5)
 .have d:=V5 d;exact fin o1 _ (by rw[V0 d]) (h.o [1,2,3,4,5] 6)
end
theorem Bl{α:Type}:∀{l:List (Option α)} {i:Nat} {p:Int×Option α},p∈cW i l->∃(k:Nat) (b:α),p=(((i+k:Nat):Int),some b)/\l[k]?=some (some b)
 | [],i,p,h=>by simp[cW]at h
 | none::r,i,p,h=>by
  obtain⟨k,b,c,a⟩:=Bl (l:=r) (i:=i+1) h;exact⟨k+1,b,by rw[c,show i+1+k=i+(k+1) by omega],by simpa using a⟩
 | some b::r,i,p,h=>by
  rcases VJ.1 h with rfl|h
  .exact⟨0,b,rfl,rfl⟩
  .obtain⟨k,d,c,a⟩:=Bl (l:=r) (i:=i+1) h;exact⟨k+1,d,by rw[c,show i+1+k=i+(k+1) by omega],by simpa using a⟩
theorem KH{Q:aE}{bl:List (Option Nat)}{sts:List (Option br)}{k b:Nat}{s:br}(c:bl[k]?=some (some b))(a:sts[k]?=some (some s)) :
  strsA Q bl sts=strA Q b s*strsA Q (bl.set k none) (sts.set k none):=by
 obtain⟨l1,e1⟩:=List.getElem?_eq_some_iff.1 c;obtain⟨l2,e2⟩:=List.getElem?_eq_some_iff.1 a;rw[pC (k:=k) (by rw[List.getElem?_set_self l1]) (by rw[List.getElem?_set_self l2]),Yn,Yn,<-e1,<-e2,WN,WN]
section
variable {F L:List aE}{H:aD}{K:KE}{Q:aE}
theorem pG{A B:aE}:aA H ((A*B)::L)↔aA H (A::B::L):=by
 unfold aA star;rw[star];rw[ju]
theorem KJ{sb:Nat}{s:aI}(W:s.kept.length<=1000000)(ok:cR s)(h:aA H (stA Q sb s::F))(k:∀I G,aA G (stA Q I s::stA Q sb s::F)->K (PA I 0) G):CF 18 #[PA sb 0] H K:=by
 obtain⟨p,h⟩:=cX.1 h;refine Pa ⟨_,_,_,_,_,_,_,_,_,_,_,_,_,_,_,_,_,_,_,_,_,_,h.rda 0 rfl,?_⟩;refine h.al λb _ h=>?_
 refine h.sta 0 rfl rfl λH1 h=>?_
 have h:aA _ (cellsA b (dq s p) 145::_):=h;refine⟨_,h.r 1,_,h.r 1,_,h.r 1,?_⟩;refine Ro.Clone_spec (h.o [2,3,0,1,4,5,6,7,8,9] 10) λy x H2 h=>⟨_,rfl,h.r 5,h.r 5,?_⟩
 refine Ma.Clone_spec (h.o [6,7,0,1,2,3,4,5,8,9,10,11] 12) λD t H3 h=>⟨_,rfl,h.r 9,?_⟩
 refine RZ (h.o [10,11,0,1,2,3,4,5,6,7,8,9,12,13] 14) λf u H4 h=>⟨_,rfl,?_⟩
 refine h.st 12 rfl rfl λ_ h=>h.st 12 rfl rfl λ_ h=>h.st 12 rfl rfl λ_ h=>⟨_,_,_,h.r 13,?_⟩
 refine Jy (l:=s.kept) h (λH h=>h.sl_rd 15 rfl) W λB C H8 h=>⟨_,_,_,rfl,?_⟩
 refine h.st 13 rfl rfl λ_ h=>?_
 refine h.alm aC ptV λb1 _ h=>?_
 refine h.st 14 rfl rfl λh3 h=>⟨_,h.r 15,?_⟩
 have h:=h.o [16,0,14,1,2,3,4,5,6,7,8,9,10,11,12,13,15,17] 18;obtain⟨bl,hm,h⟩:=lf.1 h;have h5:bl.length=s.sts.length:=by have:=congrArg List.length hm;simpa using this
 obtain⟨R,hR⟩:∃R:List aE,R=slA 164 74 B s.kept.length C (flat cI s.kept)::shC f u s.cfg.cells::cz u s.cm::shC p.hb p.hm s.cfg.cells::cz p.hm s.cm::Ma.markC D t s.ms::Ma.mapF t s.ms.m::Ma.markC p.mb p.mm s.ms::Ma.mapF p.mm s.ms.m::
  Ro.rollC y x s.cfg.agents::Ro.mapE x s.rows::Ro.rollC p.rb p.rm s.cfg.agents::Ro.mapE p.rm s.rows::cellsA sb (dq s p) 145::slA 164 74 p.ka s.kept.length p.kc (flat cI s.kept)::F:=⟨_,rfl⟩
 have h:aA h3 (mapA aC ptV p.tm (cW 0 bl)::strsA Q bl s.sts::mapA aC ptV b1 []::cellsA b (dq s ⟨y,x,D,t,f,u,b1,B,C⟩) 145::R):=by rw[hR];exact h
 refine h.rg_new qI 0 rfl λT h6 h=>⟨T,rfl,?_⟩
 refine⟨λG=>∃(dn:List (Int×Option Nat)) (c:List (Option Nat)) (a:List (Option br)),c.map Option.isSome=a.map Option.isSome/\a.length=s.sts.length/\
  (∀k:Nat,k<s.sts.length->a[k]?=if ((k:Nat):Int)∈aG dn then s.sts[k]? else some none)/\
  aA G (kQ aC ptV T p.tm (cW 0 bl) dn::strsA Q bl s.sts::mapA aC ptV b1 (cW 0 c)::strsA Q c a::cellsA b (dq s ⟨y,x,D,t,f,u,b1,B,C⟩) 145::R),λG=>(cW 0 bl).length-oR G T,
  ⟨[],List.replicate 64 none,List.replicate 64 none,by simp,by simp[ok.len],λk S=>by rw[ok.len]at S;rw[List.getElem?_replicate,V1 S,V0 (by simp[aG])],?_⟩,?_⟩
 .rw [AY];have e:cW 0 (List.replicate 64 (none:Option Nat))=[]:=by decide
  rw[e];exact (lV h).o [1,2,3,0,4] 5
 rintro H2 ⟨dn,c,a,A,Y,E,h⟩;obtain⟨h7,h8⟩:=h.rg_count 0 rfl;refine h.rg_next 0 rfl (λhp=>.inl ⟨rfl,λU=>(by cases U),λ_=>?_⟩) λq Z h0 H3 h=>.inr ⟨_,_,rfl,λ_=>?_,λU=>(by cases U)⟩
 .
  have h:=h.rg_map 0 rfl;have e:a=s.sts:=by
   apply WO;intro i
   rcases VV i s.sts.length with hi|hi
   .rw [E i hi]
    split
    .rfl
    .rename_i hn;have hb:bl[i]?=some none:=by
      cases d:bl[i]? with
      | none=>rw[List.getElem?_eq_none_iff]at d;omega
      | some o=>
       cases o with
       | none=>rfl
       | some b0=>
        exfalso;have hl:=uw (l:=bl) (i:=0) (k:=i);rw[d,VQ]at hl;refine hn ?_;have:((i:Int),some b0)∈cW 0 bl:=iv hl;exact VB.2 ⟨_,hp.mem_iff.2 this,rfl⟩
     have:=qJ hm i;rw[hb]at this
     cases hs:s.sts[i]? with
     | none=>rw[hs]at this;cases this
     | some o=>rw[hs]at this;cases o with
      | none=>rfl
      | some _=>cases this
   .rw [List.getElem?_eq_none (by omega),List.getElem?_eq_none hi]
  rw[e]at h A;subst hR;refine k b _ ?_;have h:=lf.2 ⟨bl,hm,h⟩;have h:=lf.2 ⟨c,A,h.o [1,2,0,3] 4⟩;have h:=cX.2 ⟨p,h.o [16,14,15,10,11,6,7,1,17,0,2,3,4,5,8,9,12,13] 18⟩;exact cX.2 ⟨⟨y,x,D,t,f,u,b1,B,C⟩,h.o [2,8,9,6,7,4,5,1,3,0] 10⟩
 .obtain⟨i,bk,rfl,d⟩:=Bl Z;rw[VQ]at *;have V:i<s.sts.length:=by have:=(List.getElem?_eq_some_iff.1 d).1;omega
  have n:∃st,s.sts[i]?=some (some st):=by
   have:=qJ hm i;rw[d]at this
   cases hs:s.sts[i]? with
   | none=>rw[hs]at this;cases this
   | some o=>rw[hs]at this;cases o with
    | none=>cases this
    | some st=>exact⟨st,rfl⟩
  obtain⟨st,n⟩:=n;have N:=ok.sts st (Wg n);have M:=aA.rg_entry (P:=Tryz.prog) h 0 rfl;obtain⟨h2,L⟩:=h.rg_count 0 rfl;rw[V3,Wo]at h2 L;refine⟨_,_,M,?_⟩;have h:=h.o [1,0,2,3,4] 5;have h:aA H3 (strsA Q bl s.sts::_):=h;rw[KH d n]at h;have h:=pG.1 h;obtain⟨cb,hb,h⟩:=gW.1 h;refine⟨_,h.r 7,cZ ⟨_,h.r 0,cZ ⟨_,h.r 0,cZ ⟨_,h.r 0,?_⟩⟩⟩⟩;refine Rl (h.o [1,0,2,3,4,5,6,7] 8) (by have:=N.ck.len;omega) λh4 H5 h=>⟨_,rfl,h.r 2,h.r 2,h.r 8,?_⟩
  refine J8 (h.o [3,0,1,2,4,5,6,7,8] 9) λf H6 h=>⟨_,rfl,h.r 4,h.r 9,?_⟩
  refine h.al λb3 _ h=>⟨h.r 10,?_⟩
  refine h.mp_update (v:=some b3) qI ko2 8 rfl λH7 h=>⟨?_,?_⟩
  .have w:a[i]?=some none:=by rw[E i V,V0 h0]
   have O:c[i]?=some none:=by
    have:=qJ A i;rw[w]at this
    cases hs:c[i]? with
    | none=>rw[hs]at this;cases this
    | some o=>rw[hs]at this;cases o with
     | none=>rfl
     | some _=>cases this
   have J:i<c.length:=(List.getElem?_eq_some_iff.1 O).1;refine⟨dn++[((i:Int),some bk)],c.set i (some b3),a.set i (some st),?_,by rw[List.length_set,Y],λj hj=>?_,?_⟩
   .rw [Ym,Ym,A];rfl
   .rw [List.getElem?_set];have S:aG (dn++[((i:Int),some bk)])=aG dn++[(i:Int)]:=by simp[aG]
    rw[S]
    by_cases e:i=j
    .subst e;rw[V1 rfl,pO,V1 (by simp),n]
    .rw [V0 e,E j hj];have:(((j:Nat):Int)∈aG dn++[(i:Int)])↔((j:Nat):Int)∈aG dn:=by
      rw[VR,VE];exact⟨λh=>h.elim id λh=>V2 h (by omega),.inl⟩
     simp only[this]
   .have em:mapA aC ptV b1 (mset ((i:Nat):Int) (some b3) (cW 0 c))=mapA aC ptV b1 (cW 0 (c.set i (some b3))):=nB (by
     have:=xm (b:=b3) (l:=c) (i:=0) (k:=i) J;rw[VQ]at this;exact this.symm)
    rw[<-pC (b:=b3) (s:=st) O w,KH d n];have h:=gW.2 ⟨h4,f,h.o [0,3,1,2,4,5,6,7,8,9,10] 11⟩;have h:=gW.2 ⟨cb,hb,h.o [3,2,1,0,4,5,6,7,8] 9⟩;have h:=pG.2 (h.o [0,2,1,3,4,5,6] 7);have h:=pG.2 (h.o [1,4,0,2,3,5] 6);have h:=h.o [2,1,3,0,4] 5;rw[<-em];exact h
  .obtain⟨h1,_⟩:=h.rg_count 7 rfl;rw[V3,Wo]at h1;simp only;omega
end
structure Opt where
 cfg:bD
 period:Int
 probes:Int
 segment:Int
 save:Int
abbrev jE(o:Opt):Os:=[aB o.cfg.width,aB o.cfg.policy,aB o.cfg.most,aB o.cfg.lag,aB o.cfg.rho,aB o.cfg.trust,aB o.cfg.agents,aB o.cfg.cells,aB o.cfg.hold,aB o.period,aB o.probes,aB o.segment,aB o.save]
structure GAd where
 bb:Nat
 rb:Nat
 sb:Nat
 pv:Value
 pa:KQ
 pc:Nat
abbrev kJ(o:Opt)(x:GAd)(n:Nat)(recs:Int):Os:=[aB o.cfg.width,aB o.cfg.policy,aB o.cfg.most,aB o.cfg.lag,aB o.cfg.rho,aB o.cfg.trust,aB o.cfg.agents,aB o.cfg.cells,aB o.cfg.hold,aB o.period,aB o.probes,aB o.segment,aB o.save,
 PA x.bb 0,PA x.sb 0,x.pv,.slice x.pa n x.pc,aB recs]
theorem sH{s:aI}{r:Rp}(h:(bO s r).2.2=0):r.right=true:=by
 unfold bO at h
 split at h
 .cases h
 .rename_i a;simpa using a
theorem Ua{s:aI}{r:Rp}(h:(bO s r).2.2≠0):(bO s r).1=s/\(bO s r).2.1=[]:=by
 unfold bO at h ⊢
 split
 .exact⟨rfl,rfl⟩
 split
 .exact⟨rfl,rfl⟩
 split
 .rename_i b a c;rw[V0 b,V0 a,V1 c]at h;exact V2 rfl h
 split
 .rename_i b a c d;rw[V0 b,V0 a,V0 c,V1 d]at h;unfold fC at h ⊢
  split
  .exact⟨rfl,rfl⟩
  .rename_i e;rw[V0 e]at h
   split at h <;> exact V2 rfl h
 rename_i b a c d;rw[V0 b,V0 a,V0 c,V0 d]at h
 split at h
 .exact V2 rfl h
 split at h
 .exact V2 rfl h
 split at h
 .exact V2 rfl h
 split at h <;> exact V2 rfl h
theorem Rp.bytes_len(r:Rp):r.bytes.length<=100000:=by
 unfold Rp.bytes
 split
 .rename_i a;have c:=Rp.right_len a;have b:=dJ [r.kind];have l1:=JA r (cu r.kind);have lo:=wV r.kind;have l2:=AI r.evs;have l3:=dJ [(r.evs.length:Int)];simp only[V9,VW]at b l3;unfold nmB at l1;have l4:(if r.kind=4 then aN [(r.evs.length:Int)] else []).length<=10:=by
   split
   .omega
   .simp
  simp only[V3];omega
 .simp
theorem Rp.bytes_by(r:Rp):aH r.bytes:=by
 unfold Rp.bytes
 split
 .refine dD (dD (dD (iE _) (jy λi _=>iE _)) ?_) (jy λe _=>wW e)
  split
  .exact iE _
  .exact kD
 .exact kD
theorem Bm{rows:DR}{s:RL}{r:Rp}(hs:s.seg<2147483647)(a:r.right=true):iA rows s ⟨r.kind,r.bytes⟩=0:=by
 have b:1<=r.kind/\r.kind<=7:=by
  unfold Rp.right at a;simp only[V7,V6]at a;omega
 have c:=Rp.bytes_len r;have h0:iz r.kind r.bytes.length=0:=by
  unfold iz;rw[nO,nO]
 unfold iA;dsimp only;rw[V0 (by rw[h0];simp),nO]
section
variable {F L:List aE}{H:aD}{K:KE}{Q:aE}{gb db:Nat}{x:GAd}{o:Opt}{s:aI}{recs:Int}{ys:List Oy}{saved:Bool}{num seg:Int}{rl:RL}{rows:DR}{syn:Nat}
theorem KK{r:Rp}{a:KQ}{c:Nat}{evs:List Ev}(ok:cR s)(J:s.sunk<=4611686018427387903)(h0:s.kept.length<=1000000)(k:oB Q F r a evs)
  (P:∀e∈(bO s r).2.1,e.kind=4->WC e.out.2/\e.out.1.ser.size<=1000000) (O:(bO s r).2.1.length<=1000000)
  (D:rl.ok) (u:rows.length<=549755813888) (B:rl.seg<2147483647) (R:0<=recs/\recs<=1000000000) (W:ys.length<=1000000000) (E:∀y∈ys,fK Q y)
  (h:aA H (Q::cellsA gb (kJ o x ys.length recs) 110::stA Q x.sb s::slA 91 11 x.pa ys.length x.pc (flat bH ys)::bookA x.bb x.rb saved num seg::reelA x.rb db rl::diskX db rows syn::F))
  (k1:(bO s r).2.2≠0->∀Q' A,aM Q Q'->aA A (Q'::cellsA gb (kJ o x ys.length recs) 110::stA Q' x.sb s::slA 91 11 x.pa ys.length x.pc (flat bH ys)::bookA x.bb x.rb saved num seg::reelA x.rb db rl::diskX db rows syn::F)->K (aC (bO s r).2.2) A)
  (k2:(bO s r).2.2=0->∀Q' C pa pc A,aM Q Q'->C.map Oy.o=ys.map Oy.o++(bO s r).2.1.flatMap cK->(∀y∈C,fK Q' y)->
   aA A (Q'::cellsA gb (kJ o { x with pa:=pa,pc:=pc } C.length (recs+1)) 110::stA Q' x.sb (bO s r).1::slA 91 11 pa C.length pc (flat bH C)::bookA x.bb x.rb saved num seg::reelA x.rb db (du rows rl ⟨r.kind,r.bytes⟩)::diskX db (gA rows rl ⟨r.kind,r.bytes⟩) syn::F)->K (aC 0) A) :
  CF 47 #[PA gb 0,.agg ⟨de r a c⟩] H K:=by
 refine cN 47 0x11217491d21b111c [[(5,sP)]] ?_;refine h.al λb _ h=>⟨some ⟨x.sb,0,none⟩,h.r 2,some ⟨x.bb,0,none⟩,h.r 2,some ⟨x.rb,0,none⟩,h.r 5,?_⟩
 refine⟨_,GU (h.o [6,0,1,2,3,4,5,7] 8),?_⟩;intro Jn V;refine⟨λn=>V2 (V4 n) (by omega),λ_=>V _ _ ?_⟩
 refine⟨_,_,_,_,_,_,_,_,_,_,_,_,_,_,h.q 0,?_⟩;have h:=h.o [1,3,0,2,4,5,6,7] 8;have L:oB Q (cellsA b (de r a c) 61::cellsA gb (kJ o x ys.length recs) 110::slA 91 11 x.pa ys.length x.pc (flat bH ys)::bookA x.bb x.rb saved num seg::reelA x.rb db rl::diskX db rows syn::F) r a evs:=
  ⟨k.eq,λH h=>k.rd H (h.o [] 6),k.labs,k.len,k.vals⟩
 refine Bc ok J (by omega) L h λG ea ec H2 j h=>⟨_,_,_,_,rfl,λn=>?_,λn=>?_⟩
 .have w:(bO s r).2.2≠0:=by simpa using n
  have e1:=(Ua w).1;rw[e1]at h;exact k1 w G _ j (h.o [0,4,2,5,6,7,8] 9)
 have w:(bO s r).2.2=0:=by simpa using n
 have M:=sH w;have hA:=Bm (rows:=rows) B M;have hk:1<=r.kind/\r.kind<=7:=by
  unfold Rp.right at M;simp only[V7,V6]at M;omega
 obtain⟨d,Y⟩:∃d,(bO s r).2.1=d:=⟨_,rfl⟩;rw[Y]at h P O k2 ⊢;have h1:=Rp.bytes_len r;refine⟨some ⟨x.bb,0,none⟩,h.r 4,_,h.r 3,_,_,_,_,_,_,_,_,_,_,_,_,_,_,h.q 3,?_⟩;refine SP k.eq h ⟨λH h=>k.rd H (h.o [] 9),λe w H h=>((k.labs e w).sub j).at h 0 rfl⟩ (by have:=k.len;omega) λda dc H3 h=>⟨_,_,_,rfl,h.r 4,h.r 5,?_⟩
 refine h.al λb1 _ h=>⟨h.r 5,h.r 6,?_⟩
 have h:=h.o [8,9,10,0,1,2,3,4,5,6,7] 11;refine QO h (λU=>V2 U (by omega)) λ_=>?_
 have h:=h.o [1,2,0,3,4,5,6,7,8,9,10] 11;have f:([(⟨da,dc,r.bytes⟩:Fy)]:List Fy).flatMap Fy.bs=r.bytes:=by simp
 refine Ia (parts:=[⟨da,dc,r.bytes⟩]) (kind:=r.kind) D u h (λH h=>h.ce_rd 1 rfl) (λH h y t=>by rw[VE]at t;subst t;exact h.sl_rd 2 rfl) (by rw[f];exact Rp.bytes_by r) (by simp) (by rw[f];omega) λH4 h=>⟨_,_,rfl,_,_,rfl,λn=>?_,λn=>?_⟩
 .rw [f,hA]at n;exact V2 n (by simp)
 rw[f]at h;refine h.st 9 rfl rfl ?_;intro H5 h;refine⟨_,h.r 9,?_⟩;refine h.st 9 rfl rfl ?_;intro H6 h;refine⟨_,_,_,h.r 9,?_⟩;have hw:i64.wrap (recs+1)=recs+1:=aK;have h:aA H6 (_::_::_::_::_::G::slA 305 87 ea d.length ec (flat dN d)::_::_::cellsA gb (kJ o x ys.length (i64.wrap (recs+1))) 110::slA 91 11 x.pa ys.length x.pc (flat bH ys)::F):=h;rw[hw]at h;have h:=h.o [5,6,7,9,10,2,0,1] 11;refine K9 O P h (λH h=>h.sl_rd 0 rfl) λS i wa wc H7 v hm I h=>⟨_,_,_,rfl,h.r 4,?_⟩
 have T:i.length<=1000000:=by
  have e1:i.length=(d.flatMap cK).length:=by rw[<-hm,VH]
  have:∀l:List bI,(l.flatMap cK).length<=l.length:=by
   intro l
   induction l with
   | nil=>simp
   | cons e l ih=>
    rw[Wb,V3,V9];have:(cK e).length<=1:=by unfold cK;split <;> (try split) <;> (try split) <;> (try split) <;> simp
    omega
  have:=this d;omega
 refine h.append (m:=i.length) (ws:=flat bH i) slOy 5 rfl (h.sl_rd 1 rfl) (fi jB _) (lC pE _) (by omega) (by omega) λpa pc H8 h=>⟨_,_,_,rfl,?_⟩
 refine h.st 4 rfl rfl ?_;intro Z h;have e2:ys.length+i.length=(ys++i).length:=by rw[V3]
 have h:aA Z (S::_::_::stA G x.sb (bO s r).1::cellsA gb (kJ o { x with pa:=pa,pc:=pc } (ys.length+i.length) (recs+1)) 110::slA 91 11 pa (ys.length+i.length) pc (flat bH ys++flat bH i)::_):=h;rw[e2,<-dR]at h;have h:=h.o [0,4,3,5,6,7,8] 9;have N:=oA v (h.o [2,0,1,3,4,5,6] 7);refine k2 w S (ys++i) pa pc _ (j.trans v) (by rw[VT,hm]) (λy t=>?_) (N.o [1,2,0,3,4,5,6] 7)
 rcases VR.1 t with t|t
 .exact (E y t).sub (j.trans v)
 .exact I y t
end
def fg(o:Opt):Bool:=fD o.cfg&&decide (1<=o.probes/\o.probes<=1024)&&decide (1<=o.period/\o.period<=1099511627776)&&decide (64<=o.segment/\o.segment<=1048576)&&decide (1<=o.save/\o.save<=1048576)
section
variable {F L:List aE}{H:aD}{K:KE}{Q:aE}{o:Opt}
theorem Bn(h:aA H F)(k:∀a,aA a F->K (.bool (fg o)) a):CF 35 #[.agg ⟨jE o⟩] H K:=by
 refine cM 35 284 ?_;refine h.al λb _ h=>⟨_,h.r 0,?_⟩
 have key:∀(r1:Int) a,(r1=0↔1<=o.probes/\o.probes<=1024)->aA a F->
   K (.bool (((((((fD o.cfg&&(decide (r1=0)))&&(decide (1<=o.period)))&&(decide (o.period<=1099511627776)))&&(decide (64<=o.segment)))&&(decide (o.segment<=1048576)))&&(decide (1<=o.save)))&&(decide (o.save<=1048576)))) a:=by
  intro r1 a d h;have e:(((((((fD o.cfg&&(decide (r1=0)))&&(decide (1<=o.period)))&&(decide (o.period<=1099511627776)))&&(decide (64<=o.segment)))&&(decide (o.segment<=1048576)))&&(decide (1<=o.save)))&&(decide (o.save<=1048576)))=fg o:=by
   unfold fg;rw[Wi];simp only[V7,V6];rw[d]
   constructor
   .rintro⟨⟨⟨⟨⟨⟨⟨h1,h2⟩,h3⟩,h4⟩,h5⟩,h6⟩,h7⟩,h8⟩;exact⟨⟨⟨⟨h1,h2⟩,h3,h4⟩,h5,h6⟩,h7,h8⟩
   .rintro⟨⟨⟨⟨h1,h2⟩,h3,h4⟩,h5,h6⟩,h7,h8⟩;exact⟨⟨⟨⟨⟨⟨⟨h1,h2⟩,h3⟩,h4⟩,h5⟩,h6⟩,h7⟩,h8⟩
  rw[e];exact k _ h
 refine KC h (λi=>⟨_,_,rfl,?_⟩) λj pb m h=>⟨_,_,rfl,?_⟩
 .refine⟨_,_,_,_,_,_,_,_,_,h.q 0,Be (c:=o.cfg) h λf h=>⟨_,rfl,_,λ_=>h.r 0,_,λ_=>h.r 0,_,λ_=>h.r 0,_,λ_=>h.r 0,_,λ_=>h.r 0,_,λ_=>h.r 0,?_⟩⟩
  exact key 11 _ (by omega) h.tl
 .refine⟨_,_,_,_,_,_,_,_,_,h.q 1,Be (c:=o.cfg) h λf h=>⟨_,rfl,_,λ_=>h.r 1,_,λ_=>h.r 1,_,λ_=>h.r 1,_,λ_=>h.r 1,_,λ_=>h.r 1,_,λ_=>h.r 1,?_⟩⟩
  exact key 0 _ (by omega) h.tl.tl
end
theorem bvI(x:Int):(BitVec.ofInt 64 x).toNat=(x%18446744073709551616).toNat:=by rw[BitVec.toNat_ofInt];rfl
theorem bv_ones:BitVec.ofInt 64 (18446744073709551615:Int)=BitVec.allOnes 64:=by decide
theorem bv_ones':BitVec.ofInt 64 (-1:Int)=BitVec.allOnes 64:=by decide
theorem KM:BitVec.ofInt 64 (0:Int)=0#64:=by decide
theorem Ub{x:Int}(h:0<=x/\x<18446744073709551616):aX .xor .u64 x 0=x:=by
 unfold aX;show u64.wrap ((BitVec.ofInt 64 x^^^BitVec.ofInt 64 0).toNat:Int)=x;rw[KM,BitVec.xor_zero,bvI,df];omega
theorem Uc{x:Int}(h:0<=x/\x<18446744073709551616):aX .xor .u64 x 18446744073709551615=18446744073709551615-x:=by
 unfold aX;show u64.wrap ((BitVec.ofInt 64 x^^^BitVec.ofInt 64 18446744073709551615).toNat:Int)=_;rw[bv_ones,BitVec.xor_allOnes,BitVec.toNat_not,bvI,df];omega
theorem Ud{x:Int}(h:aF x):aX .xor .i64 x 0=x:=by
 unfold aX aF at *;show i64.wrap ((BitVec.ofInt 64 x^^^BitVec.ofInt 64 0).toNat:Int)=x;rw[KM,BitVec.xor_zero,bvI,jM];omega
theorem Ue{x:Int}(h:aF x):aX .xor .i64 x (-1)=-x-1:=by
 unfold aX aF at *;show i64.wrap ((BitVec.ofInt 64 x^^^BitVec.ofInt 64 (-1)).toNat:Int)=_;rw[bv_ones',BitVec.xor_allOnes,BitVec.toNat_not,bvI,jM];omega
theorem andU_one{n:Nat}(h:n<18446744073709551616):aX .and .u64 (n:Int) 1=((n%2:Nat):Int):=by
 have:=and64 (m:=1) h (by decide);rw[Nat.and_one_is_mod]at this;exact this
theorem turnI_eq{v:Int}(h:aF v):qt v=if 0<=v then 2*v else -2*v-1:=by
 unfold qt;show aX .xor .u64 (u64.wrap (u64.wrap v*2^1)) (u64.wrap (Int.fdiv v (2^63)))=_;unfold aF at h;have e2:((2:Int)^63)=9223372036854775808:=by decide
 have e1:((2:Int)^1)=2:=by decide
 rw[e1,e2]
 split
 .have a:Int.fdiv v 9223372036854775808=0:=by
   rw[WT v (by decide)];omega
  rw[a,show u64.wrap 0=0 from rfl,Ub (tS _),df,df];omega
 .have a:Int.fdiv v 9223372036854775808=-1:=by
   rw[WT v (by decide)];omega
  rw[a,show u64.wrap (-1)=18446744073709551615 from rfl,Uc (tS _),df,df];omega
theorem Uf{n:Nat}(h:n<18446744073709551616):rS n=if n%2=0 then ((n/2:Nat):Int) else -((n/2:Nat):Int)-1:=by
 unfold rS;show aX .xor .i64 (i64.wrap (Int.fdiv n (2^1))) (i64.wrap (0-i64.wrap (aX .and .u64 n 1)))=_;have e1:((2:Int)^1)=2:=by decide
 rw[e1,andU_one h,WT _ (by decide)];have a:i64.wrap ((n:Int)/2)=((n/2:Nat):Int):=by rw[jM];omega
 rw[a]
 split
 .rename_i h0;rw[h0];show aX .xor .i64 _ 0=_;exact Ud (by unfold aF;omega)
 .rename_i h0;have b:n%2=1:=by omega
  rw[b];show aX .xor .i64 _ (-1)=_;exact Ue (by unfold aF;omega)
theorem KN{v:Int}(h:aF v):rS (turnN v)=v:=by
 rw[Uf (tT v)];have e:=zr v;rw[turnI_eq h]at e;unfold aF at h
 split at e <;> split <;> omega
theorem Bo{u:Nat}(h:u<18446744073709551616)(r:List Int):rdU 0 0 (bR u++r)=.ok u (bR u).length:=by
 have:=wk (w:=u) (acc:=0) (i:=0) r (by simpa using h) (by omega) (by omega);simpa using this
theorem oC{u:Nat}(h:u<18446744073709551616)(r:List Int):bM ⟨0,bR u++r⟩=(u,⟨0,r⟩):=by
 unfold bM;rw[V0 (by simp),Bo h];simp
theorem Ug{v:Int}(h:aF v):i64.wrap ((u64N v:Nat):Int)=v:=by
 unfold aF at h;have:=wX v;rw[<-this,df,jM];omega
theorem usB1(v:Int):aN [v]=bR (u64N v):=by simp[aN]
theorem mY(v:Int)(l:List Int):aN (v::l)=aN [v]++aN l:=by simp[aN]
theorem intsB1(v:Int):cY [v]=bR (turnN v):=by simp[cY]
theorem KR{v:Int}(h:0<=v)(a:v<18446744073709551616):((u64N v:Nat):Int)=v:=by
 rw[<-wX,df];omega
theorem uE{v:Int}(h:0<=v)(a:v<18446744073709551616)(r:List Int):dZ ⟨0,aN [v]++r⟩=.ok (v,⟨0,r⟩):=by
 unfold dZ;rw[usB1,oC (su v),KR h a];rfl
theorem kK{v:Int}(h:aF v)(r:List Int):cH ⟨0,aN [v]++r⟩=.ok (v,⟨0,r⟩):=by
 unfold cH;rw[usB1,oC (su v),Ug h];rfl
theorem uF{v:Int}(h:aF v)(r:List Int):gj ⟨0,cY [v]++r⟩=.ok (v,⟨0,r⟩):=by
 unfold gj dE;rw[intsB1,oC (tT v),KN h];rfl
theorem Bp{m:Int}{n:Nat}(h:(n:Int)<=m)(a:n<18446744073709551616)(r:List Int):bY m ⟨0,bR n++r⟩=((n:Int),⟨0,r⟩):=by
 unfold bY;rw[V0 (by simp),Bo a];dsimp only;rw[nO];simp
theorem uG{m:Int}{n:Nat}(h:(n:Int)<=m)(a:n<9223372036854775808)(r:List Int):dM m ⟨0,aN [(n:Int)]++r⟩=.ok ((n:Int),⟨0,r⟩):=by
 unfold dM;have e:u64N (n:Int)=n:=by have:=KR (v:=(n:Int)) (by omega) (by omega);omega
 rw[usB1,e,Bp h (by omega)];rfl
theorem uH{m v:Int}(h:0<=v/\v<=m)(a:aF v)(r:List Int):upR m ⟨0,aN [v]++r⟩=.ok (v,⟨0,r⟩):=by
 unfold upR;rw[kK a];dsimp only;rw[V1 (by simp[inM,h])]
theorem Uh(s:Fa):(fj s).length=s.size:=by
 unfold fj;simp
theorem uI{m:Int}{s:Fa}(h:(s.size:Int)<=m)(b:s.size<18446744073709551616)(r:List Int):aY m ⟨0,dd s++r⟩=(fj s,⟨0,r⟩):=by
 unfold aY dd;rw[V0 (by simp),VI,Bo b];dsimp only;have a:=Uh s;rw[nO,V0 (by simp only[V3];omega)];rw[Yj,Yr (by omega),VZ (by omega),<-Ys,Yj,<-a,Yj]
theorem xw(s:Fa):bF (fj s)=s:=by
 unfold bF;apply ByteArray.ext;apply Array.toList_inj.1;rw[strOfNums_data];unfold fj;apply W3
 .simp
 .intro i a b;simp
abbrev bL(l:List UInt8):Fa:=⟨l.toArray⟩
theorem qN(l:List UInt8):aZ (bL l)=l:=by grind
theorem qO(s:Fa):bL (aZ s)=s:=by
 grind
theorem sJ{s t:Fa}(h:aZ s=aZ t):s=t:=by rw[<-qO s,<-qO t,h]
theorem xx(s t:Fa):aZ (s++t)=aZ s++aZ t:=by
 simp_all
theorem sK(s:Fa)(i j:Nat):aZ (s.extract i j)=((aZ s).drop i).take (j-i):=by
 unfold aZ
 simp_all
theorem KU{c:UInt8}{a b:List UInt8}(h:c∉a):cV c (a++c::b)=a.length:=by
 unfold cV
 grind
theorem KV{c:UInt8}{a:List UInt8}(h:c∉a):cV c a=-1:=by
 unfold cV
 grind
theorem KW{c:UInt8}{s:Fa}{a b:List UInt8}(e:aZ s=a++c::b)(h:c∉a):gi c s=(bL a,bL b,true):=by
 unfold gi;have hs:s.size=a.length+(b.length+1):=by grind [lN]
 rw[e,KU h,pO];congr 1
 .apply sJ;rw[sK,e,qN];simp
 .congr 1;apply sJ;rw[sK,e,qN];have:((a.length:Int)).toNat+1=a.length+1:=by omega
  rw[this,<-Ys,Yj,List.drop_one,List.tail_cons]
  grind [List.take_of_length_le]
theorem cutS_no{c:UInt8}{s:Fa}(h:c∉aZ s):gi c s=(s,⟨#[]⟩,false):=by
 unfold gi;rw[KV h,V0 (by decide)]
theorem sufS_at{c:UInt8}{s:Fa}{a:List UInt8}(e:aZ s=a++[c]):mJ c s=(bL a,true):=by
 unfold mJ;have hs:s.size=a.length+1:=by grind [lN]
 have b:s.extract (s.size-1) s.size=(⟨#[c]⟩:Fa):=by
  apply sJ;rw[sK,e,hs];simp
 rw[b,V1 (by simp;omega)];congr 1;apply sJ;rw[sK,e,qN,hs];simp
theorem join2(p q:List UInt8)(r:List (List UInt8)):Go.Lib.join (p::q::r) [44]=p++44::Go.Lib.join (q::r) [44]:=by
 grind [Go.Lib.join_cons,Go.Lib.joinTail]
theorem KX:∀{ps:List (List UInt8)} {n:Nat} {s:Fa},ps≠[]->(∀p∈ps,(44:UInt8)∉p)->ps.length<=n+1->aZ s=Go.Lib.join ps [44]->ja n s=ps.map bL
 | [],_,_,h,_,_,_=>V2 rfl h
 | [p],n,s,_,hp,_,e=>by
  have e:aZ s=p:=by rw[e,Go.Lib.join_one]
  have a:(44:UInt8)∉aZ s:=by grind
  have b:s=bL p:=by rw[<-e,qO]
  cases n with
  | zero=>grind [ja]
  | succ n=>
   unfold ja;rw[KV a,V1 (by decide),b];rfl
 | p::q::r,0,s,_,_,hl,_=>by simp at hl
 | p::q::r,n+1,s,_,hp,hl,e=>by
  have e:aZ s=p++44::Go.Lib.join (q::r) [44]:=by rw[e,join2]
  have a:=hp p (VM ..);have hs:s.size=p.length+((Go.Lib.join (q::r) [44]).length+1):=by grind [lN]
  unfold ja;rw[e,KU a,nO];have e1:s.extract 0 ((p.length:Int)).toNat=bL p:=by
   apply sJ;rw[sK,e,qN];simp
  have e2:aZ (s.extract (((p.length:Int)).toNat+1) s.size)=Go.Lib.join (q::r) [44]:=by
   rw[sK,e,VD,<-Ys,Yj,List.drop_one,List.tail_cons]
   grind [List.take_of_length_le]
  rw[e1,KX (n:=n) (by simp) (λx c=>hp x (VL _ c)) (by simpa using hl) e2]
  rfl
theorem Bq{c:UInt8}(h:pu c=true):c≠44/\c≠61/\c≠123/\c≠125:=by
 unfold pu lowC at h;refine⟨?_,?_,?_,?_⟩ <;> (rintro rfl;grind)
theorem valC_not{c:UInt8}(h:valC c=true):c≠44/\c≠61/\c≠123/\c≠125:=by
 unfold valC at h
 grind
theorem Br{s:Fa}(h:jZ s=true):∀c∈aZ s,pu c=true:=by
 unfold jZ at h
 grind
theorem KY{l:bS}(h:ik l=true):(∀c∈aZ l.value,valC c=true)/\jZ l.name=true:=by
 unfold ik at h
 grind
theorem xy(l:bS):aZ (fA l)=aZ l.name++61::aZ l.value:=by
 grind [fA,xx]
theorem partL_no{l:bS}(h:ik l=true):(44:UInt8)∉aZ (fA l):=by
 obtain⟨a,b⟩:=KY h;rw[xy];simp only[VR,VJ,not_or];exact⟨λhm=>(Bq (Br b _ hm)).1 rfl,by decide,λhm=>(valC_not (a _ hm)).1 rfl⟩
theorem KZ:∀{ps:List (List UInt8)},(∀p∈ps,1<=p.length)->ps.length<=(Go.Lib.join ps [44]).length
 | [],_=>by simp
 | [p],h=>by grind [Go.Lib.join_one]
 | p::q::r,h=>by
  have b:=KZ (ps:=q::r) λx a=>h x (VL _ a)
  rw[join2];simp only[V9,V3]at *;omega
theorem Ui{labs:List bS}(c:∀l∈labs,ik l=true)(f:labs.length<=8):kG (labs.map fA)=some labs:=by
 have key:∀j,j<=labs.length->kG ((labs.take j).map fA)=some (labs.take j):=by
  intro j
  induction j with
  | zero=>intro _;rfl
  | succ j b=>
   intro e;have b:=b (by omega);have a:j<labs.length:=by omega
   rw[WF,List.getElem?_eq_getElem a,Option.toList_some,VT];unfold kG at b ⊢;rw[WX,b];show sr (some (labs.take j)) (fA labs[j])=_;have c:=c _ (VF a);have d:(61:UInt8)∉aZ labs[j].name:=λhm=>(Bq (Br (KY c).2 _ hm)).2.1 rfl
   unfold sr;rw[KW (xy labs[j]) d];dsimp only;rw[VU,V1 (by simp;omega),qO,qO]
 have:=key labs.length (VA _)
 grind
theorem Uj{name:Fa}{labs:List bS}(h:fx name labs=true):im (gC name labs)=(name,labs,true):=by
 have e:=mI h;have a:(123:UInt8)∉aZ name:=λhm=>(Bq (Br e.named _ hm)).2.2.1 rfl
 unfold gC;rw[V1 h]
 split
 .rename_i h0;subst h0;unfold im;rw[cutS_no a]
  grind
 .rename_i h0;have f:aZ (kg labs)=Go.Lib.join ((labs.map fA).map aZ) [44]:=qN _;have e1:aZ (((name++(⟨#[123]⟩:Fa))++kg labs)++(⟨#[125]⟩:Fa))=aZ name++123::(aZ (kg labs)++[125]):=by
   simp_all
  have i:gS (kg labs)=labs.map fA:=by
   have d:∀p∈(labs.map fA).map aZ,(44:UInt8)∉p/\1<=p.length:=by
    intro p c;obtain⟨b,hb,rfl⟩:=VB.1 c;obtain⟨l,j,rfl⟩:=VB.1 hb;exact⟨partL_no (e.val l j),by grind [xy]⟩
   have:=KZ (ps:=(labs.map fA).map aZ) λp c=>(d p c).2
   have:=KX (ps:=(labs.map fA).map aZ) (n:=(kg labs).size) (s:=kg labs) (by grind) (λp c=>(d p c).1) (by grind [lN]) f
   grind [gS,List.map_congr_left]
  unfold im;rw[KW e1 a];dsimp only;rw[V1 rfl,sufS_at (qN _)];dsimp only;rw[V1 rfl,qO,i,Ui e.val e.len,qO]
  grind
theorem La{labs:List bS}(b:∀l∈labs,ik l=true)(r:List Int):∀j,j<=labs.length->dI j ⟨0,labs.flatMap iY++r⟩=(labs.take j,⟨0,(labs.drop j).flatMap iY++r⟩)
 | 0,_=>rfl
 | j+1,h=>by
  have c:=La b r j (by omega);have a:j<labs.length:=by omega
  have hs:=sk (b _ (VF a));have e:(labs.drop j).flatMap iY++r=dd labs[j].name++(dd labs[j].value++((labs.drop (j+1)).flatMap iY++r)):=by
   rw[Wv a,Wb];simp[iY]
  unfold dI;rw[c];dsimp only;rw[e,uI (m:=64) (by omega) (by omega)];dsimp only;rw[uI (m:=64) (by omega) (by omega),xw,xw,WF,List.getElem?_eq_getElem a];rfl
theorem Uk{name:Fa}{labs:List bS}(h:fx name labs=true)(r:List Int):cO ⟨0,iZ name labs++r⟩=⟨name,labs,0,⟨0,r⟩⟩:=by
 have a:=mI h;have hs:=sj a.named;unfold iZ;rw[V1 h];have e:serB name labs++r=dd name++(bR labs.length++(labs.flatMap iY++r)):=by grind [serB]
 unfold cO;rw[e,uI (m:=64) (by omega) (by omega)];dsimp only;have b:=a.len;rw[Bp (m:=8) (by omega) (by omega)];dsimp only;rw[VD,La a.val r labs.length (VA _),Wf,W1];dsimp only;rw[V0 (by simp),xw,V1 h];rfl
def flN(bs:List Bool):Nat->Int
 | 0=>0
 | n+1=>flN bs n+if bs.getD n false then (2:Int)^n else 0
def cbB(k:Ky)(c:Cl):List Int:=cY [k.win]++dC [k.ser,bF (dm c)]
abbrev smB(x:bQ):List Int:=aN [x.asked,x.got,x.sent,x.came]
abbrev rwB(p:Int×Pv):List Int:=aN [p.1]++evB p.2
def agB1(a:Int)(e:En)(fl:Fl)(st:br):List Int:=
 (aN [a,e.epoch,e.boot,e.time,fl.t,flN [fl.out,fl.was,fl.held] 3]++cY [st.last])++aN [flN [st.ck.held] 1,st.ck.streak,(st.ck.smps.length:Int)]
def agB(a:Int)(e:En)(fl:Fl)(st:br):List Int:=
 ((agB1 a e fl st++st.ck.smps.flatMap smB)++aN [st.hs.next,(st.hs.rows.length:Int)])++st.hs.rows.flatMap rwB
theorem xz(bs:List Bool):∀n,n<=3->0<=flN bs n/\flN bs n<(2:Int)^n
 | 0,_=>⟨Wd _,by show (0:Int)<1;decide⟩
 | n+1,h=>by
  have b:=xz bs n (by omega);have a:(2:Int)^(n+1)=2^n+2^n:=by rw[Int.pow_succ];omega
  unfold flN;rw[a]
  split <;> omega
section
variable {F L:List aE}{H:aD}{K KP:KE}{Q Q':aE}{sb:Nat}{s:aI}
theorem Lb{b:Nat}{bs:List Bool}(B:bs.length<=3)(h:aA H F)(i:Nat)(v:aW i F=cellsA b (bs.map .bool) 4):bV Tryz.prog 119 #[.slice (some ⟨b,0,none⟩) bs.length bs.length] H (aC (flN bs bs.length)):=by
 refine cN 119 0x1121561239925117494c [[(3,sI)],[(3,sI),(8,sI)]] ?_;refine⟨λsum i u=>u=H/\∃j:Nat,i=j/\j<=bs.length/\sum=flN bs j,λ_ i _=>bs.length-i.toNat,⟨rfl,0,rfl,by omega,rfl⟩,?_⟩
 rintro sum t w ⟨rfl,j,rfl,A,rfl⟩;refine⟨λm=>?_,λm=>?_⟩
 .have c:j<bs.length:=by have:=V4 m;omega
  have d:=(h.ce_rd i v).at c;refine⟨by omega,_,_,d.1,_,d.2,?_⟩;have hb:=xz bs j (by omega);have y:(2:Int)^j<=4:=by
   rcases (by omega:j=0\/j=1\/j=2) with rfl|rfl|rfl <;> decide
  have hs:flN bs (j+1)=flN bs j+if bs[j] then (2:Int)^j else 0:=by
   show flN bs j+(if bs.getD j false then _ else _)=_
   rw[ov _ c]
  intro n s;have a:n (flN bs (j+1)) w:=by
   refine s _ _ ?_
   conv=>whnf
   rw[aK (x:=(j:Int)+1)];exact⟨⟨rfl,j+1,by omega,c,rfl⟩,by dsimp only;omega⟩
  refine⟨λk=>⟨by omega,?_⟩,λk=>?_⟩
  .rw [hs,V1 k]at a;have e:i64.wrap (1*2^(min (Int.toNat (j:Int)) (i64.bits)))=(2:Int)^j:=by
    rcases (by omega:j=0\/j=1\/j=2) with rfl|rfl|rfl <;> decide
   conv=>whnf
   rw[e,aK];exact a
  .rw [hs,V0 (by rw[k];simp),Int.add_zero]at a;exact a
 .have f:j=bs.length:=by have:=V5 m;omega
  subst f;exact⟨rfl,rfl⟩
theorem Lc{k:Ky}{c:Cl}(wc:WC c)(hs:k.ser.size<=5000):(cbB k c).length<=10100:=by
 have a:=mB [k.win];have d:=lI (s:=k.ser) (by omega);have f:=un wc;have b:=lI (s:=bF (dm c)) (by rw[nP];omega);rw[nP]at b;have e:dC [k.ser,bF (dm c)]=dd k.ser++dd (bF (dm c)):=by simp[dC]
 unfold cbB;rw[V3,e,V3];simp only[V9,VW]at a;omega
theorem Ld{key:Ky}{c:Cl}(wc:WC c)(hs:key.ser.size<=5000)(h:aA H F)
  (k:∀a u t,aA t (slA 5 1 a (cbB key c).length u ((cbB key c).map U8)::F)->K (.slice a (cbB key c).length u) t):CF 57 #[aggK key,aggC c] H K:=by
 have d:=Lc wc hs;have E:=un wc;have B:=nP (dm c);refine cM 57 28 ?_;refine h.al λb _ h=>?_
 refine h.al λb1 _ h=>⟨_,h.r 1,_,h.r 1,_,_,_,_,_,_,_,_,h.rda 0 rfl,?_⟩
 refine h.al λb2 _ h=>⟨h.rda 1 rfl,h.r 2,?_⟩
 refine qG h 0 rfl λa1 c1 A h=>⟨_,_,_,rfl,h.rda 2 rfl,h.r 3,?_⟩
 refine Jd wc h λa2 c2 C h=>⟨_,_,_,rfl,h.r 4,?_⟩
 have f:=oX (c:=c2) (bs:=dm c) (by
  rcases (kz (F:=star _) h).2 with ⟨j,_⟩|⟨b,pre,post,G,fr,j,_⟩
  .exact .inl j
  .exact .inr ⟨_,_,j⟩) (h.sl_rd 0 rfl)
 refine⟨_,f,?_⟩;refine h.al λb3 _ h=>?_
 have e:dC [key.ser,bF (dm c)]=dd key.ser++dd (bF (dm c)):=by simp[dC]
 have l1:=lI (s:=key.ser) (by omega);have l2:=lI (s:=bF (dm c)) (by omega);refine wr (ts:=[key.ser,bF (dm c)]) h (λH h=>h.ce_rd 0 rfl) (λi=>?_) (by
   intro x v;simp only[VJ,W8,or_false]at v
   rcases v with rfl|rfl <;> omega) (by simp) λa3 c3 y h=>⟨_,_,_,rfl,?_⟩
 .have n:(dC ([key.ser,bF (dm c)].take i)).length<=(dC [key.ser,bF (dm c)]).length:=by
   have w:[key.ser,bF (dm c)]=[key.ser,bF (dm c)].take i++[key.ser,bF (dm c)].drop i:=(Wt _ _).symm;rw[show (dC [key.ser,bF (dm c)]).length=(dC ([key.ser,bF (dm c)].take i++[key.ser,bF (dm c)].drop i)).length by rw[<-w]];unfold dC;rw[W4,V3];omega
  rw[e,V3]at n;omega
 .have m:(cY [key.win]++dC [key.ser,bF (dm c)]).length<=10100:=d;rw[V3]at m;refine dp h (i:=3) rfl rfl rfl (h.sl_rd 0 rfl) (by omega) λa4 c4 D h=>⟨_,_,_,rfl,?_⟩
  exact k _ _ _ (h.o [3] 7)
theorem Le(l:List bQ):(l.flatMap smB).length<=40*l.length:=by
 induction l with
 | nil=>simp
 | cons i l ih=>
  have:(smB i).length<=10*4:=dJ [i.asked,i.got,i.sent,i.came];rw[Wb,V3,V9];omega
theorem Lf(l:cy Pv):(l.flatMap rwB).length<=1330*l.length:=by
 induction l with
 | nil=>simp
 | cons i l ih=>
  have a:=dJ [i.1];have b:=wY i.2;rw[Wb,V3,V9,V3];simp only[V9,VW]at a;omega
theorem Ul{a:Int}{e:En}{st:br}(ok:cR s)(ha:0<=a)(A:s.sts[a.toNat]?=some (some st)){p:SAd}{A1 A2 A3 A4 A5:aE}(h:aA H (Q::cellsA sb (dq s p) 145::A1::A2::Ma.markC p.mb p.mm s.ms::Ma.mapF p.mm s.ms.m::A3::A4::strmA Q p.tm s.sts::A5::F))
  (k:∀C D B,aA B (slA 5 1 C (agB a e (bG s.ms a) st).length D ((agB a e (bG s.ms a) st).map U8)::Q::cellsA sb (dq s p) 145::A1::A2::Ma.markC p.mb p.mm s.ms::Ma.mapF p.mm s.ms.m::A3::A4::strmA Q p.tm s.sts::A5::F)->K (.slice C (agB a e (bG s.ms a) st).length D) B) :
  CF 54 #[PA sb 0,aC a,aggE e] H K:=by
 have N:((a.toNat:Nat):Int)=a:=by omega
 have d:=ok.sts st (Wg A);have h0:=d.ck.len;have Y:=Bi d;refine OX ?_;refine h.al λb _ h=>?_
 have h:=h.o [9,2,3,4,5,6,7,8,10,0,1] 11;obtain⟨I,bl,w,h⟩:=qK h A;have h:=h.o [1,0,2,3,4,5,6,7,8,9,10,11,12] 13;obtain⟨cb,hb,h⟩:=gW.1 h;have u:=qL w h 3 rfl;rw[N]at u;refine⟨_,h.r 5,_,u,_,h.r 5,?_⟩;have h:=h.o [8,9,0,1,2,3,4,5,6,7,10,11,12,13,14] 15;refine Ma.Of_spec (a:=a) h λH1 h=>⟨_,_,_,_,_,rfl,?_⟩
 refine h.al λb1 _ h=>?_
 refine h.st 0 rfl rfl ?_;intro H2 h;refine⟨_,h.r 14,_,h.r 14,_,h.r 14,_,h.r 0,_,h.r 0,_,h.r 0,_,h.r 0,?_⟩;refine h.al λb2 _ h=>⟨h.r 1,h.r 15,h.r 15,h.r 15,_,Lb (bs:=[(bG s.ms a).out,(bG s.ms a).was,(bG s.ms a).held]) (by simp) h 0 rfl,?_⟩
 refine h.al λb3 _ h=>?_
 refine px (vs:=[a,e.epoch,e.boot,e.time,(bG s.ms a).t,flN [(bG s.ms a).out,(bG s.ms a).was,(bG s.ms a).held] 3]) h (λH h=>h.ce_rd 0 rfl) (by simp) λa1 c1 H3 h=>⟨_,_,_,rfl,cZ ⟨_,h.r 6,?_⟩⟩
 have q1:=dJ [a,e.epoch,e.boot,e.time,(bG s.ms a).t,flN [(bG s.ms a).out,(bG s.ms a).was,(bG s.ms a).held] 3];have q2:=mB [st.last];have q3:=dJ [flN [st.ck.held] 1,st.ck.streak,(st.ck.smps.length:Int)];have q4:=dJ [st.hs.next,(st.hs.rows.length:Int)];simp only[V9,VW]at q1 q2 q3 q4;unfold agB agB1 at k;generalize aN [a,e.epoch,e.boot,e.time,(bG s.ms a).t,flN [(bG s.ms a).out,(bG s.ms a).was,(bG s.ms a).held] 3]=X1 at *;refine h.al λb4 _ h=>?_
 refine qG h 0 rfl λa2 c2 H4 h=>⟨_,_,_,rfl,?_⟩
 generalize cY [st.last]=X2 at *;refine dp h (i:=2) rfl rfl rfl (h.sl_rd 0 rfl) (by omega) λa3 c3 H5 h=>⟨_,_,_,rfl,?_⟩
 have h:=h.o [9,2,6,7,8,10,11,12,13,14,15,16,17,18,20] 21;refine cZ ⟨_,h.rd 4 rfl 0,?_⟩;refine Ad h (by omega) λsa sc H6 h=>⟨_,_,_,rfl,cZ ⟨_,h.rd 5 rfl 0,_,uf (h.o [1] 2),cZ ⟨_,h.rd 5 rfl 0,?_⟩⟩⟩
 refine h.al λb5 _ h=>⟨h.rd 6 rfl 0,_,Lb (bs:=[st.ck.held]) (by simp) h 0 rfl,_,Ri (h.o [2] 3),?_⟩
 refine h.al λb6 _ h=>?_
 refine px (vs:=[flN [st.ck.held] 1,st.ck.streak,(st.ck.smps.length:Int)]) h (λH h=>h.ce_rd 0 rfl) (by simp) λa4 c4 H7 h=>⟨_,_,_,rfl,?_⟩
 generalize aN [flN [st.ck.held] 1,st.ck.streak,(st.ck.smps.length:Int)]=X3 at *;refine dp h (i:=5) rfl rfl rfl (h.sl_rd 0 rfl) (by rw[V3];omega) λa5 c5 H8 h=>⟨_,_,_,rfl,?_⟩
 have hO:((X1++X2)++X3).length<=100:=by simp only[V3];omega
 generalize (X1++X2)++X3=O at *;refine⟨λC S D i B=>∃j:Nat,i=j/\j<=st.ck.smps.length/\S=(O++(st.ck.smps.take j).flatMap smB).length/\
  aA B (slA 5 1 C (O++(st.ck.smps.take j).flatMap smB).length D ((O++(st.ck.smps.take j).flatMap smB).map U8)::slA 58 4 sa st.ck.smps.length sc (flat eZ st.ck.smps)::ckA cb st.ck::Ma.markC p.mb p.mm s.ms::Ma.mapF p.mm s.ms.m::cellsA I [PA cb 0,PA hb 0,aC st.last] 173::hldA Q hb st.hs::mapA aC ptV p.tm (cW 0 bl)::lR Q bl s.sts a.toNat::
   cellsA sb (dq s p) 145::A1::A2::A3::A4::A5::Q::F),
  λ_ _ _ i _=>st.ck.smps.length-i.toNat,⟨0,rfl,by omega,by simp,?_⟩,?_⟩
 .rw [show O++(st.ck.smps.take 0).flatMap smB=O by simp];exact h.o [5,3,4,6,7,8,9,10,11,12,13,14,15,16,17,18] 19
 rintro a6 n6 c6 i H9 ⟨j,rfl,hj,rfl,h⟩;have L:=Le (st.ck.smps.take j);have T:(st.ck.smps.take j).length<=st.ck.smps.length:=by rw[VU];omega
 refine⟨λc=>?_,λc=>?_⟩
 .have c:j<st.ck.smps.length:=by have:=V4 c;omega
  have V:=h.sl_rd 1 rfl;refine⟨by omega,_,_,V.some kF (by omega) c,_,_,_,_,V.els kF c,?_⟩;refine h.al λb8 _ h=>?_
  refine h.st 0 rfl rfl ?_;intro P h;refine⟨_,h.r 0,_,h.r 0,_,h.r 0,_,h.r 0,?_⟩;refine h.al λb9 _ h=>?_
  refine px (vs:=[st.ck.smps[j].asked,st.ck.smps[j].got,st.ck.smps[j].sent,st.ck.smps[j].came]) h (λH h=>h.ce_rd 0 rfl) (by simp) λa7 c7 U h=>⟨_,_,_,rfl,?_⟩
  have q5:=dJ [st.ck.smps[j].asked,st.ck.smps[j].got,st.ck.smps[j].sent,st.ck.smps[j].came];simp only[V9,VW]at q5;refine dp h (i:=3) rfl rfl rfl (h.sl_rd 0 rfl) (by rw[V3];omega) λa8 c8 R h=>⟨_,_,_,rfl,?_⟩
  rw[aK (x:=(j:Int)+1)];have e5:O++(st.ck.smps.take (j+1)).flatMap smB=(O++(st.ck.smps.take j).flatMap smB)++aN [st.ck.smps[j].asked,st.ck.smps[j].got,st.ck.smps[j].sent,st.ck.smps[j].came]:=by
   rw[jP (f:=smB) c,VI]
  rw[<-e5]at h ⊢;exact⟨⟨j+1,by omega,c,rfl,h.o [3,4,5,6,7,8,9,10,11,12,13,14,15,16,17,18] 19⟩,by dsimp only;omega⟩
 have y:st.ck.smps.length<=j:=by have:=V5 c;omega
 rw[VZ y]at h L ⊢;have y3:(O++st.ck.smps.flatMap smB).length<=500:=by rw[V3];omega
 generalize O++st.ck.smps.flatMap smB=O2 at *;refine cZ ⟨_,h.r 5,cZ ⟨_,h.r 5,?_⟩⟩;have h:=h.o [6,0,2,3,4,5,7,8,9,10,11,12,13,14,15] 16;refine AE h d.hs.rows.rising (Bh d) (by omega) λwa wc P h=>⟨_,_,_,rfl,h.r 6,?_⟩
 have h:=h.o [1,0,2,3,4,5,6,7,8,9,10,11,12,13,14,15] 16;refine J8 h λh8 U h=>⟨_,rfl,?_⟩
 refine SN h d.hs.rows.rising (Bh d) (by omega) λea ec evs R v E h=>⟨_,_,_,rfl,?_⟩
 have h9:evs.length=st.hs.rows.length:=by have:=congrArg List.length v;simpa using this
 refine cZ ⟨_,h.r 8,_,uq (h.o [2] 3),?_⟩;refine h.al λr8 _ h=>?_
 refine px (vs:=[st.hs.next,(st.hs.rows.length:Int)]) h (λH h=>h.ce_rd 0 rfl) (by simp) λa7 c7 l5 h=>⟨_,_,_,rfl,?_⟩
 generalize aN [st.hs.next,(st.hs.rows.length:Int)]=X4 at *;refine dp h (i:=6) rfl rfl rfl (h.sl_rd 0 rfl) (by omega) λa8 c8 W h=>⟨_,_,_,rfl,?_⟩
 have h5:(O2++X4).length<=600:=by rw[V3];omega
 generalize O2++X4=O3 at *;have h4:(aG st.hs.rows).length=st.hs.rows.length:=by simp[aG]
 refine⟨λC S D i B=>∃j:Nat,i=j/\j<=st.hs.rows.length/\S=(O3++(st.hs.rows.take j).flatMap rwB).length/\
  aA B (slA 5 1 C (O3++(st.hs.rows.take j).flatMap rwB).length D ((O3++(st.hs.rows.take j).flatMap rwB).map U8)::slA 99 4 ea evs.length ec (flat cw evs)::slA 2 1 wa st.hs.rows.length wc ((aG st.hs.rows).map aC)::hldA Q hb st.hs::ckA cb st.ck::Ma.markC p.mb p.mm s.ms::Ma.mapF p.mm s.ms.m::cellsA I [PA cb 0,PA hb 0,aC st.last] 173::mapA aC ptV p.tm (cW 0 bl)::lR Q bl s.sts a.toNat::
   cellsA sb (dq s p) 145::A1::A2::A3::A4::A5::Q::F),
  λ_ _ _ i _=>st.hs.rows.length-i.toNat,⟨0,rfl,by omega,by simp,?_⟩,?_⟩
 .rw [show O3++(st.hs.rows.take 0).flatMap rwB=O3 by simp];exact h.o [6,2,5,4,7,8,9,10,11,12,13,14,15,16,17,18,19] 20
 rintro a9 n9 c9 i h6 ⟨j,rfl,hj,rfl,h⟩;have L:=Lf (st.hs.rows.take j);have T:(st.hs.rows.take j).length<=st.hs.rows.length:=by rw[VU];omega
 refine⟨λc=>?_,λc=>?_⟩
 .have c:j<st.hs.rows.length:=by have:=V4 c;omega
  have J:j<(aG st.hs.rows).length:=by omega
  have n:j<evs.length:=by omega
  have M:=(h.sl_rd 2 rfl).at J;refine⟨by omega,_,_,M.1,_,M.2,?_⟩;refine h.al λy2 _ h=>?_
  refine nQ h 0 rfl λr9 h2 j2 h=>⟨_,_,_,rfl,?_⟩
  have q5:=dJ [(aG st.hs.rows)[j]];simp only[V9,VW]at q5;refine dp h (i:=2) rfl rfl rfl (h.sl_rd 0 rfl) (by rw[V3];omega) λl6 l0 u8 h=>⟨_,_,_,rfl,?_⟩
  have G:=h.sl_rd 3 rfl;refine⟨by omega,_,_,G.some fI (by omega) n,_,_,_,_,_,_,G.els fI n,?_⟩;refine J9 (e:=evs[j]) h (λH h=>(E _ (VF n)).at h 18 rfl) λh7 j1 h3 h=>⟨_,_,_,rfl,?_⟩
  have q6:=wY evs[j].p;refine dp h (i:=3) rfl rfl rfl (h.sl_rd 0 rfl) (by simp only[V3];omega) λj3 Z r0 h=>⟨_,_,_,rfl,?_⟩
  rw[aK (x:=(j:Int)+1)];have ek:(aG st.hs.rows)[j]=st.hs.rows[j].1:=by simp[aG]
  have ep:evs[j].p=st.hs.rows[j].2:=by
   have h1:(evs.map Ev.p)[j]'(by simpa using n)=(st.hs.rows.map (·.2))[j]'(by simpa using c):=by simp only[v]
   simpa using h1
  have e5:O3++(st.hs.rows.take (j+1)).flatMap rwB=((O3++(st.hs.rows.take j).flatMap rwB)++aN [(aG st.hs.rows)[j]])++evB evs[j].p:=by
   rw[jP (f:=rwB) c,ek,ep,VI,VI]
  rw[<-e5]at h ⊢;exact⟨⟨j+1,by omega,c,rfl,h.o [3,4,5,6,7,8,9,10,11,12,13,14,15,16,17,18,19] 20⟩,by dsimp only;omega⟩
 .have y:st.hs.rows.length<=j:=by have:=V5 c;omega
  rw[VZ y]at h ⊢;refine k _ _ _ ?_;have h:=h.o [7,4,3,8,9,10,11,12,5,6,13,14,15,0,16] 17;have h:=gW.2 ⟨cb,hb,h⟩;have h:=h.o [1,0,2,3,4,5,6,7,8,9,10,11,12] 13;have h:=sE w h;rw[K6 A]at h;exact h.o [9,10,1,2,3,4,5,6,7,0,8] 11
end
def dU(s:aI)(p:Int×En):List Int:=match dP s p.1 with
 | some st=>agB p.1 p.2 (bG s.ms p.1) st
 | none=>[]
def nStr(s:aI):Nat:=(s.sts.filter Option.isSome).length
abbrev ceB(o:Ot):List Int:=cbB o.1 o.2
def ku(s:aI):List Int:=(aN [s.now,s.boots,s.sunk,s.ms.now]++cY [s.ms.value])++aN [(nStr s:Int)]
def jq(s:aI):List Int:=(ku s++(aR 0 s.rows).flatMap (dU s))++aN [(s.cm.length:Int)]
def li(s:aI):List Int:=(jq s++(bA s.cm).flatMap ceB)++aN [(s.kept.length:Int)]
def stB(s:aI):List Int:=li s++s.kept.flatMap ceB
structure qP(s:aI):Prop where
 cm:∀p∈s.cm,p.1.ser.size<=5000
 kept:∀o∈s.kept,o.1.ser.size<=5000
theorem Bs{α:Type}:∀{l:List (Option α)} {i:Nat},(cW i l).length=(l.filter Option.isSome).length
 | [],i=>rfl
 | none::r,i=>Bs (l:=r) (i:=i+1)
 | some b::r,i=>by
  show (_::cW (i+1) r).length=_;rw[V9,Bs (l:=r)];rfl
theorem Lg{α β:Type}:∀{l:List (Option α)} {m:List (Option β)},l.map Option.isSome=m.map Option.isSome->(l.filter Option.isSome).length=(m.filter Option.isSome).length
 | [],[],_=>rfl
 | x::r,y::m,h=>by
  simp only[Wa,List.cons.injEq]at h;have a:=Lg h.2;rw[Wk,Wk,h.1]
  split
  .rw [V9,V9,a]
  .exact a
 | [],y::m,h=>by simp at h
 | x::r,[],h=>by simp at h
theorem Bt{m:CM}{o:Ot}(h:o∈bA m):∃p∈m,p.1=o.1:=by
 unfold bA at h;obtain⟨k,a,rfl⟩:=VB.1 h;have:=(kX _).mem_iff.1 a;obtain⟨p,b,e⟩:=VB.1 this;exact⟨p,b,e⟩
section
variable {F L:List aE}{H:aD}{K KP:KE}{Q Q':aE}{sb:Nat}{s:aI}
theorem agB_len{a:Int}{e:En}{fl:Fl}{st:br}(b:lS s.cfg st):(agB a e fl st).length<=345000:=by
 have q1:=dJ [a,e.epoch,e.boot,e.time,fl.t,flN [fl.out,fl.was,fl.held] 3];have q2:=mB [st.last];have q3:=dJ [flN [st.ck.held] 1,st.ck.streak,(st.ck.smps.length:Int)];have q4:=dJ [st.hs.next,(st.hs.rows.length:Int)];have q5:=Le st.ck.smps;have q6:=Lf st.hs.rows;have d:=b.ck.len;have c:=Bi b;unfold agB agB1;simp only[V3,V9,VW]at *;omega
theorem xA(ok:cR s)(p:Int×En):(dU s p).length<=345000:=by
 unfold dU
 cases h:dP s p.1 with
 | none=>simp
 | some st=>exact agB_len (ok.sts st (Wg (K7 h).2))
theorem oD{α:Type}{f:α->List Int}{B:Nat}:∀{l:List α},(∀x∈l,(f x).length<=B)->(l.flatMap f).length<=B*l.length
 | [],_=>by simp
 | x::r,h=>by
  have c:=h x (VM ..);have b:=oD (l:=r) λy a=>h y (VL _ a)
  rw[Wb,V3,V9,Nat.mul_succ];omega
theorem xB{o:Ot}(wc:WC o.2)(hs:o.1.ser.size<=5000):(ceB o).length<=10100:=Lc wc hs
theorem Lh:(ku s).length<=60:=by
 have q1:=dJ [s.now,s.boots,s.sunk,s.ms.now];have q2:=mB [s.ms.value];have q3:=dJ [(nStr s:Int)];unfold ku;simp only[V3,V9,VW]at *;omega
theorem strm_len{tm:Nat}{sts:List (Option br)}(h:aA H (strmA Q tm sts::F)):dj Tryz.prog (Builtin.len_ #[142] 3 #[(.map (some tm))]) H (.int .i64 ((sts.filter Option.isSome).length:Nat)):=by
 obtain⟨bl,hm,h⟩:=lf.1 h;have:=h.mp_len (ty:=3) qI 0 rfl;rw[Bs,Lg hm]at this;exact this
theorem Bu(ok:cR s)(ser:qP s)(hkl:s.kept.length<=50000)(h:aA H (Q::stA Q sb s::F))
  (k:∀a c v,aA v (slA 5 1 a (stB s).length c ((stB s).map U8)::Q::stA Q sb s::F)->K (.slice a (stB s).length c) v) :
  CF 17 #[PA sb 0] H K:=by
 refine cL 17 (.r (.seq (.regJ [(3,sA)]) (.r (.r (.seq (.r (.blk (.rng [sI,.agg [.int .i64,.int .i64,.int .i64]] [none] (.r .reg) (.blk .reg)))) (.r (.seq (.r (.blk (.rng [.agg [.int .i64,.str],.agg [.int .i64,.int .i64,.int .u64,.int .i64,.int .i64,.int .i64,.int .i64,.vec .i64 65]] [none] (.r .reg) (.blk .reg)))) (.r (.seq (.r (.blk (.loop [(95,sI)] (.r (.seq (.cond .no .no) (.seq (.blk (.r .reg)) .reg)))))) (.r .no)))))))))) ?_;refine h.al λb _ h=>?_
 have h:=h.o [2,0,1] 3;obtain⟨p,h⟩:=cX.1 h;intro Jn hJ;have hle:=xh ok.rows;have hagl:((aR 0 s.rows).flatMap (dU s)).length<=345000*64:=by
  have:=oD (f:=dU s) (l:=aR 0 s.rows) (B:=345000) λx _=>xA ok x
  have:345000*(aR 0 s.rows).length<=345000*64:=Yd _ hle;omega
 have hol:=uk (m:=s.cm);have hcl:=ok.sh.len;have hcm:=ok.sh.m2;have hO:∀o∈bA s.cm,(ceB o).length<=10100:=λo J=>by
  obtain⟨q,hq,e⟩:=Bt J;exact xB (xu ok.sh o J) (by rw[<-e];exact ser.cm q hq)
 have O:∀o∈s.kept,(ceB o).length<=10100:=λo J=>xB (ok.kept o J) (ser.kept o J)
 have t:∀C a c v,aA v (cellsA C [.slice a (aN [s.now,s.boots,s.sunk,s.ms.now]).length c] 43::slA 5 1 a (aN [s.now,s.boots,s.sunk,s.ms.now]).length c ((aN [s.now,s.boots,s.sunk,s.ms.now]).map U8)::
   cellsA sb (dq s p) 145::Ro.rollC p.rb p.rm s.cfg.agents::Ro.mapE p.rm s.rows::Ma.markC p.mb p.mm s.ms::Ma.mapF p.mm s.ms.m::shC p.hb p.hm s.cfg.cells::cz p.hm s.cm::strmA Q p.tm s.sts::slA 164 74 p.ka s.kept.length p.kc (flat cI s.kept)::cellsA b [PA sb 0] 40::Q::F)->Jn C 0 v:=by
  intro C a0 c0 H1 h;refine hJ _ _ _ ?_;have q1:=dJ [s.now,s.boots,s.sunk,s.ms.now];have q2:=mB [s.ms.value];have q3:=dJ [(nStr s:Int)];have q4:=dJ [(s.cm.length:Int)];have q5:=dJ [(s.kept.length:Int)];simp only[V9,VW]at q1 q2 q3 q4 q5;have hS1:=Lh (s:=s);have h5:ku s=(aN [s.now,s.boots,s.sunk,s.ms.now]++cY [s.ms.value])++aN [(nStr s:Int)]:=rfl;have I:jq s=(ku s++(aR 0 s.rows).flatMap (dU s))++aN [(s.cm.length:Int)]:=rfl;have N:li s=(jq s++(bA s.cm).flatMap ceB)++aN [(s.kept.length:Int)]:=rfl;have hS2:(jq s).length<=22100000:=by rw[I,V3,V3];omega
  have hcl2:((bA s.cm).flatMap ceB).length<=10100*1024:=by
   have h1:=oD (f:=ceB) (l:=bA s.cm) (B:=10100) hO;have:10100*(bA s.cm).length<=10100*1024:=Yd _ (by omega);omega
  have hS3:(li s).length<=40000000:=by rw[N,V3,V3];omega
  generalize aN [s.now,s.boots,s.sunk,s.ms.now]=X0 at *;refine⟨_,_,_,h.r 0,_,h.rd 11 rfl _,⟨_,h.r 2,_,Ma.Value_spec h 5 rfl,?_⟩⟩;refine h.al λb1 _ h=>⟨h.r 1,?_⟩
  refine qG h 0 rfl λa1 c1 H2 h=>⟨_,_,_,rfl,h.r 2,?_⟩
  refine dp h (i:=3) rfl rfl rfl (h.sl_rd 0 rfl) (by omega) λa2 c2 H3 h=>⟨_,_,_,rfl,?_⟩
  generalize cY [s.ms.value]=X1 at *;refine h.st 2 rfl rfl ?_;intro H4 h;have h:=h.o [2,3,4,5,6,7,8,9,10,11,12,13,14] 15;refine⟨_,_,_,h.r 0,_,h.rd 11 rfl _,⟨_,h.r 2,_,strm_len (h.o [9] 10),?_⟩⟩;refine h.al λb2 _ h=>⟨h.r 1,?_⟩
  refine nQ h 0 rfl λa3 c3 H5 h=>⟨_,_,_,rfl,h.r 2,?_⟩
  refine dp h (i:=3) rfl rfl rfl (h.sl_rd 0 rfl) (by rw[V3];unfold nStr at q3;omega) λa4 c4 H6 h=>⟨_,_,_,rfl,?_⟩
  rw[show (X0++X1)++aN [((s.sts.filter Option.isSome).length:Int)]=ku s from h5.symm]at h ⊢;refine h.st 2 rfl rfl ?_;intro H7 h;have h:=h.o [2,3,4,5,6,7,8,9,10,11,12,13,14] 15;refine⟨_,h.rd 11 rfl _,⟨_,h.r 2,?_⟩⟩;refine Ro.All_spec h λY W h=>⟨_,_,rfl,rfl,λR r8 hR2 hy=>?_⟩
  have h:=h.rng R;refine Ro.All1_spec (rb:=p.rb) (mb:=p.rm) (most:=s.cfg.agents) (c0:=Y) ok.rows (λj=>exS λq:KQ×Nat=>star [cellsA C [.slice q.1 (ku s++((aR 0 s.rows).take j).flatMap (dU s)).length q.2] 43,slA 5 1 q.1 (ku s++((aR 0 s.rows).take j).flatMap (dU s)).length q.2 ((ku s++((aR 0 s.rows).take j).flatMap (dU s)).map U8),
    cellsA sb (dq s p) 145,Ma.markC p.mb p.mm s.ms,Ma.mapF p.mm s.ms.m,strmA Q p.tm s.sts,cellsA b [PA sb 0] 40,Q,pt (W.size+1) (.loop R)]) (pur False)
   (F:=pt W.size (.deferred (some []))::shC p.hb p.hm s.cfg.cells::cz p.hm s.cm::slA 164 74 p.ka s.kept.length p.kc (flat cI s.kept)::F) ?_ ?_ ?_ ?_
  .refine cJ.2 ⟨(a4,c4),aA.shut [_,_,_,_,_,_,_,_,_] ?_⟩;rw[show ku s++((aR 0 s.rows).take 0).flatMap (dU s)=ku s by simp];exact h.o [3,4,5,8,9,12,14,15,0,2,6,7,1,10,11,13] 16
  .intro j E G H9 K1 h kt _;obtain⟨⟨a5,c5⟩,h⟩:=cJ.1 h;have h:=aA.open (A:=[_,_,_,_,_,_,_,_,_]) h;dsimp only at h;refine hy _ _ _ ?_;refine⟨_,_,_,_,rfl,h.getO 8 rfl,?_⟩;refine h.al λb3 _ h=>?_
   refine h.st 0 rfl rfl ?_;intro Z h;refine⟨h.getO 9 rfl,h.stl 9 rfl λH11 h=>⟨_,_,_,h.r 1,_,h.r 7,_,_,_,h.q 0,?_⟩⟩
   have d:=VF E;have h9:=pA d;have L:0<(bg s.rows (aR 0 s.rows)[j].1).epoch:=by
    have r9:=AS (i:=0) (l:=s.rows) (k:=(aR 0 s.rows)[j].1.toNat);rw[VQ,show (((aR 0 s.rows)[j].1.toNat:Nat):Int)=(aR 0 s.rows)[j].1 by omega]at r9;have h1:aJ (aR 0 s.rows)[j].1 (aR 0 s.rows)=some (aR 0 s.rows)[j].2:=nA xf d;have h2:=uv ok.rows (agent:=(aR 0 s.rows)[j].1);rw[h1]at h2;rw[<-h2];exact h9.2.2
   obtain⟨U,st,V⟩:=ok.str L;have l0:dU s (aR 0 s.rows)[j]=agB (aR 0 s.rows)[j].1 (aR 0 s.rows)[j].2 (bG s.ms (aR 0 s.rows)[j].1) st:=by
    unfold dU;rw[xt U V]
   have hagn:=xA ok (aR 0 s.rows)[j];have P:=oD (f:=dU s) (l:=(aR 0 s.rows).take j) (B:=345000) λx _=>xA ok x
   have S:((aR 0 s.rows).take j).length<=(aR 0 s.rows).length:=by rw[VU];omega
   have T:345000*((aR 0 s.rows).take j).length<=345000*64:=Yd _ (by omega);have h:=lV (lV (lV (lV (lV h))));have h:=h.o [13,8,0,1,9,10,2,3,11,4,5,6,7,12,14] 15;refine Ul (e:=(aR 0 s.rows)[j].2) ok U V h λa6 c6 u8 h=>⟨_,_,_,rfl,h.r 12,?_⟩
   rw[<-l0]at h ⊢;refine dp h (i:=13) rfl rfl rfl (h.sl_rd 0 rfl) (by rw[V3];omega) λa7 c7 y2 h=>⟨_,_,_,rfl,?_⟩
   refine h.st 12 rfl rfl ?_;intro u h;refine⟨h.getO 15 rfl,kt _ ?_⟩;have h:=h.setO 15 rfl (.loop R);have e5:ku s++((aR 0 s.rows).take (j+1)).flatMap (dU s)=(ku s++((aR 0 s.rows).take j).flatMap (dU s))++dU s (aR 0 s.rows)[j]:=by
    rw[jP (f:=dU s) E,VI]
   refine cJ.2 ⟨(a7,c7),aA.shut [_,_,_,_,_,_,_,_,_] ?_⟩;dsimp only;rw[e5];exact h.o [12,13,2,5,6,9,14,1,15] 16
  .intro H9 h;obtain⟨⟨a5,c5⟩,h⟩:=cJ.1 h;have h:=aA.open (A:=[_,_,_,_,_,_,_,_,_]) h;dsimp only at h;rw[Wf]at h;refine⟨.ready,none,by decide,by rw[nC r8 hR2];exact h.getO 8 rfl,h.stl 8 rfl λZ h=>⟨rfl,?_⟩⟩
   refine⟨_,_,_,h.r 0,_,h.rd 6 rfl _,⟨_,h.r 2,_,R7 h 13 14 rfl rfl,?_⟩⟩;refine h.al λb4 _ h=>⟨h.r 1,?_⟩
   refine nQ h 0 rfl λa6 c6 H11 h=>⟨_,_,_,rfl,h.r 2,?_⟩
   refine dp h (i:=3) rfl rfl rfl (h.sl_rd 0 rfl) (by rw[V3];omega) λa7 c7 u8 h=>⟨_,_,_,rfl,?_⟩
   rw[<-I]at h ⊢;refine h.st 2 rfl rfl ?_;intro y2 h;have h:=h.o [2,3,4,5,6,7,8,9,12,13,14,15,16,17] 18;refine⟨_,h.rd 6 rfl _,⟨_,h.r 2,?_⟩⟩;refine IS h λh3 u h=>⟨_,_,rfl,rfl,λR1 r0 h7 l6=>?_⟩
   have h:=h.rng R1;refine IT (sb:=p.hb) (mb:=p.hm) (most:=s.cfg.cells) (m:=s.cm) (c0:=h3) (by omega)
    (λj=>exS λq:KQ×Nat=>star [cellsA C [.slice q.1 (jq s++((bA s.cm).take j).flatMap ceB).length q.2] 43,slA 5 1 q.1 (jq s++((bA s.cm).take j).flatMap ceB).length q.2 ((jq s++((bA s.cm).take j).flatMap ceB).map U8),shC p.hb p.hm s.cfg.cells,cz p.hm s.cm,pt (u.size+1) (.loop R1)])
    (λ_=>pur False) (star [cellsA C [.slice a7 (jq s).length c7] 43,slA 5 1 a7 (jq s).length c7 ((jq s).map U8),pt (u.size+1) (.loop R1)])
    (F:=pt u.size (.deferred (some []))::cellsA sb (dq s p) 145::Ma.markC p.mb p.mm s.ms::Ma.mapF p.mm s.ms.m::strmA Q p.tm s.sts::cellsA b [PA sb 0] 40::Q::Ro.rollC p.rb p.rm s.cfg.agents::Ro.mapE p.rm s.rows::pt W.size (.deferred (some []))::slA 164 74 p.ka s.kept.length p.kc (flat cI s.kept)::F) ?_ ?_ ?_ ?_ ?_
   .have h:=h.o [3,4,0,2,14,15,1,5,6,7,8,9,10,11,12,13,16] 17;have h:=aA.shut [_,_,_] h;exact h.o [1,2,3,0] 4
   .intro G y h;have h:=h.o [2,0,1] 3;have h:=aA.open (A:=[_,_,_]) h;refine cJ.2 ⟨(a7,c7),aA.shut [_,_,_,_,_] ?_⟩;rw[show jq s++((bA s.cm).take 0).flatMap ceB=jq s by simp];exact h.o [0,1,3,4,2] 5
   .intro j E G y K1 h kt _;obtain⟨⟨a8,c8⟩,h⟩:=cJ.1 h;have h:=aA.open (A:=[_,_,_,_,_]) h;dsimp only at h;refine l6 _ _ _ ?_;have d:=VF E;have h0:=xu ok.sh _ d;have M:(bA s.cm)[j].1.ser.size<=5000:=by
     obtain⟨q,hq,e⟩:=Bt d;rw[<-e];exact ser.cm q hq
    have h8:(cbB (bA s.cm)[j].1 (bA s.cm)[j].2).length<=10100:=hO _ d;have P:=oD (f:=ceB) (l:=(bA s.cm).take j) (B:=10100) λx hx=>hO x (Ww hx)
    have S:((bA s.cm).take j).length<=(bA s.cm).length:=by rw[VU];omega
    have T:10100*((bA s.cm).take j).length<=10100*1024:=Yd _ (by omega);refine⟨_,_,_,_,_,_,_,_,_,_,rfl,h.getO 4 rfl,?_⟩;refine h.al λb5 _ h=>?_
    refine h.st 0 rfl rfl ?_;intro j3 h;refine h.al λb6 _ h=>?_
    refine h.sta 0 rfl rfl λH17 h=>?_
    refine⟨h.getO 6 rfl,h.stl 6 rfl λh4 h=>⟨_,_,_,h.r 2,_,_,h.q 1,_,_,_,_,_,_,_,_,h.rda 0 rfl,?_⟩⟩
    refine Ld (key:=(bA s.cm)[j].1) (c:=(bA s.cm)[j].2) h0 M h λa9 c9 H19 h=>⟨_,_,_,rfl,h.r 3,?_⟩
    refine dp h (i:=4) rfl rfl rfl (h.sl_rd 0 rfl) (by rw[V3];omega) λD w j1 h=>⟨_,_,_,rfl,?_⟩
    refine h.st 3 rfl rfl ?_;intro j2 h;refine⟨h.getO 7 rfl,kt _ ?_⟩;have h:=h.setO 7 rfl (.loop R1);have e5:jq s++((bA s.cm).take (j+1)).flatMap ceB=(jq s++((bA s.cm).take j).flatMap ceB)++ceB (bA s.cm)[j]:=by
     rw[jP (f:=ceB) E,VI]
    refine cJ.2 ⟨(D,w),aA.shut [_,_,_,_,_] ?_⟩;dsimp only;rw[e5];exact h.o [3,4,5,6,7] 8
   .intro y h;obtain⟨⟨a8,c8⟩,h⟩:=cJ.1 h;have h:=aA.open (A:=[_,_,_,_,_]) h;dsimp only at h;rw[Wf]at h;refine⟨.ready,none,by decide,by rw[nC r0 h7];exact h.getO 4 rfl,h.stl 4 rfl λj3 h=>⟨rfl,?_⟩⟩
    refine⟨_,_,_,h.r 0,_,h.rd 10 rfl _,⟨_,_,_,h.r 6,?_⟩⟩;refine h.al λb7 _ h=>⟨h.r 1,?_⟩
    refine nQ h 0 rfl λa9 c9 H17 h=>⟨_,_,_,rfl,h.r 2,?_⟩
    refine dp h (i:=3) rfl rfl rfl (h.sl_rd 0 rfl) (by rw[V3];omega) λD w h4 h=>⟨_,_,_,rfl,?_⟩
    rw[<-N]at h ⊢;refine h.st 2 rfl rfl ?_;intro H19 h;refine⟨_,h.rd 12 rfl _,⟨_,_,_,h.r 8,?_⟩⟩;refine⟨λi v=>∃(j:Nat) (a:KQ) (c:Nat),i=j/\j<=s.kept.length/\
     aA v (cellsA C [.slice a (li s++(s.kept.take j).flatMap ceB).length c] 43::slA 5 1 a (li s++(s.kept.take j).flatMap ceB).length c ((li s++(s.kept.take j).flatMap ceB).map U8)::pt u.size (.deferred (some []))::pt W.size (.deferred (some []))::
      Q::cellsA sb (dq s p) 145::Ro.rollC p.rb p.rm s.cfg.agents::Ro.mapE p.rm s.rows::Ma.markC p.mb p.mm s.ms::Ma.mapF p.mm s.ms.m::shC p.hb p.hm s.cfg.cells::cz p.hm s.cm::strmA Q p.tm s.sts::slA 164 74 p.ka s.kept.length p.kc (flat cI s.kept)::F),
     λi _=>s.kept.length-i.toNat,⟨0,D,w,rfl,by omega,?_⟩,?_⟩
    .rw [show li s++(s.kept.take 0).flatMap ceB=li s by simp];exact h.o [2,3,7,16,13,8,14,15,9,10,4,5,11,17] 18
    rintro i j1 ⟨j,a,c,rfl,E,h⟩;refine⟨λn=>?_,λn=>?_⟩
    .have n:j<s.kept.length:=by have:=V4 n;omega
     have d:=VF n;have h8:(cbB s.kept[j].1 s.kept[j].2).length<=10100:=O _ d;have P:=oD (f:=ceB) (l:=s.kept.take j) (B:=10100) λx hx=>O x (Ww hx)
     have S:(s.kept.take j).length<=s.kept.length:=by rw[VU];omega
     have T:10100*(s.kept.take j).length<=10100*50000:=Yd _ (by omega);have hr:=h.sl_rd 13 rfl;refine⟨by omega,_,_,hr.some iX (by omega) n,_,_,_,_,_,_,_,_,_,_,hr.els iX n,?_⟩;refine h.al λb9 _ h=>?_
     refine h.sta 0 rfl rfl λj2 h=>?_
     refine⟨_,_,_,h.r 1,_,_,h.q 0,_,_,_,_,_,_,_,_,h.rdt (l:=[_,_]) 0 rfl rfl,?_⟩;refine Ld (key:=s.kept[j].1) (c:=s.kept[j].2) (ok.kept _ d) (ser.kept _ d) h λa9 c9 H22 h=>⟨_,_,_,rfl,h.r 2,?_⟩
     refine dp h (i:=3) rfl rfl rfl (h.sl_rd 0 rfl) (by rw[V3];omega) λy3 l5 H23 h=>⟨_,_,_,rfl,?_⟩
     refine h.st 2 rfl rfl ?_;intro H24 h
     conv=>whnf
     rw[aK (x:=(j:Int)+1)];have e5:li s++(s.kept.take (j+1)).flatMap ceB=(li s++(s.kept.take j).flatMap ceB)++ceB s.kept[j]:=by
      rw[jP (f:=ceB) n,VI]
     refine⟨⟨j+1,y3,l5,by omega,n,?_⟩,by dsimp only;omega⟩;rw[e5];exact h.o [2,3,4,5,6,7,8,9,10,11,12,13,14,15] 16
    .have h6:s.kept.length<=j:=by have:=V5 n;omega
     rw[VZ h6]at h;refine⟨_,_,_,h.r 0,h.getO 2 rfl,?_⟩;have h:=h.setO 2 rfl (.deferred none);refine⟨h.getO 3 rfl,?_⟩;have h:=h.setO 3 rfl (.deferred none);refine k a c _ ?_;have h:=h.o [5,6,7,8,9,10,11,12,13,1,4] 14;have h:=cX.2 ⟨p,h⟩;exact h.o [1,2,0] 3
   .intro j y _ h;exact V2 (aA.consP h).1 id
  .intro H9 h;exact V2 (aA.consP h).1 id
 refine⟨_,h.rd 9 rfl _,⟨_,h.r 0,_,h.rd 9 rfl _,⟨_,h.r 0,_,h.rd 9 rfl _,⟨_,h.r 0,_,h.rd 9 rfl _,⟨_,h.r 0,_,Ma.Now_spec h 3 rfl,?_,?_⟩⟩⟩⟩⟩
 .refine h.al λb10 _ h=>⟨?_,?_⟩
  .refine px (vs:=[s.now,s.boots,s.sunk,s.ms.now]) h (λH h=>h.ce_rd 0 rfl) (by simp) λa1 c1 H2 h=>⟨_,_,_,rfl,?_⟩
   refine h.al λb11 _ h=>?_
   refine h.st 0 rfl rfl ?_;intro H3 h;exact t _ _ _ _ (h.o [0,1,3,4,5,6,7,8,9,10,11,12,13] 14)
  .refine h.al λb12 _ h=>?_
   refine px (vs:=[s.now,s.boots,s.sunk,s.ms.now]) h (λH h=>h.ce_rd 1 rfl) (by simp) λa1 c1 H2 h=>⟨_,_,_,rfl,?_⟩
   refine h.st 1 rfl rfl ?_;intro H3 h;exact t _ _ _ _ (h.o [1,0,3,4,5,6,7,8,9,10,11,12,13] 14)
 .refine h.al λb13 _ h=>⟨Ma.Now_spec h 4 rfl,h.r 1,h.r 10,h.r 1,h.r 10,h.r 1,h.r 10,h.r 1,h.r 10,?_⟩
  refine h.al λb14 _ h=>?_
  refine px (vs:=[s.now,s.boots,s.sunk,s.ms.now]) h (λH h=>h.ce_rd 0 rfl) (by simp) λa1 c1 H2 h=>⟨_,_,_,rfl,?_⟩
  refine h.st 2 rfl rfl ?_;intro H3 h;exact t _ _ _ _ (h.o [2,0,3,4,5,6,7,8,9,10,11,12,13] 14)
end
def lj(hs:HS Pv)(s:RS):Except Int (HS Pv×RS):=match cH s with
 | .error e=>.error e
 | .ok (n,s1)=>match jb s1 with
  | .error e=>.error e
  | .ok (ev,s2)=>if gU n [ev]=false then .error 10 else
   if 0<(hs.offer n [ev]).2.1.length\/0<(hs.offer n [ev]).2.2 then .error 10 else .ok ((hs.offer n [ev]).1,s2)
section
variable {F L:List aE}{H:aD}{K KP:KE}{Q Q':aE}{sb:Nat}{s:aI}
def WPost(rb hb:Nat)(Q:aE)(F:List aE)(K KP:KE):Except Int (HS Pv×RS)->Prop
 | .ok (hs,s)=>∀Q' H',aM Q Q'->s.e=0->aH s.bs->s.bs.length<=1099511627776->aA H' (Q'::crdA rb s::hldA Q' hb hs::F)->K (.tuple #[]) H'
 | .error e=>∀Q' H',e≠0->aM Q Q'->aA H' (Q'::F)->KP (pnV e) H'
theorem Um{rb hb:Nat}{r:RS}{hs:HS Pv}(ok:hs.Ok)(W:hs.next<=1125899906842624)(h:aA H (Q::crdA rb r::hldA Q hb hs::F))(hb0:aH r.bs)(I:r.bs.length<=1099511627776)
  (k:WPost rb hb Q F K KP (lj hs r)):CP 262 #[.agg #[PA rb 0],PA hb 0] H K KP:=by
 refine cNP 262 5208530270361417 [[],[],[(4,sI),(5,sA)]] ?_;refine h.al λb H0 h=>?_
 intro V Y;unfold lj at k;have v:∀(n:Int) (i:aE) (ev:Ev) (s2:RS) S D,(match (if gU n [ev.p]=false then (.error 10:Except Int (HS Pv×RS)) else
    if 0<(hs.offer n [ev.p]).2.1.length\/0<(hs.offer n [ev.p]).2.2 then .error 10 else .ok ((hs.offer n [ev.p]).1,s2)) with|x=>WPost rb hb Q F K KP x)->aM Q i->io i ev->s2.e=0->aH s2.bs->s2.bs.length<=1099511627776->
   aA D (cellsA S (cw ev) 99::i::crdA rb s2::hldA Q hb hs::cellsA b [PA rb 0] 388::F)->V n S 0 D:=by
  intro n i ev s2 S D k d f m s j h;dsimp only at k;refine Y _ _ _ _ ?_;refine⟨_,_,_,_,_,_,h.q 0,?_⟩;refine h.al λb1 _ h=>?_
  refine h.al λb2 _ h=>?_
  refine h.st 0 rfl rfl ?_;intro N h;refine⟨_,_,_,_,_,_,_,_,_,_,_,_,_,_,_,_,_,_,_,_,h.q 0,?_⟩;have J:flat cw [ev]=cw ev:=by simp[flat]
  refine Jx (evs:=[ev]) (a:=some ⟨b1,0,none⟩) (c:=1) h ⟨λH h=>by rw[J];exact h.ce_rd 1 rfl,λe t H h=>by
   rw[VE]at t;subst t;exact f.at h 3 rfl⟩ (by simp) λE h=>⟨_,rfl,?_⟩
  rw[wU];show ∀M:aD->Prop,_;intro M R;refine⟨λT=>?_,λT=>R _ ?_⟩
  .rw [V1 (by simpa using T)]at k;exact k i _ (by decide) d (h.o [3] 7)
  .have P:gU n [ev.p]=true:=by simpa using T
   rw[V0 (by rw[P];simp)]at k;refine⟨_,_,_,_,_,_,h.q 2,?_⟩;refine h.al λb3 _ h=>?_
   have h:=h.o [6,0,4,5] 8;have h:=AC d h;refine J7 (items:=[ev]) h ok W (λH h=>by rw[J];exact h.ce_rd 0 rfl) (λe t=>by rw[VE]at t;subst t;exact f) (by simp) λa2 c2 ready H4 C hl h=>⟨_,_,_,_,rfl,?_⟩
   have G:(hs.offer n ([ev].map Ev.p)).2.1.length=ready.length:=by rw[<-C,VH]
   intro h0 O;refine⟨λu=>?_,λu=>O _ ?_⟩
   .have u:0<(hs.offer n [ev.p]).2.1.length\/0<(hs.offer n [ev.p]).2.2:=by
     simp only[VN,V6]at u
     rcases u with u|u
     .exact .inl (by have:(hs.offer n [ev.p]).2.1.length=ready.length:=G;omega)
     .exact .inr u
    rw[V1 u]at k;exact k i _ (by decide) d (h.o [3] 5)
   .have u:¬(0<(hs.offer n [ev.p]).2.1.length\/0<(hs.offer n [ev.p]).2.2):=by
     simp only[VK,V8]at u;rintro (U|U)
     .exact u.1 (by have:(hs.offer n [ev.p]).2.1.length=ready.length:=G;omega)
     .exact u.2 U
    rw[V0 u]at k;exact k i _ d m s j (h.o [3,4,1] 5)
 refine⟨_,h.q 0,_,h.q 0,?_,?_⟩
 .have h:=h.o [2,1,0,3] 4;refine kj h hb0 I ?_
  cases hr:cH r with
  | error e=>
   rw[hr]at k;exact λD t h=>k _ _ t (aM.refl Q) (h.o [0] 3)
  | ok q=>
  obtain⟨n,s1⟩:=q;rw[hr]at k;dsimp only at k;intro Z L A B h;refine⟨_,rfl,h.q 2,?_,?_⟩
  .have h:=h.o [1,0,2,3] 4;refine wZ h A B ?_
   cases hr2:jb s1 with
   | error e=>
    rw[hr2]at k;exact λi D t y h=>k _ _ t y (h.o [0] 3)
   | ok q=>
   obtain⟨pv,s2⟩:=q;rw[hr2]at k;dsimp only at k;intro i ev N d f w m s j h;subst w;refine⟨_,_,_,_,_,_,rfl,?_⟩;refine h.al λb4 _ h=>?_
   refine h.st 0 rfl rfl ?_;intro E h;exact v n i ev s2 b4 E k d f m s j (h.o [0,1,2,4,3] 5)
  .refine h.al λb5 _ h=>⟨h.q 3,?_⟩
   have h:=h.o [2,1,0,3,4] 5;refine wZ h A B ?_
   cases hr2:jb s1 with
   | error e=>
    rw[hr2]at k;exact λi D t y h=>k _ _ t y (h.o [0] 4)
   | ok q=>
   obtain⟨pv,s2⟩:=q;rw[hr2]at k;dsimp only at k;intro i ev N d f w m s j h;subst w;refine⟨_,_,_,_,_,_,rfl,?_⟩;refine h.st 2 rfl rfl ?_;intro E h;exact v n i ev s2 b5 E k d f m s j (h.o [2,0,1,4,3] 5)
 .refine h.al λb6 _ h=>⟨h.q 1,h.q 1,?_⟩
  have h:=h.o [3,2,0,1,4] 5;refine kj h hb0 I ?_
  cases hr:cH r with
  | error e=>
   rw[hr]at k;exact λD t h=>k _ _ t (aM.refl Q) (h.o [0] 4)
  | ok q=>
  obtain⟨n,s1⟩:=q;rw[hr]at k;dsimp only at k;intro Z L A B h;refine⟨_,rfl,h.q 3,?_⟩;have h:=h.o [1,0,2,3,4] 5;refine wZ h A B ?_
  cases hr2:jb s1 with
  | error e=>
   rw[hr2]at k;exact λi D t y h=>k _ _ t y (h.o [0] 4)
  | ok q=>
  obtain⟨pv,s2⟩:=q;rw[hr2]at k;dsimp only at k;intro i ev N d f w m s j h;subst w;refine⟨_,_,_,_,_,_,rfl,?_⟩;refine h.st 2 rfl rfl ?_;intro E h;exact v n i ev s2 b6 E k d f m s j (h.o [2,0,1,4,3] 5)
end
def je:Rd Ot:=λs=>match gj s with
 | .error e=>.error e
 | .ok (w,s1)=>
  if (aY (aY s1.bs.length s1).2.bs.length (aY s1.bs.length s1).2).2.e≠0 then .error (aY (aY s1.bs.length s1).2.bs.length (aY s1.bs.length s1).2).2.e else
  if (!(im (bF (aY s1.bs.length s1).1)).2.2 || !inM w 0 4611686018427387903)=true then .error 10 else
  if (kr (aY (aY s1.bs.length s1).2.bs.length (aY s1.bs.length s1).2).1).2≠0 then .error (kr (aY (aY s1.bs.length s1).2.bs.length (aY s1.bs.length s1).2).1).2 else
  .ok ((⟨w,bF (aY s1.bs.length s1).1⟩,(kr (aY (aY s1.bs.length s1).2.bs.length (aY s1.bs.length s1).2).1).1),(aY (aY s1.bs.length s1).2.bs.length (aY s1.bs.length s1).2).2)
theorem ip{α:Type}{s a:RS}{x y:α}(h:okR s x=.ok (y,a)):a=s/\y=x/\s.e=0:=by
 unfold okR at h
 split at h
 .cases h
 .rename_i h0
  cases h
  exact⟨rfl,rfl,by simpa using h0⟩
theorem uJ{s a:RS}{w:Int}(h:gj s=.ok (w,a)):a.bs.length<=s.bs.length:=by
 rw[(ip h).1];exact jQ s
theorem gl{s a:RS}{w:Int}(h:cH s=.ok (w,a)):a.bs.length<=s.bs.length:=by
 rw[(ip h).1];exact jQ s
theorem uK{s a:RS}{w:Int}(h:dZ s=.ok (w,a)):a.bs.length<=s.bs.length:=by
 rw[(ip h).1];exact jQ s
theorem sL{s a:RS}{m w:Int}(h:dM m s=.ok (w,a)):a.bs.length<=s.bs.length:=by
 rw[(ip h).1];exact rV s m
theorem sM{s a:RS}{m w:Int}(h:upR m s=.ok (w,a)):a.bs.length<=s.bs.length:=by
 unfold upR at h
 cases e:cH s with
 | error e'=>rw[e]at h;cases h
 | ok q=>
  obtain⟨v,s1⟩:=q;rw[e]at h;dsimp only at h
  split at h
  .cases h;exact gl e
  .cases h
section
variable {F L:List aE}{H:aD}{K KP:KE}{Q Q':aE}{sb:Nat}{s:aI}
theorem Li{rb:Nat}{r:RS}(h:aA H (crdA rb r::F))(hb0:aH r.bs)(M:r.bs.length<=1000000000)
  (k:sw rb F (λo:Ot=>.tuple #[aggK o.1,aggC o.2]) K KP (je r)):CP 205 #[.agg #[PA rb 0]] H K KP:=by
 refine cNP 205 5208464183038236 [[],[(4,sA)]] ?_;refine h.al λb _ h=>?_
 refine h.al λb1 _ h=>?_
 refine h.al λb2 H0 h=>?_
 intro D E;unfold je at k;have d:∀(w:Int) (s1:RS) v t,gj r=.ok (w,s1)->aH s1.bs->s1.bs.length<=1099511627776->
   aA t (crdA rb (aY s1.bs.length s1).2::cellsA v [aC w,.string (bF (aY s1.bs.length s1).1)] 154::cellsA b2 (dx Cl.z) 161::cellsA b1 [aC 0,.string ⟨#[]⟩] 154::cellsA b [PA rb 0] 388::F)->D v 0 t:=by
  intro w s1 v C s a c h;have I:=uJ s;rw[s]at k;dsimp only at k;have n:=lJ (m:=s1.bs.length) a;have J:=mC s1 s1.bs.length;generalize aY s1.bs.length s1=T1 at *;refine E _ _ _ ?_;refine⟨_,h.r 4,_,h.r 4,_,oW h,?_⟩;refine nJ (most:=T1.2.bs.length) h n.1 (by omega) (by unfold aF;omega) λx h=>⟨_,rfl,_,h.r 4,_,mA h,?_⟩
  have i:=lJ (m:=T1.2.bs.length) n.1;have O:=mC T1.2 T1.2.bs.length;generalize aY T1.2.bs.length T1.2=T2 at *;refine j6 (λf=>⟨rfl,_,h.r 1,?_⟩) λf=>?_
  .rw [V0 (by simpa using f)]at k;have N:=nP T1.1;refine Js (by omega) h λla lc j h=>⟨_,_,_,_,_,rfl,?_⟩
   generalize (im (bF T1.1))=P at *;refine h.al λb3 _ h=>?_
   refine h.st 0 rfl rfl ?_;intro S h;refine⟨_,λ_=>h.r 3,_,λ_=>ow,?_⟩
   intro G y;refine⟨λA=>?_,λA=>y _ ?_⟩
   .rw [V1 A]at k;exact k _ (by decide) (h.o [] 7)
   .rw [V0 (by rw[A];simp)]at k;refine wo i.2 h λa3 c3 Q h=>⟨_,_,_,rfl,?_⟩
    refine Tt rfl i.2 h (λH h=>h.sl_rd 0 rfl) (by omega) λV h=>⟨_,_,_,_,_,_,_,_,_,rfl,?_⟩
    have L:=kr T2.1;generalize kr T2.1=B at *;refine h.al λb4 _ h=>?_
    refine h.sta 0 rfl rfl λR h=>?_
    refine j6 (λhb=>⟨rfl,?_⟩) λhb=>?_
    .rw [V0 (by simpa using hb)]at k;refine⟨_,_,h.q 5,_,_,_,_,_,_,_,_,h.rda 0 rfl,?_⟩;refine h.st 7 rfl rfl ?_;intro U h;refine⟨h.rda 0 rfl,?_⟩;refine h.sta 6 rfl rfl λT h=>?_
     refine⟨_,_,h.q 7,_,_,_,_,_,_,_,_,h.rda 6 rfl,?_⟩;exact k _ f i.1 (by omega) (h.o [4] 9)
    .rw [V1 hb]at k;exact k _ hb (h.o [] 9)
  .rw [V1 f]at k;exact k _ f (h.o [] 5)
 refine⟨_,h.q 2,_,h.r 2,_,h.r 2,?_,?_⟩
 .have h:=h.o [3,0,1,2] 4;refine ut h hb0 (by omega) ?_
  cases hr:gj r with
  | error e=>
   rw[hr]at k;exact λt f h=>k _ f (h.o [] 3)
  | ok q=>
  obtain⟨w,s1⟩:=q;intro C u a c h;refine⟨_,rfl,h.r 3,h.r 3,_,oW h,?_,?_⟩
  .refine nJ (most:=s1.bs.length) h a c (by unfold aF;omega) λx h=>⟨_,rfl,?_⟩
   refine h.al λb5 _ h=>?_
   refine h.st 0 rfl rfl ?_;intro j h;exact d w s1 b5 j hr a c (h.o [1,0,2,3,4] 5)
  .refine h.al λb6 _ h=>⟨oW (h.o [1] 2),h.r 4,h.r 4,?_⟩
   have h:=h.o [1,0,2,3,4] 5;refine nJ (most:=s1.bs.length) h a c (by unfold aF;omega) λx h=>⟨_,rfl,?_⟩
   refine h.st 1 rfl rfl ?_;intro j h;exact d w s1 b6 j hr a c h
 .refine h.al λb7 _ h=>⟨h.r 3,h.r 3,h.q 3,?_⟩
  have h:=h.o [4,0,1,2,3] 5;refine ut h hb0 (by omega) ?_
  cases hr:gj r with
  | error e=>
   rw[hr]at k;exact λt f h=>k _ f (h.o [] 4)
  | ok q=>
  obtain⟨w,s1⟩:=q;intro C u a c h;refine⟨_,rfl,h.r 4,h.r 4,_,oW h,?_⟩;refine nJ (most:=s1.bs.length) h a c (by unfold aF;omega) λx h=>⟨_,rfl,?_⟩
  refine h.st 1 rfl rfl ?_;intro j h;exact d w s1 b7 j hr a c h
end
def smpR:Rd bQ:=λs=>match cH s with
 | .error e=>.error e
 | .ok (a,s1)=>match cH s1 with
  | .error e=>.error e
  | .ok (b,s2)=>match cH s2 with
   | .error e=>.error e
   | .ok (c,s3)=>match cH s3 with
    | .error e=>.error e
    | .ok (d,s4)=>.ok (⟨a,b,c,d⟩,s4)
def jr:Nat->Rd (List bQ)
 | 0,s=>.ok ([],s)
 | n+1,s=>match jr n s with
  | .error e=>.error e
  | .ok (l,s1)=>match smpR s1 with
   | .error e=>.error e
   | .ok (x,s2)=>.ok (l++[x],s2)
def iG(hs:HS Pv):Nat->RS->Except Int (HS Pv×RS)
 | 0,s=>.ok (hs,s)
 | n+1,s=>match iG hs n s with
  | .error e=>.error e
  | .ok (h,s1)=>lj h s1
theorem Lj:∀{n:Nat} {s:RS} {vs:List bQ} {a:RS},jr n s=.ok (vs,a)->vs.length=n
 | 0,s,vs,a,h=>by cases h;rfl
 | n+1,s,vs,a,h=>by
  unfold jr at h
  split at h
  .cases h
  .rename_i c s1 b
   split at h
   .cases h
   .cases h
    rw[V3,Lj b];rfl
theorem Lk{s:RS}{e:Int}:∀{n j:Nat},jr j s=.error e->j<=n->jr n s=.error e
 | 0,j,h,hj=>by
  obtain rfl:j=0:=by omega
  exact h
 | n+1,j,h,hj=>by
  rcases VV n j with a|a
  .obtain rfl:j=n+1:=by omega
   exact h
  .unfold jr;rw[Lk h a]
theorem Ll{hs:HS Pv}{s:RS}{e:Int}:∀{n j:Nat},iG hs j s=.error e->j<=n->iG hs n s=.error e
 | 0,j,h,hj=>by
  obtain rfl:j=0:=by omega
  exact h
 | n+1,j,h,hj=>by
  rcases VV n j with a|a
  .obtain rfl:j=n+1:=by omega
   exact h
  .unfold iG;rw[Ll h a]
def oE(c:bD)(last:Int)(hd:Bool)(streak:Int)(l:List bQ):Rd br:=λs5=>
 if ¬(l.length<=8/\0<=streak/\∀x∈l,x.ok) then .error 10 else match cH s5 with
  | .error e=>.error e
  | .ok (next,s6)=>if next<0\/1099511627776<next then .error 11 else match dM 256 s6 with
   | .error e=>.error e
   | .ok (m,s7)=>match iG ⟨next,c.hold,[]⟩ m.toNat s7 with
    | .error e=>.error e
    | .ok (hs,s8)=>.ok (⟨⟨c.rho,c.trust,hd,streak,l⟩,hs,last⟩,s8)
def nV(c:bD)(last:Int):Rd br:=λs1=>match dZ s1 with
 | .error e=>.error e
 | .ok (hd,s2)=>match cH s2 with
  | .error e=>.error e
  | .ok (streak,s3)=>match dM 8 s3 with
   | .error e=>.error e
   | .ok (n,s4)=>match jr n.toNat s4 with
    | .error e=>.error e
    | .ok (l,s5)=>oE c last (decide (hd=1)) streak l s5
def mZ(c:bD):Rd br:=λs=>match gj s with
 | .error e=>.error e
 | .ok (last,s1)=>if inM last (-1) 4611686018427387903=false then .error 10 else nV c last s1
theorem Un{s c:RS}{e:Pv}(h:jb s=.ok (e,c)):aF e.value:=by
 unfold jb at h
 cases h1:cH s with
 | error e'=>rw[h1]at h;cases h
 | ok q=>
  obtain⟨a,s1⟩:=q;rw[h1]at h;dsimp only at h
  cases h2:gj s1 with
  | error e'=>rw[h2]at h;cases h
  | ok q=>
   obtain⟨b,s2⟩:=q;rw[h2]at h;dsimp only at h;rw[(ip h).2.1];show aF b;rw[(ip h2).2.1];exact rT _
structure qQ(m:Int)(hs:HS Pv):Prop where
 ok:hs.Ok
 most:hs.most=m
 next:hs.next<=1099511627776
 rows:∀p∈hs.rows,p.1<1099511627776/\gT p.2=true/\aF p.2.value
theorem Uo{m:Int}{hs b:HS Pv}{s e:RS}(g:qQ m hs)(h:lj hs s=.ok (b,e)):qQ m b:=by
 unfold lj at h
 cases h1:cH s with
 | error e'=>rw[h1]at h;cases h
 | ok q=>
  obtain⟨n,s1⟩:=q;rw[h1]at h;dsimp only at h
  cases h2:jb s1 with
  | error e'=>rw[h2]at h;cases h
  | ok q=>
   obtain⟨ev,s2⟩:=q;rw[h2]at h;dsimp only at h
   split at h
   .cases h
   rename_i hb
   split at h
   .cases h
   cases h
   have hb:gU n [ev]=true:=by simpa using hb
   unfold gU at hb;simp only[V7,V6,Wq,V9,VW]at hb;have d:=HS.offer_ok g.ok n [ev];have a:=Kz (s:=hs) (first:=n) (B:=1099511627776) (items:=[ev]) g.next (λp c=>(g.rows p c).1) (by simp only[V9,VW];omega)
   refine⟨d.1,d.2.2.2.trans g.most,a.1,λp c=>⟨a.2 p c,?_⟩⟩
   rcases (uo (s:=hs) (first:=n) (items:=[ev])).2 p c with h|h
   .rw [VE]at h;rw[h];exact⟨hb.2.2 ev (VE.2 rfl),Un h2⟩
   .exact (g.rows p h).2
theorem Bv{m:Int}{hs:HS Pv}{s:RS}(g:qQ m hs):∀{n:Nat} {a:HS Pv} {b:RS},iG hs n s=.ok (a,b)->qQ m a
 | 0,a,b,h=>by cases h;exact g
 | n+1,a,b,h=>by
  unfold iG at h
  split at h
  .cases h
  .rename_i c;exact Uo (Bv g c) h
def bitF(v m:Int):Bool:=!decide (aX .and .u64 v m=0)
def flR(c:bD)(t:Int):Rd (Fl×br):=λs=>match dZ s with
 | .error e=>.error e
 | .ok (v,s1)=>match mZ c s1 with
  | .error e=>.error e
  | .ok (st,s2)=>.ok ((⟨t,bitF v 1,bitF v 2,bitF v 4⟩,st),s2)
section
variable {F L:List aE}{H:aD}{K KP:KE}{Q Q':aE}{sb:Nat}{s:aI}
def APost(rb sb tm:Nat)(cs:Os)(sts:List (Option br))(a:Nat)(Q:aE)(F:List aE)(K KP:KE):Except Int ((Fl×br)×RS)->Prop
 | .ok (x,s)=>∀Q' H',aM Q Q'->s.e=0->aH s.bs->s.bs.length<=1099511627776->aA H' (Q'::crdA rb s::cellsA sb cs 145::strmA Q' tm (sts.set a (some x.2))::F)->K (mO x.1) H'
 | .error e=>∀Q' H',e≠0->aM Q Q'->aA H' (Q'::F)->KP (pnV e) H'
theorem xC:∀{bl:List (Option Nat)} {sts:List (Option br)} {k:Nat} {F:List aE},aA H (strsA Q bl sts::F)->aA H (strsA Q (bl.set k none) (sts.set k none)::F)
 | [],_,_,_,h=>h
 | none::_,[],0,_,h=>h
 | some _::_,[],0,_,h=>h
 | none::_,[],_+1,_,h=>h
 | some _::_,[],_+1,_,h=>h
 | none::bs,y::ss,0,_,h=>h
 | some x::bs,none::ss,0,_,h=>h
 | some x::bs,some y::ss,0,_,h=>(pG.1 h).tl
 | none::bs,y::ss,k+1,_,h=>xC (bl:=bs) (sts:=ss) (k:=k) h
 | some x::bs,none::ss,k+1,_,h=>xC (bl:=bs) (sts:=ss) (k:=k) h
 | some x::bs,some y::ss,k+1,_,h=>by
  have h:=pG.1 h;have h:=h.o [1,0] 2;have h:=xC (bl:=bs) (sts:=ss) (k:=k) h;have h:=h.o [1,0] 2;exact pG.2 h
theorem Up{rb b b1 fb A tm cb hb:Nat}{a:Nat}{cs:Os}{sts:List (Option br)}{fl:Fl}{ck:Ck}{last m:Int}{r:RS}{hs:HS Pv}{P:Except Int ((Fl×br)×RS)}
  (g:qQ hs.most hs) (ha:a<sts.length) (R:aT cs 18=some (.map (some tm))) (hm:0<=m/\m<=256) (hb0:aH r.bs) (L:r.bs.length<=1099511627776) (M:r.e=0)
  (W:P=match iG hs m.toNat r with|.error e=>.error e|.ok (h,s8)=>.ok ((fl,⟨ck,h,last⟩),s8))
  (k:APost rb sb tm cs sts a Q F K KP P)
  (h:aA H (Q::crdA rb r::hldA Q hb hs::cellsA A [PA cb 0,PA hb 0,aC last] 173::ckA cb ck::cellsA fb (encF fl) 185::cellsA b1 [aC 0,.bool false,.bool false,.bool false] 185::cellsA b [PA rb 0] 388::cellsA sb cs 145::strmA Q tm sts::F)) :
  ∃(f:Int->aD->Prop) (G:Int->aD->Nat),f 0 H/\
   ∀(t:Int),∀s:aD,f t s->lG.l1 sb 0 (a:Int) K KP b b1 fb 0 (some ⟨A,0,none⟩) (some ⟨hb,0,none⟩) m f G t s:=by
 refine⟨λi C=>∃(j:Nat) (w:aE) (d:HS Pv) (s1:RS),i=j/\(j:Int)<=m/\aM Q w/\iG hs j r=.ok (d,s1)/\s1.e=0/\aH s1.bs/\s1.bs.length<=1099511627776/\
  aA C (w::crdA rb s1::hldA w hb d::cellsA A [PA cb 0,PA hb 0,aC last] 173::ckA cb ck::cellsA fb (encF fl) 185::cellsA b1 [aC 0,.bool false,.bool false,.bool false] 185::cellsA b [PA rb 0] 388::cellsA sb cs 145::strmA Q tm sts::F),
  λi _=>m.toNat-i.toNat,⟨0,Q,hs,r,rfl,hm.1,aM.refl Q,rfl,M,hb0,L,h⟩,?_⟩
 rintro i H1 ⟨j,w,d,s1,rfl,hj,c,N,E,y,B,h⟩;unfold lG.l1;have g1:=Bv g N;refine⟨λD=>?_,λD=>?_⟩
 .have D:=V4 D;refine⟨_,h.q 7,?_⟩;have h0:=g1.next;refine Um g1.ok (by omega) h y B ?_;have n:iG hs (j+1) r=lj d s1:=by
   rw[iG,N]
  cases hr:lj d s1 with
  | error e=>
   rw[hr]at n;rw[W,Ll n (by omega)]at k;exact λS C he u h=>k S C he (c.trans u) (h.o [0] 8)
  | ok q=>
  obtain⟨u,s2⟩:=q;rw[hr]at n;intro S C T J V I h;refine⟨rfl,?_⟩;rw[aK (x:=(j:Int)+1)];exact⟨⟨j+1,S,u,s2,by omega,by omega,c.trans T,n,J,V,I,h⟩,by dsimp only;omega⟩
 .have Z:=V5 D;have U:j=m.toNat:=by omega
  subst U;rw[W,N]at k;refine⟨_,(h.r 8).trans R,?_⟩;have h:=h.o [9,0,1,2,3,4,5,6,7,8] 10;have h:=Ks c h;obtain⟨bl,O,h⟩:=lf.1 h;refine h.mp_update (α:=Option Nat) (v:=some A) (x:=((a:Nat):Int)) qI ko2 0 rfl λH2 h=>?_
  refine⟨_,_,_,_,h.q 7,?_⟩;refine h.st 8 rfl rfl ?_;intro Y h;refine⟨_,_,_,_,h.q 8,?_⟩;refine k w _ c E y B ?_;have h:=h.o [1,0,2,3,4,5,6,10] 11;have h:=xC (k:=a) h;have h:=h.o [5,6,4,1,0,2,3,7] 8;have h:aA Y (strA w A ⟨ck,d,last⟩::_):=gW.2 ⟨cb,hb,h⟩;have h:=h.o [1,0,2,3,4,5] 6;have h:=Kv O ha h;exact h.o [1,2,3,0] 4
def withFl(fl:Fl):Except Int (br×RS)->Except Int ((Fl×br)×RS)
 | .error e=>.error e
 | .ok (st,s)=>.ok ((fl,st),s)
theorem Uq{rb b b1 fb n tm cb hb0:Nat}{a:Nat}{cs:Os}{sts:List (Option br)}{fl:Fl}{ck0:Ck}{c:bD}{last streak:Int}{hd:Bool}{l:List bQ}{la:KQ}{lc:Nat}{r:RS}
  (ok:jA c) (D:ck0.rho=c.rho) (j2:ck0.least=c.trust) (ha:a<sts.length) (h0:aT cs 18=some (.map (some tm))) (h8:aT cs 8=some (aC c.hold)) (W:aH r.bs) (Y:r.bs.length<=1099511627776)
  (k:APost rb sb tm cs sts a Q F K KP (withFl fl (oE c last hd streak l r)))
  (h:aA H (ckA cb ck0::slA 58 4 la l.length lc (flat eZ l)::Q::crdA rb r::cellsA n [PA cb 0,PA hb0 0,aC last] 173::cellsA fb (encF fl) 185::cellsA b1 [aC 0,.bool false,.bool false,.bool false] 185::cellsA b [PA rb 0] 388::cellsA sb cs 145::strmA Q tm sts::F)) :
  NN (some ⟨n,0,none⟩) (
 ∃v2,aL H (aU (some ⟨n,0,none⟩)) (aS (some ⟨n,0,none⟩))=some (.pointer v2)/\
 CF 261 #[(.pointer v2),(.bool hd),(aC streak),(.slice la l.length lc)] H λh2 G=>∃S,h2=(aC S)/\
 CP 203 #[(aC S)] G (λh1 f=>h1=(.tuple #[])/\
 ∃I,bE f b 0 [(.pointer I)]/\
 ∃v3,aL f sb (0+8)=some (aC v3)/\
 CP 201 #[(.agg #[(.pointer I)])] f (λj3 t=>∃A,j3=(aC A)/\
 aL t sb (0+8)=some (aC v3)/\
 CF 185 #[(aC A),(aC v3)] t λh6 N=>∃v x,h6=(.tuple #[(.pointer v),(aC x)])/\
 CP 203 #[(aC x)] N (λh7 B=>h7=(.tuple #[])/\
 NN (some ⟨n,0,none⟩) (
 ST B (aU (some ⟨n,0,none⟩)) ((aS (some ⟨n,0,none⟩))+1) [(.pointer v)] λj=>
 ∃w,bE j b 0 [(.pointer w)]/\
 CP 200 #[(.agg #[(.pointer w)]),(aC 256)] j (λV C=>∃R,V=(aC R)/\
 ∃(d:Int->aD->Prop) (h4:Int->aD->Nat),d 0 C/\
 ∀(u:Int),∀s:aD,d u s->lG.l1 sb 0 (a:Int) K KP b b1 fb 0 (some ⟨n,0,none⟩) v R d h4 u s) (λ(P:Value) (y:aD)=>
 KP P y))) (λ(T:Value) (J:aD)=>
 KP T J)) (λ(L:Value) (O:aD)=>
 KP L O)) (λ(M:Value) (U:aD)=>
 KP M U)):=by
 unfold oE at k;refine cZ ⟨_,h.rd 4 rfl 0,?_⟩;refine Rm (held:=hd) (streak:=streak) h (λH h=>h.sl_rd 0 rfl) (λhn H1 h=>⟨_,rfl,?_⟩) λE H1 h=>⟨_,rfl,?_⟩
 .rw [V1 hn]at k;exact j6 (λe=>V2 e (by decide)) λe=>k Q _ (by decide) (aM.refl Q) (h.o [2] 10)
 rw[V0 (not_not_intro E)]at k;refine j6 (λ_=>⟨rfl,_,h.q 7,_,(h.r 8).trans h8,?_⟩) λe=>V2 rfl e
 have h:=h.o [3,0,2,4,5,6,7,8,9] 10;refine kj h W Y ?_
 cases hr:cH r with
 | error e=>
  rw[hr]at k;exact λH' he h=>k Q _ he (aM.refl Q) (h.o [1] 8)
 | ok q=>
 obtain⟨next,s6⟩:=q;rw[hr]at k;dsimp only at k;intro H2 l0 h3 Z h;refine⟨_,rfl,(h.r 7).trans h8,?_⟩;refine AD (Q:=Q) h (λhn=>⟨_,_,rfl,?_⟩) λhb H3 i h=>⟨_,_,rfl,?_⟩
 .have hh:=ok.hd;rw[pO]at k;exact j6 (λe=>V2 e (by decide)) λe=>k Q _ (by decide) (aM.refl Q) (h.o [2] 9)
 rw[nO]at k;refine j6 (λ_=>⟨rfl,cZ ?_⟩) λe=>V2 rfl e
 refine h.st 4 rfl rfl ?_;intro H4 h;refine⟨_,h.q 7,?_⟩;have h:=h.o [1,0,2,3,4,5,6,7,8,9] 10;refine uu (by unfold aF;decide) h h3 Z ?_
 cases hr2:dM 256 s6 with
 | error e=>
  rw[hr2]at k;exact λH' he h=>k Q _ he (aM.refl Q) (h.o [2] 9)
 | ok q=>
 obtain⟨m,s7⟩:=q;rw[hr2]at k;dsimp only at k;have hm:0<=m/\m<=256:=by
  rw[(ip hr2).2.1];unfold bY
  split
  .dsimp only;omega
  .split
   .split
    .dsimp only;omega
    .dsimp only;omega
   .dsimp only;omega
   .dsimp only;omega
 intro H5 h9 j1 h5 h;refine⟨_,rfl,?_⟩;have hg:qQ c.hold (⟨next,c.hold,[]⟩:HS Pv):=⟨⟨i.1,i.2.2.1,i.2.2.2,⟨by simp[gK],λp E=>V2 E (by simp)⟩⟩,rfl,i.2.1,λp E=>V2 E (by simp)⟩
 refine Up (fl:=fl) (r:=s7) (m:=m) (hs:=⟨next,c.hold,[]⟩) (ck:=⟨c.rho,c.trust,hd,streak,l⟩) (last:=last) (cb:=cb) hg ha h0 hm j1 h5 h9 ?_ k ?_
 .cases iG ⟨next,c.hold,[]⟩ m.toNat s7 with
  | error e=>rfl
  | ok q=>rfl
 .have h:=h.o [3,0,1,4,2,5,6,7,8,9] 10;rw[D,j2]at h;exact h
end
section
variable {F L:List aE}{H:aD}{K KP:KE}{Q Q':aE}{sb:Nat}{s:aI}
theorem Ur{rb b b1 fb G tm cb hb0:Nat}{a:Nat}{cs:Os}{sts:List (Option br)}{fl:Fl}{ck0:Ck}{c:bD}{last:Int}{r:RS}
  (ok:jA c) (v:ck0.rho=c.rho) (h0:ck0.least=c.trust) (ha:a<sts.length) (M:aT cs 18=some (.map (some tm))) (h8:aT cs 8=some (aC c.hold)) (D:aH r.bs) (J:r.bs.length<=1099511627776)
  (k:APost rb sb tm cs sts a Q F K KP (withFl fl (nV c last r)))
  (h:aA H (crdA rb r::ckA cb ck0::Q::cellsA G [PA cb 0,PA hb0 0,aC last] 173::cellsA fb (encF fl) 185::cellsA b1 [aC 0,.bool false,.bool false,.bool false] 185::cellsA b [PA rb 0] 388::cellsA sb cs 145::strmA Q tm sts::F)) :
  lG.r3 sb 0 (a:Int) K KP b b1 fb 0 (some ⟨G,0,none⟩) H:=by
 unfold nV at k;unfold lG.r3;refine⟨_,h.q 6,_,h.q 6,?_⟩;refine ur h D J ?_
 cases hr:dZ r with
 | error e=>
  rw[hr]at k;exact λs f h=>k Q _ f (aM.refl Q) (h.o [1] 8)
 | ok q=>
 obtain⟨hd,s2⟩:=q;rw[hr]at k;dsimp only at k;intro H1 h2 R A h;refine⟨_,rfl,h.q 6,?_⟩;refine kj h R A ?_
 cases hr2:cH s2 with
 | error e=>
  rw[hr2]at k;exact λs f h=>k Q _ f (aM.refl Q) (h.o [1] 8)
 | ok q=>
 obtain⟨streak,s3⟩:=q;rw[hr2]at k;dsimp only at k;intro H2 h1 N E h;refine⟨_,rfl,_,h.q 6,?_⟩;refine uu (by unfold aF;decide) h N E ?_
 cases hr3:dM 8 s3 with
 | error e=>
  rw[hr3]at k;exact λs f h=>k Q _ f (aM.refl Q) (h.o [1] 8)
 | ok q=>
 obtain⟨n,s4⟩:=q;rw[hr3]at k;dsimp only at k;have I:0<=n/\n<=8:=by
  rw[(ip hr3).2.1];exact Ji s3
 intro H3 h6 B W h;refine⟨_,rfl,?_⟩;refine⟨λla ln lc i s=>∃(j:Nat) (l:List bQ) (s5:RS),i=j/\(j:Int)<=n/\ln=l.length/\jr j s4=.ok (l,s5)/\aH s5.bs/\s5.bs.length<=1099511627776/\
  aA s (ckA cb ck0::slA 58 4 la l.length lc (flat eZ l)::Q::crdA rb s5::cellsA G [PA cb 0,PA hb0 0,aC last] 173::cellsA fb (encF fl) 185::cellsA b1 [aC 0,.bool false,.bool false,.bool false] 185::cellsA b [PA rb 0] 388::cellsA sb cs 145::strmA Q tm sts::F),
  λ_ _ _ i _=>n.toNat-i.toNat,⟨0,[],s4,rfl,I.1,rfl,rfl,B,W,(h.sl_nil 58 4).o [2,0,3,1,4,5,6,7,8,9] 10⟩,?_⟩
 rintro la ln lc i H4 ⟨j,l,s5,rfl,hj,rfl,t,u,w,h⟩;have h9:=Lj t;refine⟨λy=>?_,λy=>?_⟩
 .have y:=V4 y;have d:jr (j+1) s4=match smpR s5 with|.error e=>.error e|.ok (x,s2)=>.ok (l++[x],s2):=by
   rw[jr,t] <;> rfl
  have bad:∀e Q' s,smpR s5=.error e->e≠0->aM Q Q'->aA s (Q'::F)->KP (pnV e) s:=by
   intro e Q' s P f hs h;rw[P]at d;rw[Lk d (by omega)]at k;exact k Q' s f hs h
  unfold smpR at bad d;refine⟨_,h.q 7,_,h.q 7,_,h.q 7,_,h.q 7,?_⟩;have h:=h.o [3,0,1,2,4,5,6,7,8,9] 10;refine kj h u w ?_
  cases q1:cH s5 with
  | error e=>
   rw[q1]at bad;exact λs f h=>bad _ Q _ rfl f (aM.refl Q) (h.o [2] 9)
  | ok q=>
  obtain⟨x1,s6⟩:=q;rw[q1]at bad d;dsimp only at bad d;intro H5 h7 O L h;refine⟨_,rfl,h.q 7,h.q 7,h.q 7,?_⟩;refine kj h O L ?_
  cases q2:cH s6 with
  | error e=>
   rw[q2]at bad;exact λs f h=>bad _ Q _ rfl f (aM.refl Q) (h.o [2] 9)
  | ok q=>
  obtain⟨x2,s7⟩:=q;rw[q2]at bad d;dsimp only at bad d;intro H6 j1 Y S h;refine⟨_,rfl,h.q 7,h.q 7,?_⟩;refine kj h Y S ?_
  cases q3:cH s7 with
  | error e=>
   rw[q3]at bad;exact λs f h=>bad _ Q _ rfl f (aM.refl Q) (h.o [2] 9)
  | ok q=>
  obtain⟨x3,s8⟩:=q;rw[q3]at bad d;dsimp only at bad d;intro H7 h4 Z C h;refine⟨_,rfl,h.q 7,?_⟩;refine kj h Z C ?_
  cases q4:cH s8 with
  | error e=>
   rw[q4]at bad;exact λs f h=>bad _ Q _ rfl f (aM.refl Q) (h.o [2] 9)
  | ok q=>
  obtain⟨x4,s9⟩:=q;rw[q4]at bad d;dsimp only at bad d;intro H8 h3 T U h;refine⟨_,rfl,?_⟩;refine h.al λb2 _ h=>?_
  refine h.append (m:=1) (ws:=eZ ⟨x1,x2,x3,x4⟩) ue 3 rfl (h.ce_rd 0 rfl) rfl (Aa _) (by omega) (by omega) λa5 c5 H9 h=>⟨_,_,_,rfl,?_⟩
  rw[aK (x:=(j:Int)+1)];refine⟨⟨j+1,l++[⟨x1,x2,x3,x4⟩],s9,by omega,by omega,by rw[V3];rfl,d,T,U,?_⟩,by dsimp only;omega⟩;have e:flat eZ (l++[⟨x1,x2,x3,x4⟩])=flat eZ l++eZ ⟨x1,x2,x3,x4⟩:=by rw[dR];simp[flat]
  rw[e,V3];exact h.o [2,3,4,1,5,6,7,8,9,10] 11
 .have h5:=V5 y;have V:j=n.toNat:=by omega
  subst V;rw[t]at k;dsimp only at k;exact Uq (fl:=fl) (ck0:=ck0) (hb0:=hb0) ok v h0 ha M h8 u w k h
end
def kL(s:aI)(a:Int):Rd (List En×Fl×br):=λr=>match cH r with
 | .error e=>.error e
 | .ok (ep,s1)=>match cH s1 with
  | .error e=>.error e
  | .ok (bt,s2)=>match cH s2 with
   | .error e=>.error e
   | .ok (tm,s3)=>if (gD s.cfg.agents s.rows a ⟨ep,bt,tm⟩).2≠0 then .error (gD s.cfg.agents s.rows a ⟨ep,bt,tm⟩).2 else match upR s.now s3 with
    | .error e=>.error e
    | .ok (t,s4)=>match flR s.cfg t s4 with
     | .error e=>.error e
     | .ok (x,s5)=>.ok (((gD s.cfg.agents s.rows a ⟨ep,bt,tm⟩).1,x.1,x.2),s5)
theorem Lm{most:Int}{rows:List En}{a:Int}{e:En}(h:(gD most rows a e).2=0):0<=a/\a<=63/\1<=e.epoch/\(gD most rows a e).1=rows.set a.toNat e/\¬0<(bg rows a).epoch:=by
 unfold gD at h ⊢
 split at h
 .simp at h
 rename_i c;rw[V0 c]
 split at h
 .simp at h
 rename_i b;rw[V0 b]
 split at h
 .simp at h
 rename_i d;rw[V0 d];unfold bad at c;exact⟨by omega,by omega,by omega,rfl,b⟩
section
variable {F L:List aE}{H:aD}{K KP:KE}{Q Q':aE}{sb:Nat}{s:aI}
theorem Us{rb b b1 fb:Nat}{a:Nat}{p:SAd}{t r3:Int}{r:RS}
  (ok:jA s.cfg) (E:a<s.sts.length) (m:aH r.bs) (n:r.bs.length<=1099511627776)
  (k:APost rb sb p.tm (dq s p) s.sts a Q F K KP (flR s.cfg t r))
  (h:aA H (crdA rb r::Q::cellsA fb [aC t,.bool false,.bool false,.bool false] 185::cellsA b1 [aC 0,.bool false,.bool false,.bool false] 185::cellsA b [PA rb 0] 388::cellsA sb (dq s p) 145::strmA Q p.tm s.sts::F)) :
  lG.r4 sb 0 (a:Int) K KP b b1 r3 fb 0 H:=by
 unfold flR at k;unfold lG.r4;refine⟨_,h.q 4,?_⟩;refine ur h m n ?_
 cases hr:dZ r with
 | error e=>
  rw[hr]at k;exact λC y h=>k Q _ y (aM.refl Q) (h.o [0] 6)
 | ok q=>
 obtain⟨v,s1⟩:=q;rw[hr]at k;dsimp only at k;intro N A j u h;refine⟨_,rfl,?_⟩;refine h.st 2 rfl rfl ?_;intro I h;refine h.st 2 rfl rfl ?_;intro J h;refine h.st 2 rfl rfl ?_;intro M h;have h:=h.o [5,0,1,2,3,4,6] 7;refine Kw (Q:=Q) ok h λL G h=>⟨_,rfl,?_⟩
 obtain⟨cb,f,h⟩:=gW.1 h;refine⟨_,h.q 8,?_⟩;have h:=h.o [4,0,1,2,3,5,6,7,8,9] 10;refine ut h j u ?_;unfold mZ at k
 cases hr2:gj s1 with
 | error e=>
  rw[hr2]at k;exact λC y h=>k Q _ y (aM.refl Q) (h.o [4] 9)
 | ok q=>
 obtain⟨last,s2⟩:=q;rw[hr2]at k;dsimp only at k;intro O D w i h;refine⟨_,rfl,cZ ?_⟩;refine h.st 1 rfl rfl ?_;intro P h;refine cZ ⟨_,h.r 1,_,ow,?_⟩;intro B x;refine⟨λd=>?_,λd=>x _ ?_⟩
 .rw [V1 (by rw[VY]at d;exact d)]at k;exact k Q _ (by decide) (aM.refl Q) (h.o [5] 10)
 .rw [V0 (by rw[Wm]at d;rw[d];simp)]at k;refine Ur (fl:=⟨t,bitF v 1,bitF v 2,bitF v 4⟩) (ck0:=(lU s.cfg).ck) (hb0:=f) (c:=s.cfg) (last:=last) (cb:=cb) ok rfl rfl E rfl rfl w i ?_ (h.o [0,2,5,1,6,7,8,4,9] 10)
  cases hq:nV s.cfg last s2 with
  | error e=>rw[hq]at k;exact k
  | ok q=>rw[hq]at k;exact k
def BPost(rb sb:Nat)(s:aI)(p:SAd)(a:Int)(Q:aE)(F:List aE)(K KP:KE):Except Int ((List En×Fl×br)×RS)->Prop
 | .ok (x,r)=>∀Q' H',aM Q Q'->r.e=0->aH r.bs->r.bs.length<=1099511627776->aA H' (Q'::crdA rb r::cellsA sb (dq s p) 145::strmA Q' p.tm (s.sts.set a.toNat (some x.2.2))::Ro.rollC p.rb p.rm s.cfg.agents::Ro.mapE p.rm x.1::F)->K (mO x.2.1) H'
 | .error e=>∀Q' H',e≠0->aM Q Q'->aA H' (Q'::F)->KP (pnV e) H'
theorem Ut{rb:Nat}{p:SAd}{a:Int}{r:RS}(ok:jA s.cfg)(rok:fR s.rows)(M:s.sts.length=64)(B:aH r.bs)(C:r.bs.length<=1099511627776)
  (k:BPost rb sb s p a Q F K KP (kL s a r))
  (h:aA H (crdA rb r::Q::cellsA sb (dq s p) 145::Ro.rollC p.rb p.rm s.cfg.agents::Ro.mapE p.rm s.rows::strmA Q p.tm s.sts::F)) :
  CP 202 #[.agg #[PA rb 0],PA sb 0,aC a] H K KP:=by
 refine OG ?_;unfold kL at k;refine h.al λb _ h=>?_
 refine h.al λb1 _ h=>⟨_,h.r 4,_,h.q 1,_,h.q 1,_,h.q 1,?_⟩
 have h:=h.o [2,0,1,3,4,5,6,7] 8;refine kj h B C ?_
 cases q1:cH r with
 | error e=>
  rw[q1]at k;exact λd c h=>k Q _ c (aM.refl Q) (h.o [2] 7)
 | ok q=>
 obtain⟨ep,s1⟩:=q;rw[q1]at k;dsimp only at k;intro Y O A D h;refine⟨_,rfl,h.q 2,h.q 2,h.r 4,?_⟩;refine kj h A D ?_
 cases q2:cH s1 with
 | error e=>
  rw[q2]at k;exact λd c h=>k Q _ c (aM.refl Q) (h.o [2] 7)
 | ok q=>
 obtain⟨bt,s2⟩:=q;rw[q2]at k;dsimp only at k;intro U S J y h;refine⟨_,rfl,h.q 2,h.r 4,?_⟩;refine kj h J y ?_
 cases q3:cH s2 with
 | error e=>
  rw[q3]at k;exact λd c h=>k Q _ c (aM.refl Q) (h.o [2] 7)
 | ok q=>
 obtain⟨tm,s3⟩:=q;rw[q3]at k;dsimp only at k;intro V R u n h;refine⟨_,rfl,h.r 4,?_⟩;have h:=h.o [5,6,0,1,2,3,4,7] 8;refine Ro.Set_spec rok (agent:=a) (x:=⟨ep,bt,tm⟩) h λW h=>⟨_,rfl,?_⟩
 have w:=Lm (most:=s.cfg.agents) (rows:=s.rows) (a:=a) (e:=⟨ep,bt,tm⟩);generalize gD s.cfg.agents s.rows a ⟨ep,bt,tm⟩=G at *;refine j6 (λc=>⟨rfl,?_⟩) λc=>?_
 .rw [V0 (by simpa using c)]at k;obtain⟨g1,g2,-⟩:=w c;have v:((a.toNat:Nat):Int)=a:=by omega
  intro N P;have j:∀(t:Int) (s4:RS) fb d,upR s.now s3=.ok (t,s4)->aH s4.bs->s4.bs.length<=1099511627776->
    aA d (crdA rb s4::Q::cellsA fb [aC t,.bool false,.bool false,.bool false] 185::cellsA b1 [aC 0,.bool false,.bool false,.bool false] 185::cellsA b [PA rb 0] 388::cellsA sb (dq s p) 145::strmA Q p.tm s.sts::Ro.rollC p.rb p.rm s.cfg.agents::Ro.mapE p.rm G.1::F)->N fb 0 d:=by
   intro t s4 fb L m f i h;rw[m]at k;dsimp only at k;refine P _ _ _ ?_;have:=Us (a:=a.toNat) (t:=t) (r3:=0) ok (by omega) f i (K:=K) (KP:=KP) ?_ h
   .rw [v]at this;rw[c];exact this
   .cases hq:flR s.cfg t s4 with
    | error e=>
     rw[hq]at k;exact λQ' d c hs h=>k Q' d c hs (h.o [0] 3)
    | ok q=>
     rw[hq]at k;exact λQ' d hs c hb T h=>k Q' d hs c hb T h
  refine⟨_,h.q 4,_,h.r 6,?_,?_⟩
  .have h:=h.o [2,0,1,3,4,5,6,7] 8;refine sx h u n ?_
   cases m:upR s.now s3 with
   | error e=>
    rw[m]at k;exact λd c h=>k Q _ c (aM.refl Q) (h.o [4] 7)
   | ok q=>
   obtain⟨t,s4⟩:=q;intro L I f i h;refine⟨_,rfl,?_⟩;refine h.al λb3 _ h=>?_
   refine h.st 0 rfl rfl ?_;intro E h;exact j t s4 b3 E m f i (h.o [1,6,0,4,5,7,8,2,3] 9)
  .refine h.al λb4 _ h=>⟨h.r 7,h.q 5,?_⟩
   have h:=h.o [3,0,1,2,4,5,6,7,8] 9;refine sx h u n ?_
   cases m:upR s.now s3 with
   | error e=>
    rw[m]at k;exact λd c h=>k Q _ c (aM.refl Q) (h.o [5] 8)
   | ok q=>
   obtain⟨t,s4⟩:=q;intro L I f i h;refine⟨_,rfl,?_⟩;refine h.st 1 rfl rfl ?_;intro E h;exact j t s4 b4 E m f i (h.o [0,6,1,4,5,7,8,2,3] 9)
 .rw [V1 c]at k;exact k Q _ c (aM.refl Q) (h.o [5] 8)
end
structure PAg where
 rows:List En
 sts:List (Option br)
 fls:FM
def fo(s0:aI):Nat->Rd PAg
 | 0,r=>.ok (⟨s0.rows,s0.sts,[]⟩,r)
 | n+1,r=>match fo s0 n r with
  | .error e=>.error e
  | .ok (x,r1)=>match cH r1 with
   | .error e=>.error e
   | .ok (a,r2)=>match kL { s0 with rows:=x.rows,sts:=x.sts } a r2 with
    | .error e=>.error e
    | .ok (y,r3)=>.ok (⟨y.1,x.sts.set a.toNat (some y.2.2),mset a y.2.1 x.fls⟩,r3)
def fp(most:Int):Nat->Rd CM
 | 0,r=>.ok ([],r)
 | n+1,r=>match fp most n r with
  | .error e=>.error e
  | .ok (m,r1)=>match je r1 with
   | .error e=>.error e
   | .ok (o,r2)=>if (jY most m o.1 o.2).2≠0 then .error (jY most m o.1 o.2).2 else .ok ((jY most m o.1 o.2).1,r2)
def eF:Nat->Rd (List Ot)
 | 0,r=>.ok ([],r)
 | n+1,r=>match eF n r with
  | .error e=>.error e
  | .ok (l,r1)=>match je r1 with
   | .error e=>.error e
   | .ok (o,r2)=>.ok (l++[o],r2)
def kM(c:bD)(bs:List Int):Except Int aI:=match upR 4611686018427387903 ⟨0,bs⟩ with
 | .error e=>.error e
 | .ok (now,r1)=>match upR 1099511627776 r1 with
  | .error e=>.error e
  | .ok (boots,r2)=>match upR 1099511627776 r2 with
   | .error e=>.error e
   | .ok (sunk,r3)=>match upR now r3 with
    | .error e=>.error e
    | .ok (moment,r4)=>match gj r4 with
     | .error e=>.error e
     | .ok (value,r5)=>match dM 64 r5 with
      | .error e=>.error e
      | .ok (n,r6)=>match fo { bU c with now:=now,boots:=boots,sunk:=sunk } n.toNat r6 with
       | .error e=>.error e
       | .ok (x,r7)=>if ¬(moment-c.lag<=value/\value<=moment) then .error 11 else match dM 1024 r7 with
        | .error e=>.error e
        | .ok (m,r8)=>match fp c.cells m.toNat r8 with
         | .error e=>.error e
         | .ok (cm,r9)=>match dZ r9 with
          | .error e=>.error e
          | .ok (k,r10)=>match eF k.toNat r10 with
           | .error e=>.error e
           | .ok (kept,r11)=>if (dF r11).e≠0 then .error (dF r11).e else
            .ok ⟨c,now,boots,sunk,x.rows,⟨c.lag,moment,value,x.fls⟩,cm,x.sts,kept⟩
def pH(c:bD)(bs:List Int):Except Int aI:=if fD c=false then .error 11 else match kM c bs with
 | .error _=>.error 10
 | .ok s=>if stB s=bs then .ok s else .error 10
section
variable {F L:List aE}{H:aD}{K KP:KE}{Q Q':aE}{sb:Nat}{s:aI}
theorem MSet_err{ms:MS}{mb rb ab:Nat}{now value:Int}(a:isT now)(d:1<=ms.lag/\ms.lag<=1099511627776)(c:¬(now-ms.lag<=value/\value<=now))(h:aA H (Ma.markC mb rb ms::F))(k:K (aC 11) H) :
  CF 204 #[PA mb 0,aC now,aC value,.map (some ab)] H K:=by
 refine cN 204 0x1d121561239951d41c [[]] ?_;have e1:i64.wrap (now-ms.lag)=now-ms.lag:=aK;refine⟨_,Ma.isTime_spec,λ_=>trivial,_,λ_=>h.r 0,?_⟩
 dsimp only
 conv=>whnf
 rw[e1,VS a];refine⟨λ_=>k,λb=>?_⟩
 simp only[Bool.not_true,WY,VK,V8]at b;exact V2 ⟨by omega,by omega⟩ c
end
structure AgsOk(s0:aI)(x:PAg):Prop where
 rows:fR x.rows
 len:x.sts.length=64
 sts:∀st,some st∈x.sts->lS s0.cfg st
 reg:∀k:Nat,(∃st:br,x.sts[k]?=some (some st))↔∃e:En,x.rows[k]?=some e/\0<e.epoch
 fls:∀p∈x.fls,isAg p.1/\isT p.2.t/\p.2.t<=s0.now
 nd:(aG x.fls).Nodup
theorem Bw{x a b:Int}(h:inM x a b=true):a<=x/\x<=b:=by
 simp only[inM,V7,V6]at h;exact h
theorem oF{m v:Int}{s a:RS}(h:upR m s=.ok (v,a)):0<=v/\v<=m:=by
 unfold upR at h
 cases e:cH s with
 | error e'=>rw[e]at h;cases h
 | ok q=>
  obtain⟨u,s1⟩:=q;rw[e]at h;dsimp only at h
  split at h
  .rename_i h0
   cases h
   exact Bw h0
  .cases h
theorem longR_wf{v:Int}{s a:RS}(h:cH s=.ok (v,a)):aF v:=by
 rw[(ip h).2.1];exact i64in _
theorem strR_ok{c:bD}{s j:RS}{st:br}(ok:jA c)(h:mZ c s=.ok (st,j)):lS c st:=by
 unfold mZ at h
 cases h1:gj s with
 | error e=>rw[h1]at h;cases h
 | ok q=>
 obtain⟨last,s1⟩:=q;rw[h1]at h;dsimp only at h
 split at h
 .cases h
 rename_i a;have a:=Bw (by simpa using a);unfold nV at h
 cases h2:dZ s1 with
 | error e=>rw[h2]at h;cases h
 | ok q=>
 obtain⟨hd,s2⟩:=q;rw[h2]at h;dsimp only at h
 cases h3:cH s2 with
 | error e=>rw[h3]at h;cases h
 | ok q=>
 obtain⟨streak,s3⟩:=q;have b:=longR_wf h3;rw[h3]at h;dsimp only at h
 cases h4:dM 8 s3 with
 | error e=>rw[h4]at h;cases h
 | ok q=>
 obtain⟨n,s4⟩:=q;rw[h4]at h;dsimp only at h
 cases h5:jr n.toNat s4 with
 | error e=>rw[h5]at h;cases h
 | ok q=>
 obtain⟨l,s5⟩:=q;rw[h5]at h;dsimp only at h;unfold oE at h
 split at h
 .cases h
 rename_i d;have d:=Decidable.not_not.1 d
 cases h6:cH s5 with
 | error e=>rw[h6]at h;cases h
 | ok q=>
 obtain⟨next,s6⟩:=q;rw[h6]at h;dsimp only at h
 split at h
 .cases h
 rename_i k
 cases h7:dM 256 s6 with
 | error e=>rw[h7]at h;cases h
 | ok q=>
 obtain⟨m,s7⟩:=q;rw[h7]at h;dsimp only at h;have f:qQ c.hold (⟨next,c.hold,[]⟩:HS Pv):=⟨⟨by show 0<=next;omega,ok.hd.1,ok.hd.2,⟨by simp[gK],λp i=>V2 i (by simp)⟩⟩,rfl,by show next<=_;omega,λp i=>V2 i (by simp)⟩
 cases h8:iG ⟨next,c.hold,[]⟩ m.toNat s7 with
 | error e=>rw[h8]at h;cases h
 | ok q=>
 obtain⟨hs,s8⟩:=q;rw[h8]at h
 cases h
 have g:=Bv f h8;unfold aF at b;exact⟨⟨d.1,d.2.2,d.2.1,b.2⟩,rfl,rfl,g.ok,g.most,g.next,g.rows,a⟩
theorem agtR_ok{s0:aI}{x:PAg}{a:Int}{r s:RS}{y:List En×Fl×br}(ok:jA s0.cfg)(f:isT s0.now)(g:AgsOk s0 x)(h:kL { s0 with rows:=x.rows,sts:=x.sts } a r=.ok (y,s)) :
  AgsOk s0 ⟨y.1,x.sts.set a.toNat (some y.2.2),mset a y.2.1 x.fls⟩:=by
 unfold kL at h
 cases h1:cH r with
 | error e=>rw[h1]at h;cases h
 | ok q=>
 obtain⟨ep,s1⟩:=q;rw[h1]at h;dsimp only at h
 cases h2:cH s1 with
 | error e=>rw[h2]at h;cases h
 | ok q=>
 obtain⟨bt,s2⟩:=q;rw[h2]at h;dsimp only at h
 cases h3:cH s2 with
 | error e=>rw[h3]at h;cases h
 | ok q=>
 obtain⟨tm,s3⟩:=q;rw[h3]at h;dsimp only at h
 split at h
 .cases h
 rename_i hs;have hs:(gD s0.cfg.agents x.rows a ⟨ep,bt,tm⟩).2=0:=by simpa using hs
 obtain⟨a1,a2,a3,a4,a5⟩:=Lm hs;have b:=setR_ok (most:=s0.cfg.agents) g.rows a ⟨ep,bt,tm⟩
 cases h4:upR s0.now s3 with
 | error e=>rw[h4]at h;cases h
 | ok q=>
 obtain⟨t,s4⟩:=q;have n:=oF h4;rw[h4]at h;dsimp only at h
 cases h5:flR s0.cfg t s4 with
 | error e=>rw[h5]at h;cases h
 | ok q=>
 obtain⟨⟨fl,st⟩,s5⟩:=q;rw[h5]at h
 cases h
 unfold flR at h5
 cases h6:dZ s4 with
 | error e=>rw[h6]at h5;cases h5
 | ok q=>
 obtain⟨v,s6⟩:=q;rw[h6]at h5;dsimp only at h5
 cases h7:mZ s0.cfg s6 with
 | error e=>rw[h7]at h5;cases h5
 | ok q=>
 obtain⟨u,s7⟩:=q;rw[h7]at h5
 cases h5
 have m:=strR_ok ok h7;have i:a.toNat<x.sts.length:=by rw[g.len];omega
 have d:a.toNat<x.rows.length:=by rw[g.rows.len];omega
 refine⟨b,by show (x.sts.set _ _).length=64;rw[List.length_set,g.len],λz c=>?_,λj=>?_,λp k=>?_,oP g.nd⟩
 .rcases Y2 c with c|c
  .exact g.sts z c
  .cases c;exact m
 .dsimp only;rw[a4]
  by_cases e:j=a.toNat
  .subst e;rw[List.getElem?_set_self i,List.getElem?_set_self d];exact⟨λ_=>⟨_,rfl,by show 0<ep;dsimp only at a3;omega⟩,λ_=>⟨_,rfl⟩⟩
  .rw [List.getElem?_set_ne (by omega),List.getElem?_set_ne (by omega)];exact g.reg j
 .rcases nT k with rfl|k
  .have h0:=f.2;exact⟨⟨by show 0<=a;omega,by show a<64;omega⟩,⟨n.1,by show t<=_;omega⟩,n.2⟩
  .exact g.fls p k
theorem Bx{s0:aI}(ok:cR s0):∀{n:Nat} {r b:RS} {x:PAg},fo s0 n r=.ok (x,b)->AgsOk s0 x
 | 0,r,b,x,h=>by
  cases h
  exact⟨ok.rows,ok.len,ok.sts,ok.reg,λp c=>V2 c (by simp),by simp⟩
 | n+1,r,b,x,h=>by
  unfold fo at h
  cases h1:fo s0 n r with
  | error e=>rw[h1]at h;cases h
  | ok q=>
  obtain⟨x1,r1⟩:=q;rw[h1]at h;dsimp only at h
  cases h2:cH r1 with
  | error e=>rw[h2]at h;cases h
  | ok q=>
  obtain⟨a,r2⟩:=q;rw[h2]at h;dsimp only at h
  cases h3:kL { s0 with rows:=x1.rows,sts:=x1.sts } a r2 with
  | error e=>rw[h3]at h;cases h
  | ok q=>
  obtain⟨y,r3⟩:=q;rw[h3]at h
  cases h
  exact agtR_ok ok.cfg ok.now (Bx ok h1) h3
theorem iRes_b{s:RS}(hb:aH s.bs):aH (dE s).2.bs:=gL hb
theorem By{s c:RS}{o:Ot}(hb:aH s.bs)(h:je s=.ok (o,c)):WC o.2/\gh o.2=true/\(0<=o.1.win/\o.1.win<=4611686018427387903)/\aH c.bs:=by
 unfold je at h
 cases e:gj s with
 | error e'=>rw[e]at h;cases h
 | ok q=>
  obtain⟨w,s1⟩:=q;rw[e]at h;dsimp only at h;have b:aH s1.bs:=by rw[(ip e).1];exact iRes_b hb
  have t1:=lJ (m:=s1.bs.length) b;have t2:=lJ (m:=(aY s1.bs.length s1).2.bs.length) t1.1
  split at h
  .cases h
  split at h
  .cases h
  rename_i a
  split at h
  .cases h
  rename_i d
  cases h
  have a:(!(im (bF (aY s1.bs.length s1).1)).2.2 || !inM w 0 4611686018427387903)=false:=by simpa only[Bool.not_eq_true] using a
  rw[VK,Wm]at a;exact⟨Tr t2.2,Ts (by simpa using d),Bw (by simpa only[Wm] using a.2),t2.1⟩
structure CelOk(most:Int)(m:CM):Prop where
 sh:dX most m
 win:∀p∈m,0<=p.1.win/\p.1.win<=4611686018427387903
theorem xD{most:Int}(h0:dX most []):∀{n:Nat} {r c:RS} {m:CM},aH r.bs->fp most n r=.ok (m,c)->CelOk most m/\aH c.bs
 | 0,r,c,m,hb,h=>by
  cases h
  exact⟨⟨h0,λp a=>V2 a (by simp)⟩,hb⟩
 | n+1,r,c,m,hb,h=>by
  unfold fp at h
  cases h1:fp most n r with
  | error e=>rw[h1]at h;cases h
  | ok q=>
  obtain⟨m1,r1⟩:=q;rw[h1]at h;dsimp only at h;have b:=xD h0 hb h1
  cases h2:je r1 with
  | error e=>rw[h2]at h;cases h
  | ok q=>
  obtain⟨o,r2⟩:=q;rw[h2]at h;dsimp only at h;have d:=By b.2 h2
  split at h
  .cases h
  rename_i hs
  cases h
  refine⟨⟨setS_ok b.1.sh d.1 (by unfold aF;omega),λp a=>?_⟩,d.2.2.2⟩
  unfold jY at a
  split at a
  .exact b.1.win p a
  split at a
  .exact b.1.win p a
  split at a
  .exact b.1.win p a
  rcases nT a with rfl|a
  .exact d.2.2.1
  .exact b.1.win p a
theorem xE:∀{n:Nat} {r b:RS} {l:List Ot},aH r.bs->eF n r=.ok (l,b)->(∀o∈l,WC o.2)/\aH b.bs
 | 0,r,b,l,hb,h=>by
  cases h
  exact⟨λo c=>V2 c (by simp),hb⟩
 | n+1,r,b,l,hb,h=>by
  unfold eF at h
  cases h1:eF n r with
  | error e=>rw[h1]at h;cases h
  | ok q=>
  obtain⟨l1,r1⟩:=q;rw[h1]at h;dsimp only at h;have d:=xE hb h1
  cases h2:je r1 with
  | error e=>rw[h2]at h;cases h
  | ok q=>
  obtain⟨o,r2⟩:=q;rw[h2]at h
  cases h
  have c:=By d.2 h2;refine⟨λx a=>?_,c.2.2.2⟩
  rcases VR.1 a with a|a
  .exact d.1 x a
  .rw [VE]at a;rw[a];exact c.1
section
variable {F L:List aE}{H:aD}{K KP:KE}{Q Q':aE}{sb:Nat}{s:aI}
theorem Uu{b1 b2:Nat}{e v1:Int}{v:KQ}{d:FrameMode->aD->Prop}(m:e≠0)(h:aA H (cellsA b1 [.pointer v] 40::cellsA b2 [aC v1] 50::F))
  (k:∀b,aA b (cellsA b1 [.pointer none] 40::cellsA b2 [aC 10] 50::F)->d (bi (pnV e) true) b):cC Tryz.prog 196 [(PA b1 0),(PA b2 0)] (bi (pnV e) false) H d:=by
 have hd:cC Tryz.prog 196 [(PA b1 0),(PA b2 0)] (bi (pnV e) false) H λc b=>c=bi (pnV e) true/\aA b (cellsA b1 [.pointer none] 40::cellsA b2 [aC 10] 50::F):=by
  refine rP.defq (.inr ⟨rfl,rfl⟩) ?_;unfold rP.code;refine JN ⟨_,rfl,?_⟩;intro s f;refine⟨λ_=>?_,λn=>V2 n (by simpa using m)⟩
  refine h.st 0 rfl rfl ?_;intro x h;refine h.st 1 rfl rfl ?_;intro y h;refine f _ ?_
  skip
  exact h
 intro w j;refine (hd w j).mono λi t u a=>?_
 cases i <;> simp only at a ⊢
 exact⟨a.1,a.2.1▸k _ a.2.2⟩
theorem Uv{b1 b2:Nat}{d:FrameMode->aD->Prop}(h:aA H F)
  (k:∀b,aA b F->d .returning b):cC Tryz.prog 196 [(PA b1 0),(PA b2 0)] .returning H d:=by
 have hd:cC Tryz.prog 196 [(PA b1 0),(PA b2 0)] .returning H λc b=>c=.returning/\aA b F:=by
  refine rP.defq (.inl ⟨rfl,rfl,rfl⟩) ?_;unfold rP.code;refine JM ⟨_,rfl,?_⟩;intro m f;refine⟨λj=>V2 j (by simp),λ_=>f _ ?_⟩
  skip
  exact h
 intro w i;refine (hd w i).mono λe n s a=>?_
 cases e <;> simp only at a ⊢
 exact⟨a.1,a.2.1▸k _ a.2.2⟩
end
theorem uRes_lt2{s:RS}(hb:aH s.bs)(h:(bM s).2.e=0):(bM s).2.bs.length+1<=s.bs.length:=by
 unfold bM at h ⊢
 split at h
 .rename_i h0;exact V2 h h0
 .rename_i h0;rw[V0 h0]
  split at h
  .rename_i u n e;have:=qq hb e;simp only[e];rw[VP];omega
  .simp at h
  .simp at h
theorem Ln{s a:RS}{o:Ot}(hb:aH s.bs)(h:je s=.ok (o,a)):a.bs.length+1<=s.bs.length:=by
 unfold je at h
 cases e:gj s with
 | error e'=>rw[e]at h;cases h
 | ok q=>
  obtain⟨v,s1⟩:=q;rw[e]at h;dsimp only at h;have h0:=ip e;have c:s1.bs.length+1<=s.bs.length:=by
   rw[h0.1];exact uRes_lt2 hb h0.2.2
  have b:=(mC s1 s1.bs.length).1;have d:=(mC (aY s1.bs.length s1).2 (aY s1.bs.length s1).2.bs.length).1
  split at h
  .cases h
  split at h
  .cases h
  split at h
  .cases h
  .cases h;omega
theorem Lo:∀{n:Nat} {r a:RS} {l:List Ot},aH r.bs->eF n r=.ok (l,a)->l.length=n/\n+a.bs.length<=r.bs.length
 | 0,r,a,l,hb,h=>by
  cases h
  exact⟨rfl,by omega⟩
 | n+1,r,a,l,hb,h=>by
  unfold eF at h
  cases h1:eF n r with
  | error e=>rw[h1]at h;cases h
  | ok q=>
  obtain⟨l1,r1⟩:=q;rw[h1]at h;dsimp only at h;have c:=Lo hb h1;have b:=(xE hb h1).2
  cases h2:je r1 with
  | error e=>rw[h2]at h;cases h
  | ok q=>
  obtain⟨o,r2⟩:=q;rw[h2]at h
  cases h
  have:=Ln b h2;rw[V3];simp only[V9,VW];omega
theorem Lp{s:RS}{e:Int}:∀{n j:Nat},eF j s=.error e->j<=n->eF n s=.error e
 | 0,j,h,hj=>by
  obtain rfl:j=0:=by omega
  exact h
 | n+1,j,h,hj=>by
  rcases VV n j with a|a
  .obtain rfl:j=n+1:=by omega
   exact h
  .unfold eF;rw[Lp h a]
section
variable {F L:List aE}{H:aD}{K KP:KE}{Q Q':aE}{sb:Nat}{s:aI}
def ne(Q:aE)(F:List aE)(K:KE):Except Int aI->Prop
 | .ok s=>∀Q' sb H',aM Q Q'->aA H' (Q'::stA Q' sb s::F)->K (.tuple #[PA sb 0,aC 0]) H'
 | .error e=>∀Q' H',aM Q Q'->aA H' (Q'::F)->K (.tuple #[.pointer none,aC e]) H'
theorem nf{b1 b2:Nat}{e v1:Int}{v:KQ}(i:ne Q F K (.error 10))(f:e≠0)(hs:aM Q Q')(h:aA H (cellsA b1 [.pointer v] 40::cellsA b2 [aC v1] 50::Q'::F)) :
  bJ 196 X.calls=true/\cC Tryz.prog 196 [(PA b1 0),(PA b2 0)] (bi (pnV e) false) H λd b=>d=bi (pnV e) true/\
   ∃c,aL b b1 0=some (.pointer c)/\∃a,aL b b2 0=some (aC a)/\K (.tuple #[(.pointer c),(aC a)]) b:=
 ⟨rfl,Uu f h λj h=>⟨rfl,_,h.r 0,_,h.r 1,i Q' _ hs h.tl.tl⟩⟩
theorem Lq(k:Ky)(c:Cl):aH (cbB k c):=dD (tU _) (Pu _)
theorem Uw(a:Int)(e:En)(fl:Fl)(st:br):aH (agB a e fl st):=
 dD (dD (dD (dD (dD (iE _) (tU _)) (iE _)) (jy λ_ _=>iE _)) (iE _)) (jy λ_ _=>dD (iE _) (wW _))
theorem Ux(s:aI)(p:Int×En):aH (dU s p):=by
 unfold dU
 split
 .exact Uw _ _ _ _
 .exact λx a=>by cases a
theorem xF(s:aI):aH (stB s):=
 dD (dD (dD (dD (dD (dD (dD (iE _) (tU _)) (iE _)) (jy λ_ _=>Ux _ _)) (iE _)) (jy λ_ _=>Lq _ _)) (iE _)) (jy λ_ _=>Lq _ _)
theorem strB_inj{xs ys:List Int}(d:aH xs)(c:aH ys)(h:(bF xs).toList=(bF ys).toList):xs=ys:=by
 have a:xs.map (λn=>UInt8.ofNat n.toNat)=ys.map (λn=>UInt8.ofNat n.toNat):=by
  rw[<-strOfNums_data xs,<-strOfNums_data ys];have e:∀b:Fa,b.data.toList=b.toList:=λb=>Eq.symm (ByteArray.toList_eq b)
  rw[e,e];exact h
 have j:=congrArg (List.map λb:UInt8=>(b.toNat:Int)) a
 have e:∀l:List Int,aH l->(l.map λn=>UInt8.ofNat n.toNat).map (λb:UInt8=>(b.toNat:Int))=l:=by
  intro l f;apply W3 (by simp);intro i k a;simp only[Wx];exact qr f i a
 rwa[e _ d,e _ c]at j
theorem Uy{rb b1 b2 b3:Nat}{s1:aI}{bs:List Int}{ba:KQ}{bc:Nat}{kn:Int}{r:RS}{w:aE}(f:aM Q w)
  (hA:∀H,aA H F->aP H ba (bs.map U8)) (I:ba=none\/∃k o,ba=some ⟨k,o,none⟩) (P:0<=kn/\kn<18446744073709551616) (hb:aH r.bs) (hl:r.bs.length<=1000000000) (D:aH bs)
  (y:∀l d,eF kn.toNat r=.ok (l,d)->(dF d).e=0->cR { s1 with kept:=l }/\qP { s1 with kept:=l }/\l.length<=50000)
  (G:(∀l d,eF kn.toNat r=.ok (l,d)->(dF d).e=0->stB { s1 with kept:=l }=bs->False)->ne Q F K (.error 10))
  (E:∀l d,eF kn.toNat r=.ok (l,d)->(dF d).e=0->stB { s1 with kept:=l }=bs->ne Q F K (.ok { s1 with kept:=l }))
  (h:aA H (crdA rb r::w::stA w sb { s1 with kept:=[] }::cellsA b1 [PA sb 0] 40::cellsA b2 [aC 0] 50::cellsA b3 [PA rb 0] 388::F)) :
  ∃(i:Int->aD->Prop) (M:Int->aD->Nat),i kn H/\
   ∀(n:Int),∀v:aD,i n v->mz.l2 ba bs.length bc K b1 b2 b3 i M n v:=by
 refine⟨λn S=>∃(j:Nat) (l:List Ot) (d:RS),n=kn-j/\(j:Int)<=kn/\eF j r=.ok (l,d)/\
  aA S (crdA rb d::w::stA w sb { s1 with kept:=l }::cellsA b1 [PA sb 0] 40::cellsA b2 [aC 0] 50::cellsA b3 [PA rb 0] 388::F),
  λn _=>n.toNat,⟨0,[],r,by omega,P.1,rfl,h⟩,?_⟩
 rintro n H1 ⟨j,l,d,rfl,hj,x,h⟩;have Z:=Lo hb x;have R:=xE hb x;unfold mz.l2;refine⟨λs=>?_,λs=>?_⟩
 .have s:=V4 s;refine⟨_,h.q 5,?_⟩;refine Li h R.2 (by omega) ?_;have t:eF (j+1) r=match je d with|.error e=>.error e|.ok (o,r2)=>.ok (l++[o],r2):=by
   rw[eF,x] <;> rfl
  cases hr:je d with
  | error e=>
   rw[hr]at t;exact λS A h=>nf (G λl r1 u _ _=>by rw[Lp t (by omega)]at u;cases u) A f (h.o [2,3,0] 5)
  | ok q=>
  obtain⟨o,r2⟩:=q;rw[hr]at t;intro H2 Y h4 W h;refine⟨_,_,_,_,_,_,_,_,_,_,rfl,?_⟩;refine h.al λb7 _ h=>?_
  refine h.al λb8 _ h=>?_
  refine h.st 1 rfl rfl ?_;intro H3 h;refine h.sta 0 rfl rfl λH4 h=>?_
  have h:=h.o [4,0,1,2,3,5,6,7] 8;obtain⟨p,h⟩:=cX.1 h;refine⟨_,h.r 13,_,h.r 13,cZ ⟨_,_,_,h.r 0,_,_,h.q 10,_,_,_,_,_,_,_,_,h.rda 9 rfl,?_⟩⟩;refine h.al λb9 _ h=>⟨h.r 1,h.r 14,h.r 14,?_⟩
  refine h.append (m:=1) (ws:=cI o) sl86 9 rfl (h.ce_rd 0 rfl) rfl (sf _) (by show (l.length+1)*600<=_;omega) (by show l.length+1<=_;omega) λa6 c6 U h=>⟨_,_,_,rfl,h.r 14,cZ ?_⟩
  refine h.st 1 rfl rfl ?_;intro T h;have hw:u64.wrap (kn-(j:Int)-1)=kn-((j+1:Nat):Int):=by rw[df];omega
  rw[hw];refine⟨⟨j+1,l++[o],r2,rfl,by omega,t,?_⟩,by dsimp only;omega⟩;have e4:flat cI (l++[o])=flat cI l++cI o:=by rw[dR];simp[flat]
  have h:=h.o [1,2,3,4,5,6,7,8,9,12,13,14,15,16] 17;have h:aA T (stA w sb { s1 with kept:=l++[o] }::_):=cX.2 ⟨{ p with ka:=a6,kc:=c6 },by
   simp only[dq,V3,Wo,e4];exact h⟩
  exact h.o [1,2,0,3,4,5] 6
 .have h0:=V5 s;have L:j=kn.toNat:=by omega
  subst L;refine⟨_,h.r 5,?_⟩;refine wu h λH2 h=>⟨_,rfl,?_⟩
  refine j6 (λA=>⟨rfl,_,h.r 3,?_⟩) λA=>nf (G λl2 r2 u B _=>by rw[x]at u;cases u;exact A B) A f (h.o [3,4,1] 6)
  obtain⟨N,C,gk⟩:=y l d x A;have h:=h.o [1,2,3,4,5] 6;refine Bu N C gk h λa c H3 h=>⟨_,_,_,rfl,?_⟩
  have O:a=none\/∃k o,a=some ⟨k,o,none⟩:=by
   rcases (kz (F:=star _) h).2 with ⟨B,_⟩|⟨b,pre,post,e',fr,B,_⟩
   .exact .inl B
   .exact .inr ⟨_,_,B⟩
  refine A7 O I (h.sl_rd 0 rfl) (hA _ (h.o [] 6)) ⟨_,rfl,?_⟩;intro Jn V;refine⟨λs=>?_,λs=>?_⟩
  .refine nf (e:=10) (G λl2 r2 u B h3=>?_) (by decide) f (h.o [3,4,1] 6)
   rw[x]at u;cases u;rw[h3]at s;simp at s
  .refine V _ ?_;have J:stB { s1 with kept:=l }=bs:=strB_inj (xF _) D (by simpa using s);refine⟨_,h.r 3,?_⟩;refine h.st 3 rfl rfl ?_;intro H4 h;refine h.st 4 rfl rfl ?_;intro U h;refine⟨rfl,Uv (h.o [3,4,1,2] 6) λT h=>⟨rfl,_,h.r 0,_,h.r 1,E l d x A J w sb _ f h.tl.tl⟩⟩
end
end Go.Proofs.YtaaieblnikcndaaGreatDoor
