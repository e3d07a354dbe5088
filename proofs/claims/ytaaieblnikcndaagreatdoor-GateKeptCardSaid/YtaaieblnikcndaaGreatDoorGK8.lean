/-
  Lemmas for GateKept: part 8 of what it rests on. Conditions: none.
-/
import Derived.Test.YtaaieblnikcndaaGreatDoorGK7
set_option linter.unusedVariables false
set_option linter.unusedSimpArgs false
set_option maxRecDepth 100000
set_option maxHeartbeats 16000000
open Go.IntKind (i64 u64 i8 u8 i32 u32 i16 u16)
namespace Go.Proofs.YtaaieblnikcndaaGreatDoor
open Go
section
variable {F L:List aE}{H:aD}{K KP:KE}{Q:aE}
theorem T8(s:RS):(aZ 4096 s).1.length<=4096:=by
 unfold aZ
 split
 .simp
 .split
  .split
   .simp
   .split
    .simp
    .rw [VM];omega
  .simp
  .simp
theorem evsQ_len{s b:RS}{l:List Pv}(h:mM s=.ok (l,b)):l.length<=64:=by
 unfold mM at h
 split at h
 .cases h
 .rename_i n s1 a;have:=AK h;unfold dO okR at a
  split at a
  .cases a
  .cases a
   have:=AJ s;omega
theorem Kv:∀{n:Nat} {s c:RS} {l:List Pv},jA n s=.ok (l,c)->∀e∈l,fx e.name e.labs=true
 | 0,s,c,l,h=>by cases h;simp
 | n+1,s,c,l,h=>by
  unfold jA at h
  split at h
  .cases h
  .rename_i i s1 d
   split at h
   .cases h
   .rename_i v s2 b
    cases h
    intro e a
    rcases VK.1 a with a|a
    .exact Kv d e a
    .rw [V6]at a;subst a;unfold evQ okR at b
     split at b
     .cases b
     .rename_i f
      cases b
      exact Ja (by simpa using f)
theorem T9{s a:RS}{l:List Pv}(h:mM s=.ok (l,a)):∀e∈l,e.labs.length<=1000000:=by
 unfold mM at h
 split at h
 .cases h
 .intro e b;have:=(mI (Kv h e b)).len;omega
theorem TA{a:KQ}{c:Nat}{bs:List Int}(h:aA H (Q::F))(ha:∀H,aA H (Q::F)->aP H a (bs.map U8))(hb:aH bs)(hl:bs.length<=1099511627776)
  (k:QPost Q F K (nS bs)):CF 80 #[.slice a bs.length c] H K:=by
 refine OV ?_;refine h.al λb _ h=>?_
 refine h.al λb1 _ h=>?_
 have pan:∀e Q' J cs v1,nS bs=.error e->e≠0->aM Q Q'->cs.length=14->aA J (cellsA b1 [aC v1] 50::cellsA b cs 81::Q'::F)->
   bJ 167 X.calls=true/\cC Tryz.prog 167 (dv b 0 b1 0) (bi (pnF e) false) J λu H_=>u=bi (pnF e) true/\mt H_ b 0 λl=>aN H_ b1 0 λr8=>K (eB (.agg ⟨l⟩) r8) H_:=by
  intro e Q' J cs v1 w d hs y2 h;refine⟨rfl,Ta y2 h λH2 h=>⟨rfl,_,_,_,_,_,_,_,_,_,_,_,_,_,_,_,_,_,_,_,_,h.q 1,_,h.r 0,?_⟩⟩
  rw[w]at k;exact k Q' _ d hs h.tl.tl
 refine rN h (λH h=>ha H h.tl.tl) hl λrb H2 h=>⟨_,rfl,?_⟩
 refine SW h hb hl ?_;unfold nS at k pan
 cases hr0:px ⟨0,bs⟩ with
 | error e=>
  rw[hr0]at pan;exact λJ d h=>pan _ Q _ _ _ rfl d (aM.refl Q) rfl h
 | ok p=>
 obtain⟨n,s1⟩:=p;rw[hr0]at pan k;dsimp only at pan k;have hkd:=kindR_ok hr0;intro H4 l0 j2 l6 h;refine⟨_,rfl,?_⟩;refine h.st 2 rfl rfl ?_;intro H5 h;have h:aA H5 (crdA rb s1::cellsA b1 [aC 0] 50::cellsA b (cF { kind:=n } {}) 81::Q::F):=h;refine xb (k0:=n) h 2 rfl rfl λp pc H6 _ h=>⟨_,_,_,rfl,?_⟩
 have ho:=xa n;refine⟨λi J=>∃(j:Nat) (U:List Int) (s2:RS),i=j/\j<=(aV n).length/\ja j s1=.ok (U,s2)/\s2.e=0/\aH s2.bs/\s2.bs.length<=1099511627776/\
  aA J (crdA rb s2::slA 297 1 p (aV n).length pc ((aV n).map λi=>PA b i)::cellsA b1 [aC 0] 50::cellsA b (cF (jb { kind:=n } ((aV n).take j) U) {}) 81::Q::F),
  λi _=>(aV n).length-i.toNat,⟨0,[],s1,rfl,by omega,rfl,l0,j2,l6,h.o [1,0,2,3,4] 5⟩,?_⟩
 rintro i H7 ⟨j,U,s2,rfl,hj,V,he2,L,P,h⟩;have hvl:=AG V;refine⟨λs=>?_,λs=>?_⟩
 .have s:j<(aV n).length:=by have:=Vw s;omega
  have Y:=(h.sl_rd 1 rfl).at s;have hi:=AE _ (V7 s);refine⟨by omega,_,_,Y.1,_,Y.2,?_⟩;refine nL h L P λH8 h=>⟨_,rfl,cZ ?_⟩
  have E:=gK L;have O:=jR s2;refine h.st 3 rfl (Nat.ble_eq_true_of_le (by show (aV n)[j]+1<=14;omega)) ?_;intro H9 h;refine⟨_,mA h,?_⟩;have D:ja (j+1) s1=match cH s2 with|.error e=>.error e|.ok (v,s2)=>.ok (U++[v],s2):=by
   rw[ja,V] <;> rfl
  unfold cH okR at D;refine su (λe=>⟨rfl,?_⟩) λe=>?_
  .rw [Vs (by simpa using e)]at D;dsimp only at D;have hw:i64.wrap ((j:Int)+1)=((j+1:Nat):Int):=by rw[aK];omega
   refine⟨⟨j+1,_,(bM s2).2,hw,s,D,e,E,by omega,?_⟩,by rw[hw];dsimp only;omega⟩;rw[Wf s,JH (by rw[VM];omega)];have h:aA H9 (crdA rb (bM s2).2::slA 297 1 p (aV n).length pc ((aV n).map λi=>PA b i)::cellsA b1 [aC 0] 50::cellsA b (cv (cF (jb { kind:=n } ((aV n).take j) U) {}) (0+(aV n)[j]) [aC (i64.wrap ((bM s2).1:Int))]) 81::Q::F):=by
    rw[VL];exact h
   rw[VL,encQ_set hi.1 hi.2]at h;exact h
  .rw [Vt e]at D;rw[AH D s]at pan;exact pan _ Q _ _ _ rfl e (aM.refl Q) (oe ..) (h.o [2,3] 4)
 have r9:j=(aV n).length:=by have:=Vx s;omega
 subst r9;rw[V]at pan k;dsimp only at pan k;rw[VW]at h;have I:∀x:QA,(n≠5->x.ea=none/\x.ec=0)->(n≠8->x.la=none/\x.lc=0/\x.da=none/\x.dc=0)->(jb { kind:=n } (aV n) U).Sh x:=λx G M=>numF_sh G M
 obtain⟨a1,a2,a3,a4,a5⟩:=xd (aV n) U { kind:=n };obtain⟨f,hf⟩:∃f,jb { kind:=n } (aV n) U=f:=⟨_,rfl⟩;rw[hf]at k pan h a1 a2 a3 a4 a5;rw[hf]at I;refine⟨_,h.r 3,?_⟩;intro Jn hJ;have fin:∀(Q':aE) (g:Fq) (x:QA) (evs:List Ev) (s4:RS) J,mN f s2=.ok (g,s4)->aM Q Q'->(∀e∈evs,io Q' e)->g.evs=evs.map Ev.p->evs.length<=64->aH s4.bs->s4.bs.length<=1099511627776->g.Sh x->(∀e∈evs,e.labs.length<=1000000)->
   g.sl.length<=1000000->g.data.length<=1000000000->(x.da=none\/∃k o,x.da=some ⟨k,o,none⟩)->
   ∀A B:aE,(∀H F,aA H (A::F)->aP H x.la (flat df g.sl))->(∀H F,aA H (B::F)->aP H x.da (g.data.map U8))->
   aA J (crdA rb s4::slA 99 4 x.ea evs.length x.ec (flat cw evs)::cellsA b1 [aC 0] 50::cellsA b (cF g x) 81::Q'::A::B::F)->Jn J:=by
  intro Q' g x evs s4 j3 t y N C h2 hb4 hl4 Z j1 h6 h0 h4 A B hA hB h;rw[t]at pan k;unfold endQ at pan k;dsimp only at pan k;refine hJ _ ?_;refine wu h λh9 h=>⟨_,rfl,?_⟩
  refine su (λd=>⟨rfl,?_⟩) λd=>?_
  .rw [Vs (by simpa using d)]at pan k;refine⟨_,_,_,_,_,_,_,_,_,_,_,_,_,_,_,_,_,_,_,_,h.q 3,?_⟩;have r0:lN (crdA rb (dF s4)::slA 99 4 x.ea evs.length x.ec (flat cw evs)::cellsA b1 [aC 0] 50::cellsA b (cF g x) 81::Q'::A::B::F) x.ea evs:=
    ⟨λH h=>h.sl_rd 1 rfl,λe d H h=>(N e d).at h 4 rfl⟩
   have hQ:lP (crdA rb (dF s4)::slA 99 4 x.ea evs.length x.ec (flat cw evs)::cellsA b1 [aC 0] 50::cellsA b (cF g x) 81::Q'::A::B::F) g x evs:=
    ⟨C,r0,λH h=>hA H _ (h.o [5] 7),λH h=>hB H _ (h.o [6] 7),h4,Z,by omega,j1,h6,h0⟩
   refine J4 h hQ λu8 h=>⟨_,rfl,?_⟩
   intro y3 R;refine⟨λw=>?_,λw=>R _ ?_⟩
   .rw [Vs (by simpa using w)]at pan;exact pan _ Q' _ _ _ rfl (by decide) y rfl (h.o [2,3,4] 7)
   .rw [Vt (by simpa using w)]at k;refine⟨_,_,_,_,_,_,_,_,_,_,_,_,_,_,_,_,_,_,_,_,h.q 3,?_⟩;refine h.st 3 rfl rfl ?_;intro H13 h;refine h.st 2 rfl rfl ?_;intro H14 h;have h:=h.o [2,3,4,1] 7;refine⟨rfl,Tb h λH15 h=>⟨rfl,_,_,_,_,_,_,_,_,_,_,_,_,_,_,_,_,_,_,_,_,h.q 1,_,h.r 0,?_⟩⟩
    exact k Q' x evs _ y C N Z h.tl.tl
  .rw [Vt d]at pan;exact pan _ Q' _ _ _ rfl d y rfl (h.o [2,3,4] 7)
 have T:∀(H:aD) (F:List aE),aA H (emp::F)->aP H none (flat df []):=λH F _=>iv H none
 have S:∀(H:aD) (F:List aE),aA H (emp::F)->aP H none (([]:List Int).map U8):=λH F _=>iv H none
 refine⟨λG=>?_,λG=>?_⟩
 .have G:f.kind=5:=Vw G;have t:mN f s2=match mM s2 with|.error e=>.error e|.ok (l,s')=>.ok ({ f with evs:=l },s'):=by unfold mN;rw[Vt G] <;> rfl
  have h:=h.o [4,0,2,3] 5;refine SX h L P ?_
  cases w:mM s2 with
  | error e=>
   rw[w]at t;exact λQ' J d hs h=>pan _ Q' _ _ _ (by rw[t];rfl) d hs rfl (h.o [1,2,0] 3)
  | ok q=>
  obtain⟨l,s3⟩:=q;rw[w]at t;dsimp only at t;have h2:=evsQ_len w;have W:=T9 w;intro Q' evs a c H8 y C N h7 E O h;refine⟨_,_,_,rfl,?_⟩;refine h.st 4 rfl rfl ?_;intro H9 h;have l5:l.length=evs.length:=by rw[C,V8]
  obtain⟨e1,e2,e3⟩:=(I {} (λ_=>⟨rfl,rfl⟩) (λ_=>⟨rfl,rfl,rfl,rfl⟩)).em (by omega)
  refine fin Q' { f with evs:=l } { ea:=a,ec:=c } evs s3 _ t y N C (by omega) E O ?_ (λe d=>?_) (by dsimp only;rw[a4];simp) (by dsimp only;rw[a5];simp) (.inl rfl) emp emp (by dsimp only;rw[a4];exact T) (by dsimp only;rw[a5];exact S) ?_
  .exact⟨λh=>Vu G h,λ_=>⟨a3,a4,rfl,rfl,a5,rfl,rfl⟩,(I {} (λ_=>⟨rfl,rfl⟩) (λ_=>⟨rfl,rfl,rfl,rfl⟩)).nm⟩
  .exact W e.p (by rw[C];exact List.mem_map_of_mem d)
  .have e:cF { f with evs:=l } { ea:=a,ec:=c }=cv (cF f {}) 10 [.slice a evs.length c]:=by unfold cF;dsimp only;rw[l5];rfl
   rw[e];have h:=h.o [1,2,3,4,0] 5;have h:=(lU (lU h)).o [2,3,4,5,6,0,1] 7;exact h
 have G:¬f.kind=5:=Vx G;intro y3 R;obtain⟨e1,e2,e3⟩:=(I {} (λ_=>⟨rfl,rfl⟩) (λ_=>⟨rfl,rfl,rfl,rfl⟩)).ev (by rw[a1]at G;rw[a1];exact G)
 refine⟨λM=>?_,λM=>R _ ?_⟩
 .have M:f.kind=8:=Vw M;have t:mN f s2=match serQ s2 with|.error e=>.error e|.ok (x,s1)=>okR (aZ 4096 s1).2 { f with sn:=x.1,sl:=x.2,data:=(aZ 4096 s1).1 }:=by unfold mN;rw[Vs G,Vt M] <;> rfl
  refine JG h L P ?_
  cases w:serQ s2 with
  | error e=>
   rw[w]at t;exact λJ d h=>pan _ Q _ _ _ (by rw[t];rfl) d (aM.refl Q) rfl (h.o [1,2,3] 4)
  | ok q=>
  obtain⟨⟨nm,labs⟩,s3⟩:=q;rw[w]at t;dsimp only at t;unfold okR at t;have h1:labs.length<=1000000:=by
   unfold serQ okR at w
   split at w
   .cases w
   .rename_i hz
    cases w
    have:=(mI (Ja (by simpa using hz))).len;omega
  intro a c H8 h7 E O h;dsimp only at h;refine⟨_,_,_,_,rfl,?_⟩;refine h.st 4 rfl rfl ?_;intro H9 h;have hd:=lJ (m:=4096) E;have h0:=T8 s3;have hdn:=mC s3 4096;refine nK h E O (by unfold aF;decide) λj3 h=>⟨_,rfl,?_⟩
  refine wo hd.2 h λta tc h9 h=>⟨_,_,_,rfl,?_⟩
  have h3:=tZ h;refine h.st 5 rfl rfl ?_;intro u8 h;refine⟨_,mA (h.o [1,0,2,3,4,5,6] 7),?_⟩;refine su (λd=>⟨rfl,R _ ?_⟩) λd=>?_
  .rw [Vs (by simpa using d)]at t;refine fin Q { f with sn:=nm,sl:=labs,data:=(aZ 4096 s3).1 } { la:=a,lc:=c,da:=ta,dc:=tc } [] (aZ 4096 s3).2 _ t (aM.refl Q) (λe d=>Vu d (by simp)) (by dsimp only;rw[e1];rfl) (by simp) hd.1 (by omega)
    ⟨λ_=>⟨e1,rfl,rfl⟩,λh=>Vu M h,(I {} (λ_=>⟨rfl,rfl⟩) (λ_=>⟨rfl,rfl,rfl,rfl⟩)).nm⟩ (λe d=>Vu d (by simp)) h1 (by dsimp only;omega) h3
    (slA 421 2 a labs.length c (flat df labs)) (slA 5 1 ta (aZ 4096 s3).1.length tc ((aZ 4096 s3).1.map U8)) (λH F h=>h.sl_rd 0 rfl) (λH F h=>h.sl_rd 0 rfl) ?_
   have e:cF { f with sn:=nm,sl:=labs,data:=(aZ 4096 s3).1 } { la:=a,lc:=c,da:=ta,dc:=tc }=cv (cv (cF f {}) 11 [.string nm,.slice a labs.length c]) 13 [.slice ta (aZ 4096 s3).1.length tc]:=rfl;rw[e];have h:=h.o [1,4,5,6,2,0] 7;exact (h.sl_nil 99 4).o [1,0,2,3,4,5,6] 7
  .rw [Vt d]at t;exact pan _ Q _ _ _ (by rw[t];rfl) d (aM.refl Q) (by rw[oe,oe];rfl) (h.o [4,5,6] 7)
 .have M:¬f.kind=8:=Vx M;have t:mN f s2=.ok (f,s2):=by unfold mN;rw[Vs G,Vs M]
  have hs:=I {} (λ_=>⟨rfl,rfl⟩) (λ_=>⟨rfl,rfl,rfl,rfl⟩)
  refine fin Q f {} [] s2 _ t (aM.refl Q) (λe d=>Vu d (by simp)) (by rw[e1];rfl) (by simp) L P hs (λe d=>Vu d (by simp)) (by rw[a4];simp) (by rw[a5];simp) (.inl rfl) emp emp (by rw[a4];exact T) (by rw[a5];exact S) ?_
  have h:=h.o [0,2,3,4] 5;exact (lU (lU (h.sl_nil 99 4))).o [3,2,4,5,6,0,1] 7
def fE(bs:List Int):Except Int Fq:=if 65536<bs.length then .error 17 else if (dY bs).1≠0 then .error (dY bs).1 else nS (dY bs).2
theorem AZ{a:KQ}{c:Nat}{bs:List Int}(h:aA H (Q::F))(A:∀H,aA H (Q::F)->aP H a (bs.map U8))(hb:aH bs)(j:bs.length<=c)
  (k:QPost Q F K (fE bs)):CF 28 #[.slice a bs.length c] H K:=by
 refine cM 28 119260 ?_;refine h.al λb _ h=>⟨λm=>?_,λm=>?_⟩
 .have m:=Vw m;have e:fE bs=.error 17:=by unfold fE;rw[pO]
  rw[e]at k;refine h.st 0 rfl rfl λu h=>⟨_,_,_,_,_,_,_,_,_,_,_,_,_,_,_,_,_,_,_,_,h.q 0,?_⟩
  exact k Q _ (by decide) (aM.refl Q) h.tl
 have m:=Vx m;refine G3 h (λH h=>A H h.tl) hb (by omega) j (λC D p u i h=>?_) λe u d i h=>?_
 .refine⟨_,_,_,_,rfl,λj=>Vu j (by simp),λ_=>?_⟩
  have B:p.length<=bs.length:=by
   have:=congrArg List.length (zG i);rw[rU]at this;omega
  have s:aH p:=by have:=wB hb;rwa[i]at this
  have e:fE bs=nS p:=by unfold fE;rw[nO,i];rfl
  rw[e]at k;have h:=h.o [2,0,1] 3;refine TA h (λH h=>h.sl_rd 1 rfl) s (by omega) ?_
  cases hp:nS p with
  | error e=>
   rw[hp]at k;intro Q' w d hs h;refine⟨_,_,_,_,_,_,_,_,_,_,_,_,_,_,_,_,_,_,_,_,_,rfl,?_⟩;refine h.st 2 rfl rfl λv h=>⟨_,_,_,_,_,_,_,_,_,_,_,_,_,_,_,_,_,_,_,_,h.q 2,?_⟩
   exact k Q' _ d hs (h.o [0] 3)
  | ok f=>
   rw[hp]at k;intro Q' x evs w hs n y t h;refine⟨_,_,_,_,_,_,_,_,_,_,_,_,_,_,_,_,_,_,_,_,_,rfl,?_⟩;refine h.st 3 rfl rfl λv h=>⟨_,_,_,_,_,_,_,_,_,_,_,_,_,_,_,_,_,_,_,_,h.q 3,?_⟩
   exact k Q' x evs _ hs n y t (h.o [0,1] 4)
 .refine⟨_,_,_,_,rfl,λ_=>?_,λj=>Vu (by simpa using j) d⟩
  have e2:fE bs=.error e:=by unfold fE;rw[nO,i,Vt d]
  rw[e2]at k;refine h.st 0 rfl rfl λv h=>⟨_,_,_,_,_,_,_,_,_,_,_,_,_,_,_,_,_,_,_,_,h.q 0,?_⟩
  exact k Q _ d (aM.refl Q) h.tl
end
section
variable {F L:List aE}{H:aD}{K KP:KE}{Q Q':aE}{sb:Nat}{s:aI}
theorem TB(h:aA H (stA Q sb s::F)):bX Tryz.prog 34 #[PA sb 0] H (aC s.now):=by
 obtain⟨p,h⟩:=cX.1 h;exact cM 34 28 ⟨_,h.r 0,rfl,rfl⟩
theorem Ba(h:aA H (stA Q sb s::F)):bX Tryz.prog 29 #[PA sb 0] H (aC s.boots):=by
 obtain⟨p,h⟩:=cX.1 h;exact cM 29 28 ⟨_,h.r 0,rfl,rfl⟩
theorem TD(h:aA H (stA Q sb s::F)):bX Tryz.prog 106 #[PA sb 0] H (aC s.sunk):=by
 obtain⟨p,h⟩:=cX.1 h;exact cM 106 28 ⟨_,h.r 0,rfl,rfl⟩
theorem TE(d:s.kept.length<=1000000)(h:aA H (stA Q sb s::F))
  (k:∀a c b,aA b (slA 164 74 a s.kept.length c (flat cJ s.kept)::stA Q sb s::F)->K (.slice a s.kept.length c) b):CF 104 #[PA sb 0] H K:=by
 obtain⟨p,h⟩:=cX.1 h;refine cM 104 28 ⟨_,_,_,h.r 0,?_⟩;refine Jp h (λH h=>h.sl_rd 8 rfl) d λe f b h=>⟨_,_,_,rfl,k _ _ _ ?_⟩
 have h:=h.o [1,2,3,4,5,6,7,8,9,0] 10;have h:=cX.2 ⟨p,h⟩;exact h.o [1,0] 2
theorem Kw{k:Nat}{st:br}(a:s.sts[k]?=some (some st)):s.sts.set k (some st)=s.sts:=by
 have b:k<s.sts.length:=(List.getElem?_eq_some_iff.1 a).1;have:s.sts[k]=some st:=by rw[List.getElem?_eq_getElem b]at a;exact Option.some.inj a
 rw[<-this,WG]
theorem Kx{a:Int}{st:br}(h:dL s a=some st):0<=a/\s.sts[a.toNat]?=some (some st):=by
 unfold dL at h
 split at h
 .cases h
 .refine⟨by omega,?_⟩
  cases e:s.sts[a.toNat]? with
  | none=>rw[e]at h;simp at h
  | some x=>
   rw[e]at h
   cases x with
   | none=>simp at h
   | some y=>simp at h;rw[h]
theorem Bb{st:br}(a:lR s.cfg st):∀q∈st.hs.rows,aF q.1:=λq b=>by
 have c:=(a.rows q b).1;have d:=(a.hs.rows.inb q b).1;have e:=a.hs.next0;unfold aF;omega
theorem Bc{st:br}(a:lR s.cfg st):st.hs.rows.length<=256:=by
 have c:=a.hs.rows.length;have b:=a.hs.most2;omega
theorem TF{a:Int}(ok:cR s)(h:aA H (stA Q sb s::F))(k:∀u,aA u (stA Q sb s::F)->K (.tuple #[.agg ⟨encA (lh s a).1⟩,.bool (lh s a).2]) u) :
  CF 75 #[PA sb 0,aC a] H K:=by
 refine OK ?_;refine h.al λb _ h=>?_
 have h:=h.o [1,0] 2;obtain⟨p,h⟩:=cX.1 h;refine⟨_,h.r 0,?_⟩;have h:=h.o [1,2,0,3,4,5,6,7,8,9] 10;refine Ro.Of_spec ok.rows (agent:=a) h λG h=>⟨_,_,_,_,rfl,?_⟩
 refine h.al λb1 _ h=>?_
 refine h.st 0 rfl rfl ?_;intro I h;unfold lh at k;refine⟨λj=>?_,λj=>?_⟩
 .rw [Vs (by simpa using j)]at k;refine h.st 10 rfl rfl ?_;intro w h;refine⟨_,_,_,_,_,_,_,_,_,_,_,h.q 10,?_⟩;have h:=h.o [3,1,2,4,5,6,7,8,9] 11;exact k _ (cX.2 ⟨p,h⟩)
 have t:0<(bg s.rows a).epoch:=by simpa using j
 rw[Vt t]at k;obtain⟨m,st,d⟩:=ok.str t;rw[xt m d]at k;dsimp only at k;have i:((a.toNat:Nat):Int)=a:=by omega
 have c:=ok.sts st (VY d);refine⟨_,h.r 3,?_⟩;have h:=h.o [4,5,0,1,2,3,6,7,8,9,10] 11;refine Ma.Of_spec (a:=a) h λw h=>⟨_,_,_,_,_,rfl,?_⟩
 refine h.al λb2 _ h=>?_
 refine h.st 0 rfl rfl ?_;intro C h;have h:=h.o [9,0,1,2,3,4,5,6,7,8,10,11] 12;obtain⟨x,bl,e,h⟩:=qK h d;have h:=h.o [1,0,2,3,4,5,6,7,8,9,10,11,12,13] 14;obtain⟨cb,hb,h⟩:=gV.1 h;have f:=qL e h 3 rfl;rw[i]at f;have n:=Bc c;refine⟨_,h.r 11,_,f,_,_,_,h.q 8,_,_,_,_,h.q 5,cZ ⟨_,h.r 0,cZ ⟨_,h.r 0,_,uo (h.o [2] 3),cZ ⟨_,h.r 0,cZ ⟨_,h.rd 0 rfl 0,?_⟩⟩⟩⟩⟩;have h:=h.o [2,0,1,3,4,5,6,7,8,9,10,11,12,13,14,15] 16;refine A8 h c.hs.rows.rising (Bb c) (by omega) λy wc D h=>⟨_,_,_,rfl,h.rd 2 rfl 0,h.r 2,h.q 6,h.q 9,?_⟩
 have h:=h.o [3,0,1,2,4,5,6,7,8,9,10,11,12,13,14,15,16] 17;have v:=c.ck.len;refine zY h (by omega) λJ E A h=>⟨_,_,_,rfl,h.r 4,h.q 7,h.q 10,?_⟩
 refine h.st 17 rfl rfl ?_;intro B h;refine⟨_,_,_,_,_,_,_,_,_,_,_,h.q 17,k _ ?_⟩;have h:=h.o [4,1,3,5,6,13,11,12,8,9,14,15,16] 18;have h:=gV.2 ⟨cb,hb,h⟩;have h:=h.o [1,0,2,3,4,5,6,7,8,9,10] 11;have h:=sx e h;rw[Kw d]at h;exact cX.2 ⟨p,h.o [1,2,3,4,5,6,7,0,8] 9⟩
end
structure Ou where
 kind:Int
 ag:Int:=0
 num:Int:=0
 ida:Int:=0
 ide:Int:=0
 seq:Int:=0
 reason:Int:=0
 win:Int:=0
 lo:Int:=0
 hi:Int:=0
 bs:List Int:=[]
structure Oy where
 o:Ou
 a:KQ
 c:Nat
abbrev bH(y:Oy):Os:=[aB y.o.kind,aB y.o.ag,aB y.o.num,aB y.o.ida,aB y.o.ide,aB y.o.seq,aB y.o.reason,aB y.o.win,aB y.o.lo,aB y.o.hi,.slice y.a y.o.bs.length y.c]
theorem jD(y:Oy):(bH y).length=11:=rfl
theorem pC(y:Oy):cT (bH y)=true:=rfl
structure fI(Q:aE)(y:Oy):Prop where
 kin:KIn Q y.a (y.o.bs.map U8)
 cap:y.o.bs.length<=y.c
theorem fI.sub{Q Q':aE}{y:Oy}(h:fI Q y)(hs:aM Q Q'):fI Q' y:=⟨h.kin.sub hs,h.cap⟩
structure Fq.Bare(f:Fq):Prop where
 k5:f.kind≠5
 k8:f.kind≠8
 evs:f.evs=[]
 sn:f.sn=⟨#[]⟩
 sl:f.sl=[]
 data:f.data=[]
 nm:∀i,1<=i->i<=9->i∉aV f.kind->f.nums i=0
theorem Fq.Bare.rd{f:Fq}(h:f.Bare)(F:List aE):lP F f {} []:=by
 refine⟨by rw[h.evs];rfl,⟨λH _=>iv H none,λe a=>Vu a (by simp)⟩,λH _=>by rw[h.sl];exact iv H none,λH _=>by rw[h.data];exact iv H none,.inl rfl,
  ⟨λ_=>⟨h.evs,rfl,rfl⟩,λ_=>⟨h.sn,h.sl,rfl,rfl,h.data,rfl,rfl⟩,h.nm⟩,by simp,λe a=>Vu a (by simp),by rw[h.sl];simp,by rw[h.data];simp⟩
def mU(ag ep bt:Int):Fq:={ kind:=2,ag:=ag,ep:=ep,bt:=bt }
def mV(ag ep next:Int):Fq:={ kind:=6,ag:=ag,ep:=ep,next:=next }
def dU(ag bt ct:Int):Fq:={ kind:=3,ag:=ag,bt:=bt,ct:=ct }
theorem nine{i:Nat}(a:1<=i)(b:i<=9):i=1\/i=2\/i=3\/i=4\/i=5\/i=6\/i=7\/i=8\/i=9:=by omega
theorem TG(ag ep bt:Int):(mU ag ep bt).Bare:=⟨show (2:Int)≠5 by decide,show (2:Int)≠8 by decide,rfl,rfl,rfl,rfl,λi a b h=>by
 rcases nine a b with rfl|rfl|rfl|rfl|rfl|rfl|rfl|rfl|rfl <;> first|rfl|exact Vu (show _∈aV 2 by decide) h⟩
theorem TH(ag ep next:Int):(mV ag ep next).Bare:=⟨show (6:Int)≠5 by decide,show (6:Int)≠8 by decide,rfl,rfl,rfl,rfl,λi a b h=>by
 rcases nine a b with rfl|rfl|rfl|rfl|rfl|rfl|rfl|rfl|rfl <;> first|rfl|exact Vu (show _∈aV 6 by decide) h⟩
theorem TJ(ag bt ct:Int):(dU ag bt ct).Bare:=⟨show (3:Int)≠5 by decide,show (3:Int)≠8 by decide,rfl,rfl,rfl,rfl,λi a b h=>by
 rcases nine a b with rfl|rfl|rfl|rfl|rfl|rfl|rfl|rfl|rfl <;> first|rfl|exact Vu (show _∈aV 3 by decide) h⟩
def gX(f:Fq):Ou:={ kind:=1,ag:=f.ag,bs:=cA f }
def pD(o:Ot):Fq:={ kind:=8,win:=o.1.win,sn:=(im o.1.ser).1,sl:=(im o.1.ser).2.1,data:=dm o.2 }
def jE(num:Int)(o:Ot):Ou:={ kind:=3,num:=num,bs:=cA (pD o) }
def cI(e:bI):List Ou:=if e.kind=1 then [gX (mU e.agent e.epoch e.boot)] else if e.kind=2 then [gX (mV e.agent e.epoch e.next)] else
 if e.kind=3 then [{ kind:=2,ida:=e.ida,ide:=e.ide,seq:=e.seq,reason:=e.reason,win:=e.win,lo:=e.gap.lo,hi:=e.gap.hi }] else if e.kind=4 then [jE e.number e.out] else []
theorem TK(t:Fa):(im t).2.1.length<=8:=by
 unfold im
 split
 .split
  .split
   .simp
   .split
    .rename_i a;exact (mI a).len
    .simp
  .simp
 .split <;> simp
theorem slOy:SlT Tryz.prog 46 91 11 104:=iO (by kernel_rfl)
section
variable {F L:List aE}{H:aD}{K:KE}{Q:aE}
theorem Bd{f:Fq}(r:f.Bare)(h:aA H F)(k:∀a c d,aA d (slA 5 1 a (cA f).length c ((cA f).map U8)::F)->K (.agg ⟨bH ⟨gX f,a,c⟩⟩) d) :
  CF 78 #[.agg ⟨cF f {}⟩] H K:=by
 refine cM 78 284 ?_;refine h.al λb _ h=>?_
 refine h.al λb1 _ h=>⟨_,_,_,_,_,_,_,_,_,_,_,_,_,_,_,_,_,_,_,_,h.q 1,?_⟩
 refine AF h (r.rd _) λa c i h=>⟨_,_,_,_,rfl,_,h.r 2,?_⟩
 refine h.st 1 rfl rfl ?_;intro e h;refine⟨_,_,_,_,_,_,_,_,_,_,_,_,_,h.q 1,?_⟩;exact k a c _ (h.o [0] 3)
theorem Kz{n:Int}{o:Ot}(wc:WC o.2)(hs:o.1.ser.size<=1000000)(h:aA H F)(k:∀a c j,aA j (slA 5 1 a (cA (pD o)).length c ((cA (pD o)).map U8)::F)->K (.agg ⟨bH ⟨jE n o,a,c⟩⟩) j) :
  CF 105 #[aC n,.agg ⟨cJ o⟩] H K:=by
 refine cM 105 4380 ?_;have v:=um wc;have u:=TK o.1.ser;refine h.al λb _ h=>?_
 refine h.al λb1 _ h=>⟨_,h.r 1,?_⟩
 refine Ji (by omega) h λla lc w h=>⟨_,_,_,_,_,rfl,?_⟩
 refine h.al λb2 _ h=>?_
 refine h.st 0 rfl rfl ?_;intro y h;refine⟨_,h.r 3,_,_,_,_,h.q 0,_,_,_,_,_,_,_,_,h.rdt (l:=[_,_]) 3 rfl rfl,?_⟩;refine IT wc h λda dc B h=>⟨_,_,_,rfl,h.q 1,h.r 4,?_⟩
 have m:=tZ h;refine AF (f:=pD o) (x:={ la:=la,lc:=lc,da:=da,dc:=dc }) (evs:=[]) h ⟨rfl,⟨λH _=>iv H none,λe d=>Vu d (by simp)⟩,λH h=>h.sl_rd 2 rfl,λH h=>h.sl_rd 0 rfl,m,
   ⟨λ_=>⟨rfl,rfl,rfl⟩,λh=>Vu rfl h,λi t s h=>by rcases nine t s with rfl|rfl|rfl|rfl|rfl|rfl|rfl|rfl|rfl <;> first|rfl|exact Vu (show _∈aV 8 by decide) h⟩,
   by simp,λe d=>Vu d (by simp),by show (im o.1.ser).2.1.length<=_;omega,by show (dm o.2).length<=_;omega⟩ λa c C h=>⟨_,_,_,_,rfl,?_⟩
 refine h.st 4 rfl rfl ?_;intro A h;refine⟨_,_,_,_,_,_,_,_,_,_,_,_,_,h.q 4,?_⟩;exact k a c _ (h.o [0] 6)
theorem K0{a:KQ}{c:Nat}{b:List bI}(hl:b.length<=1000000)(hw:∀e∈b,e.kind=4->WC e.out.2/\e.out.1.ser.size<=1000000)(h:aA H (Q::F))(ha:∀H,aA H F->aP H a (flat dP b))
  (k:∀Q' ys a' c' f,aM Q Q'->ys.map Oy.o=b.flatMap cI->(∀y∈ys,fI Q' y)->aA f (Q'::slA 91 11 a' ys.length c' (flat bH ys)::F)->K (.slice a' ys.length c') f) :
  CF 108 #[.slice a b.length c] H K:=by
 refine cN 108 0x11215612399251151714171417417494c [[(3,sS)],[(3,sS)],[(3,sS)],[(3,sS)],[(3,sS),(10,sI)]] ?_;refine⟨λla Z lc i f=>∃(j:Nat) (ys:List Oy) (Q':aE),i=j/\j<=b.length/\Z=ys.length/\ys.length<=j/\aM Q Q'/\ys.map Oy.o=(b.take j).flatMap cI/\(∀y∈ys,fI Q' y)/\aA f (Q'::slA 91 11 la ys.length lc (flat bH ys)::F),
  λ_ _ _ i _=>b.length-i.toNat,⟨0,[],Q,rfl,by omega,rfl,by simp,aM.refl Q,rfl,λy W=>Vu W (by simp),(h.sl_nil 91 11).o [1,0] 2⟩,?_⟩
 rintro la Z lc i H1 ⟨j,ys,Q',rfl,hj,rfl,h5,u,d,G,h⟩;refine⟨λS=>?_,λS=>?_⟩
 .have s:j<b.length:=by have:=Vw S;omega
  have hr:=ha _ h.tl.tl;have P:i64.wrap ((j:Int)+1)=((j+1:Nat):Int):=by rw[aK];omega
  refine⟨by omega,_,_,hr.some Kh (by omega) s,_,_,_,_,_,_,_,_,_,_,_,_,_,_,_,_,_,_,_,_,_,_,_,hr.els Kh s,?_⟩;have N:=hw _ (V7 s);have O:(b.take (j+1)).flatMap cI=(b.take j).flatMap cI++cI b[j]:=jQ s;obtain⟨e,he⟩:∃e,b[j]=e:=⟨_,rfl⟩;rw[he]at N O ⊢;refine h.al λb1 _ h=>?_
  refine h.sta 0 rfl rfl λH2 h=>?_
  have h:aA H2 (cellsA b1 (dP e) 305::Q'::slA 91 11 la ys.length lc (flat bH ys)::F):=h;refine⟨_,h.r 0,?_⟩;intro Jn hJ;have fin:∀(E:List Oy) M a2 c2 f,aM Q M->E.map Oy.o=(b.take j).flatMap cI++cI e->E.length<=j+1->(∀y∈E,fI M y)->aA f (M::slA 91 11 a2 E.length c2 (flat bH E)::F)->Jn a2 E.length c2 f:=by
   intro E M a2 c2 f hs hm Y hi h;exact hJ _ _ _ _ ⟨⟨j+1,E,M,P,s,rfl,Y,hs,by rw[hm,O],hi,h⟩,by rw[P];dsimp only;omega⟩
  have one:∀(y:Oy) (A:aE) a2 c2 f,cI e=[y.o]->fI (A*Q') y->aA f (A::Q'::slA 91 11 a2 (ys.length+1) c2 (flat bH ys++bH y)::F)->Jn a2 (ys.length+1) c2 f:=by
   intro y A a2 c2 f n W h;have e1:flat bH ys++bH y=flat bH (ys++[y]):=by rw[dS];simp[flat]
   have e2:ys.length+1=(ys++[y]).length:=by simp
   rw[e1,e2]at h;rw[e2];refine fin (ys++[y]) (A*Q') a2 c2 _ (u.trans (aM.add A Q')) (by rw[VJ,d,n];rfl) (by simp;omega) (λz L=>?_) (gy.2 h)
   rcases VK.1 L with L|L
   .exact (G z L).sub (aM.add A Q')
   .rw [V6]at L;rw[L];exact W
  refine⟨λv=>?_,λv=>?_⟩
  .have v:=Vw v;have n:cI e=[gX (mU e.agent e.epoch e.boot)]:=by unfold cI;rw[Vt v]
   refine⟨_,h.r 0,_,h.r 0,?_⟩;refine h.al λb2 _ h=>?_
   refine h.st 0 rfl rfl ?_;intro H5 h;refine⟨_,_,_,h.q 0,_,h.r 1,?_⟩;refine Bd (TG e.agent e.epoch e.boot) h λD t H6 h=>⟨_,_,_,_,_,_,_,_,_,_,_,_,_,rfl,?_⟩
   refine h.al λb3 _ h=>?_
   refine h.append (m:=1) (ws:=bH ⟨gX (mU e.agent e.epoch e.boot),D,t⟩) slOy 5 rfl (h.ce_rd 0 rfl) rfl (pC _) (by omega) (by omega) λa5 c5 U h=>⟨_,_,_,rfl,?_⟩
   exact one ⟨gX (mU e.agent e.epoch e.boot),D,t⟩ _ _ _ _ n ⟨KIn.sl (c:=t),h.sl_nc 1 rfl⟩ (h.o [1,4,5] 6)
  have v:=Vx v;intro h0 w;refine⟨λx=>?_,λx=>?_⟩
  .have x:=Vw x;have n:cI e=[gX (mV e.agent e.epoch e.next)]:=by unfold cI;rw[Vs v,Vt x]
   refine⟨_,h.r 0,_,h.r 0,?_⟩;refine h.al λb2 _ h=>?_
   refine h.st 0 rfl rfl ?_;intro H5 h;refine⟨_,_,_,h.q 0,_,h.r 1,?_⟩;refine Bd (TH e.agent e.epoch e.next) h λD t H6 h=>⟨_,_,_,_,_,_,_,_,_,_,_,_,_,rfl,?_⟩
   refine h.al λb3 _ h=>?_
   refine h.append (m:=1) (ws:=bH ⟨gX (mV e.agent e.epoch e.next),D,t⟩) slOy 5 rfl (h.ce_rd 0 rfl) rfl (pC _) (by omega) (by omega) λa5 c5 U h=>⟨_,_,_,rfl,?_⟩
   exact w _ _ _ _ (one ⟨gX (mV e.agent e.epoch e.next),D,t⟩ _ _ _ _ n ⟨KIn.sl (c:=t),h.sl_nc 1 rfl⟩ (h.o [1,4,5] 6))
  have x:=Vx x;intro h7 J;refine⟨λB=>?_,λB=>?_⟩
  .have B:=Vw B;obtain⟨o3,I⟩:∃o3:Ou,o3={ kind:=2,ida:=e.ida,ide:=e.ide,seq:=e.seq,reason:=e.reason,win:=e.win,lo:=e.gap.lo,hi:=e.gap.hi }:=⟨_,rfl⟩;have n:cI e=[o3]:=by unfold cI;rw[Vs v,Vs x,Vt B,I]
   refine⟨_,_,_,h.q 0,_,_,h.q 0,_,_,h.q 0,?_⟩;refine h.al λb3 _ h=>?_
   refine h.append (m:=1) (ws:=bH ⟨o3,none,0⟩) slOy 3 rfl (h.ce_rd 0 (by rw[I];rfl)) rfl (pC _) (by omega) (by omega) λa5 c5 U h=>⟨_,_,_,rfl,?_⟩
   refine J _ _ _ _ (w _ _ _ _ (one ⟨o3,none,0⟩ emp _ _ _ n ?_ (lU (h.o [2,3] 4))));rw[I];exact⟨KIn.nil _ _,VQ _⟩
  have B:=Vx B;intro h6 R;refine⟨λC=>?_,λC=>?_⟩
  .have C:=Vw C;have n:cI e=[jE e.number e.out]:=by unfold cI;rw[Vs v,Vs x,Vs B,Vt C]
   obtain⟨wc,T⟩:=N C;refine⟨_,h.r 0,_,_,_,_,_,_,_,_,_,_,h.rdt (l:=[_,_,_,_,_,_,_,_,_,_,_,_,_]) 0 rfl rfl,?_⟩;refine Kz wc T h λD t H6 h=>⟨_,_,_,_,_,_,_,_,_,_,_,_,_,rfl,?_⟩
   refine h.al λb3 _ h=>?_
   refine h.append (m:=1) (ws:=bH ⟨jE e.number e.out,D,t⟩) slOy 4 rfl (h.ce_rd 0 rfl) rfl (pC _) (by omega) (by omega) λa5 c5 U h=>⟨_,_,_,rfl,?_⟩
   exact R _ _ _ _ (J _ _ _ _ (w _ _ _ _ (one ⟨jE e.number e.out,D,t⟩ _ _ _ _ n ⟨KIn.sl (c:=t),h.sl_nc 1 rfl⟩ (h.o [1,3,4] 5))))
  .have C:=Vx C;have n:cI e=[]:=by unfold cI;rw[Vs v,Vs x,Vs B,Vs C]
   exact R _ _ _ _ (J _ _ _ _ (w _ _ _ _ (fin ys Q' _ _ _ u (by rw[n,VT,d]) (by omega) G h.tl)))
 .have V:j=b.length:=by have:=Vx S;omega
  subst V;rw[VW]at d;exact k Q' ys _ _ _ u d G h
end
structure Sn where
 bt:Int
 ct:Int
 ag:Int
 ep:Int
 at_:Int
abbrev gE(s:Sn):Os:=[aB s.bt,aB s.ct,aB s.ag,aB s.ep,aB s.at_]
theorem mW(s:Sn):(gE s).length=5:=rfl
theorem K2(s:Sn):cT (gE s)=true:=rfl
structure Pb where
 boot:Int
 most:Int
 count:Int
 out:List Sn
 last:List (Int×Int)
def tmB(t:Int):Bool:=decide (0<=t)&&decide (t<=4611686018427387903)
structure jF(p:Pb):Prop where
 count:0<=p.count/\p.count<=1000000000000
 most:1<=p.most/\p.most<=1024
 out:p.out.length<=1024
 last:∀x∈p.last,0<=x.2/\x.2<=4611686018427387903
 boot:aF p.boot
def dueP(p:Pb)(ag now period:Int):Bool:=tmB now&&tmB period&&(match aJ ag p.last with|none=>true|some t=>decide (period<=now-t))
def sndOk(ag ep now:Int):Bool:=decide (0<=ag)&&decide (ag<64)&&decide (1<=ep)&&decide (ep<=1099511627776)&&tmB now
def sndP(p:Pb)(ag ep now:Int):Pb:=
 { p with count:=p.count+1,last:=mset ag now p.last,out:=if p.most<((p.out++[(⟨p.boot,p.count,ag,ep,now⟩:Sn)]).length:Int) then (p.out++[(⟨p.boot,p.count,ag,ep,now⟩:Sn)]).drop 1 else p.out++[(⟨p.boot,p.count,ag,ep,now⟩:Sn)] }
def isN(bt ct:Int)(s:Sn):Bool:=s.bt == bt&&(s.ct == ct&&true)
def fF(p:Pb)(ag ep bt ct:Int):Int×Int×Pb:=
 if bt≠p.boot then (-1,22,p) else match p.out.findIdx? (isN bt ct) with
 | none=>(-1,19,p)
 | some i=>match p.out[i]? with
  | none=>(-1,19,p)
  | some s=>if s.ag≠ag\/s.ep≠ep then (-1,10,p) else (s.at_,0,{ p with out:=p.out.take i++p.out.drop (i+1) })
theorem mtP:kA Tryz.prog 244 2 2 aC 0:=og Tryz.underlying244 (by kernel_rfl)
theorem slSn:SlT Tryz.prog 245 326 5 40:=iO (by kernel_rfl)
def prbA(pb:Nat)(p:Pb):aE:=exS λx:KQ×Nat×Nat=>star [cellsA pb [aC p.boot,aC p.most,aC p.count,.slice x.1 p.out.length x.2.1,.map (some x.2.2)] 247,slA 326 5 x.1 p.out.length x.2.1 (flat gE p.out),mapA aC aC x.2.2 p.last]
section
variable {F L:List aE}{H:aD}{K:KE}{pb:Nat}{p:Pb}
theorem mX:aA H (prbA pb p::F)↔∃a c m,aA H (cellsA pb [aC p.boot,aC p.most,aC p.count,.slice a p.out.length c,.map (some m)] 247::slA 326 5 a p.out.length c (flat gE p.out)::mapA aC aC m p.last::F):=by
 unfold prbA;rw[cK]
 constructor
 .rintro⟨x,h⟩;exact⟨x.1,x.2.1,x.2.2,aA.open h⟩
 .rintro⟨a,c,m,h⟩;exact⟨(a,c,m),aA.shut [_,_,_] h⟩
theorem Be{t:Int}:bX Tryz.prog 164 #[aC t] H (.bool (tmB t)):=by
 unfold bX;exact cM 164 28 ⟨rfl,rfl⟩
theorem K3{boot most:Int}(h:aA H F)
  (k1:¬(1<=boot/\boot<=1099511627776/\1<=most/\most<=1024)->K (.tuple #[.pointer none,aC 11]) H)
  (k2:1<=boot/\boot<=1099511627776/\1<=most/\most<=1024->∀b c,aA c (prbA b ⟨boot,most,0,[],[]⟩::F)->K (.tuple #[PA b 0,aC 0]) c) :
  CF 48 #[aC boot,aC most] H K:=by
 refine cM 48 476 ⟨λa=>k1 ?_,λa=>?_⟩
 .simp only[VE,Vy]at a;omega
 .simp only[VB,V0]at a;refine h.alm aC aC λmb _ h=>?_
  refine h.al λb d h=>?_
  refine k2 (by omega) b _ (mX.2 ⟨none,0,mb,?_⟩);exact (h.sl_nil 326 5).o [1,0,2] 3
theorem TM{ag now period:Int}(ok:jF p)(h:aA H (prbA pb p::F)):bX Tryz.prog 76 #[PA pb 0,aC ag,aC now,aC period] H (.bool (dueP p ag now period)):=by
 unfold bX;obtain⟨a,c,m,h⟩:=mX.1 h;refine cM 76 7452 ⟨_,Be,_,λ_=>Be,λb=>?_,λb=>?_⟩
 .have e:dueP p ag now period=false:=by
   unfold dueP;simp only[VE,VP]at b
   rcases b with b|b <;> rw[b] <;> simp
  rw[e];exact⟨rfl,rfl⟩
 .simp only[VB,Wd]at b;have e:dueP p ag now period=(match aJ ag p.last with|none=>true|some t=>decide (period<=now-t)):=by
   unfold dueP;rw[b.1,b.2];rfl
  rw[e];have d:=h.mp_look mtP Ro.ko2 (x:=ag) 2 rfl;refine⟨_,h.r 0,?_⟩
  cases hm:aJ ag p.last with
  | none=>
   refine⟨0,false,(d.2 hm).1,rfl,rfl⟩
  | some t=>
   refine⟨t,true,(d.1 t hm).1,?_,rfl⟩;have i:=ok.last (ag,t) (hZ hm);have f:=b.1;unfold tmB at f;simp only[Vz,Vy]at f;dsimp only at i;show Value.bool (!true||decide (period<=i64.wrap (now-t)))=_;rw[aK];rfl
theorem K4{a:KQ}{c:Nat}{l:List Sn}{i j:Nat}{t:Int}(f:t=j)(A:i<j)(C:j<=l.length)(h:aA H (slA 326 5 a l.length c (flat gE l)::F))
  (k:∀d,aA d (slA 326 5 a (l.take i++l.drop j).length c (flat gE (l.take i++l.drop j))::F)->K (.slice a (l.take i++l.drop j).length c) d):CF 163 #[.slice a l.length c,aC i,aC t] H K:=by
 subst f;have y:=h.sl_nc 0 rfl;have b:(l.take i++l.drop j).length=i+(l.length-j):=by rw[Vv,VM,VH];omega
 refine cM 163 18682140 ?_;refine⟨⟨by omega,by omega,by omega,by omega⟩,λu=>Vu (Vw u) (by omega),λu=>?_⟩
 refine⟨⟨by omega,by omega,by omega⟩,⟨by omega,by omega,by omega⟩,?_⟩;have s:=h.sl_rd 0 rfl;have hs:=s.some mW (by omega) (k:=0) (by omega);have e0:cq a 0 c 5=a:=by
  unfold cq;rw[nO,hs,VX,iP];simp
 have n:=s.subK (k:=j) (c:=c) (sz:=5) (by rw[fh mW];omega);rw[tt mW]at n;have w:=h.sl_take 0 rfl i (by omega);show cB Tryz.prog (Builtin.append_ #[245,245] 245 #[.slice (cq a 0 c 5) i c,.slice (cq a j c 5) (l.length-j) (c-j)]) H _;rw[e0];refine aA.appendIn slSn w 0 rfl n (by rw[fh mW,VH]) (lC K2 _) (by omega) λd x=>⟨_,_,_,rfl,⟨by omega,by omega,by omega⟩,?_⟩
 have e:(flat gE l).take (i*5)++flat gE (l.drop j)=flat gE (l.take i++l.drop j):=by rw[dS,<-DX mW]
 have m:aA d (slA 326 5 a (i+(l.length-j)) c ((flat gE l).take (i*5)++flat gE (l.drop j))::F):=x;rw[e,<-b]at m;have v:=k;rw[b]at v;rw[b]at m;exact aA.clearS slSn (by kernel_rfl) m 0 rfl (by omega) λ_ D B=>v _ B
theorem TN{s:Sn}{b:Nat}{n0 n1:Int}(h:aA H F)(i:Nat)(c:aW i F=cellsA b [aC n0,aC n1] 101)(k:∀a,aA a F->K (.bool (isN n0 n1 s)) a) :
  CF 162 #[.agg ⟨gE s⟩,PA b 0] H K:=by
 refine cM 162 28 ?_;refine h.al λb1 _ h=>?_
 have e:=(qn (P:=Tryz.prog) (t:=101) (xs:=[aC s.bt,aC s.ct]) (ys:=[aC n0,aC n1]) (r:=(s.bt == n0&&(s.ct == n1&&true))) (by kernel_rfl)).1;exact⟨_,_,h.q 0,_,_,h.rds (i+1) c rfl,_,e,k _ h.tl⟩
theorem TO{a:KQ}{c b:Nat}{l:List Sn}{n0 n1:Int}(D:l.length<=1000000)(h:aA H F)(i:Nat)(w:aW i F=cellsA b [aC n0,aC n1] 101)(B:∀H,aA H F->aP H a (flat gE l))
  (k1:l.findIdx? (isN n0 n1)=none->∀k,aA k F->K (aC (-1)) k) (k2:∀j,l.findIdx? (isN n0 n1)=some j->∀k,aA k F->K (aC (j:Nat)) k) :
  CF 161 #[.slice a l.length c,.func (.func 162) #[] #[PA b 0]] H K:=by
 refine cN 161 0x1215612399251b4c [[(8,sI)]] ?_;refine⟨λi k=>∃j:Nat,i=j/\j<=l.length/\(∀q (e:q<l.length),q<j->isN n0 n1 l[q]=false)/\aA k F,λi _=>l.length-i.toNat,⟨0,rfl,by omega,λq _ e=>Vu e (by omega),h⟩,?_⟩
 rintro i E ⟨j,rfl,G,f,h⟩;refine⟨λm=>?_,λm=>?_⟩
 .have d:j<l.length:=by have:=Vw m;omega
  have t:=B _ h;refine⟨by omega,_,_,t.some mW (by omega) d,_,_,_,_,_,t.els mW d,rfl,?_⟩;refine TN (s:=l[j]) h _ w λC h=>⟨_,rfl,λhm=>?_,λhm=>?_⟩
  .refine k2 j ?_ _ h;rw[List.findIdx?_eq_some_iff_getElem];exact⟨d,hm,λq e=>by rw[f q (by omega) e];decide⟩
  .have n:i64.wrap ((j:Int)+1)=((j+1:Nat):Int):=by rw[aK];omega
   refine⟨⟨j+1,n,d,λq e v=>?_,h⟩,by rw[n];dsimp only;omega⟩
   rcases VO q j with u|u
   .exact f q e u
   .obtain rfl:q=j:=by omega
    exact hm
 .have A:j=l.length:=by have:=Vx m;omega
  refine k1 ?_ _ h;rw[List.findIdx?_eq_none_iff];intro x y;obtain⟨q,e,rfl⟩:=Wn y;exact f q e (by omega)
theorem TS{ag ep n0 n1:Int}(ok:jF p)(h:aA H (prbA pb p::F))
  (k:∀s,aA s (prbA pb (fF p ag ep n0 n1).2.2::F)->K (.tuple #[aC (fF p ag ep n0 n1).1,aC (fF p ag ep n0 n1).2.1]) s) :
  CF 74 #[PA pb 0,aC ag,aC ep,.agg #[aC n0,aC n1]] H K:=by
 obtain⟨a,c,m,h⟩:=mX.1 h;refine cM 74 488447260 ?_;unfold fF at k;refine h.al λb _ h=>⟨_,h.r 0,_,h.r 1,λd=>?_,λd=>?_⟩
 .rw [Vt (by simpa using d)]at k;exact k _ (mX.2 ⟨a,c,m,h.tl⟩)
 rw[Vs (by simpa using d)]at k;have w:=ok.out;refine⟨_,_,_,h.r 1,?_⟩;refine TO (by omega) h 0 rfl (λH h=>h.sl_rd 2 rfl) (λv u h=>⟨_,rfl,λ_=>?_,λd=>Vu d (by simp)⟩) λj f u h=>⟨_,rfl,λd=>Vu (Vw d) (by omega),λ_=>?_⟩
 .rw [v]at k;exact k _ (mX.2 ⟨a,c,m,h.tl⟩)
 obtain⟨e,-,-⟩:=List.findIdx?_eq_some_iff_getElem.1 f;rw[f]at k;dsimp only at k;rw[List.getElem?_eq_getElem e]at k;dsimp only at k;have n:=h.sl_rd 2 rfl;refine⟨_,_,_,h.rd 1 rfl _,⟨by omega,by omega⟩,_,_,n.some mW (by omega) e,_,_,_,_,_,n.els mW e,?_⟩;refine h.al λb2 _ h=>?_
 refine h.st 0 rfl rfl ?_;intro x h;refine⟨_,h.r 0,_,λ_=>h.r 0,λd=>?_,λd=>?_⟩
 .rw [Vt (by simpa using d)]at k;exact k _ (mX.2 ⟨a,c,m,h.o [2,3,4] 5⟩)
 rw[Vs (by simpa using d)]at k;refine⟨_,_,_,h.r 2,?_⟩;have t:i64.wrap ((j:Int)+1)=((j+1:Nat):Int):=by rw[aK];omega
 have h:=h.o [3,0,2,4] 5;refine K4 (i:=j) (j:=j+1) t (by omega) (by omega) h λA h=>⟨_,_,_,rfl,?_⟩
 refine h.st 2 rfl rfl ?_;intro y h;exact⟨_,h.r 1,k _ (mX.2 ⟨a,c,m,h.o [2,0,3] 4⟩)⟩
theorem K5{ag ep now:Int}(ok:jF p)(hs:sndOk ag ep now=true)(h:aA H (prbA pb p::F))
  (k:∀n,aA n (prbA pb (sndP p ag ep now)::F)->K (.tuple #[.agg #[aC p.boot,aC p.count],aC 0]) n) :
  CF 77 #[PA pb 0,aC ag,aC ep,aC now] H K:=by
 obtain⟨a,c,m,h⟩:=mX.1 h;have D:=ok.out;have y:=ok.count;unfold sndOk at hs;simp only[Vz,Vy]at hs;refine cN 77 31959155165468 [[]] ?_;refine h.al λb _ h=>⟨_,λ_=>Be,λd=>?_,λd=>?_⟩
 .exfalso;simp only[VE,Vy,VP]at d;rw[hs.2]at d
  rcases d with d|d
  .omega
  .cases d
 refine⟨_,h.r 1,_,h.r 1,?_⟩;refine h.al λb1 _ h=>⟨h.r 2,h.r 2,?_⟩
 refine h.st 0 rfl rfl ?_;intro J h;refine⟨_,h.r 2,?_⟩;refine h.st 2 rfl rfl ?_;intro I h;refine⟨_,_,_,h.r 2,_,_,h.q 0,?_⟩;refine h.al λb2 _ h=>⟨h.r 3,?_⟩
 refine h.append (m:=1) (ws:=gE ⟨p.boot,p.count,ag,ep,now⟩) slSn 4 rfl (h.ce_rd 0 rfl) rfl (K2 _) (by omega) (by omega) λa5 c5 G h=>⟨_,_,_,rfl,?_⟩
 refine h.st 3 rfl rfl ?_;intro x h;have t:i64.wrap (p.count+1)=p.count+1:=aK;have w:flat gE p.out++gE ⟨p.boot,p.count,ag,ep,now⟩=flat gE (p.out++[(⟨p.boot,p.count,ag,ep,now⟩:Sn)]):=by rw[dS];simp[flat]
 obtain⟨o1,f⟩:∃o1,p.out++[(⟨p.boot,p.count,ag,ep,now⟩:Sn)]=o1:=⟨_,rfl⟩;have s:p.out.length+1=o1.length:=by rw[<-f];simp
 have h:aA x (cellsA b2 (gE ⟨p.boot,p.count,ag,ep,now⟩) 326::cellsA b1 [aC p.boot,aC p.count] 101::cellsA b [aC 0,aC 0] 101::cellsA pb [aC p.boot,aC p.most,aC (i64.wrap (p.count+1)),.slice a5 (p.out.length+1) c5,.map (some m)] 247::slA 326 5 a5 (p.out.length+1) c5 (flat gE p.out++gE ⟨p.boot,p.count,ag,ep,now⟩)::mapA aC aC m p.last::F):=h;rw[t,w,f,s]at h;refine⟨_,_,_,h.r 3,_,h.r 3,?_⟩;intro B A;have fin:∀(o2:List Sn) n,o2=(if p.most<(o1.length:Int) then o1.drop 1 else o1)->aA n (cellsA b1 [aC p.boot,aC p.count] 101::cellsA b [aC 0,aC 0] 101::cellsA pb [aC p.boot,aC p.most,aC (p.count+1),.slice a5 o2.length c5,.map (some m)] 247::slA 326 5 a5 o2.length c5 (flat gE o2)::mapA aC aC m p.last::F)->B n:=by
  intro o2 n e h;refine A _ ?_;refine⟨_,h.r 2,?_⟩;refine h.mp_update (α:=Int) (v:=now) mtP Ro.ko2 4 rfl λu h=>?_
  refine⟨_,_,h.q 0,?_⟩;refine h.st 1 rfl rfl ?_;intro C h;refine⟨_,_,h.q 1,?_⟩;have e2:sndP p ag ep now=⟨p.boot,p.most,p.count+1,o2,mset ag now p.last⟩:=by unfold sndP;rw[f,<-e]
  rw[e2]at k;exact k _ (mX.2 ⟨a5,c5,m,h.o [2,3,4] 5⟩)
 refine⟨λd=>?_,λd=>?_⟩
 .have d:=Vw d;refine⟨_,_,_,h.r 3,?_⟩;have h:=h.o [4,1,2,3,5] 6;refine K4 (i:=0) (j:=1) rfl (by omega) (by omega) h λE h=>⟨_,_,_,rfl,?_⟩
  rw[WU,VZ]at h ⊢;refine h.st 3 rfl rfl ?_;intro u h;exact fin (o1.drop 1) _ (by rw[Vt d]) (h.o [1,2,3,0,4] 5)
 .have d:=Vx d;exact fin o1 _ (by rw[Vs d]) (h.o [1,2,3,4,5] 6)
end
theorem Bf{α:Type}:∀{l:List (Option α)} {i:Nat} {p:Int×Option α},p∈cW i l->∃(k:Nat) (b:α),p=(((i+k:Nat):Int),some b)/\l[k]?=some (some b)
 | [],i,p,h=>by simp[cW]at h
 | none::r,i,p,h=>by
  obtain⟨k,b,a,c⟩:=Bf (l:=r) (i:=i+1) h;exact⟨k+1,b,by rw[a,show i+1+k=i+(k+1) by omega],by simpa using c⟩
 | some b::r,i,p,h=>by
  rcases V9.1 h with rfl|h
  .exact⟨0,b,rfl,rfl⟩
  .obtain⟨k,d,a,c⟩:=Bf (l:=r) (i:=i+1) h;exact⟨k+1,d,by rw[a,show i+1+k=i+(k+1) by omega],by simpa using c⟩
theorem K6{Q:aE}{bl:List (Option Nat)}{sts:List (Option br)}{k b:Nat}{s:br}(a:bl[k]?=some (some b))(c:sts[k]?=some (some s)) :
  strsA Q bl sts=strA Q b s*strsA Q (bl.set k none) (sts.set k none):=by
 obtain⟨l1,e1⟩:=List.getElem?_eq_some_iff.1 a;obtain⟨l2,e2⟩:=List.getElem?_eq_some_iff.1 c;rw[pA (k:=k) (by rw[List.getElem?_set_self l1]) (by rw[List.getElem?_set_self l2]),Yf,Yf,<-e1,<-e2,WG,WG]
section
variable {F L:List aE}{H:aD}{K:KE}{Q:aE}
theorem pE{A B:aE}:aA H ((A*B)::L)↔aA H (A::B::L):=by
 unfold aA star;rw[star];rw[jv]
theorem TT{sb:Nat}{s:aI}(U:s.kept.length<=1000000)(ok:cR s)(h:aA H (stA Q sb s::F))(k:∀L G,aA G (stA Q L s::stA Q sb s::F)->K (PA L 0) G):CF 18 #[PA sb 0] H K:=by
 obtain⟨p,h⟩:=cX.1 h;refine OT ⟨_,_,_,_,_,_,_,_,_,_,_,_,_,_,_,_,_,_,_,_,_,_,h.rda 0 rfl,?_⟩;refine h.al λb _ h=>?_
 refine h.sta 0 rfl rfl λH1 h=>?_
 have h:aA _ (cellsA b (dr s p) 145::_):=h;refine⟨_,h.r 1,_,h.r 1,_,h.r 1,?_⟩;refine Ro.Clone_spec (h.o [2,3,0,1,4,5,6,7,8,9] 10) λA x H2 h=>⟨_,rfl,h.r 5,h.r 5,?_⟩
 refine Ma.Clone_spec (h.o [6,7,0,1,2,3,4,5,8,9,10,11] 12) λy t H3 h=>⟨_,rfl,h.r 9,?_⟩
 refine RP (h.o [10,11,0,1,2,3,4,5,6,7,8,9,12,13] 14) λn u H4 h=>⟨_,rfl,?_⟩
 refine h.st 12 rfl rfl λ_ h=>h.st 12 rfl rfl λ_ h=>h.st 12 rfl rfl λ_ h=>⟨_,_,_,h.r 13,?_⟩
 refine Jp (l:=s.kept) h (λH h=>h.sl_rd 15 rfl) U λD C H8 h=>⟨_,_,_,rfl,?_⟩
 refine h.st 13 rfl rfl λ_ h=>?_
 refine h.alm aC ptV λb1 _ h=>?_
 refine h.st 14 rfl rfl λW h=>⟨_,h.r 15,?_⟩
 have h:=h.o [16,0,14,1,2,3,4,5,6,7,8,9,10,11,12,13,15,17] 18;obtain⟨bl,hm,h⟩:=lf.1 h;have h5:bl.length=s.sts.length:=by have:=congrArg List.length hm;simpa using this
 obtain⟨R,hR⟩:∃R:List aE,R=slA 164 74 D s.kept.length C (flat cJ s.kept)::shC n u s.cfg.cells::cz u s.cm::shC p.hb p.hm s.cfg.cells::cz p.hm s.cm::Ma.markC y t s.ms::Ma.mapF t s.ms.m::Ma.markC p.mb p.mm s.ms::Ma.mapF p.mm s.ms.m::
  Ro.rollC A x s.cfg.agents::Ro.mapE x s.rows::Ro.rollC p.rb p.rm s.cfg.agents::Ro.mapE p.rm s.rows::cellsA sb (dr s p) 145::slA 164 74 p.ka s.kept.length p.kc (flat cJ s.kept)::F:=⟨_,rfl⟩
 have h:aA W (mapA aC ptV p.tm (cW 0 bl)::strsA Q bl s.sts::mapA aC ptV b1 []::cellsA b (dr s ⟨A,x,y,t,n,u,b1,D,C⟩) 145::R):=by rw[hR];exact h
 refine h.rg_new qI 0 rfl λZ h7 h=>⟨Z,rfl,?_⟩
 refine⟨λG=>∃(dn:List (Int×Option Nat)) (c:List (Option Nat)) (a:List (Option br)),c.map Option.isSome=a.map Option.isSome/\a.length=s.sts.length/\
  (∀k:Nat,k<s.sts.length->a[k]?=if ((k:Nat):Int)∈aG dn then s.sts[k]? else some none)/\
  aA G (kP aC ptV Z p.tm (cW 0 bl) dn::strsA Q bl s.sts::mapA aC ptV b1 (cW 0 c)::strsA Q c a::cellsA b (dr s ⟨A,x,y,t,n,u,b1,D,C⟩) 145::R),λG=>(cW 0 bl).length-oP G Z,
  ⟨[],List.replicate 64 none,List.replicate 64 none,by simp,by simp[ok.len],λk S=>by rw[ok.len]at S;rw[List.getElem?_replicate,Vt S,Vs (by simp[aG])],?_⟩,?_⟩
 .rw [AT];have e:cW 0 (List.replicate 64 (none:Option Nat))=[]:=by decide
  rw[e];exact (lU h).o [1,2,3,0,4] 5
 rintro H2 ⟨dn,c,a,B,V,E,h⟩;obtain⟨h6,h8⟩:=h.rg_count 0 rfl;refine h.rg_next 0 rfl (λhp=>.inl ⟨rfl,λY=>(by cases Y),λ_=>?_⟩) λq h3 h4 H3 h=>.inr ⟨_,_,rfl,λ_=>?_,λY=>(by cases Y)⟩
 .
  have h:=h.rg_map 0 rfl;have e:a=s.sts:=by
   apply WI;intro i
   rcases VO i s.sts.length with hi|hi
   .rw [E i hi]
    split
    .rfl
    .rename_i hn;have hb:bl[i]?=some none:=by
      cases d:bl[i]? with
      | none=>rw[List.getElem?_eq_none_iff]at d;omega
      | some o=>
       cases o with
       | none=>rfl
       | some b0=>
        exfalso;have hl:=uv (l:=bl) (i:=0) (k:=i);rw[d,VL]at hl;refine hn ?_;have:((i:Int),some b0)∈cW 0 bl:=hZ hl;exact V3.2 ⟨_,hp.mem_iff.2 this,rfl⟩
     have:=qJ hm i;rw[hb]at this
     cases hs:s.sts[i]? with
     | none=>rw[hs]at this;cases this
     | some o=>rw[hs]at this;cases o with
      | none=>rfl
      | some _=>cases this
   .rw [List.getElem?_eq_none (by omega),List.getElem?_eq_none hi]
  rw[e]at h B;subst hR;refine k b _ ?_;have h:=lf.2 ⟨bl,hm,h⟩;have h:=lf.2 ⟨c,B,h.o [1,2,0,3] 4⟩;have h:=cX.2 ⟨p,h.o [16,14,15,10,11,6,7,1,17,0,2,3,4,5,8,9,12,13] 18⟩;exact cX.2 ⟨⟨A,x,y,t,n,u,b1,D,C⟩,h.o [2,8,9,6,7,4,5,1,3,0] 10⟩
 .obtain⟨i,bk,rfl,d⟩:=Bf h3;rw[VL]at *;have T:i<s.sts.length:=by have:=(List.getElem?_eq_some_iff.1 d).1;omega
  have f:∃st,s.sts[i]?=some (some st):=by
   have:=qJ hm i;rw[d]at this
   cases hs:s.sts[i]? with
   | none=>rw[hs]at this;cases this
   | some o=>rw[hs]at this;cases o with
    | none=>cases this
    | some st=>exact⟨st,rfl⟩
  obtain⟨st,f⟩:=f;have N:=ok.sts st (VY f);have I:=aA.rg_entry (P:=Tryz.prog) h 0 rfl;obtain⟨h2,M⟩:=h.rg_count 0 rfl;rw[Vv,Wi]at h2 M;refine⟨_,_,I,?_⟩;have h:=h.o [1,0,2,3,4] 5;have h:aA H3 (strsA Q bl s.sts::_):=h;rw[K6 d f]at h;have h:=pE.1 h;obtain⟨cb,hb,h⟩:=gV.1 h;refine⟨_,h.r 7,cZ ⟨_,h.r 0,cZ ⟨_,h.r 0,cZ ⟨_,h.r 0,?_⟩⟩⟩⟩;refine Rb (h.o [1,0,2,3,4,5,6,7] 8) (by have:=N.ck.len;omega) λh1 H5 h=>⟨_,rfl,h.r 2,h.r 2,h.r 8,?_⟩
  refine Jz (h.o [3,0,1,2,4,5,6,7,8] 9) λn H6 h=>⟨_,rfl,h.r 4,h.r 9,?_⟩
  refine h.al λb3 _ h=>⟨h.r 10,?_⟩
  refine h.mp_update (v:=some b3) qI ko2 8 rfl λH7 h=>⟨?_,?_⟩
  .have w:a[i]?=some none:=by rw[E i T,Vs h4]
   have J:c[i]?=some none:=by
    have:=qJ B i;rw[w]at this
    cases hs:c[i]? with
    | none=>rw[hs]at this;cases this
    | some o=>rw[hs]at this;cases o with
     | none=>rfl
     | some _=>cases this
   have O:i<c.length:=(List.getElem?_eq_some_iff.1 J).1;refine⟨dn++[((i:Int),some bk)],c.set i (some b3),a.set i (some st),?_,by rw[Yv,V],λj hj=>?_,?_⟩
   .rw [Ye,Ye,B];rfl
   .rw [List.getElem?_set];have S:aG (dn++[((i:Int),some bk)])=aG dn++[(i:Int)]:=by simp[aG]
    rw[S]
    by_cases e:i=j
    .subst e;rw[Vt rfl,pO,Vt (by simp),f]
    .rw [Vs e,E j hj];have:(((j:Nat):Int)∈aG dn++[(i:Int)])↔((j:Nat):Int)∈aG dn:=by
      rw[VK,V6];exact⟨λh=>h.elim id λh=>Vu h (by omega),.inl⟩
     simp only[this]
   .have em:mapA aC ptV b1 (mset ((i:Nat):Int) (some b3) (cW 0 c))=mapA aC ptV b1 (cW 0 (c.set i (some b3))):=nC (by
     have:=xm (b:=b3) (l:=c) (i:=0) (k:=i) O;rw[VL]at this;exact this.symm)
    rw[<-pA (b:=b3) (s:=st) J w,K6 d f];have h:=gV.2 ⟨h1,n,h.o [0,3,1,2,4,5,6,7,8,9,10] 11⟩;have h:=gV.2 ⟨cb,hb,h.o [3,2,1,0,4,5,6,7,8] 9⟩;have h:=pE.2 (h.o [0,2,1,3,4,5,6] 7);have h:=pE.2 (h.o [1,4,0,2,3,5] 6);have h:=h.o [2,1,3,0,4] 5;rw[<-em];exact h
  .obtain⟨h0,_⟩:=h.rg_count 7 rfl;rw[Vv,Wi]at h0;simp only;omega
end
structure Opt where
 cfg:bD
 period:Int
 probes:Int
 segment:Int
 save:Int
abbrev jp(o:Opt):Os:=[aB o.cfg.width,aB o.cfg.policy,aB o.cfg.most,aB o.cfg.lag,aB o.cfg.rho,aB o.cfg.trust,aB o.cfg.agents,aB o.cfg.cells,aB o.cfg.hold,aB o.period,aB o.probes,aB o.segment,aB o.save]
structure GAd where
 bb:Nat
 rb:Nat
 sb:Nat
 pv:Value
 pa:KQ
 pc:Nat
abbrev li(o:Opt)(x:GAd)(n:Nat)(recs:Int):Os:=[aB o.cfg.width,aB o.cfg.policy,aB o.cfg.most,aB o.cfg.lag,aB o.cfg.rho,aB o.cfg.trust,aB o.cfg.agents,aB o.cfg.cells,aB o.cfg.hold,aB o.period,aB o.probes,aB o.segment,aB o.save,
 PA x.bb 0,PA x.sb 0,x.pv,.slice x.pa n x.pc,aB recs]
theorem sE{s:aI}{r:Rp}(h:(bO s r).2.2=0):r.right=true:=by
 unfold bO at h
 split at h
 .cases h
 .rename_i a;simpa using a
theorem TU{s:aI}{r:Rp}(h:(bO s r).2.2≠0):(bO s r).1=s/\(bO s r).2.1=[]:=by
 unfold bO at h ⊢
 split
 .exact⟨rfl,rfl⟩
 split
 .exact⟨rfl,rfl⟩
 split
 .rename_i a c b;rw[Vs a,Vs c,Vt b]at h;exact Vu rfl h
 split
 .rename_i a c b d;rw[Vs a,Vs c,Vs b,Vt d]at h;unfold fC at h ⊢
  split
  .exact⟨rfl,rfl⟩
  .rename_i e;rw[Vs e]at h
   split at h <;> exact Vu rfl h
 rename_i a c b d;rw[Vs a,Vs c,Vs b,Vs d]at h
 split at h
 .exact Vu rfl h
 split at h
 .exact Vu rfl h
 split at h
 .exact Vu rfl h
 split at h <;> exact Vu rfl h
theorem Rp.bytes_len(r:Rp):r.bytes.length<=100000:=by
 unfold Rp.bytes
 split
 .rename_i b;have a:=Rp.right_len b;have c:=dK [r.kind];have l1:=J1 r (cu r.kind);have lo:=wV r.kind;have l2:=AD r.evs;have l3:=dK [(r.evs.length:Int)];simp only[V1,VN]at c l3;unfold nmB at l1;have l4:(if r.kind=4 then aO [(r.evs.length:Int)] else []).length<=10:=by
   split
   .omega
   .simp
  simp only[Vv];omega
 .simp
theorem Rp.bytes_by(r:Rp):aH r.bytes:=by
 unfold Rp.bytes
 split
 .refine dD (dD (dD (iE _) (j0 λi _=>iE _)) ?_) (j0 λe _=>wW e)
  split
  .exact iE _
  .exact kC
 .exact kC
theorem Bg{rows:DR}{s:RL}{r:Rp}(hs:s.seg<2147483647)(a:r.right=true):iA rows s ⟨r.kind,r.bytes⟩=0:=by
 have c:1<=r.kind/\r.kind<=7:=by
  unfold Rp.right at a;simp only[Vz,Vy]at a;omega
 have b:=Rp.bytes_len r;have h0:iz r.kind r.bytes.length=0:=by
  unfold iz;rw[nO,nO]
 unfold iA;dsimp only;rw[Vs (by rw[h0];simp),nO]
section
variable {F L:List aE}{H:aD}{K:KE}{Q:aE}{gb db:Nat}{x:GAd}{o:Opt}{s:aI}{recs:Int}{ys:List Oy}{saved:Bool}{num seg:Int}{rl:RL}{rows:DR}{syn:Nat}
theorem K7{r:Rp}{a:KQ}{c:Nat}{evs:List Ev}(ok:cR s)(D:s.sunk<=4611686018427387903)(W:s.kept.length<=1000000)(k:oA Q F r a evs)
  (R:∀e∈(bO s r).2.1,e.kind=4->WC e.out.2/\e.out.1.ser.size<=1000000) (O:(bO s r).2.1.length<=1000000)
  (E:rl.ok) (u:rows.length<=549755813888) (A:rl.seg<2147483647) (S:0<=recs/\recs<=1000000000) (U:ys.length<=1000000000) (J:∀y∈ys,fI Q y)
  (h:aA H (Q::cellsA gb (li o x ys.length recs) 110::stA Q x.sb s::slA 91 11 x.pa ys.length x.pc (flat bH ys)::bookA x.bb x.rb saved num seg::reelA x.rb db rl::diskX db rows syn::F))
  (k1:(bO s r).2.2≠0->∀Q' C,aM Q Q'->aA C (Q'::cellsA gb (li o x ys.length recs) 110::stA Q' x.sb s::slA 91 11 x.pa ys.length x.pc (flat bH ys)::bookA x.bb x.rb saved num seg::reelA x.rb db rl::diskX db rows syn::F)->K (aC (bO s r).2.2) C)
  (k2:(bO s r).2.2=0->∀Q' B pa pc C,aM Q Q'->B.map Oy.o=ys.map Oy.o++(bO s r).2.1.flatMap cI->(∀y∈B,fI Q' y)->
   aA C (Q'::cellsA gb (li o { x with pa:=pa,pc:=pc } B.length (recs+1)) 110::stA Q' x.sb (bO s r).1::slA 91 11 pa B.length pc (flat bH B)::bookA x.bb x.rb saved num seg::reelA x.rb db (dp rows rl ⟨r.kind,r.bytes⟩)::diskX db (fY rows rl ⟨r.kind,r.bytes⟩) syn::F)->K (aC 0) C) :
  CF 47 #[PA gb 0,.agg ⟨dg r a c⟩] H K:=by
 refine cN 47 0x11217491d21b111c [[(5,sP)]] ?_;refine h.al λb _ h=>⟨some ⟨x.sb,0,none⟩,h.r 2,some ⟨x.bb,0,none⟩,h.r 2,some ⟨x.rb,0,none⟩,h.r 5,?_⟩
 refine⟨_,G9 (h.o [6,0,1,2,3,4,5,7] 8),?_⟩;intro Jn hJ;refine⟨λj=>Vu (Vw j) (by omega),λ_=>hJ _ _ ?_⟩
 refine⟨_,_,_,_,_,_,_,_,_,_,_,_,_,_,h.q 0,?_⟩;have h:=h.o [1,3,0,2,4,5,6,7] 8;have M:oA Q (cellsA b (dg r a c) 61::cellsA gb (li o x ys.length recs) 110::slA 91 11 x.pa ys.length x.pc (flat bH ys)::bookA x.bb x.rb saved num seg::reelA x.rb db rl::diskX db rows syn::F) r a evs:=
  ⟨k.eq,λH h=>k.rd H (h.o [] 6),k.labs,k.len,k.vals⟩
 refine Ko ok D (by omega) M h λG ea ec H2 n h=>⟨_,_,_,_,rfl,λj=>?_,λj=>?_⟩
 .have w:(bO s r).2.2≠0:=by simpa using j
  have e1:=(TU w).1;rw[e1]at h;exact k1 w G _ n (h.o [0,4,2,5,6,7,8] 9)
 have w:(bO s r).2.2=0:=by simpa using j
 have N:=sE w;have hA:=Bg (rows:=rows) A N;have hk:1<=r.kind/\r.kind<=7:=by
  unfold Rp.right at N;simp only[Vz,Vy]at N;omega
 obtain⟨d,hf⟩:∃d,(bO s r).2.1=d:=⟨_,rfl⟩;rw[hf]at h R O k2 ⊢;have Y:=Rp.bytes_len r;refine⟨some ⟨x.bb,0,none⟩,h.r 4,_,h.r 3,_,_,_,_,_,_,_,_,_,_,_,_,_,_,h.q 3,?_⟩;refine S7 k.eq h ⟨λH h=>k.rd H (h.o [] 9),λe w H h=>((k.labs e w).sub n).at h 0 rfl⟩ (by have:=k.len;omega) λda dc H3 h=>⟨_,_,_,rfl,h.r 4,h.r 5,?_⟩
 refine h.al λb1 _ h=>⟨h.r 5,h.r 6,?_⟩
 have h:=h.o [8,9,10,0,1,2,3,4,5,6,7] 11;refine Qy h (λhn=>Vu hn (by omega)) λ_=>?_
 have h:=h.o [1,2,0,3,4,5,6,7,8,9,10] 11;have f:([(⟨da,dc,r.bytes⟩:Fy)]:List Fy).flatMap Fy.bs=r.bytes:=by simp
 refine GE (parts:=[⟨da,dc,r.bytes⟩]) (kind:=r.kind) E u h (λH h=>h.ce_rd 1 rfl) (λH h y t=>by rw[V6]at t;subst t;exact h.sl_rd 2 rfl) (by rw[f];exact Rp.bytes_by r) (by simp) (by rw[f];omega) λH4 h=>⟨_,_,rfl,_,_,rfl,λj=>?_,λj=>?_⟩
 .rw [f,hA]at j;exact Vu j (by simp)
 rw[f]at h;refine h.st 9 rfl rfl ?_;intro H5 h;refine⟨_,h.r 9,?_⟩;refine h.st 9 rfl rfl ?_;intro Z h;refine⟨_,_,_,h.r 9,?_⟩;have T:i64.wrap (recs+1)=recs+1:=aK;have h:aA Z (_::_::_::_::_::G::slA 305 87 ea d.length ec (flat dP d)::_::_::cellsA gb (li o x ys.length (i64.wrap (recs+1))) 110::slA 91 11 x.pa ys.length x.pc (flat bH ys)::F):=h;rw[T]at h;have h:=h.o [5,6,7,9,10,2,0,1] 11;refine K0 O R h (λH h=>h.sl_rd 0 rfl) λP i wa wc H7 v hm I h=>⟨_,_,_,rfl,h.r 4,?_⟩
 have h0:i.length<=1000000:=by
  have e1:i.length=(d.flatMap cI).length:=by rw[<-hm,V8]
  have:∀l:List bI,(l.flatMap cI).length<=l.length:=by
   intro l
   induction l with
   | nil=>simp
   | cons e l ih=>
    rw[VU,Vv,V1];have:(cI e).length<=1:=by unfold cI;split <;> (try split) <;> (try split) <;> (try split) <;> simp
    omega
  have:=this d;omega
 refine h.append (m:=i.length) (ws:=flat bH i) slOy 5 rfl (h.sl_rd 1 rfl) (fh jD _) (lC pC _) (by omega) (by omega) λpa pc H8 h=>⟨_,_,_,rfl,?_⟩
 refine h.st 4 rfl rfl ?_;intro V h;have e2:ys.length+i.length=(ys++i).length:=by rw[Vv]
 have h:aA V (P::_::_::stA G x.sb (bO s r).1::cellsA gb (li o { x with pa:=pa,pc:=pc } (ys.length+i.length) (recs+1)) 110::slA 91 11 pa (ys.length+i.length) pc (flat bH ys++flat bH i)::_):=h;rw[e2,<-dS]at h;have h:=h.o [0,4,3,5,6,7,8] 9;have L:=sC v (h.o [2,0,1,3,4,5,6] 7);refine k2 w P (ys++i) pa pc _ (n.trans v) (by rw[VJ,hm]) (λy t=>?_) (L.o [1,2,0,3,4,5,6] 7)
 rcases VK.1 t with t|t
 .exact (J y t).sub (n.trans v)
 .exact I y t
end
def ff(o:Opt):Bool:=fD o.cfg&&decide (1<=o.probes/\o.probes<=1024)&&decide (1<=o.period/\o.period<=1099511627776)&&decide (64<=o.segment/\o.segment<=1048576)&&decide (1<=o.save/\o.save<=1048576)
section
variable {F L:List aE}{H:aD}{K:KE}{Q:aE}{o:Opt}
theorem Bh(h:aA H F)(k:∀a,aA a F->K (.bool (ff o)) a):CF 35 #[.agg ⟨jp o⟩] H K:=by
 refine cM 35 284 ?_;refine h.al λb _ h=>⟨_,h.r 0,?_⟩
 have key:∀(r1:Int) a,(r1=0↔1<=o.probes/\o.probes<=1024)->aA a F->
   K (.bool (((((((fD o.cfg&&(decide (r1=0)))&&(decide (1<=o.period)))&&(decide (o.period<=1099511627776)))&&(decide (64<=o.segment)))&&(decide (o.segment<=1048576)))&&(decide (1<=o.save)))&&(decide (o.save<=1048576)))) a:=by
  intro r1 a f h;have e:(((((((fD o.cfg&&(decide (r1=0)))&&(decide (1<=o.period)))&&(decide (o.period<=1099511627776)))&&(decide (64<=o.segment)))&&(decide (o.segment<=1048576)))&&(decide (1<=o.save)))&&(decide (o.save<=1048576)))=ff o:=by
   unfold ff;rw[Wb];simp only[Vz,Vy];rw[f]
   constructor
   .rintro⟨⟨⟨⟨⟨⟨⟨h1,h2⟩,h3⟩,h4⟩,h5⟩,h6⟩,h7⟩,h8⟩;exact⟨⟨⟨⟨h1,h2⟩,h3,h4⟩,h5,h6⟩,h7,h8⟩
   .rintro⟨⟨⟨⟨h1,h2⟩,h3,h4⟩,h5,h6⟩,h7,h8⟩;exact⟨⟨⟨⟨⟨⟨⟨h1,h2⟩,h3⟩,h4⟩,h5⟩,h6⟩,h7⟩,h8⟩
  rw[e];exact k _ h
 refine K3 h (λj=>⟨_,_,rfl,?_⟩) λm pb i h=>⟨_,_,rfl,?_⟩
 .refine⟨_,_,_,_,_,_,_,_,_,h.q 0,AY (c:=o.cfg) h λd h=>⟨_,rfl,_,λ_=>h.r 0,_,λ_=>h.r 0,_,λ_=>h.r 0,_,λ_=>h.r 0,_,λ_=>h.r 0,_,λ_=>h.r 0,?_⟩⟩
  exact key 11 _ (by omega) h.tl
 .refine⟨_,_,_,_,_,_,_,_,_,h.q 1,AY (c:=o.cfg) h λd h=>⟨_,rfl,_,λ_=>h.r 1,_,λ_=>h.r 1,_,λ_=>h.r 1,_,λ_=>h.r 1,_,λ_=>h.r 1,_,λ_=>h.r 1,?_⟩⟩
  exact key 0 _ (by omega) h.tl.tl
end
theorem bvI(x:Int):(BitVec.ofInt 64 x).toNat=(x%18446744073709551616).toNat:=by rw[BitVec.toNat_ofInt];rfl
theorem bv_ones:BitVec.ofInt 64 (18446744073709551615:Int)=BitVec.allOnes 64:=by decide
theorem bv_ones':BitVec.ofInt 64 (-1:Int)=BitVec.allOnes 64:=by decide
theorem K8:BitVec.ofInt 64 (0:Int)=0#64:=by decide
theorem TV{x:Int}(h:0<=x/\x<18446744073709551616):aY .xor .u64 x 0=x:=by
 unfold aY;show u64.wrap ((BitVec.ofInt 64 x^^^BitVec.ofInt 64 0).toNat:Int)=x;rw[K8,BitVec.xor_zero,bvI,de];omega
theorem TW{x:Int}(h:0<=x/\x<18446744073709551616):aY .xor .u64 x 18446744073709551615=18446744073709551615-x:=by
 unfold aY;show u64.wrap ((BitVec.ofInt 64 x^^^BitVec.ofInt 64 18446744073709551615).toNat:Int)=_;rw[bv_ones,BitVec.xor_allOnes,BitVec.toNat_not,bvI,de];omega
theorem TX{x:Int}(h:aF x):aY .xor .i64 x 0=x:=by
 unfold aY aF at *;show i64.wrap ((BitVec.ofInt 64 x^^^BitVec.ofInt 64 0).toNat:Int)=x;rw[K8,BitVec.xor_zero,bvI,jN];omega
theorem TY{x:Int}(h:aF x):aY .xor .i64 x (-1)=-x-1:=by
 unfold aY aF at *;show i64.wrap ((BitVec.ofInt 64 x^^^BitVec.ofInt 64 (-1)).toNat:Int)=_;rw[bv_ones',BitVec.xor_allOnes,BitVec.toNat_not,bvI,jN];omega
theorem andU_one{n:Nat}(h:n<18446744073709551616):aY .and .u64 (n:Int) 1=((n%2:Nat):Int):=by
 have:=and64 (m:=1) h (by decide);rw[Nat.and_one_is_mod]at this;exact this
theorem turnI_eq{v:Int}(h:aF v):qt v=if 0<=v then 2*v else -2*v-1:=by
 unfold qt;show aY .xor .u64 (u64.wrap (u64.wrap v*2^1)) (u64.wrap (Int.fdiv v (2^63)))=_;unfold aF at h;have e2:((2:Int)^63)=9223372036854775808:=by decide
 have e1:((2:Int)^1)=2:=by decide
 rw[e1,e2]
 split
 .have a:Int.fdiv v 9223372036854775808=0:=by
   rw[WM v (by decide)];omega
  rw[a,show u64.wrap 0=0 from rfl,TV (tR _),de,de];omega
 .have a:Int.fdiv v 9223372036854775808=-1:=by
   rw[WM v (by decide)];omega
  rw[a,show u64.wrap (-1)=18446744073709551615 from rfl,TW (tR _),de,de];omega
theorem TZ{n:Nat}(h:n<18446744073709551616):rO n=if n%2=0 then ((n/2:Nat):Int) else -((n/2:Nat):Int)-1:=by
 unfold rO;show aY .xor .i64 (i64.wrap (Int.fdiv n (2^1))) (i64.wrap (0-i64.wrap (aY .and .u64 n 1)))=_;have e1:((2:Int)^1)=2:=by decide
 rw[e1,andU_one h,WM _ (by decide)];have a:i64.wrap ((n:Int)/2)=((n/2:Nat):Int):=by rw[jN];omega
 rw[a]
 split
 .rename_i h0;rw[h0];show aY .xor .i64 _ 0=_;exact TX (by unfold aF;omega)
 .rename_i h0;have b:n%2=1:=by omega
  rw[b];show aY .xor .i64 _ (-1)=_;exact TY (by unfold aF;omega)
theorem K9{v:Int}(h:aF v):rO (turnN v)=v:=by
 rw[TZ (tS v)];have e:=zm v;rw[turnI_eq h]at e;unfold aF at h
 split at e <;> split <;> omega
theorem Bi{u:Nat}(h:u<18446744073709551616)(r:List Int):rdU 0 0 (bR u++r)=.ok u (bR u).length:=by
 have:=wk (w:=u) (acc:=0) (i:=0) r (by simpa using h) (by omega) (by omega);simpa using this
theorem oB{u:Nat}(h:u<18446744073709551616)(r:List Int):bM ⟨0,bR u++r⟩=(u,⟨0,r⟩):=by
 unfold bM;rw[Vs (by simp),Bi h];simp
theorem Ua{v:Int}(h:aF v):i64.wrap ((u64N v:Nat):Int)=v:=by
 unfold aF at h;have:=wX v;rw[<-this,de,jN];omega
theorem usB1(v:Int):aO [v]=bR (u64N v):=by simp[aO]
theorem mY(v:Int)(l:List Int):aO (v::l)=aO [v]++aO l:=by simp[aO]
theorem intsB1(v:Int):cY [v]=bR (turnN v):=by simp[cY]
theorem KA{v:Int}(h:0<=v)(a:v<18446744073709551616):((u64N v:Nat):Int)=v:=by
 rw[<-wX,de];omega
theorem uD{v:Int}(h:0<=v)(a:v<18446744073709551616)(r:List Int):ei ⟨0,aO [v]++r⟩=.ok (v,⟨0,r⟩):=by
 unfold ei;rw[usB1,oB (sj v),KA h a];rfl
theorem kI{v:Int}(h:aF v)(r:List Int):cH ⟨0,aO [v]++r⟩=.ok (v,⟨0,r⟩):=by
 unfold cH;rw[usB1,oB (sj v),Ua h];rfl
theorem uE{v:Int}(h:aF v)(r:List Int):gj ⟨0,cY [v]++r⟩=.ok (v,⟨0,r⟩):=by
 unfold gj dE;rw[intsB1,oB (tS v),K9 h];rfl
theorem Bj{m:Int}{n:Nat}(h:(n:Int)<=m)(a:n<18446744073709551616)(r:List Int):bY m ⟨0,bR n++r⟩=((n:Int),⟨0,r⟩):=by
 unfold bY;rw[Vs (by simp),Bi a];dsimp only;rw[nO];simp
theorem uF{m:Int}{n:Nat}(h:(n:Int)<=m)(a:n<9223372036854775808)(r:List Int):dO m ⟨0,aO [(n:Int)]++r⟩=.ok ((n:Int),⟨0,r⟩):=by
 unfold dO;have e:u64N (n:Int)=n:=by have:=KA (v:=(n:Int)) (by omega) (by omega);omega
 rw[usB1,e,Bj h (by omega)];rfl
theorem uG{m v:Int}(h:0<=v/\v<=m)(a:aF v)(r:List Int):upR m ⟨0,aO [v]++r⟩=.ok (v,⟨0,r⟩):=by
 unfold upR;rw[kI a];dsimp only;rw[Vt (by simp[inM,h])]
theorem Ub(s:Fa):(fi s).length=s.size:=by
 unfold fi;simp
theorem uH{m:Int}{s:Fa}(h:(s.size:Int)<=m)(a:s.size<18446744073709551616)(r:List Int):aZ m ⟨0,dd s++r⟩=(fi s,⟨0,r⟩):=by
 unfold aZ dd;rw[Vs (by simp),V5,Bi a];dsimp only;have b:=Ub s;rw[nO,Vs (by simp only[Vv];omega)];rw[Yb,Yj (by omega),VR (by omega),<-Yk,Yb,<-b,Yb]
theorem xw(s:Fa):bF (fi s)=s:=by
 unfold bF;apply ByteArray.ext;apply Array.toList_inj.1;rw[strOfNums_data];unfold fi;apply Wx
 .simp
 .intro i a b;simp
abbrev bL(l:List UInt8):Fa:=⟨l.toArray⟩
theorem qN(l:List UInt8):aX (bL l)=l:=by simp[aX,bL]
theorem pF(s:Fa):bL (aX s)=s:=by
 apply ByteArray.ext;simp[aX,bL]
theorem sF{s t:Fa}(h:aX s=aX t):s=t:=by rw[<-pF s,<-pF t,h]
theorem pG(s t:Fa):aX (s++t)=aX s++aX t:=by
 unfold aX;rw[ByteArray.data_append,Array.toList_append]
theorem sG(s:Fa)(i j:Nat):aX (s.extract i j)=((aX s).drop i).take (j-i):=by
 unfold aX;rw[ByteArray.data_extract,Array.toList_extract]
theorem KC{c:UInt8}{a b:List UInt8}(h:c∉a):cV c (a++c::b)=a.length:=by
 unfold cV;have e:(a++c::b).idxOf c=a.length:=by
  rw[List.idxOf_append,Vs h,List.idxOf_cons_self];omega
 rw[e,Vt (by simp)]
theorem KD{c:UInt8}{a:List UInt8}(h:c∉a):cV c a=-1:=by
 unfold cV;rw[Vs];intro b;exact h (List.idxOf_lt_length_iff.1 b)
theorem KF{c:UInt8}{s:Fa}{a b:List UInt8}(e:aX s=a++c::b)(h:c∉a):gi c s=(bL a,bL b,true):=by
 unfold gi;have hs:s.size=a.length+(b.length+1):=by rw[<-kX,e];simp
 rw[e,KC h,pO];congr 1
 .apply sF;rw[sG,e,qN];simp
 .congr 1;apply sF;rw[sG,e,qN];have:((a.length:Int)).toNat+1=a.length+1:=by omega
  rw[this,<-Yk,Yb,List.drop_one,List.tail_cons];exact VR (by omega)
theorem cutS_no{c:UInt8}{s:Fa}(h:c∉aX s):gi c s=(s,⟨#[]⟩,false):=by
 unfold gi;rw[KD h,Vs (by decide)]
theorem sufS_at{c:UInt8}{s:Fa}{a:List UInt8}(e:aX s=a++[c]):mJ c s=(bL a,true):=by
 unfold mJ;have hs:s.size=a.length+1:=by rw[<-kX,e];simp
 have b:s.extract (s.size-1) s.size=(⟨#[c]⟩:Fa):=by
  apply sF;rw[sG,e,hs];simp
 rw[b,Vt (by simp;omega)];congr 1;apply sF;rw[sG,e,qN,hs];simp
theorem join2(p q:List UInt8)(r:List (List UInt8)):Go.Lib.join (p::q::r) [44]=p++44::Go.Lib.join (q::r) [44]:=by
 rw[Go.Lib.join_cons,Go.Lib.join_cons];simp[Go.Lib.joinTail]
theorem KH:∀{ps:List (List UInt8)} {n:Nat} {s:Fa},ps≠[]->(∀p∈ps,(44:UInt8)∉p)->ps.length<=n+1->aX s=Go.Lib.join ps [44]->iY n s=ps.map bL
 | [],_,_,h,_,_,_=>Vu rfl h
 | [p],n,s,_,hp,_,e=>by
  have e:aX s=p:=by rw[e,Go.Lib.join_one]
  have a:(44:UInt8)∉aX s:=by rw[e];exact hp p (VA ..)
  have b:s=bL p:=by rw[<-e,pF]
  cases n with
  | zero=>simp[iY,b]
  | succ n=>
   unfold iY;rw[KD a,Vt (by decide),b];rfl
 | p::q::r,0,s,_,_,hl,_=>by simp at hl
 | p::q::r,n+1,s,_,hp,hl,e=>by
  have e:aX s=p++44::Go.Lib.join (q::r) [44]:=by rw[e,join2]
  have a:=hp p (VA ..);have hs:s.size=p.length+((Go.Lib.join (q::r) [44]).length+1):=by rw[<-kX,e];simp
  unfold iY;rw[e,KC a,nO];have e1:s.extract 0 ((p.length:Int)).toNat=bL p:=by
   apply sF;rw[sG,e,qN];simp
  have e2:aX (s.extract (((p.length:Int)).toNat+1) s.size)=Go.Lib.join (q::r) [44]:=by
   rw[sG,e,V4,<-Yk,Yb,List.drop_one,List.tail_cons];exact VR (by omega)
  rw[e1,KH (n:=n) (by simp) (λx c=>hp x (VD _ c)) (by simpa using hl) e2]
  rfl
theorem Bk{c:UInt8}(h:pp c=true):c≠44/\c≠61/\c≠123/\c≠125:=by
 unfold pp lowC at h;refine⟨?_,?_,?_,?_⟩ <;> (rintro rfl;revert h;decide)
theorem valC_not{c:UInt8}(h:valC c=true):c≠44/\c≠61/\c≠123/\c≠125:=by
 unfold valC at h;refine⟨?_,?_,?_,?_⟩ <;> (rintro rfl;revert h;decide)
theorem Bl{s:Fa}(h:kg s=true):∀c∈aX s,pp c=true:=by
 unfold kg at h;simp only[Vz,Wg]at h;exact h.2
theorem KJ{l:bS}(h:ik l=true):(∀c∈aX l.value,valC c=true)/\kg l.name=true:=by
 unfold ik at h;simp only[Vz,Wg]at h;exact⟨h.1.2,h.2⟩
theorem xx(l:bS):aX (fA l)=aX l.name++61::aX l.value:=by
 unfold fA;rw[pG,pG,V5];rfl
theorem partL_no{l:bS}(h:ik l=true):(44:UInt8)∉aX (fA l):=by
 obtain⟨a,b⟩:=KJ h;rw[xx];simp only[VK,V9,not_or];exact⟨λhm=>(Bk (Bl b _ hm)).1 rfl,by decide,λhm=>(valC_not (a _ hm)).1 rfl⟩
theorem KK:∀{ps:List (List UInt8)},(∀p∈ps,1<=p.length)->ps.length<=(Go.Lib.join ps [44]).length
 | [],_=>by simp
 | [p],h=>by rw[Go.Lib.join_one];have:=h p (VA ..);simpa using this
 | p::q::r,h=>by
  have b:=KK (ps:=q::r) λx a=>h x (VD _ a)
  rw[join2];simp only[V1,Vv]at *;omega
theorem Uc{labs:List bS}(d:∀l∈labs,ik l=true)(e:labs.length<=8):kF (labs.map fA)=some labs:=by
 have key:∀j,j<=labs.length->kF ((labs.take j).map fA)=some (labs.take j):=by
  intro j
  induction j with
  | zero=>intro _;rfl
  | succ j b=>
   intro f;have b:=b (by omega);have a:j<labs.length:=by omega
   rw[W4,List.getElem?_eq_getElem a,Option.toList_some,VJ];unfold kF at b ⊢;rw[WF,b];show si (some (labs.take j)) (fA labs[j])=_;have d:=d _ (V7 a);have c:(61:UInt8)∉aX labs[j].name:=λhm=>(Bk (Bl (KJ d).2 _ hm)).2.1 rfl
   unfold si;rw[KF (xx labs[j]) c];dsimp only;rw[VM,Vt (by simp;omega),pF,pF]
 have:=key labs.length (V2 _)
 rwa[VW]at this
theorem Ud{name:Fa}{labs:List bS}(h:fx name labs=true):im (gh name labs)=(name,labs,true):=by
 have e:=mI h;have c:(123:UInt8)∉aX name:=λhm=>(Bk (Bl e.named _ hm)).2.2.1 rfl
 unfold gh;rw[Vt h]
 split
 .rename_i h0;subst h0;unfold im;rw[cutS_no c];dsimp only;rw[Vs (by simp),Vt h]
 .rename_i h0;have f:aX (kh labs)=Go.Lib.join ((labs.map fA).map aX) [44]:=qN _;have e1:aX (((name++(⟨#[123]⟩:Fa))++kh labs)++(⟨#[125]⟩:Fa))=aX name++123::(aX (kh labs)++[125]):=by
   rw[pG,pG,pG,V5,V5];rfl
  have j:gR (kh labs)=labs.map fA:=by
   have d:∀p∈(labs.map fA).map aX,(44:UInt8)∉p/\1<=p.length:=by
    intro p a;obtain⟨b,hb,rfl⟩:=V3.1 a;obtain⟨l,i,rfl⟩:=V3.1 hb;exact⟨partL_no (e.val l i),by rw[xx];simp;omega⟩
   have:=KK (ps:=(labs.map fA).map aX) λp a=>(d p a).2
   have:=KH (ps:=(labs.map fA).map aX) (n:=(kh labs).size) (s:=kh labs) (by simpa using h0) (λp a=>(d p a).1) (by rw[<-kX,f];omega) f
   unfold gR;rw[this,Wh,Wh];apply WB;intro l _;exact pF _
  unfold im;rw[KF e1 c];dsimp only;rw[Vt rfl,sufS_at (qN _)];dsimp only;rw[Vt rfl,pF,j,Uc e.val e.len,pF];dsimp only;rw[Vt h]
theorem KM{labs:List bS}(b:∀l∈labs,ik l=true)(r:List Int):∀j,j<=labs.length->dJ j ⟨0,labs.flatMap iW++r⟩=(labs.take j,⟨0,(labs.drop j).flatMap iW++r⟩)
 | 0,_=>rfl
 | j+1,h=>by
  have c:=KM b r j (by omega);have a:j<labs.length:=by omega
  have hs:=sf (b _ (V7 a));have e:(labs.drop j).flatMap iW++r=dd labs[j].name++(dd labs[j].value++((labs.drop (j+1)).flatMap iW++r)):=by
   rw[Wm a,VU];simp[iW]
  unfold dJ;rw[c];dsimp only;rw[e,uH (m:=64) (by omega) (by omega)];dsimp only;rw[uH (m:=64) (by omega) (by omega),xw,xw,W4,List.getElem?_eq_getElem a];rfl
theorem Ue{name:Fa}{labs:List bS}(h:fx name labs=true)(r:List Int):cO ⟨0,iX name labs++r⟩=⟨name,labs,0,⟨0,r⟩⟩:=by
 have a:=mI h;have hs:=se a.named;unfold iX;rw[Vt h];have e:serB name labs++r=dd name++(bR labs.length++(labs.flatMap iW++r)):=by unfold serB;simp
 unfold cO;rw[e,uH (m:=64) (by omega) (by omega)];dsimp only;have b:=a.len;rw[Bj (m:=8) (by omega) (by omega)];dsimp only;rw[V4,KM a.val r labs.length (V2 _),VW,Wu];dsimp only;rw[Vs (by simp),xw,Vt h];rfl
def flN(bs:List Bool):Nat->Int
 | 0=>0
 | n+1=>flN bs n+if bs.getD n false then (2:Int)^n else 0
def cbB(k:Ky)(c:Cl):List Int:=cY [k.win]++dC [k.ser,bF (dm c)]
abbrev smB(x:bQ):List Int:=aO [x.asked,x.got,x.sent,x.came]
abbrev rwB(p:Int×Pv):List Int:=aO [p.1]++evB p.2
def agB1(a:Int)(e:En)(fl:Fl)(st:br):List Int:=
 (aO [a,e.epoch,e.boot,e.time,fl.t,flN [fl.out,fl.was,fl.held] 3]++cY [st.last])++aO [flN [st.ck.held] 1,st.ck.streak,(st.ck.smps.length:Int)]
def agB(a:Int)(e:En)(fl:Fl)(st:br):List Int:=
 ((agB1 a e fl st++st.ck.smps.flatMap smB)++aO [st.hs.next,(st.hs.rows.length:Int)])++st.hs.rows.flatMap rwB
theorem xy(bs:List Bool):∀n,n<=3->0<=flN bs n/\flN bs n<(2:Int)^n
 | 0,_=>⟨VV _,by show (0:Int)<1;decide⟩
 | n+1,h=>by
  have b:=xy bs n (by omega);have a:(2:Int)^(n+1)=2^n+2^n:=by rw[Int.pow_succ];omega
  unfold flN;rw[a]
  split <;> omega
section
variable {F L:List aE}{H:aD}{K KP:KE}{Q Q':aE}{sb:Nat}{s:aI}
theorem KN{b:Nat}{bs:List Bool}(y:bs.length<=3)(h:aA H F)(i:Nat)(s:aW i F=cellsA b (bs.map .bool) 4):bX Tryz.prog 119 #[.slice (some ⟨b,0,none⟩) bs.length bs.length] H (aC (flN bs bs.length)):=by
 refine cN 119 0x1121561239925117494c [[(3,sI)],[(3,sI),(8,sI)]] ?_;refine⟨λsum i w=>w=H/\∃j:Nat,i=j/\j<=bs.length/\sum=flN bs j,λ_ i _=>bs.length-i.toNat,⟨rfl,0,rfl,by omega,rfl⟩,?_⟩
 rintro sum t n ⟨rfl,j,rfl,A,rfl⟩;refine⟨λf=>?_,λf=>?_⟩
 .have c:j<bs.length:=by have:=Vw f;omega
  have d:=(h.ce_rd i s).at c;refine⟨by omega,_,_,d.1,_,d.2,?_⟩;have hb:=xy bs j (by omega);have B:(2:Int)^j<=4:=by
   rcases (by omega:j=0\/j=1\/j=2) with rfl|rfl|rfl <;> decide
  have hs:flN bs (j+1)=flN bs j+if bs[j] then (2:Int)^j else 0:=by
   show flN bs j+(if bs.getD j false then _ else _)=_
   rw[ov _ c]
  intro v u;have a:v (flN bs (j+1)) n:=by
   refine u _ _ ?_
   conv=>whnf
   rw[aK (x:=(j:Int)+1)];exact⟨⟨rfl,j+1,by omega,c,rfl⟩,by dsimp only;omega⟩
  refine⟨λm=>⟨by omega,?_⟩,λm=>?_⟩
  .rw [hs,Vt m]at a;have e:i64.wrap (1*2^(min (Int.toNat (j:Int)) (i64.bits)))=(2:Int)^j:=by
    rcases (by omega:j=0\/j=1\/j=2) with rfl|rfl|rfl <;> decide
   conv=>whnf
   rw[e,aK];exact a
  .rw [hs,Vs (by rw[m];simp),Int.add_zero]at a;exact a
 .have k:j=bs.length:=by have:=Vx f;omega
  subst k;exact⟨rfl,rfl⟩
theorem KR{k:Ky}{c:Cl}(wc:WC c)(hs:k.ser.size<=5000):(cbB k c).length<=10100:=by
 have a:=mB [k.win];have f:=lI (s:=k.ser) (by omega);have d:=um wc;have b:=lI (s:=bF (dm c)) (by rw[nQ];omega);rw[nQ]at b;have e:dC [k.ser,bF (dm c)]=dd k.ser++dd (bF (dm c)):=by simp[dC]
 unfold cbB;rw[Vv,e,Vv];simp only[V1,VN]at a;omega
theorem KU{key:Ky}{c:Cl}(wc:WC c)(hs:key.ser.size<=5000)(h:aA H F)
  (k:∀a t u,aA u (slA 5 1 a (cbB key c).length t ((cbB key c).map U8)::F)->K (.slice a (cbB key c).length t) u):CF 57 #[aggK key,aggC c] H K:=by
 have j:=KR wc hs;have y:=um wc;have D:=nQ (dm c);refine cM 57 28 ?_;refine h.al λb _ h=>?_
 refine h.al λb1 _ h=>⟨_,h.r 1,_,h.r 1,_,_,_,_,_,_,_,_,h.rda 0 rfl,?_⟩
 refine h.al λb2 _ h=>⟨h.rda 1 rfl,h.r 2,?_⟩
 refine qG h 0 rfl λa1 c1 C h=>⟨_,_,_,rfl,h.rda 2 rfl,h.r 3,?_⟩
 refine IT wc h λa2 c2 G h=>⟨_,_,_,rfl,h.r 4,?_⟩
 have m:=oV (c:=c2) (bs:=dm c) (by
  rcases (kz (F:=star _) h).2 with ⟨d,_⟩|⟨b,pre,post,E,fr,d,_⟩
  .exact .inl d
  .exact .inr ⟨_,_,d⟩) (h.sl_rd 0 rfl)
 refine⟨_,m,?_⟩;refine h.al λb3 _ h=>?_
 have e:dC [key.ser,bF (dm c)]=dd key.ser++dd (bF (dm c)):=by simp[dC]
 have l1:=lI (s:=key.ser) (by omega);have l2:=lI (s:=bF (dm c)) (by omega);refine wr (ts:=[key.ser,bF (dm c)]) h (λH h=>h.ce_rd 0 rfl) (λi=>?_) (by
   intro x v;simp only[V9,W1,or_false]at v
   rcases v with rfl|rfl <;> omega) (by simp) λa3 c3 A h=>⟨_,_,_,rfl,?_⟩
 .have n:(dC ([key.ser,bF (dm c)].take i)).length<=(dC [key.ser,bF (dm c)]).length:=by
   have w:[key.ser,bF (dm c)]=[key.ser,bF (dm c)].take i++[key.ser,bF (dm c)].drop i:=(Wl _ _).symm;rw[show (dC [key.ser,bF (dm c)]).length=(dC ([key.ser,bF (dm c)].take i++[key.ser,bF (dm c)].drop i)).length by rw[<-w]];unfold dC;rw[Ws,Vv];omega
  rw[e,Vv]at n;omega
 .have f:(cY [key.win]++dC [key.ser,bF (dm c)]).length<=10100:=j;rw[Vv]at f;refine dq h (i:=3) rfl rfl rfl (h.sl_rd 0 rfl) (by omega) λa4 c4 B h=>⟨_,_,_,rfl,?_⟩
  exact k _ _ _ (h.o [3] 7)
theorem KV(l:List bQ):(l.flatMap smB).length<=40*l.length:=by
 induction l with
 | nil=>simp
 | cons i l ih=>
  have:(smB i).length<=10*4:=dK [i.asked,i.got,i.sent,i.came];rw[VU,Vv,V1];omega
theorem KW(l:cy Pv):(l.flatMap rwB).length<=1330*l.length:=by
 induction l with
 | nil=>simp
 | cons i l ih=>
  have a:=dK [i.1];have b:=wY i.2;rw[VU,Vv,V1,Vv];simp only[V1,VN]at a;omega
theorem Uf{a:Int}{e:En}{st:br}(ok:cR s)(ha:0<=a)(y:s.sts[a.toNat]?=some (some st)){p:SAd}{A1 A2 A3 A4 A5:aE}(h:aA H (Q::cellsA sb (dr s p) 145::A1::A2::Ma.markC p.mb p.mm s.ms::Ma.mapF p.mm s.ms.m::A3::A4::strmA Q p.tm s.sts::A5::F))
  (k:∀B D C,aA C (slA 5 1 B (agB a e (bG s.ms a) st).length D ((agB a e (bG s.ms a) st).map U8)::Q::cellsA sb (dr s p) 145::A1::A2::Ma.markC p.mb p.mm s.ms::Ma.mapF p.mm s.ms.m::A3::A4::strmA Q p.tm s.sts::A5::F)->K (.slice B (agB a e (bG s.ms a) st).length D) C) :
  CF 54 #[PA sb 0,aC a,aggE e] H K:=by
 have E:((a.toNat:Nat):Int)=a:=by omega
 have d:=ok.sts st (VY y);have l5:=d.ck.len;have h7:=Bc d;refine OQ ?_;refine h.al λb _ h=>?_
 have h:=h.o [9,2,3,4,5,6,7,8,10,0,1] 11;obtain⟨N,bl,u,h⟩:=qK h y;have h:=h.o [1,0,2,3,4,5,6,7,8,9,10,11,12] 13;obtain⟨cb,hb,h⟩:=gV.1 h;have w:=qL u h 3 rfl;rw[E]at w;refine⟨_,h.r 5,_,w,_,h.r 5,?_⟩;have h:=h.o [8,9,0,1,2,3,4,5,6,7,10,11,12,13,14] 15;refine Ma.Of_spec (a:=a) h λH1 h=>⟨_,_,_,_,_,rfl,?_⟩
 refine h.al λb1 _ h=>?_
 refine h.st 0 rfl rfl ?_;intro H2 h;refine⟨_,h.r 14,_,h.r 14,_,h.r 14,_,h.r 0,_,h.r 0,_,h.r 0,_,h.r 0,?_⟩;refine h.al λb2 _ h=>⟨h.r 1,h.r 15,h.r 15,h.r 15,_,KN (bs:=[(bG s.ms a).out,(bG s.ms a).was,(bG s.ms a).held]) (by simp) h 0 rfl,?_⟩
 refine h.al λb3 _ h=>?_
 refine pu (vs:=[a,e.epoch,e.boot,e.time,(bG s.ms a).t,flN [(bG s.ms a).out,(bG s.ms a).was,(bG s.ms a).held] 3]) h (λH h=>h.ce_rd 0 rfl) (by simp) λa1 c1 H3 h=>⟨_,_,_,rfl,cZ ⟨_,h.r 6,?_⟩⟩
 have q1:=dK [a,e.epoch,e.boot,e.time,(bG s.ms a).t,flN [(bG s.ms a).out,(bG s.ms a).was,(bG s.ms a).held] 3];have q2:=mB [st.last];have q3:=dK [flN [st.ck.held] 1,st.ck.streak,(st.ck.smps.length:Int)];have q4:=dK [st.hs.next,(st.hs.rows.length:Int)];simp only[V1,VN]at q1 q2 q3 q4;unfold agB agB1 at k;generalize aO [a,e.epoch,e.boot,e.time,(bG s.ms a).t,flN [(bG s.ms a).out,(bG s.ms a).was,(bG s.ms a).held] 3]=X1 at *;refine h.al λb4 _ h=>?_
 refine qG h 0 rfl λa2 c2 H4 h=>⟨_,_,_,rfl,?_⟩
 generalize cY [st.last]=X2 at *;refine dq h (i:=2) rfl rfl rfl (h.sl_rd 0 rfl) (by omega) λa3 c3 H5 h=>⟨_,_,_,rfl,?_⟩
 have h:=h.o [9,2,6,7,8,10,11,12,13,14,15,16,17,18,20] 21;refine cZ ⟨_,h.rd 4 rfl 0,?_⟩;refine zY h (by omega) λsa sc H6 h=>⟨_,_,_,rfl,cZ ⟨_,h.rd 5 rfl 0,_,ue (h.o [1] 2),cZ ⟨_,h.rd 5 rfl 0,?_⟩⟩⟩
 refine h.al λb5 _ h=>⟨h.rd 6 rfl 0,_,KN (bs:=[st.ck.held]) (by simp) h 0 rfl,_,QZ (h.o [2] 3),?_⟩
 refine h.al λb6 _ h=>?_
 refine pu (vs:=[flN [st.ck.held] 1,st.ck.streak,(st.ck.smps.length:Int)]) h (λH h=>h.ce_rd 0 rfl) (by simp) λa4 c4 H7 h=>⟨_,_,_,rfl,?_⟩
 generalize aO [flN [st.ck.held] 1,st.ck.streak,(st.ck.smps.length:Int)]=X3 at *;refine dq h (i:=5) rfl rfl rfl (h.sl_rd 0 rfl) (by rw[Vv];omega) λa5 c5 H8 h=>⟨_,_,_,rfl,?_⟩
 have hO:((X1++X2)++X3).length<=100:=by simp only[Vv];omega
 generalize (X1++X2)++X3=O at *;refine⟨λB P D i C=>∃j:Nat,i=j/\j<=st.ck.smps.length/\P=(O++(st.ck.smps.take j).flatMap smB).length/\
  aA C (slA 5 1 B (O++(st.ck.smps.take j).flatMap smB).length D ((O++(st.ck.smps.take j).flatMap smB).map U8)::slA 58 4 sa st.ck.smps.length sc (flat eX st.ck.smps)::ckA cb st.ck::Ma.markC p.mb p.mm s.ms::Ma.mapF p.mm s.ms.m::cellsA N [PA cb 0,PA hb 0,aC st.last] 173::hldA Q hb st.hs::mapA aC ptV p.tm (cW 0 bl)::lQ Q bl s.sts a.toNat::
   cellsA sb (dr s p) 145::A1::A2::A3::A4::A5::Q::F),
  λ_ _ _ i _=>st.ck.smps.length-i.toNat,⟨0,rfl,by omega,by simp,?_⟩,?_⟩
 .rw [show O++(st.ck.smps.take 0).flatMap smB=O by simp];exact h.o [5,3,4,6,7,8,9,10,11,12,13,14,15,16,17,18] 19
 rintro a6 n6 c6 i H9 ⟨j,rfl,Y,rfl,h⟩;have I:=KV (st.ck.smps.take j);have U:(st.ck.smps.take j).length<=st.ck.smps.length:=by rw[VM];omega
 refine⟨λc=>?_,λc=>?_⟩
 .have c:j<st.ck.smps.length:=by have:=Vw c;omega
  have V:=h.sl_rd 1 rfl;refine⟨by omega,_,_,V.some kE (by omega) c,_,_,_,_,V.els kE c,?_⟩;refine h.al λb8 _ h=>?_
  refine h.st 0 rfl rfl ?_;intro S h;refine⟨_,h.r 0,_,h.r 0,_,h.r 0,_,h.r 0,?_⟩;refine h.al λb9 _ h=>?_
  refine pu (vs:=[st.ck.smps[j].asked,st.ck.smps[j].got,st.ck.smps[j].sent,st.ck.smps[j].came]) h (λH h=>h.ce_rd 0 rfl) (by simp) λa7 c7 R h=>⟨_,_,_,rfl,?_⟩
  have q5:=dK [st.ck.smps[j].asked,st.ck.smps[j].got,st.ck.smps[j].sent,st.ck.smps[j].came];simp only[V1,VN]at q5;refine dq h (i:=3) rfl rfl rfl (h.sl_rd 0 rfl) (by rw[Vv];omega) λa8 c8 T h=>⟨_,_,_,rfl,?_⟩
  rw[aK (x:=(j:Int)+1)];have e5:O++(st.ck.smps.take (j+1)).flatMap smB=(O++(st.ck.smps.take j).flatMap smB)++aO [st.ck.smps[j].asked,st.ck.smps[j].got,st.ck.smps[j].sent,st.ck.smps[j].came]:=by
   rw[jQ (f:=smB) c,V5]
  rw[<-e5]at h ⊢;exact⟨⟨j+1,by omega,c,rfl,h.o [3,4,5,6,7,8,9,10,11,12,13,14,15,16,17,18] 19⟩,by dsimp only;omega⟩
 have A:st.ck.smps.length<=j:=by have:=Vx c;omega
 rw[VR A]at h I ⊢;have j1:(O++st.ck.smps.flatMap smB).length<=500:=by rw[Vv];omega
 generalize O++st.ck.smps.flatMap smB=O2 at *;refine cZ ⟨_,h.r 5,cZ ⟨_,h.r 5,?_⟩⟩;have h:=h.o [6,0,2,3,4,5,7,8,9,10,11,12,13,14,15] 16;refine A8 h d.hs.rows.rising (Bb d) (by omega) λwa wc S h=>⟨_,_,_,rfl,h.r 6,?_⟩
 have h:=h.o [1,0,2,3,4,5,6,7,8,9,10,11,12,13,14,15] 16;refine Jz h λu8 R h=>⟨_,rfl,?_⟩
 refine S6 h d.hs.rows.rising (Bb d) (by omega) λea ec evs T v L h=>⟨_,_,_,rfl,?_⟩
 have h8:evs.length=st.hs.rows.length:=by have:=congrArg List.length v;simpa using this
 refine cZ ⟨_,h.r 8,_,uo (h.o [2] 3),?_⟩;refine h.al λr9 _ h=>?_
 refine pu (vs:=[st.hs.next,(st.hs.rows.length:Int)]) h (λH h=>h.ce_rd 0 rfl) (by simp) λa7 c7 l6 h=>⟨_,_,_,rfl,?_⟩
 generalize aO [st.hs.next,(st.hs.rows.length:Int)]=X4 at *;refine dq h (i:=6) rfl rfl rfl (h.sl_rd 0 rfl) (by omega) λa8 c8 h0 h=>⟨_,_,_,rfl,?_⟩
 have h2:(O2++X4).length<=600:=by rw[Vv];omega
 generalize O2++X4=O3 at *;have W:(aG st.hs.rows).length=st.hs.rows.length:=by simp[aG]
 refine⟨λB P D i C=>∃j:Nat,i=j/\j<=st.hs.rows.length/\P=(O3++(st.hs.rows.take j).flatMap rwB).length/\
  aA C (slA 5 1 B (O3++(st.hs.rows.take j).flatMap rwB).length D ((O3++(st.hs.rows.take j).flatMap rwB).map U8)::slA 99 4 ea evs.length ec (flat cw evs)::slA 2 1 wa st.hs.rows.length wc ((aG st.hs.rows).map aC)::hldA Q hb st.hs::ckA cb st.ck::Ma.markC p.mb p.mm s.ms::Ma.mapF p.mm s.ms.m::cellsA N [PA cb 0,PA hb 0,aC st.last] 173::mapA aC ptV p.tm (cW 0 bl)::lQ Q bl s.sts a.toNat::
   cellsA sb (dr s p) 145::A1::A2::A3::A4::A5::Q::F),
  λ_ _ _ i _=>st.hs.rows.length-i.toNat,⟨0,rfl,by omega,by simp,?_⟩,?_⟩
 .rw [show O3++(st.hs.rows.take 0).flatMap rwB=O3 by simp];exact h.o [6,2,5,4,7,8,9,10,11,12,13,14,15,16,17,18,19] 20
 rintro a9 n9 c9 i H15 ⟨j,rfl,Y,rfl,h⟩;have I:=KW (st.hs.rows.take j);have U:(st.hs.rows.take j).length<=st.hs.rows.length:=by rw[VM];omega
 refine⟨λc=>?_,λc=>?_⟩
 .have c:j<st.hs.rows.length:=by have:=Vw c;omega
  have G:j<(aG st.hs.rows).length:=by omega
  have n:j<evs.length:=by omega
  have J:=(h.sl_rd 2 rfl).at G;refine⟨by omega,_,_,J.1,_,J.2,?_⟩;refine h.al λh3 _ h=>?_
  refine nR h 0 rfl λj3 j2 l0 h=>⟨_,_,_,rfl,?_⟩
  have q5:=dK [(aG st.hs.rows)[j]];simp only[V1,VN]at q5;refine dq h (i:=2) rfl rfl rfl (h.sl_rd 0 rfl) (by rw[Vv];omega) λh5 y2 h9 h=>⟨_,_,_,rfl,?_⟩
  have M:=h.sl_rd 3 rfl;refine⟨by omega,_,_,M.some fH (by omega) n,_,_,_,_,_,_,M.els fH n,?_⟩;refine J0 (e:=evs[j]) h (λH h=>(L _ (V7 n)).at h 18 rfl) λy3 r0 h6 h=>⟨_,_,_,rfl,?_⟩
  have q6:=wY evs[j].p;refine dq h (i:=3) rfl rfl rfl (h.sl_rd 0 rfl) (by simp only[Vv];omega) λr8 h4 Z h=>⟨_,_,_,rfl,?_⟩
  rw[aK (x:=(j:Int)+1)];have ek:(aG st.hs.rows)[j]=st.hs.rows[j].1:=by simp[aG]
  have ep:evs[j].p=st.hs.rows[j].2:=by
   have h1:(evs.map Ev.p)[j]'(by simpa using n)=(st.hs.rows.map (·.2))[j]'(by simpa using c):=by simp only[v]
   simpa using h1
  have e5:O3++(st.hs.rows.take (j+1)).flatMap rwB=((O3++(st.hs.rows.take j).flatMap rwB)++aO [(aG st.hs.rows)[j]])++evB evs[j].p:=by
   rw[jQ (f:=rwB) c,ek,ep,V5,V5]
  rw[<-e5]at h ⊢;exact⟨⟨j+1,by omega,c,rfl,h.o [3,4,5,6,7,8,9,10,11,12,13,14,15,16,17,18,19] 20⟩,by dsimp only;omega⟩
 .have A:st.hs.rows.length<=j:=by have:=Vx c;omega
  rw[VR A]at h ⊢;refine k _ _ _ ?_;have h:=h.o [7,4,3,8,9,10,11,12,5,6,13,14,15,0,16] 17;have h:=gV.2 ⟨cb,hb,h⟩;have h:=h.o [1,0,2,3,4,5,6,7,8,9,10,11,12] 13;have h:=sx u h;rw[Kw y]at h;exact h.o [9,10,1,2,3,4,5,6,7,0,8] 11
end
def dR(s:aI)(p:Int×En):List Int:=match dL s p.1 with
 | some st=>agB p.1 p.2 (bG s.ms p.1) st
 | none=>[]
def nStr(s:aI):Nat:=(s.sts.filter Option.isSome).length
abbrev ceB(o:Ot):List Int:=cbB o.1 o.2
def kv(s:aI):List Int:=(aO [s.now,s.boots,s.sunk,s.ms.now]++cY [s.ms.value])++aO [(nStr s:Int)]
def jq(s:aI):List Int:=(kv s++(aR 0 s.rows).flatMap (dR s))++aO [(s.cm.length:Int)]
def lj(s:aI):List Int:=(jq s++(bA s.cm).flatMap ceB)++aO [(s.kept.length:Int)]
def stB(s:aI):List Int:=lj s++s.kept.flatMap ceB
structure qO(s:aI):Prop where
 cm:∀p∈s.cm,p.1.ser.size<=5000
 kept:∀o∈s.kept,o.1.ser.size<=5000
theorem Bm{α:Type}:∀{l:List (Option α)} {i:Nat},(cW i l).length=(l.filter Option.isSome).length
 | [],i=>rfl
 | none::r,i=>Bm (l:=r) (i:=i+1)
 | some b::r,i=>by
  show (_::cW (i+1) r).length=_;rw[V1,Bm (l:=r)];rfl
theorem KX{α β:Type}:∀{l:List (Option α)} {m:List (Option β)},l.map Option.isSome=m.map Option.isSome->(l.filter Option.isSome).length=(m.filter Option.isSome).length
 | [],[],_=>rfl
 | x::r,y::m,h=>by
  simp only[VS,List.cons.injEq]at h;have a:=KX h.2;rw[Wa,Wa,h.1]
  split
  .rw [V1,V1,a]
  .exact a
 | [],y::m,h=>by simp at h
 | x::r,[],h=>by simp at h
theorem Bn{m:CM}{o:Ot}(h:o∈bA m):∃p∈m,p.1=o.1:=by
 unfold bA at h;obtain⟨k,a,rfl⟩:=V3.1 h;have:=(kW _).mem_iff.1 a;obtain⟨p,b,e⟩:=V3.1 this;exact⟨p,b,e⟩
section
variable {F L:List aE}{H:aD}{K KP:KE}{Q Q':aE}{sb:Nat}{s:aI}
theorem agB_len{a:Int}{e:En}{fl:Fl}{st:br}(b:lR s.cfg st):(agB a e fl st).length<=345000:=by
 have q1:=dK [a,e.epoch,e.boot,e.time,fl.t,flN [fl.out,fl.was,fl.held] 3];have q2:=mB [st.last];have q3:=dK [flN [st.ck.held] 1,st.ck.streak,(st.ck.smps.length:Int)];have q4:=dK [st.hs.next,(st.hs.rows.length:Int)];have q5:=KV st.ck.smps;have q6:=KW st.hs.rows;have c:=b.ck.len;have d:=Bc b;unfold agB agB1;simp only[Vv,V1,VN]at *;omega
theorem xz(ok:cR s)(p:Int×En):(dR s p).length<=345000:=by
 unfold dR
 cases h:dL s p.1 with
 | none=>simp
 | some st=>exact agB_len (ok.sts st (VY (Kx h).2))
theorem oC{α:Type}{f:α->List Int}{B:Nat}:∀{l:List α},(∀x∈l,(f x).length<=B)->(l.flatMap f).length<=B*l.length
 | [],_=>by simp
 | x::r,h=>by
  have b:=h x (VA ..);have c:=oC (l:=r) λy a=>h y (VD _ a)
  rw[VU,Vv,V1,Nat.mul_succ];omega
theorem xA{o:Ot}(wc:WC o.2)(hs:o.1.ser.size<=5000):(ceB o).length<=10100:=KR wc hs
theorem KY:(kv s).length<=60:=by
 have q1:=dK [s.now,s.boots,s.sunk,s.ms.now];have q2:=mB [s.ms.value];have q3:=dK [(nStr s:Int)];unfold kv;simp only[Vv,V1,VN]at *;omega
theorem strm_len{tm:Nat}{sts:List (Option br)}(h:aA H (strmA Q tm sts::F)):di Tryz.prog (Builtin.len_ #[142] 3 #[(.map (some tm))]) H (.int .i64 ((sts.filter Option.isSome).length:Nat)):=by
 obtain⟨bl,hm,h⟩:=lf.1 h;have:=h.mp_len (ty:=3) qI 0 rfl;rw[Bm,KX hm]at this;exact this
theorem KZ(ok:cR s)(ser:qO s)(hkl:s.kept.length<=50000)(h:aA H (Q::stA Q sb s::F))
  (k:∀a c v,aA v (slA 5 1 a (stB s).length c ((stB s).map U8)::Q::stA Q sb s::F)->K (.slice a (stB s).length c) v) :
  CF 17 #[PA sb 0] H K:=by
 refine cL 17 (.r (.seq (.regJ [(3,sA)]) (.r (.r (.seq (.r (.blk (.rng [sI,.agg [.int .i64,.int .i64,.int .i64]] [none] (.r .reg) (.blk .reg)))) (.r (.seq (.r (.blk (.rng [.agg [.int .i64,.str],.agg [.int .i64,.int .i64,.int .u64,.int .i64,.int .i64,.int .i64,.int .i64,.vec .i64 65]] [none] (.r .reg) (.blk .reg)))) (.r (.seq (.r (.blk (.loop [(95,sI)] (.r (.seq (.cond .no .no) (.seq (.blk (.r .reg)) .reg)))))) (.r .no)))))))))) ?_;refine h.al λb _ h=>?_
 have h:=h.o [2,0,1] 3;obtain⟨p,h⟩:=cX.1 h;intro Jn hJ;have hle:=xh ok.rows;have hagl:((aR 0 s.rows).flatMap (dR s)).length<=345000*64:=by
  have:=oC (f:=dR s) (l:=aR 0 s.rows) (B:=345000) λx _=>xz ok x
  have:345000*(aR 0 s.rows).length<=345000*64:=WV _ hle;omega
 have hol:=uj (m:=s.cm);have hcl:=ok.sh.len;have hcm:=ok.sh.m2;have hO:∀o∈bA s.cm,(ceB o).length<=10100:=λo L=>by
  obtain⟨q,hq,e⟩:=Bn L;exact xA (xu ok.sh o L) (by rw[<-e];exact ser.cm q hq)
 have U:∀o∈s.kept,(ceB o).length<=10100:=λo L=>xA (ok.kept o L) (ser.kept o L)
 have u:∀C a c v,aA v (cellsA C [.slice a (aO [s.now,s.boots,s.sunk,s.ms.now]).length c] 43::slA 5 1 a (aO [s.now,s.boots,s.sunk,s.ms.now]).length c ((aO [s.now,s.boots,s.sunk,s.ms.now]).map U8)::
   cellsA sb (dr s p) 145::Ro.rollC p.rb p.rm s.cfg.agents::Ro.mapE p.rm s.rows::Ma.markC p.mb p.mm s.ms::Ma.mapF p.mm s.ms.m::shC p.hb p.hm s.cfg.cells::cz p.hm s.cm::strmA Q p.tm s.sts::slA 164 74 p.ka s.kept.length p.kc (flat cJ s.kept)::cellsA b [PA sb 0] 40::Q::F)->Jn C 0 v:=by
  intro C a0 c0 H1 h;refine hJ _ _ _ ?_;have q1:=dK [s.now,s.boots,s.sunk,s.ms.now];have q2:=mB [s.ms.value];have q3:=dK [(nStr s:Int)];have q4:=dK [(s.cm.length:Int)];have q5:=dK [(s.kept.length:Int)];simp only[V1,VN]at q1 q2 q3 q4 q5;have hS1:=KY (s:=s);have h4:kv s=(aO [s.now,s.boots,s.sunk,s.ms.now]++cY [s.ms.value])++aO [(nStr s:Int)]:=rfl;have S:jq s=(kv s++(aR 0 s.rows).flatMap (dR s))++aO [(s.cm.length:Int)]:=rfl;have T:lj s=(jq s++(bA s.cm).flatMap ceB)++aO [(s.kept.length:Int)]:=rfl;have hS2:(jq s).length<=22100000:=by rw[S,Vv,Vv];omega
  have hcl2:((bA s.cm).flatMap ceB).length<=10100*1024:=by
   have h1:=oC (f:=ceB) (l:=bA s.cm) (B:=10100) hO;have:10100*(bA s.cm).length<=10100*1024:=WV _ (by omega);omega
  have hS3:(lj s).length<=40000000:=by rw[T,Vv,Vv];omega
  generalize aO [s.now,s.boots,s.sunk,s.ms.now]=X0 at *;refine⟨_,_,_,h.r 0,_,h.rd 11 rfl _,⟨_,h.r 2,_,Ma.Value_spec h 5 rfl,?_⟩⟩;refine h.al λb1 _ h=>⟨h.r 1,?_⟩
  refine qG h 0 rfl λa1 c1 H2 h=>⟨_,_,_,rfl,h.r 2,?_⟩
  refine dq h (i:=3) rfl rfl rfl (h.sl_rd 0 rfl) (by omega) λa2 c2 H3 h=>⟨_,_,_,rfl,?_⟩
  generalize cY [s.ms.value]=X1 at *;refine h.st 2 rfl rfl ?_;intro H4 h;have h:=h.o [2,3,4,5,6,7,8,9,10,11,12,13,14] 15;refine⟨_,_,_,h.r 0,_,h.rd 11 rfl _,⟨_,h.r 2,_,strm_len (h.o [9] 10),?_⟩⟩;refine h.al λb2 _ h=>⟨h.r 1,?_⟩
  refine nR h 0 rfl λa3 c3 H5 h=>⟨_,_,_,rfl,h.r 2,?_⟩
  refine dq h (i:=3) rfl rfl rfl (h.sl_rd 0 rfl) (by rw[Vv];unfold nStr at q3;omega) λa4 c4 H6 h=>⟨_,_,_,rfl,?_⟩
  rw[show (X0++X1)++aO [((s.sts.filter Option.isSome).length:Int)]=kv s from h4.symm]at h ⊢;refine h.st 2 rfl rfl ?_;intro H7 h;have h:=h.o [2,3,4,5,6,7,8,9,10,11,12,13,14] 15;refine⟨_,h.rd 11 rfl _,⟨_,h.r 2,?_⟩⟩;refine Ro.All_spec h λr0 W h=>⟨_,_,rfl,rfl,λR r8 hR2 hy=>?_⟩
  have h:=h.rng R;refine Ro.All1_spec (rb:=p.rb) (mb:=p.rm) (most:=s.cfg.agents) (c0:=r0) ok.rows (λj=>exS λq:KQ×Nat=>star [cellsA C [.slice q.1 (kv s++((aR 0 s.rows).take j).flatMap (dR s)).length q.2] 43,slA 5 1 q.1 (kv s++((aR 0 s.rows).take j).flatMap (dR s)).length q.2 ((kv s++((aR 0 s.rows).take j).flatMap (dR s)).map U8),
    cellsA sb (dr s p) 145,Ma.markC p.mb p.mm s.ms,Ma.mapF p.mm s.ms.m,strmA Q p.tm s.sts,cellsA b [PA sb 0] 40,Q,pt (W.size+1) (.loop R)]) (pur False)
   (F:=pt W.size (.deferred (some []))::shC p.hb p.hm s.cfg.cells::cz p.hm s.cm::slA 164 74 p.ka s.kept.length p.kc (flat cJ s.kept)::F) ?_ ?_ ?_ ?_
  .refine cK.2 ⟨(a4,c4),aA.shut [_,_,_,_,_,_,_,_,_] ?_⟩;rw[show kv s++((aR 0 s.rows).take 0).flatMap (dR s)=kv s by simp];exact h.o [3,4,5,8,9,12,14,15,0,2,6,7,1,10,11,13] 16
  .intro j E G H9 K1 h kt _;obtain⟨⟨a5,c5⟩,h⟩:=cK.1 h;have h:=aA.open (A:=[_,_,_,_,_,_,_,_,_]) h;dsimp only at h;refine hy _ _ _ ?_;refine⟨_,_,_,_,rfl,h.getO 8 rfl,?_⟩;refine h.al λb3 _ h=>?_
   refine h.st 0 rfl rfl ?_;intro h7 h;refine⟨h.getO 9 rfl,h.stl 9 rfl λh3 h=>⟨_,_,_,h.r 1,_,h.r 7,_,_,_,h.q 0,?_⟩⟩
   have d:=V7 E;have h6:=py d;have M:0<(bg s.rows (aR 0 s.rows)[j].1).epoch:=by
    have Z:=AM (i:=0) (l:=s.rows) (k:=(aR 0 s.rows)[j].1.toNat);rw[VL,show (((aR 0 s.rows)[j].1.toNat:Nat):Int)=(aR 0 s.rows)[j].1 by omega]at Z;have h1:aJ (aR 0 s.rows)[j].1 (aR 0 s.rows)=some (aR 0 s.rows)[j].2:=mi xf d;have h2:=uu ok.rows (agent:=(aR 0 s.rows)[j].1);rw[h1]at h2;rw[<-h2];exact h6.2.2
   obtain⟨N,st,I⟩:=ok.str M;have l5:dR s (aR 0 s.rows)[j]=agB (aR 0 s.rows)[j].1 (aR 0 s.rows)[j].2 (bG s.ms (aR 0 s.rows)[j].1) st:=by
    unfold dR;rw[xt N I]
   have hagn:=xz ok (aR 0 s.rows)[j];have J:=oC (f:=dR s) (l:=(aR 0 s.rows).take j) (B:=345000) λx _=>xz ok x
   have V:((aR 0 s.rows).take j).length<=(aR 0 s.rows).length:=by rw[VM];omega
   have P:345000*((aR 0 s.rows).take j).length<=345000*64:=WV _ (by omega);have h:=lU (lU (lU (lU (lU h))));have h:=h.o [13,8,0,1,9,10,2,3,11,4,5,6,7,12,14] 15;refine Uf (e:=(aR 0 s.rows)[j].2) ok N I h λa6 c6 y3 h=>⟨_,_,_,rfl,h.r 12,?_⟩
   rw[<-l5]at h ⊢;refine dq h (i:=13) rfl rfl rfl (h.sl_rd 0 rfl) (by rw[Vv];omega) λa7 c7 u8 h=>⟨_,_,_,rfl,?_⟩
   refine h.st 12 rfl rfl ?_;intro t h;refine⟨h.getO 15 rfl,kt _ ?_⟩;have h:=h.setO 15 rfl (.loop R);have e5:kv s++((aR 0 s.rows).take (j+1)).flatMap (dR s)=(kv s++((aR 0 s.rows).take j).flatMap (dR s))++dR s (aR 0 s.rows)[j]:=by
    rw[jQ (f:=dR s) E,V5]
   refine cK.2 ⟨(a7,c7),aA.shut [_,_,_,_,_,_,_,_,_] ?_⟩;dsimp only;rw[e5];exact h.o [12,13,2,5,6,9,14,1,15] 16
  .intro H9 h;obtain⟨⟨a5,c5⟩,h⟩:=cK.1 h;have h:=aA.open (A:=[_,_,_,_,_,_,_,_,_]) h;dsimp only at h;rw[VW]at h;refine⟨.ready,none,by decide,by rw[nD r8 hR2];exact h.getO 8 rfl,h.stl 8 rfl λh7 h=>⟨rfl,?_⟩⟩
   refine⟨_,_,_,h.r 0,_,h.rd 6 rfl _,⟨_,h.r 2,_,Rw h 13 14 rfl rfl,?_⟩⟩;refine h.al λb4 _ h=>⟨h.r 1,?_⟩
   refine nR h 0 rfl λa6 c6 h3 h=>⟨_,_,_,rfl,h.r 2,?_⟩
   refine dq h (i:=3) rfl rfl rfl (h.sl_rd 0 rfl) (by rw[Vv];omega) λa7 c7 y3 h=>⟨_,_,_,rfl,?_⟩
   rw[<-S]at h ⊢;refine h.st 2 rfl rfl ?_;intro u8 h;have h:=h.o [2,3,4,5,6,7,8,9,12,13,14,15,16,17] 18;refine⟨_,h.rd 6 rfl _,⟨_,h.r 2,?_⟩⟩;refine IH h λl0 t h=>⟨_,_,rfl,rfl,λR1 j3 hR4 y2=>?_⟩
   have h:=h.rng R1;refine II (sb:=p.hb) (mb:=p.hm) (most:=s.cfg.cells) (m:=s.cm) (c0:=l0) (by omega)
    (λj=>exS λq:KQ×Nat=>star [cellsA C [.slice q.1 (jq s++((bA s.cm).take j).flatMap ceB).length q.2] 43,slA 5 1 q.1 (jq s++((bA s.cm).take j).flatMap ceB).length q.2 ((jq s++((bA s.cm).take j).flatMap ceB).map U8),shC p.hb p.hm s.cfg.cells,cz p.hm s.cm,pt (t.size+1) (.loop R1)])
    (λ_=>pur False) (star [cellsA C [.slice a7 (jq s).length c7] 43,slA 5 1 a7 (jq s).length c7 ((jq s).map U8),pt (t.size+1) (.loop R1)])
    (F:=pt t.size (.deferred (some []))::cellsA sb (dr s p) 145::Ma.markC p.mb p.mm s.ms::Ma.mapF p.mm s.ms.m::strmA Q p.tm s.sts::cellsA b [PA sb 0] 40::Q::Ro.rollC p.rb p.rm s.cfg.agents::Ro.mapE p.rm s.rows::pt W.size (.deferred (some []))::slA 164 74 p.ka s.kept.length p.kc (flat cJ s.kept)::F) ?_ ?_ ?_ ?_ ?_
   .have h:=h.o [3,4,0,2,14,15,1,5,6,7,8,9,10,11,12,13,16] 17;have h:=aA.shut [_,_,_] h;exact h.o [1,2,3,0] 4
   .intro G D h;have h:=h.o [2,0,1] 3;have h:=aA.open (A:=[_,_,_]) h;refine cK.2 ⟨(a7,c7),aA.shut [_,_,_,_,_] ?_⟩;rw[show jq s++((bA s.cm).take 0).flatMap ceB=jq s by simp];exact h.o [0,1,3,4,2] 5
   .intro j E G D K1 h kt _;obtain⟨⟨a8,c8⟩,h⟩:=cK.1 h;have h:=aA.open (A:=[_,_,_,_,_]) h;dsimp only at h;refine y2 _ _ _ ?_;have d:=V7 E;have h5:=xu ok.sh _ d;have O:(bA s.cm)[j].1.ser.size<=5000:=by
     obtain⟨q,hq,e⟩:=Bn d;rw[<-e];exact ser.cm q hq
    have hcn:(cbB (bA s.cm)[j].1 (bA s.cm)[j].2).length<=10100:=hO _ d;have J:=oC (f:=ceB) (l:=(bA s.cm).take j) (B:=10100) λx hx=>hO x (Wo hx)
    have V:((bA s.cm).take j).length<=(bA s.cm).length:=by rw[VM];omega
    have P:10100*((bA s.cm).take j).length<=10100*1024:=WV _ (by omega);refine⟨_,_,_,_,_,_,_,_,_,_,rfl,h.getO 4 rfl,?_⟩;refine h.al λb5 _ h=>?_
    refine h.st 0 rfl rfl ?_;intro r9 h;refine h.al λb6 _ h=>?_
    refine h.sta 0 rfl rfl λj2 h=>?_
    refine⟨h.getO 6 rfl,h.stl 6 rfl λh9 h=>⟨_,_,_,h.r 2,_,_,h.q 1,_,_,_,_,_,_,_,_,h.rda 0 rfl,?_⟩⟩
    refine KU (key:=(bA s.cm)[j].1) (c:=(bA s.cm)[j].2) h5 O h λa9 c9 h0 h=>⟨_,_,_,rfl,h.r 3,?_⟩
    refine dq h (i:=4) rfl rfl rfl (h.sl_rd 0 rfl) (by rw[Vv];omega) λy w j1 h=>⟨_,_,_,rfl,?_⟩
    refine h.st 3 rfl rfl ?_;intro Y h;refine⟨h.getO 7 rfl,kt _ ?_⟩;have h:=h.setO 7 rfl (.loop R1);have e5:jq s++((bA s.cm).take (j+1)).flatMap ceB=(jq s++((bA s.cm).take j).flatMap ceB)++ceB (bA s.cm)[j]:=by
     rw[jQ (f:=ceB) E,V5]
    refine cK.2 ⟨(y,w),aA.shut [_,_,_,_,_] ?_⟩;dsimp only;rw[e5];exact h.o [3,4,5,6,7] 8
   .intro D h;obtain⟨⟨a8,c8⟩,h⟩:=cK.1 h;have h:=aA.open (A:=[_,_,_,_,_]) h;dsimp only at h;rw[VW]at h;refine⟨.ready,none,by decide,by rw[nD j3 hR4];exact h.getO 4 rfl,h.stl 4 rfl λr9 h=>⟨rfl,?_⟩⟩
    refine⟨_,_,_,h.r 0,_,h.rd 10 rfl _,⟨_,_,_,h.r 6,?_⟩⟩;refine h.al λb7 _ h=>⟨h.r 1,?_⟩
    refine nR h 0 rfl λa9 c9 j2 h=>⟨_,_,_,rfl,h.r 2,?_⟩
    refine dq h (i:=3) rfl rfl rfl (h.sl_rd 0 rfl) (by rw[Vv];omega) λy w h9 h=>⟨_,_,_,rfl,?_⟩
    rw[<-T]at h ⊢;refine h.st 2 rfl rfl ?_;intro h0 h;refine⟨_,h.rd 12 rfl _,⟨_,_,_,h.r 8,?_⟩⟩;refine⟨λi v=>∃(j:Nat) (a:KQ) (c:Nat),i=j/\j<=s.kept.length/\
     aA v (cellsA C [.slice a (lj s++(s.kept.take j).flatMap ceB).length c] 43::slA 5 1 a (lj s++(s.kept.take j).flatMap ceB).length c ((lj s++(s.kept.take j).flatMap ceB).map U8)::pt t.size (.deferred (some []))::pt W.size (.deferred (some []))::
      Q::cellsA sb (dr s p) 145::Ro.rollC p.rb p.rm s.cfg.agents::Ro.mapE p.rm s.rows::Ma.markC p.mb p.mm s.ms::Ma.mapF p.mm s.ms.m::shC p.hb p.hm s.cfg.cells::cz p.hm s.cm::strmA Q p.tm s.sts::slA 164 74 p.ka s.kept.length p.kc (flat cJ s.kept)::F),
     λi _=>s.kept.length-i.toNat,⟨0,y,w,rfl,by omega,?_⟩,?_⟩
    .rw [show lj s++(s.kept.take 0).flatMap ceB=lj s by simp];exact h.o [2,3,7,16,13,8,14,15,9,10,4,5,11,17] 18
    rintro i j1 ⟨j,a,c,rfl,E,h⟩;refine⟨λn=>?_,λn=>?_⟩
    .have n:j<s.kept.length:=by have:=Vw n;omega
     have d:=V7 n;have hcn:(cbB s.kept[j].1 s.kept[j].2).length<=10100:=U _ d;have J:=oC (f:=ceB) (l:=s.kept.take j) (B:=10100) λx hx=>U x (Wo hx)
     have V:(s.kept.take j).length<=s.kept.length:=by rw[VM];omega
     have P:10100*(s.kept.take j).length<=10100*50000:=WV _ (by omega);have hr:=h.sl_rd 13 rfl;refine⟨by omega,_,_,hr.some iV (by omega) n,_,_,_,_,_,_,_,_,_,_,hr.els iV n,?_⟩;refine h.al λb9 _ h=>?_
     refine h.sta 0 rfl rfl λY h=>?_
     refine⟨_,_,_,h.r 1,_,_,h.q 0,_,_,_,_,_,_,_,_,h.rdt (l:=[_,_]) 0 rfl rfl,?_⟩;refine KU (key:=s.kept[j].1) (c:=s.kept[j].2) (ok.kept _ d) (ser.kept _ d) h λa9 c9 H22 h=>⟨_,_,_,rfl,h.r 2,?_⟩
     refine dq h (i:=3) rfl rfl rfl (h.sl_rd 0 rfl) (by rw[Vv];omega) λh8 c11 H23 h=>⟨_,_,_,rfl,?_⟩
     refine h.st 2 rfl rfl ?_;intro H24 h
     conv=>whnf
     rw[aK (x:=(j:Int)+1)];have e5:lj s++(s.kept.take (j+1)).flatMap ceB=(lj s++(s.kept.take j).flatMap ceB)++ceB s.kept[j]:=by
      rw[jQ (f:=ceB) n,V5]
     refine⟨⟨j+1,h8,c11,by omega,n,?_⟩,by dsimp only;omega⟩;rw[e5];exact h.o [2,3,4,5,6,7,8,9,10,11,12,13,14,15] 16
    .have l6:s.kept.length<=j:=by have:=Vx n;omega
     rw[VR l6]at h;refine⟨_,_,_,h.r 0,h.getO 2 rfl,?_⟩;have h:=h.setO 2 rfl (.deferred none);refine⟨h.getO 3 rfl,?_⟩;have h:=h.setO 3 rfl (.deferred none);refine k a c _ ?_;have h:=h.o [5,6,7,8,9,10,11,12,13,1,4] 14;have h:=cX.2 ⟨p,h⟩;exact h.o [1,2,0] 3
   .intro j D _ h;exact Vu (aA.consP h).1 id
  .intro H9 h;exact Vu (aA.consP h).1 id
 refine⟨_,h.rd 9 rfl _,⟨_,h.r 0,_,h.rd 9 rfl _,⟨_,h.r 0,_,h.rd 9 rfl _,⟨_,h.r 0,_,h.rd 9 rfl _,⟨_,h.r 0,_,Ma.Now_spec h 3 rfl,?_,?_⟩⟩⟩⟩⟩
 .refine h.al λb10 _ h=>⟨?_,?_⟩
  .refine pu (vs:=[s.now,s.boots,s.sunk,s.ms.now]) h (λH h=>h.ce_rd 0 rfl) (by simp) λa1 c1 H2 h=>⟨_,_,_,rfl,?_⟩
   refine h.al λb11 _ h=>?_
   refine h.st 0 rfl rfl ?_;intro H3 h;exact u _ _ _ _ (h.o [0,1,3,4,5,6,7,8,9,10,11,12,13] 14)
  .refine h.al λb12 _ h=>?_
   refine pu (vs:=[s.now,s.boots,s.sunk,s.ms.now]) h (λH h=>h.ce_rd 1 rfl) (by simp) λa1 c1 H2 h=>⟨_,_,_,rfl,?_⟩
   refine h.st 1 rfl rfl ?_;intro H3 h;exact u _ _ _ _ (h.o [1,0,3,4,5,6,7,8,9,10,11,12,13] 14)
 .refine h.al λb13 _ h=>⟨Ma.Now_spec h 4 rfl,h.r 1,h.r 10,h.r 1,h.r 10,h.r 1,h.r 10,h.r 1,h.r 10,?_⟩
  refine h.al λb14 _ h=>?_
  refine pu (vs:=[s.now,s.boots,s.sunk,s.ms.now]) h (λH h=>h.ce_rd 0 rfl) (by simp) λa1 c1 H2 h=>⟨_,_,_,rfl,?_⟩
  refine h.st 2 rfl rfl ?_;intro H3 h;exact u _ _ _ _ (h.o [2,0,3,4,5,6,7,8,9,10,11,12,13] 14)
end
def lk(hs:HS Pv)(s:RS):Except Int (HS Pv×RS):=match cH s with
 | .error e=>.error e
 | .ok (n,s1)=>match iZ s1 with
  | .error e=>.error e
  | .ok (ev,s2)=>if gT n [ev]=false then .error 10 else
   if 0<(hs.offer n [ev]).2.1.length\/0<(hs.offer n [ev]).2.2 then .error 10 else .ok ((hs.offer n [ev]).1,s2)
section
variable {F L:List aE}{H:aD}{K KP:KE}{Q Q':aE}{sb:Nat}{s:aI}
def WPost(rb hb:Nat)(Q:aE)(F:List aE)(K KP:KE):Except Int (HS Pv×RS)->Prop
 | .ok (hs,s)=>∀Q' H',aM Q Q'->s.e=0->aH s.bs->s.bs.length<=1099511627776->aA H' (Q'::crdA rb s::hldA Q' hb hs::F)->K (.tuple #[]) H'
 | .error e=>∀Q' H',e≠0->aM Q Q'->aA H' (Q'::F)->KP (pnV e) H'
theorem Ug{rb hb:Nat}{r:RS}{hs:HS Pv}(ok:hs.Ok)(hn:hs.next<=1125899906842624)(h:aA H (Q::crdA rb r::hldA Q hb hs::F))(hb0:aH r.bs)(J:r.bs.length<=1099511627776)
  (k:WPost rb hb Q F K KP (lk hs r)):CP 262 #[.agg #[PA rb 0],PA hb 0] H K KP:=by
 refine cNP 262 5208530270361417 [[],[],[(4,sI),(5,sA)]] ?_;refine h.al λb H0 h=>?_
 intro Z Y;unfold lk at k;have y:∀(n:Int) (i:aE) (ev:Ev) (s2:RS) N D,(match (if gT n [ev.p]=false then (.error 10:Except Int (HS Pv×RS)) else
    if 0<(hs.offer n [ev.p]).2.1.length\/0<(hs.offer n [ev.p]).2.2 then .error 10 else .ok ((hs.offer n [ev.p]).1,s2)) with|x=>WPost rb hb Q F K KP x)->aM Q i->io i ev->s2.e=0->aH s2.bs->s2.bs.length<=1099511627776->
   aA D (cellsA N (cw ev) 99::i::crdA rb s2::hldA Q hb hs::cellsA b [PA rb 0] 388::F)->Z n N 0 D:=by
  intro n i ev s2 N D k d f t s j h;dsimp only at k;refine Y _ _ _ _ ?_;refine⟨_,_,_,_,_,_,h.q 0,?_⟩;refine h.al λb1 _ h=>?_
  refine h.al λb2 _ h=>?_
  refine h.st 0 rfl rfl ?_;intro R h;refine⟨_,_,_,_,_,_,_,_,_,_,_,_,_,_,_,_,_,_,_,_,h.q 0,?_⟩;have I:flat cw [ev]=cw ev:=by simp[flat]
  refine Jo (evs:=[ev]) (a:=some ⟨b1,0,none⟩) (c:=1) h ⟨λH h=>by rw[I];exact h.ce_rd 1 rfl,λe m H h=>by
   rw[V6]at m;subst m;exact f.at h 3 rfl⟩ (by simp) λE h=>⟨_,rfl,?_⟩
  rw[wU];show ∀S:aD->Prop,_;intro S L;refine⟨λO=>?_,λO=>L _ ?_⟩
  .rw [Vt (by simpa using O)]at k;exact k i _ (by decide) d (h.o [3] 7)
  .have P:gT n [ev.p]=true:=by simpa using O
   rw[Vs (by rw[P];simp)]at k;refine⟨_,_,_,_,_,_,h.q 2,?_⟩;refine h.al λb3 _ h=>?_
   have h:=h.o [6,0,4,5] 8;have h:=A0 d h;refine Jy (items:=[ev]) h ok hn (λH h=>by rw[I];exact h.ce_rd 0 rfl) (λe m=>by rw[V6]at m;subst m;exact f) (by simp) λa2 c2 ready H4 B hl h=>⟨_,_,_,_,rfl,?_⟩
   have G:(hs.offer n ([ev].map Ev.p)).2.1.length=ready.length:=by rw[<-B,V8]
   intro W T;refine⟨λu=>?_,λu=>T _ ?_⟩
   .have u:0<(hs.offer n [ev.p]).2.1.length\/0<(hs.offer n [ev.p]).2.2:=by
     simp only[VE,Vy]at u
     rcases u with u|u
     .exact .inl (by have:(hs.offer n [ev.p]).2.1.length=ready.length:=G;omega)
     .exact .inr u
    rw[Vt u]at k;exact k i _ (by decide) d (h.o [3] 5)
   .have u:¬(0<(hs.offer n [ev.p]).2.1.length\/0<(hs.offer n [ev.p]).2.2):=by
     simp only[VB,V0]at u;rintro (U|U)
     .exact u.1 (by have:(hs.offer n [ev.p]).2.1.length=ready.length:=G;omega)
     .exact u.2 U
    rw[Vs u]at k;exact k i _ d t s j (h.o [3,4,1] 5)
 refine⟨_,h.q 0,_,h.q 0,?_,?_⟩
 .have h:=h.o [2,1,0,3] 4;refine ko h hb0 J ?_
  cases hr:cH r with
  | error e=>
   rw[hr]at k;exact λD m h=>k _ _ m (aM.refl Q) (h.o [0] 3)
  | ok q=>
  obtain⟨n,s1⟩:=q;rw[hr]at k;dsimp only at k;intro V M C A h;refine⟨_,rfl,h.q 2,?_,?_⟩
  .have h:=h.o [1,0,2,3] 4;refine wZ h C A ?_
   cases hr2:iZ s1 with
   | error e=>
    rw[hr2]at k;exact λi D m w h=>k _ _ m w (h.o [0] 3)
   | ok q=>
   obtain⟨pv,s2⟩:=q;rw[hr2]at k;dsimp only at k;intro i ev R d f v t s j h;subst v;refine⟨_,_,_,_,_,_,rfl,?_⟩;refine h.al λb4 _ h=>?_
   refine h.st 0 rfl rfl ?_;intro E h;exact y n i ev s2 b4 E k d f t s j (h.o [0,1,2,4,3] 5)
  .refine h.al λb5 _ h=>⟨h.q 3,?_⟩
   have h:=h.o [2,1,0,3,4] 5;refine wZ h C A ?_
   cases hr2:iZ s1 with
   | error e=>
    rw[hr2]at k;exact λi D m w h=>k _ _ m w (h.o [0] 4)
   | ok q=>
   obtain⟨pv,s2⟩:=q;rw[hr2]at k;dsimp only at k;intro i ev R d f v t s j h;subst v;refine⟨_,_,_,_,_,_,rfl,?_⟩;refine h.st 2 rfl rfl ?_;intro E h;exact y n i ev s2 b5 E k d f t s j (h.o [2,0,1,4,3] 5)
 .refine h.al λb6 _ h=>⟨h.q 1,h.q 1,?_⟩
  have h:=h.o [3,2,0,1,4] 5;refine ko h hb0 J ?_
  cases hr:cH r with
  | error e=>
   rw[hr]at k;exact λD m h=>k _ _ m (aM.refl Q) (h.o [0] 4)
  | ok q=>
  obtain⟨n,s1⟩:=q;rw[hr]at k;dsimp only at k;intro V M C A h;refine⟨_,rfl,h.q 3,?_⟩;have h:=h.o [1,0,2,3,4] 5;refine wZ h C A ?_
  cases hr2:iZ s1 with
  | error e=>
   rw[hr2]at k;exact λi D m w h=>k _ _ m w (h.o [0] 4)
  | ok q=>
  obtain⟨pv,s2⟩:=q;rw[hr2]at k;dsimp only at k;intro i ev R d f v t s j h;subst v;refine⟨_,_,_,_,_,_,rfl,?_⟩;refine h.st 2 rfl rfl ?_;intro E h;exact y n i ev s2 b6 E k d f t s j (h.o [2,0,1,4,3] 5)
end
def jc:Rd Ot:=λs=>match gj s with
 | .error e=>.error e
 | .ok (w,s1)=>
  if (aZ (aZ s1.bs.length s1).2.bs.length (aZ s1.bs.length s1).2).2.e≠0 then .error (aZ (aZ s1.bs.length s1).2.bs.length (aZ s1.bs.length s1).2).2.e else
  if (!(im (bF (aZ s1.bs.length s1).1)).2.2 || !inM w 0 4611686018427387903)=true then .error 10 else
  if (ku (aZ (aZ s1.bs.length s1).2.bs.length (aZ s1.bs.length s1).2).1).2≠0 then .error (ku (aZ (aZ s1.bs.length s1).2.bs.length (aZ s1.bs.length s1).2).1).2 else
  .ok ((⟨w,bF (aZ s1.bs.length s1).1⟩,(ku (aZ (aZ s1.bs.length s1).2.bs.length (aZ s1.bs.length s1).2).1).1),(aZ (aZ s1.bs.length s1).2.bs.length (aZ s1.bs.length s1).2).2)
theorem ip{α:Type}{s a:RS}{x y:α}(h:okR s x=.ok (y,a)):a=s/\y=x/\s.e=0:=by
 unfold okR at h
 split at h
 .cases h
 .rename_i h0
  cases h
  exact⟨rfl,rfl,by simpa using h0⟩
theorem uI{s a:RS}{w:Int}(h:gj s=.ok (w,a)):a.bs.length<=s.bs.length:=by
 rw[(ip h).1];exact jR s
theorem gl{s a:RS}{w:Int}(h:cH s=.ok (w,a)):a.bs.length<=s.bs.length:=by
 rw[(ip h).1];exact jR s
theorem uJ{s a:RS}{w:Int}(h:ei s=.ok (w,a)):a.bs.length<=s.bs.length:=by
 rw[(ip h).1];exact jR s
theorem sH{s a:RS}{m w:Int}(h:dO m s=.ok (w,a)):a.bs.length<=s.bs.length:=by
 rw[(ip h).1];exact rR s m
theorem sJ{s a:RS}{m w:Int}(h:upR m s=.ok (w,a)):a.bs.length<=s.bs.length:=by
 unfold upR at h
 cases e:cH s with
 | error e'=>rw[e]at h;cases h
 | ok q=>
  obtain⟨v,s1⟩:=q;rw[e]at h;dsimp only at h
  split at h
  .cases h;exact gl e
  .cases h
section
variable {F L:List aE}{H:aD}{K KP:KE}{Q Q':aE}{sb:Nat}{s:aI}
theorem La{rb:Nat}{r:RS}(h:aA H (crdA rb r::F))(hb0:aH r.bs)(L:r.bs.length<=1000000000)
  (k:sk rb F (λo:Ot=>.tuple #[aggK o.1,aggC o.2]) K KP (jc r)):CP 205 #[.agg #[PA rb 0]] H K KP:=by
 refine cNP 205 5208464183038236 [[],[(4,sA)]] ?_;refine h.al λb _ h=>?_
 refine h.al λb1 _ h=>?_
 refine h.al λb2 H0 h=>?_
 intro O N;unfold jc at k;have d:∀(w:Int) (s1:RS) x t,gj r=.ok (w,s1)->aH s1.bs->s1.bs.length<=1099511627776->
   aA t (crdA rb (aZ s1.bs.length s1).2::cellsA x [aC w,.string (bF (aZ s1.bs.length s1).1)] 154::cellsA b2 (dx Cl.z) 161::cellsA b1 [aC 0,.string ⟨#[]⟩] 154::cellsA b [PA rb 0] 388::F)->O x 0 t:=by
  intro w s1 x C s a c h;have E:=uI s;rw[s]at k;dsimp only at k;have n:=lJ (m:=s1.bs.length) a;have G:=mC s1 s1.bs.length;generalize aZ s1.bs.length s1=T1 at *;refine N _ _ _ ?_;refine⟨_,h.r 4,_,h.r 4,_,oU h,?_⟩;refine nK (most:=T1.2.bs.length) h n.1 (by omega) (by unfold aF;omega) λy h=>⟨_,rfl,_,h.r 4,_,mA h,?_⟩
  have i:=lJ (m:=T1.2.bs.length) n.1;have D:=mC T1.2 T1.2.bs.length;generalize aZ T1.2.bs.length T1.2=T2 at *;refine j8 (λf=>⟨rfl,_,h.r 1,?_⟩) λf=>?_
  .rw [Vs (by simpa using f)]at k;have I:=nQ T1.1;refine Ji (by omega) h λla lc j h=>⟨_,_,_,_,_,rfl,?_⟩
   generalize (im (bF T1.1))=P at *;refine h.al λb3 _ h=>?_
   refine h.st 0 rfl rfl ?_;intro V h;refine⟨_,λ_=>h.r 3,_,λ_=>ow,?_⟩
   intro M u;refine⟨λA=>?_,λA=>u _ ?_⟩
   .rw [Vt A]at k;exact k _ (by decide) (h.o [] 7)
   .rw [Vs (by rw[A];simp)]at k;refine wo i.2 h λa3 c3 T h=>⟨_,_,_,rfl,?_⟩
    refine Tm rfl i.2 h (λH h=>h.sl_rd 0 rfl) (by omega) λU h=>⟨_,_,_,_,_,_,_,_,_,rfl,?_⟩
    have J:=ku T2.1;generalize ku T2.1=B at *;refine h.al λb4 _ h=>?_
    refine h.sta 0 rfl rfl λR h=>?_
    refine j8 (λhb=>⟨rfl,?_⟩) λhb=>?_
    .rw [Vs (by simpa using hb)]at k;refine⟨_,_,h.q 5,_,_,_,_,_,_,_,_,h.rda 0 rfl,?_⟩;refine h.st 7 rfl rfl ?_;intro S h;refine⟨h.rda 0 rfl,?_⟩;refine h.sta 6 rfl rfl λQ h=>?_
     refine⟨_,_,h.q 7,_,_,_,_,_,_,_,_,h.rda 6 rfl,?_⟩;exact k _ f i.1 (by omega) (h.o [4] 9)
    .rw [Vt hb]at k;exact k _ hb (h.o [] 9)
  .rw [Vt f]at k;exact k _ f (h.o [] 5)
 refine⟨_,h.q 2,_,h.r 2,_,h.r 2,?_,?_⟩
 .have h:=h.o [3,0,1,2] 4;refine ur h hb0 (by omega) ?_
  cases hr:gj r with
  | error e=>
   rw[hr]at k;exact λt f h=>k _ f (h.o [] 3)
  | ok q=>
  obtain⟨w,s1⟩:=q;intro C v a c h;refine⟨_,rfl,h.r 3,h.r 3,_,oU h,?_,?_⟩
  .refine nK (most:=s1.bs.length) h a c (by unfold aF;omega) λy h=>⟨_,rfl,?_⟩
   refine h.al λb5 _ h=>?_
   refine h.st 0 rfl rfl ?_;intro j h;exact d w s1 b5 j hr a c (h.o [1,0,2,3,4] 5)
  .refine h.al λb6 _ h=>⟨oU (h.o [1] 2),h.r 4,h.r 4,?_⟩
   have h:=h.o [1,0,2,3,4] 5;refine nK (most:=s1.bs.length) h a c (by unfold aF;omega) λy h=>⟨_,rfl,?_⟩
   refine h.st 1 rfl rfl ?_;intro j h;exact d w s1 b6 j hr a c h
 .refine h.al λb7 _ h=>⟨h.r 3,h.r 3,h.q 3,?_⟩
  have h:=h.o [4,0,1,2,3] 5;refine ur h hb0 (by omega) ?_
  cases hr:gj r with
  | error e=>
   rw[hr]at k;exact λt f h=>k _ f (h.o [] 4)
  | ok q=>
  obtain⟨w,s1⟩:=q;intro C v a c h;refine⟨_,rfl,h.r 4,h.r 4,_,oU h,?_⟩;refine nK (most:=s1.bs.length) h a c (by unfold aF;omega) λy h=>⟨_,rfl,?_⟩
  refine h.st 1 rfl rfl ?_;intro j h;exact d w s1 b7 j hr a c h
end
def smpR:Rd bQ:=λs=>match cH s with
 | .error e=>.error e
 | .ok (a,s1)=>match cH s1 with
  | .error e=>.error e
  | .ok (b,s2)=>match cH s2 with
   | .error e=>.error e
   | .ok (c,s3)=>match cH s3 with
    | .error e=>.error e
    | .ok (d,s4)=>.ok (⟨a,b,c,d⟩,s4)
def jr:Nat->Rd (List bQ)
 | 0,s=>.ok ([],s)
 | n+1,s=>match jr n s with
  | .error e=>.error e
  | .ok (l,s1)=>match smpR s1 with
   | .error e=>.error e
   | .ok (x,s2)=>.ok (l++[x],s2)
def iG(hs:HS Pv):Nat->RS->Except Int (HS Pv×RS)
 | 0,s=>.ok (hs,s)
 | n+1,s=>match iG hs n s with
  | .error e=>.error e
  | .ok (h,s1)=>lk h s1
theorem Lb:∀{n:Nat} {s:RS} {vs:List bQ} {a:RS},jr n s=.ok (vs,a)->vs.length=n
 | 0,s,vs,a,h=>by cases h;rfl
 | n+1,s,vs,a,h=>by
  unfold jr at h
  split at h
  .cases h
  .rename_i c s1 b
   split at h
   .cases h
   .cases h
    rw[Vv,Lb b];rfl
theorem Lc{s:RS}{e:Int}:∀{n j:Nat},jr j s=.error e->j<=n->jr n s=.error e
 | 0,j,h,hj=>by
  obtain rfl:j=0:=by omega
  exact h
 | n+1,j,h,hj=>by
  rcases VO n j with a|a
  .obtain rfl:j=n+1:=by omega
   exact h
  .unfold jr;rw[Lc h a]
theorem Ld{hs:HS Pv}{s:RS}{e:Int}:∀{n j:Nat},iG hs j s=.error e->j<=n->iG hs n s=.error e
 | 0,j,h,hj=>by
  obtain rfl:j=0:=by omega
  exact h
 | n+1,j,h,hj=>by
  rcases VO n j with a|a
  .obtain rfl:j=n+1:=by omega
   exact h
  .unfold iG;rw[Ld h a]
def oD(c:bD)(last:Int)(hd:Bool)(streak:Int)(l:List bQ):Rd br:=λs5=>
 if ¬(l.length<=8/\0<=streak/\∀x∈l,x.ok) then .error 10 else match cH s5 with
  | .error e=>.error e
  | .ok (next,s6)=>if next<0\/1099511627776<next then .error 11 else match dO 256 s6 with
   | .error e=>.error e
   | .ok (m,s7)=>match iG ⟨next,c.hold,[]⟩ m.toNat s7 with
    | .error e=>.error e
    | .ok (hs,s8)=>.ok (⟨⟨c.rho,c.trust,hd,streak,l⟩,hs,last⟩,s8)
def nW(c:bD)(last:Int):Rd br:=λs1=>match ei s1 with
 | .error e=>.error e
 | .ok (hd,s2)=>match cH s2 with
  | .error e=>.error e
  | .ok (streak,s3)=>match dO 8 s3 with
   | .error e=>.error e
   | .ok (n,s4)=>match jr n.toNat s4 with
    | .error e=>.error e
    | .ok (l,s5)=>oD c last (decide (hd=1)) streak l s5
def mZ(c:bD):Rd br:=λs=>match gj s with
 | .error e=>.error e
 | .ok (last,s1)=>if inM last (-1) 4611686018427387903=false then .error 10 else nW c last s1
theorem Uh{s c:RS}{e:Pv}(h:iZ s=.ok (e,c)):aF e.value:=by
 unfold iZ at h
 cases h1:cH s with
 | error e'=>rw[h1]at h;cases h
 | ok q=>
  obtain⟨a,s1⟩:=q;rw[h1]at h;dsimp only at h
  cases h2:gj s1 with
  | error e'=>rw[h2]at h;cases h
  | ok q=>
   obtain⟨b,s2⟩:=q;rw[h2]at h;dsimp only at h;rw[(ip h).2.1];show aF b;rw[(ip h2).2.1];exact rP _
structure qP(m:Int)(hs:HS Pv):Prop where
 ok:hs.Ok
 most:hs.most=m
 next:hs.next<=1099511627776
 rows:∀p∈hs.rows,p.1<1099511627776/\gS p.2=true/\aF p.2.value
theorem Ui{m:Int}{hs b:HS Pv}{s e:RS}(g:qP m hs)(h:lk hs s=.ok (b,e)):qP m b:=by
 unfold lk at h
 cases h1:cH s with
 | error e'=>rw[h1]at h;cases h
 | ok q=>
  obtain⟨n,s1⟩:=q;rw[h1]at h;dsimp only at h
  cases h2:iZ s1 with
  | error e'=>rw[h2]at h;cases h
  | ok q=>
   obtain⟨ev,s2⟩:=q;rw[h2]at h;dsimp only at h
   split at h
   .cases h
   rename_i hb
   split at h
   .cases h
   cases h
   have hb:gT n [ev]=true:=by simpa using hb
   unfold gT at hb;simp only[Vz,Vy,Wg,V1,VN]at hb;have d:=HS.offer_ok g.ok n [ev];have a:=Kq (s:=hs) (first:=n) (B:=1099511627776) (items:=[ev]) g.next (λp c=>(g.rows p c).1) (by simp only[V1,VN];omega)
   refine⟨d.1,d.2.2.2.trans g.most,a.1,λp c=>⟨a.2 p c,?_⟩⟩
   rcases (un (s:=hs) (first:=n) (items:=[ev])).2 p c with h|h
   .rw [V6]at h;rw[h];exact⟨hb.2.2 ev (V6.2 rfl),Uh h2⟩
   .exact (g.rows p h).2
theorem Bo{m:Int}{hs:HS Pv}{s:RS}(g:qP m hs):∀{n:Nat} {a:HS Pv} {b:RS},iG hs n s=.ok (a,b)->qP m a
 | 0,a,b,h=>by cases h;exact g
 | n+1,a,b,h=>by
  unfold iG at h
  split at h
  .cases h
  .rename_i c;exact Ui (Bo g c) h
def bitF(v m:Int):Bool:=!decide (aY .and .u64 v m=0)
def flR(c:bD)(t:Int):Rd (Fl×br):=λs=>match ei s with
 | .error e=>.error e
 | .ok (v,s1)=>match mZ c s1 with
  | .error e=>.error e
  | .ok (st,s2)=>.ok ((⟨t,bitF v 1,bitF v 2,bitF v 4⟩,st),s2)
section
variable {F L:List aE}{H:aD}{K KP:KE}{Q Q':aE}{sb:Nat}{s:aI}
def APost(rb sb tm:Nat)(cs:Os)(sts:List (Option br))(a:Nat)(Q:aE)(F:List aE)(K KP:KE):Except Int ((Fl×br)×RS)->Prop
 | .ok (x,s)=>∀Q' H',aM Q Q'->s.e=0->aH s.bs->s.bs.length<=1099511627776->aA H' (Q'::crdA rb s::cellsA sb cs 145::strmA Q' tm (sts.set a (some x.2))::F)->K (mO x.1) H'
 | .error e=>∀Q' H',e≠0->aM Q Q'->aA H' (Q'::F)->KP (pnV e) H'
theorem xB:∀{bl:List (Option Nat)} {sts:List (Option br)} {k:Nat} {F:List aE},aA H (strsA Q bl sts::F)->aA H (strsA Q (bl.set k none) (sts.set k none)::F)
 | [],_,_,_,h=>h
 | none::_,[],0,_,h=>h
 | some _::_,[],0,_,h=>h
 | none::_,[],_+1,_,h=>h
 | some _::_,[],_+1,_,h=>h
 | none::bs,y::ss,0,_,h=>h
 | some x::bs,none::ss,0,_,h=>h
 | some x::bs,some y::ss,0,_,h=>(pE.1 h).tl
 | none::bs,y::ss,k+1,_,h=>xB (bl:=bs) (sts:=ss) (k:=k) h
 | some x::bs,none::ss,k+1,_,h=>xB (bl:=bs) (sts:=ss) (k:=k) h
 | some x::bs,some y::ss,k+1,_,h=>by
  have h:=pE.1 h;have h:=h.o [1,0] 2;have h:=xB (bl:=bs) (sts:=ss) (k:=k) h;have h:=h.o [1,0] 2;exact pE.2 h
theorem Uj{rb b b1 fb A tm cb hb:Nat}{a:Nat}{cs:Os}{sts:List (Option br)}{fl:Fl}{ck:Ck}{last m:Int}{r:RS}{hs:HS Pv}{P:Except Int ((Fl×br)×RS)}
  (g:qP hs.most hs) (ha:a<sts.length) (S:aT cs 18=some (.map (some tm))) (hm:0<=m/\m<=256) (hb0:aH r.bs) (O:r.bs.length<=1099511627776) (N:r.e=0)
  (W:P=match iG hs m.toNat r with|.error e=>.error e|.ok (h,s8)=>.ok ((fl,⟨ck,h,last⟩),s8))
  (k:APost rb sb tm cs sts a Q F K KP P)
  (h:aA H (Q::crdA rb r::hldA Q hb hs::cellsA A [PA cb 0,PA hb 0,aC last] 173::ckA cb ck::cellsA fb (encF fl) 185::cellsA b1 [aC 0,.bool false,.bool false,.bool false] 185::cellsA b [PA rb 0] 388::cellsA sb cs 145::strmA Q tm sts::F)) :
  ∃(f:Int->aD->Prop) (J:Int->aD->Nat),f 0 H/\
   ∀(s:Int),∀t:aD,f s t->lG.l1 sb 0 (a:Int) K KP b b1 fb 0 (some ⟨A,0,none⟩) (some ⟨hb,0,none⟩) m f J s t:=by
 refine⟨λi D=>∃(j:Nat) (w:aE) (d:HS Pv) (s1:RS),i=j/\(j:Int)<=m/\aM Q w/\iG hs j r=.ok (d,s1)/\s1.e=0/\aH s1.bs/\s1.bs.length<=1099511627776/\
  aA D (w::crdA rb s1::hldA w hb d::cellsA A [PA cb 0,PA hb 0,aC last] 173::ckA cb ck::cellsA fb (encF fl) 185::cellsA b1 [aC 0,.bool false,.bool false,.bool false] 185::cellsA b [PA rb 0] 388::cellsA sb cs 145::strmA Q tm sts::F),
  λi _=>m.toNat-i.toNat,⟨0,Q,hs,r,rfl,hm.1,aM.refl Q,rfl,N,hb0,O,h⟩,?_⟩
 rintro i H1 ⟨j,w,d,s1,rfl,hj,c,E,I,B,y,h⟩;unfold lG.l1;have g1:=Bo g E;refine⟨λC=>?_,λC=>?_⟩
 .have C:=Vw C;refine⟨_,h.q 7,?_⟩;have h0:=g1.next;refine Ug g1.ok (by omega) h B y ?_;have n:iG hs (j+1) r=lk d s1:=by
   rw[iG,E]
  cases hr:lk d s1 with
  | error e=>
   rw[hr]at n;rw[W,Ld n (by omega)]at k;exact λL D Z u h=>k L D Z (c.trans u) (h.o [0] 8)
  | ok q=>
  obtain⟨u,s2⟩:=q;rw[hr]at n;intro L D G V U M h;refine⟨rfl,?_⟩;rw[aK (x:=(j:Int)+1)];exact⟨⟨j+1,L,u,s2,by omega,by omega,c.trans G,n,V,U,M,h⟩,by dsimp only;omega⟩
 .have Y:=Vx C;have R:j=m.toNat:=by omega
  subst R;rw[W,E]at k;refine⟨_,(h.r 8).trans S,?_⟩;have h:=h.o [9,0,1,2,3,4,5,6,7,8] 10;have h:=Ki c h;obtain⟨bl,T,h⟩:=lf.1 h;refine h.mp_update (α:=Option Nat) (v:=some A) (x:=((a:Nat):Int)) qI ko2 0 rfl λH2 h=>?_
  refine⟨_,_,_,_,h.q 7,?_⟩;refine h.st 8 rfl rfl ?_;intro H3 h;refine⟨_,_,_,_,h.q 8,?_⟩;refine k w _ c I B y ?_;have h:=h.o [1,0,2,3,4,5,6,10] 11;have h:=xB (k:=a) h;have h:=h.o [5,6,4,1,0,2,3,7] 8;have h:aA H3 (strA w A ⟨ck,d,last⟩::_):=gV.2 ⟨cb,hb,h⟩;have h:=h.o [1,0,2,3,4,5] 6;have h:=Kl T ha h;exact h.o [1,2,3,0] 4
def withFl(fl:Fl):Except Int (br×RS)->Except Int ((Fl×br)×RS)
 | .error e=>.error e
 | .ok (st,s)=>.ok ((fl,st),s)
theorem Uk{rb b b1 fb s tm cb hb0:Nat}{a:Nat}{cs:Os}{sts:List (Option br)}{fl:Fl}{ck0:Ck}{c:bD}{last streak:Int}{hd:Bool}{l:List bQ}{la:KQ}{lc:Nat}{r:RS}
  (ok:jC c) (M:ck0.rho=c.rho) (h7:ck0.least=c.trust) (ha:a<sts.length) (h9:aT cs 18=some (.map (some tm))) (h8:aT cs 8=some (aC c.hold)) (h0:aH r.bs) (h1:r.bs.length<=1099511627776)
  (k:APost rb sb tm cs sts a Q F K KP (withFl fl (oD c last hd streak l r)))
  (h:aA H (ckA cb ck0::slA 58 4 la l.length lc (flat eX l)::Q::crdA rb r::cellsA s [PA cb 0,PA hb0 0,aC last] 173::cellsA fb (encF fl) 185::cellsA b1 [aC 0,.bool false,.bool false,.bool false] 185::cellsA b [PA rb 0] 388::cellsA sb cs 145::strmA Q tm sts::F)) :
  NN (some ⟨s,0,none⟩) (
 ∃v2,aL H (aU (some ⟨s,0,none⟩)) (aS (some ⟨s,0,none⟩))=some (.pointer v2)/\
 CF 261 #[(.pointer v2),(.bool hd),(aC streak),(.slice la l.length lc)] H λj2 L=>∃C,j2=(aC C)/\
 CP 203 #[(aC C)] L (λW f=>W=(.tuple #[])/\
 ∃S,bE f b 0 [(.pointer S)]/\
 ∃v3,aL f sb (0+8)=some (aC v3)/\
 CP 201 #[(.agg #[(.pointer S)])] f (λY t=>∃O,Y=(aC O)/\
 aL t sb (0+8)=some (aC v3)/\
 CF 185 #[(aC O),(aC v3)] t λj3 w=>∃v D,j3=(.tuple #[(.pointer v),(aC D)])/\
 CP 203 #[(aC D)] w (λZ G=>Z=(.tuple #[])/\
 NN (some ⟨s,0,none⟩) (
 ST G (aU (some ⟨s,0,none⟩)) ((aS (some ⟨s,0,none⟩))+1) [(.pointer v)] λj=>
 ∃E,bE j b 0 [(.pointer E)]/\
 CP 200 #[(.agg #[(.pointer E)]),(aC 256)] j (λh5 N=>∃B,h5=(aC B)/\
 ∃(d:Int->aD->Prop) (h4:Int->aD->Nat),d 0 N/\
 ∀(n:Int),∀u:aD,d n u->lG.l1 sb 0 (a:Int) K KP b b1 fb 0 (some ⟨s,0,none⟩) v B d h4 n u) (λ(U:Value) (T:aD)=>
 KP U T))) (λ(A:Value) (y:aD)=>
 KP A y)) (λ(x:Value) (J:aD)=>
 KP x J)) (λ(P:Value) (I:aD)=>
 KP P I)):=by
 unfold oD at k;refine cZ ⟨_,h.rd 4 rfl 0,?_⟩;refine Re (held:=hd) (streak:=streak) h (λH h=>h.sl_rd 0 rfl) (λhn H1 h=>⟨_,rfl,?_⟩) λR H1 h=>⟨_,rfl,?_⟩
 .rw [Vt hn]at k;exact j8 (λe=>Vu e (by decide)) λe=>k Q _ (by decide) (aM.refl Q) (h.o [2] 10)
 rw[Vs (not_not_intro R)]at k;refine j8 (λ_=>⟨rfl,_,h.q 7,_,(h.r 8).trans h8,?_⟩) λe=>Vu rfl e
 have h:=h.o [3,0,2,4,5,6,7,8,9] 10;refine ko h h0 h1 ?_
 cases hr:cH r with
 | error e=>
  rw[hr]at k;exact λH' he h=>k Q _ he (aM.refl Q) (h.o [1] 8)
 | ok q=>
 obtain⟨next,s6⟩:=q;rw[hr]at k;dsimp only at k;intro H2 l0 h2 h6 h;refine⟨_,rfl,(h.r 7).trans h8,?_⟩;refine A7 (Q:=Q) h (λhn=>⟨_,_,rfl,?_⟩) λhb H3 i h=>⟨_,_,rfl,?_⟩
 .have hh:=ok.hd;rw[pO]at k;exact j8 (λe=>Vu e (by decide)) λe=>k Q _ (by decide) (aM.refl Q) (h.o [2] 9)
 rw[nO]at k;refine j8 (λ_=>⟨rfl,cZ ?_⟩) λe=>Vu rfl e
 refine h.st 4 rfl rfl ?_;intro H4 h;refine⟨_,h.q 7,?_⟩;have h:=h.o [1,0,2,3,4,5,6,7,8,9] 10;refine ut (by unfold aF;decide) h h2 h6 ?_
 cases hr2:dO 256 s6 with
 | error e=>
  rw[hr2]at k;exact λH' he h=>k Q _ he (aM.refl Q) (h.o [2] 9)
 | ok q=>
 obtain⟨m,s7⟩:=q;rw[hr2]at k;dsimp only at k;have hm:0<=m/\m<=256:=by
  rw[(ip hr2).2.1];unfold bY
  split
  .dsimp only;omega
  .split
   .split
    .dsimp only;omega
    .dsimp only;omega
   .dsimp only;omega
   .dsimp only;omega
 intro H5 j1 h3 V h;refine⟨_,rfl,?_⟩;have hg:qP c.hold (⟨next,c.hold,[]⟩:HS Pv):=⟨⟨i.1,i.2.2.1,i.2.2.2,⟨by simp[gJ],λp R=>Vu R (by simp)⟩⟩,rfl,i.2.1,λp R=>Vu R (by simp)⟩
 refine Uj (fl:=fl) (r:=s7) (m:=m) (hs:=⟨next,c.hold,[]⟩) (ck:=⟨c.rho,c.trust,hd,streak,l⟩) (last:=last) (cb:=cb) hg ha h9 hm h3 V j1 ?_ k ?_
 .cases iG ⟨next,c.hold,[]⟩ m.toNat s7 with
  | error e=>rfl
  | ok q=>rfl
 .have h:=h.o [3,0,1,4,2,5,6,7,8,9] 10;rw[M,h7]at h;exact h
end
section
variable {F L:List aE}{H:aD}{K KP:KE}{Q Q':aE}{sb:Nat}{s:aI}
theorem Ul{rb b b1 fb R tm cb hb0:Nat}{a:Nat}{cs:Os}{sts:List (Option br)}{fl:Fl}{ck0:Ck}{c:bD}{last:Int}{r:RS}
  (ok:jC c) (v:ck0.rho=c.rho) (W:ck0.least=c.trust) (ha:a<sts.length) (Y:aT cs 18=some (.map (some tm))) (h8:aT cs 8=some (aC c.hold)) (L:aH r.bs) (N:r.bs.length<=1099511627776)
  (k:APost rb sb tm cs sts a Q F K KP (withFl fl (nW c last r)))
  (h:aA H (crdA rb r::ckA cb ck0::Q::cellsA R [PA cb 0,PA hb0 0,aC last] 173::cellsA fb (encF fl) 185::cellsA b1 [aC 0,.bool false,.bool false,.bool false] 185::cellsA b [PA rb 0] 388::cellsA sb cs 145::strmA Q tm sts::F)) :
  lG.r3 sb 0 (a:Int) K KP b b1 fb 0 (some ⟨R,0,none⟩) H:=by
 unfold nW at k;unfold lG.r3;refine⟨_,h.q 6,_,h.q 6,?_⟩;refine uq h L N ?_
 cases hr:ei r with
 | error e=>
  rw[hr]at k;exact λs f h=>k Q _ f (aM.refl Q) (h.o [1] 8)
 | ok q=>
 obtain⟨hd,s2⟩:=q;rw[hr]at k;dsimp only at k;intro H1 j1 Z S h;refine⟨_,rfl,h.q 6,?_⟩;refine ko h Z S ?_
 cases hr2:cH s2 with
 | error e=>
  rw[hr2]at k;exact λs f h=>k Q _ f (aM.refl Q) (h.o [1] 8)
 | ok q=>
 obtain⟨streak,s3⟩:=q;rw[hr2]at k;dsimp only at k;intro H2 h3 I B h;refine⟨_,rfl,_,h.q 6,?_⟩;refine ut (by unfold aF;decide) h I B ?_
 cases hr3:dO 8 s3 with
 | error e=>
  rw[hr3]at k;exact λs f h=>k Q _ f (aM.refl Q) (h.o [1] 8)
 | ok q=>
 obtain⟨n,s4⟩:=q;rw[hr3]at k;dsimp only at k;have D:0<=n/\n<=8:=by
  rw[(ip hr3).2.1];exact IZ s3
 intro H3 h1 M G h;refine⟨_,rfl,?_⟩;refine⟨λla ln lc i s=>∃(j:Nat) (l:List bQ) (s5:RS),i=j/\(j:Int)<=n/\ln=l.length/\jr j s4=.ok (l,s5)/\aH s5.bs/\s5.bs.length<=1099511627776/\
  aA s (ckA cb ck0::slA 58 4 la l.length lc (flat eX l)::Q::crdA rb s5::cellsA R [PA cb 0,PA hb0 0,aC last] 173::cellsA fb (encF fl) 185::cellsA b1 [aC 0,.bool false,.bool false,.bool false] 185::cellsA b [PA rb 0] 388::cellsA sb cs 145::strmA Q tm sts::F),
  λ_ _ _ i _=>n.toNat-i.toNat,⟨0,[],s4,rfl,D.1,rfl,rfl,M,G,(h.sl_nil 58 4).o [2,0,3,1,4,5,6,7,8,9] 10⟩,?_⟩
 rintro la ln lc i H4 ⟨j,l,s5,rfl,hj,rfl,t,w,u,h⟩;have h4:=Lb t;refine⟨λy=>?_,λy=>?_⟩
 .have y:=Vw y;have d:jr (j+1) s4=match smpR s5 with|.error e=>.error e|.ok (x,s2)=>.ok (l++[x],s2):=by
   rw[jr,t] <;> rfl
  have bad:∀e Q' s,smpR s5=.error e->e≠0->aM Q Q'->aA s (Q'::F)->KP (pnV e) s:=by
   intro e Q' s A f hs h;rw[A]at d;rw[Lc d (by omega)]at k;exact k Q' s f hs h
  unfold smpR at bad d;refine⟨_,h.q 7,_,h.q 7,_,h.q 7,_,h.q 7,?_⟩;have h:=h.o [3,0,1,2,4,5,6,7,8,9] 10;refine ko h w u ?_
  cases q1:cH s5 with
  | error e=>
   rw[q1]at bad;exact λs f h=>bad _ Q _ rfl f (aM.refl Q) (h.o [2] 9)
  | ok q=>
  obtain⟨x1,s6⟩:=q;rw[q1]at bad d;dsimp only at bad d;intro H5 h7 O V h;refine⟨_,rfl,h.q 7,h.q 7,h.q 7,?_⟩;refine ko h O V ?_
  cases q2:cH s6 with
  | error e=>
   rw[q2]at bad;exact λs f h=>bad _ Q _ rfl f (aM.refl Q) (h.o [2] 9)
  | ok q=>
  obtain⟨x2,s7⟩:=q;rw[q2]at bad d;dsimp only at bad d;intro H6 h9 P C h;refine⟨_,rfl,h.q 7,h.q 7,?_⟩;refine ko h P C ?_
  cases q3:cH s7 with
  | error e=>
   rw[q3]at bad;exact λs f h=>bad _ Q _ rfl f (aM.refl Q) (h.o [2] 9)
  | ok q=>
  obtain⟨x3,s8⟩:=q;rw[q3]at bad d;dsimp only at bad d;intro H7 h6 J U h;refine⟨_,rfl,h.q 7,?_⟩;refine ko h J U ?_
  cases q4:cH s8 with
  | error e=>
   rw[q4]at bad;exact λs f h=>bad _ Q _ rfl f (aM.refl Q) (h.o [2] 9)
  | ok q=>
  obtain⟨x4,s9⟩:=q;rw[q4]at bad d;dsimp only at bad d;intro H8 h2 E T h;refine⟨_,rfl,?_⟩;refine h.al λb2 _ h=>?_
  refine h.append (m:=1) (ws:=eX ⟨x1,x2,x3,x4⟩) ud 3 rfl (h.ce_rd 0 rfl) rfl (zV _) (by omega) (by omega) λa5 c5 H9 h=>⟨_,_,_,rfl,?_⟩
  rw[aK (x:=(j:Int)+1)];refine⟨⟨j+1,l++[⟨x1,x2,x3,x4⟩],s9,by omega,by omega,by rw[Vv];rfl,d,E,T,?_⟩,by dsimp only;omega⟩;have e:flat eX (l++[⟨x1,x2,x3,x4⟩])=flat eX l++eX ⟨x1,x2,x3,x4⟩:=by rw[dS];simp[flat]
  rw[e,Vv];exact h.o [2,3,4,1,5,6,7,8,9,10] 11
 .have h5:=Vx y;have h0:j=n.toNat:=by omega
  subst h0;rw[t]at k;dsimp only at k;exact Uk (fl:=fl) (ck0:=ck0) (hb0:=hb0) ok v W ha Y h8 w u k h
end
def kJ(s:aI)(a:Int):Rd (List En×Fl×br):=λr=>match cH r with
 | .error e=>.error e
 | .ok (ep,s1)=>match cH s1 with
  | .error e=>.error e
  | .ok (bt,s2)=>match cH s2 with
   | .error e=>.error e
   | .ok (tm,s3)=>if (gC s.cfg.agents s.rows a ⟨ep,bt,tm⟩).2≠0 then .error (gC s.cfg.agents s.rows a ⟨ep,bt,tm⟩).2 else match upR s.now s3 with
    | .error e=>.error e
    | .ok (t,s4)=>match flR s.cfg t s4 with
     | .error e=>.error e
     | .ok (x,s5)=>.ok (((gC s.cfg.agents s.rows a ⟨ep,bt,tm⟩).1,x.1,x.2),s5)
theorem Le{most:Int}{rows:List En}{a:Int}{e:En}(h:(gC most rows a e).2=0):0<=a/\a<=63/\1<=e.epoch/\(gC most rows a e).1=rows.set a.toNat e/\¬0<(bg rows a).epoch:=by
 unfold gC at h ⊢
 split at h
 .simp at h
 rename_i b;rw[Vs b]
 split at h
 .simp at h
 rename_i c;rw[Vs c]
 split at h
 .simp at h
 rename_i d;rw[Vs d];unfold bad at b;exact⟨by omega,by omega,by omega,rfl,c⟩
section
variable {F L:List aE}{H:aD}{K KP:KE}{Q Q':aE}{sb:Nat}{s:aI}
theorem Um{rb b b1 fb:Nat}{a:Nat}{p:SAd}{t r3:Int}{r:RS}
  (ok:jC s.cfg) (C:a<s.sts.length) (w:aH r.bs) (n:r.bs.length<=1099511627776)
  (k:APost rb sb p.tm (dr s p) s.sts a Q F K KP (flR s.cfg t r))
  (h:aA H (crdA rb r::Q::cellsA fb [aC t,.bool false,.bool false,.bool false] 185::cellsA b1 [aC 0,.bool false,.bool false,.bool false] 185::cellsA b [PA rb 0] 388::cellsA sb (dr s p) 145::strmA Q p.tm s.sts::F)) :
  lG.r4 sb 0 (a:Int) K KP b b1 r3 fb 0 H:=by
 unfold flR at k;unfold lG.r4;refine⟨_,h.q 4,?_⟩;refine uq h w n ?_
 cases hr:ei r with
 | error e=>
  rw[hr]at k;exact λB u h=>k Q _ u (aM.refl Q) (h.o [0] 6)
 | ok q=>
 obtain⟨v,s1⟩:=q;rw[hr]at k;dsimp only at k;intro G E x j h;refine⟨_,rfl,?_⟩;refine h.st 2 rfl rfl ?_;intro N h;refine h.st 2 rfl rfl ?_;intro P h;refine h.st 2 rfl rfl ?_;intro O h;have h:=h.o [5,0,1,2,3,4,6] 7;refine Km (Q:=Q) ok h λJ L h=>⟨_,rfl,?_⟩
 obtain⟨cb,f,h⟩:=gV.1 h;refine⟨_,h.q 8,?_⟩;have h:=h.o [4,0,1,2,3,5,6,7,8,9] 10;refine ur h x j ?_;unfold mZ at k
 cases hr2:gj s1 with
 | error e=>
  rw[hr2]at k;exact λB u h=>k Q _ u (aM.refl Q) (h.o [4] 9)
 | ok q=>
 obtain⟨last,s2⟩:=q;rw[hr2]at k;dsimp only at k;intro M D y m h;refine⟨_,rfl,cZ ?_⟩;refine h.st 1 rfl rfl ?_;intro I h;refine cZ ⟨_,h.r 1,_,ow,?_⟩;intro A i;refine⟨λd=>?_,λd=>i _ ?_⟩
 .rw [Vt (by rw[VP]at d;exact d)]at k;exact k Q _ (by decide) (aM.refl Q) (h.o [5] 10)
 .rw [Vs (by rw[Wd]at d;rw[d];simp)]at k;refine Ul (fl:=⟨t,bitF v 1,bitF v 2,bitF v 4⟩) (ck0:=(lT s.cfg).ck) (hb0:=f) (c:=s.cfg) (last:=last) (cb:=cb) ok rfl rfl C rfl rfl y m ?_ (h.o [0,2,5,1,6,7,8,4,9] 10)
  cases hq:nW s.cfg last s2 with
  | error e=>rw[hq]at k;exact k
  | ok q=>rw[hq]at k;exact k
def BPost(rb sb:Nat)(s:aI)(p:SAd)(a:Int)(Q:aE)(F:List aE)(K KP:KE):Except Int ((List En×Fl×br)×RS)->Prop
 | .ok (x,r)=>∀Q' H',aM Q Q'->r.e=0->aH r.bs->r.bs.length<=1099511627776->aA H' (Q'::crdA rb r::cellsA sb (dr s p) 145::strmA Q' p.tm (s.sts.set a.toNat (some x.2.2))::Ro.rollC p.rb p.rm s.cfg.agents::Ro.mapE p.rm x.1::F)->K (mO x.2.1) H'
 | .error e=>∀Q' H',e≠0->aM Q Q'->aA H' (Q'::F)->KP (pnV e) H'
theorem Un{rb:Nat}{p:SAd}{a:Int}{r:RS}(ok:jC s.cfg)(rok:fQ s.rows)(M:s.sts.length=64)(D:aH r.bs)(C:r.bs.length<=1099511627776)
  (k:BPost rb sb s p a Q F K KP (kJ s a r))
  (h:aA H (crdA rb r::Q::cellsA sb (dr s p) 145::Ro.rollC p.rb p.rm s.cfg.agents::Ro.mapE p.rm s.rows::strmA Q p.tm s.sts::F)) :
  CP 202 #[.agg #[PA rb 0],PA sb 0,aC a] H K KP:=by
 refine O9 ?_;unfold kJ at k;refine h.al λb _ h=>?_
 refine h.al λb1 _ h=>⟨_,h.r 4,_,h.q 1,_,h.q 1,_,h.q 1,?_⟩
 have h:=h.o [2,0,1,3,4,5,6,7] 8;refine ko h D C ?_
 cases q1:cH r with
 | error e=>
  rw[q1]at k;exact λi c h=>k Q _ c (aM.refl Q) (h.o [2] 7)
 | ok q=>
 obtain⟨ep,s1⟩:=q;rw[q1]at k;dsimp only at k;intro U N I w h;refine⟨_,rfl,h.q 2,h.q 2,h.r 4,?_⟩;refine ko h I w ?_
 cases q2:cH s1 with
 | error e=>
  rw[q2]at k;exact λi c h=>k Q _ c (aM.refl Q) (h.o [2] 7)
 | ok q=>
 obtain⟨bt,s2⟩:=q;rw[q2]at k;dsimp only at k;intro V T J A h;refine⟨_,rfl,h.q 2,h.r 4,?_⟩;refine ko h J A ?_
 cases q3:cH s2 with
 | error e=>
  rw[q3]at k;exact λi c h=>k Q _ c (aM.refl Q) (h.o [2] 7)
 | ok q=>
 obtain⟨tm,s3⟩:=q;rw[q3]at k;dsimp only at k;intro Y O u n h;refine⟨_,rfl,h.r 4,?_⟩;have h:=h.o [5,6,0,1,2,3,4,7] 8;refine Ro.Set_spec rok (agent:=a) (x:=⟨ep,bt,tm⟩) h λW h=>⟨_,rfl,?_⟩
 have E:=Le (most:=s.cfg.agents) (rows:=s.rows) (a:=a) (e:=⟨ep,bt,tm⟩);generalize gC s.cfg.agents s.rows a ⟨ep,bt,tm⟩=G at *;refine j8 (λc=>⟨rfl,?_⟩) λc=>?_
 .rw [Vs (by simpa using c)]at k;obtain⟨g1,g2,-⟩:=E c;have y:((a.toNat:Nat):Int)=a:=by omega
  intro S R;have j:∀(t:Int) (s4:RS) fb i,upR s.now s3=.ok (t,s4)->aH s4.bs->s4.bs.length<=1099511627776->
    aA i (crdA rb s4::Q::cellsA fb [aC t,.bool false,.bool false,.bool false] 185::cellsA b1 [aC 0,.bool false,.bool false,.bool false] 185::cellsA b [PA rb 0] 388::cellsA sb (dr s p) 145::strmA Q p.tm s.sts::Ro.rollC p.rb p.rm s.cfg.agents::Ro.mapE p.rm G.1::F)->S fb 0 i:=by
   intro t s4 fb L m f d h;rw[m]at k;dsimp only at k;refine R _ _ _ ?_;have:=Um (a:=a.toNat) (t:=t) (r3:=0) ok (by omega) f d (K:=K) (KP:=KP) ?_ h
   .rw [y]at this;rw[c];exact this
   .cases hq:flR s.cfg t s4 with
    | error e=>
     rw[hq]at k;exact λQ' i c hs h=>k Q' i c hs (h.o [0] 3)
    | ok q=>
     rw[hq]at k;exact λQ' i hs c hb P h=>k Q' i hs c hb P h
  refine⟨_,h.q 4,_,h.r 6,?_,?_⟩
  .have h:=h.o [2,0,1,3,4,5,6,7] 8;refine sq h u n ?_
   cases m:upR s.now s3 with
   | error e=>
    rw[m]at k;exact λi c h=>k Q _ c (aM.refl Q) (h.o [4] 7)
   | ok q=>
   obtain⟨t,s4⟩:=q;intro L v f d h;refine⟨_,rfl,?_⟩;refine h.al λb3 _ h=>?_
   refine h.st 0 rfl rfl ?_;intro B h;exact j t s4 b3 B m f d (h.o [1,6,0,4,5,7,8,2,3] 9)
  .refine h.al λb4 _ h=>⟨h.r 7,h.q 5,?_⟩
   have h:=h.o [3,0,1,2,4,5,6,7,8] 9;refine sq h u n ?_
   cases m:upR s.now s3 with
   | error e=>
    rw[m]at k;exact λi c h=>k Q _ c (aM.refl Q) (h.o [5] 8)
   | ok q=>
   obtain⟨t,s4⟩:=q;intro L v f d h;refine⟨_,rfl,?_⟩;refine h.st 1 rfl rfl ?_;intro B h;exact j t s4 b4 B m f d (h.o [0,6,1,4,5,7,8,2,3] 9)
 .rw [Vt c]at k;exact k Q _ c (aM.refl Q) (h.o [5] 8)
end
structure PAg where
 rows:List En
 sts:List (Option br)
 fls:FM
def fm(s0:aI):Nat->Rd PAg
 | 0,r=>.ok (⟨s0.rows,s0.sts,[]⟩,r)
 | n+1,r=>match fm s0 n r with
  | .error e=>.error e
  | .ok (x,r1)=>match cH r1 with
   | .error e=>.error e
   | .ok (a,r2)=>match kJ { s0 with rows:=x.rows,sts:=x.sts } a r2 with
    | .error e=>.error e
    | .ok (y,r3)=>.ok (⟨y.1,x.sts.set a.toNat (some y.2.2),mset a y.2.1 x.fls⟩,r3)
def fo(most:Int):Nat->Rd CM
 | 0,r=>.ok ([],r)
 | n+1,r=>match fo most n r with
  | .error e=>.error e
  | .ok (m,r1)=>match jc r1 with
   | .error e=>.error e
   | .ok (o,r2)=>if (jZ most m o.1 o.2).2≠0 then .error (jZ most m o.1 o.2).2 else .ok ((jZ most m o.1 o.2).1,r2)
def eF:Nat->Rd (List Ot)
 | 0,r=>.ok ([],r)
 | n+1,r=>match eF n r with
  | .error e=>.error e
  | .ok (l,r1)=>match jc r1 with
   | .error e=>.error e
   | .ok (o,r2)=>.ok (l++[o],r2)
def kK(c:bD)(bs:List Int):Except Int aI:=match upR 4611686018427387903 ⟨0,bs⟩ with
 | .error e=>.error e
 | .ok (now,r1)=>match upR 1099511627776 r1 with
  | .error e=>.error e
  | .ok (boots,r2)=>match upR 1099511627776 r2 with
   | .error e=>.error e
   | .ok (sunk,r3)=>match upR now r3 with
    | .error e=>.error e
    | .ok (moment,r4)=>match gj r4 with
     | .error e=>.error e
     | .ok (value,r5)=>match dO 64 r5 with
      | .error e=>.error e
      | .ok (n,r6)=>match fm { bU c with now:=now,boots:=boots,sunk:=sunk } n.toNat r6 with
       | .error e=>.error e
       | .ok (x,r7)=>if ¬(moment-c.lag<=value/\value<=moment) then .error 11 else match dO 1024 r7 with
        | .error e=>.error e
        | .ok (m,r8)=>match fo c.cells m.toNat r8 with
         | .error e=>.error e
         | .ok (cm,r9)=>match ei r9 with
          | .error e=>.error e
          | .ok (k,r10)=>match eF k.toNat r10 with
           | .error e=>.error e
           | .ok (kept,r11)=>if (dF r11).e≠0 then .error (dF r11).e else
            .ok ⟨c,now,boots,sunk,x.rows,⟨c.lag,moment,value,x.fls⟩,cm,x.sts,kept⟩
def pH(c:bD)(bs:List Int):Except Int aI:=if fD c=false then .error 11 else match kK c bs with
 | .error _=>.error 10
 | .ok s=>if stB s=bs then .ok s else .error 10
section
variable {F L:List aE}{H:aD}{K KP:KE}{Q Q':aE}{sb:Nat}{s:aI}
theorem MSet_err{ms:MS}{mb rb ab:Nat}{now value:Int}(b:isT now)(d:1<=ms.lag/\ms.lag<=1099511627776)(a:¬(now-ms.lag<=value/\value<=now))(h:aA H (Ma.markC mb rb ms::F))(k:K (aC 11) H) :
  CF 204 #[PA mb 0,aC now,aC value,.map (some ab)] H K:=by
 refine cN 204 0x1d121561239951d41c [[]] ?_;have e1:i64.wrap (now-ms.lag)=now-ms.lag:=aK;refine⟨_,Ma.isTime_spec,λ_=>trivial,_,λ_=>h.r 0,?_⟩
 dsimp only
 conv=>whnf
 rw[e1,VF b];refine⟨λ_=>k,λc=>?_⟩
 simp only[Bool.not_true,WQ,VB,V0]at c;exact Vu ⟨by omega,by omega⟩ a
end
structure AgsOk(s0:aI)(x:PAg):Prop where
 rows:fQ x.rows
 len:x.sts.length=64
 sts:∀st,some st∈x.sts->lR s0.cfg st
 reg:∀k:Nat,(∃st:br,x.sts[k]?=some (some st))↔∃e:En,x.rows[k]?=some e/\0<e.epoch
 fls:∀p∈x.fls,isAg p.1/\isT p.2.t/\p.2.t<=s0.now
 nd:(aG x.fls).Nodup
theorem Bp{x a b:Int}(h:inM x a b=true):a<=x/\x<=b:=by
 simp only[inM,Vz,Vy]at h;exact h
theorem oE{m v:Int}{s a:RS}(h:upR m s=.ok (v,a)):0<=v/\v<=m:=by
 unfold upR at h
 cases e:cH s with
 | error e'=>rw[e]at h;cases h
 | ok q=>
  obtain⟨u,s1⟩:=q;rw[e]at h;dsimp only at h
  split at h
  .rename_i h0
   cases h
   exact Bp h0
  .cases h
theorem longR_wf{v:Int}{s a:RS}(h:cH s=.ok (v,a)):aF v:=by
 rw[(ip h).2.1];exact i64in _
theorem strR_ok{c:bD}{s j:RS}{st:br}(ok:jC c)(h:mZ c s=.ok (st,j)):lR c st:=by
 unfold mZ at h
 cases h1:gj s with
 | error e=>rw[h1]at h;cases h
 | ok q=>
 obtain⟨last,s1⟩:=q;rw[h1]at h;dsimp only at h
 split at h
 .cases h
 rename_i a;have a:=Bp (by simpa using a);unfold nW at h
 cases h2:ei s1 with
 | error e=>rw[h2]at h;cases h
 | ok q=>
 obtain⟨hd,s2⟩:=q;rw[h2]at h;dsimp only at h
 cases h3:cH s2 with
 | error e=>rw[h3]at h;cases h
 | ok q=>
 obtain⟨streak,s3⟩:=q;have d:=longR_wf h3;rw[h3]at h;dsimp only at h
 cases h4:dO 8 s3 with
 | error e=>rw[h4]at h;cases h
 | ok q=>
 obtain⟨n,s4⟩:=q;rw[h4]at h;dsimp only at h
 cases h5:jr n.toNat s4 with
 | error e=>rw[h5]at h;cases h
 | ok q=>
 obtain⟨l,s5⟩:=q;rw[h5]at h;dsimp only at h;unfold oD at h
 split at h
 .cases h
 rename_i b;have b:=Decidable.not_not.1 b
 cases h6:cH s5 with
 | error e=>rw[h6]at h;cases h
 | ok q=>
 obtain⟨next,s6⟩:=q;rw[h6]at h;dsimp only at h
 split at h
 .cases h
 rename_i k
 cases h7:dO 256 s6 with
 | error e=>rw[h7]at h;cases h
 | ok q=>
 obtain⟨m,s7⟩:=q;rw[h7]at h;dsimp only at h;have f:qP c.hold (⟨next,c.hold,[]⟩:HS Pv):=⟨⟨by show 0<=next;omega,ok.hd.1,ok.hd.2,⟨by simp[gJ],λp i=>Vu i (by simp)⟩⟩,rfl,by show next<=_;omega,λp i=>Vu i (by simp)⟩
 cases h8:iG ⟨next,c.hold,[]⟩ m.toNat s7 with
 | error e=>rw[h8]at h;cases h
 | ok q=>
 obtain⟨hs,s8⟩:=q;rw[h8]at h
 cases h
 have g:=Bo f h8;unfold aF at d;exact⟨⟨b.1,b.2.2,b.2.1,d.2⟩,rfl,rfl,g.ok,g.most,g.next,g.rows,a⟩
theorem agtR_ok{s0:aI}{x:PAg}{a:Int}{r s:RS}{y:List En×Fl×br}(ok:jC s0.cfg)(b:isT s0.now)(g:AgsOk s0 x)(h:kJ { s0 with rows:=x.rows,sts:=x.sts } a r=.ok (y,s)) :
  AgsOk s0 ⟨y.1,x.sts.set a.toNat (some y.2.2),mset a y.2.1 x.fls⟩:=by
 unfold kJ at h
 cases h1:cH r with
 | error e=>rw[h1]at h;cases h
 | ok q=>
 obtain⟨ep,s1⟩:=q;rw[h1]at h;dsimp only at h
 cases h2:cH s1 with
 | error e=>rw[h2]at h;cases h
 | ok q=>
 obtain⟨bt,s2⟩:=q;rw[h2]at h;dsimp only at h
 cases h3:cH s2 with
 | error e=>rw[h3]at h;cases h
 | ok q=>
 obtain⟨tm,s3⟩:=q;rw[h3]at h;dsimp only at h
 split at h
 .cases h
 rename_i hs;have hs:(gC s0.cfg.agents x.rows a ⟨ep,bt,tm⟩).2=0:=by simpa using hs
 obtain⟨a1,a2,a3,a4,a5⟩:=Le hs;have d:=setR_ok (most:=s0.cfg.agents) g.rows a ⟨ep,bt,tm⟩
 cases h4:upR s0.now s3 with
 | error e=>rw[h4]at h;cases h
 | ok q=>
 obtain⟨t,s4⟩:=q;have n:=oE h4;rw[h4]at h;dsimp only at h
 cases h5:flR s0.cfg t s4 with
 | error e=>rw[h5]at h;cases h
 | ok q=>
 obtain⟨⟨fl,st⟩,s5⟩:=q;rw[h5]at h
 cases h
 unfold flR at h5
 cases h6:ei s4 with
 | error e=>rw[h6]at h5;cases h5
 | ok q=>
 obtain⟨v,s6⟩:=q;rw[h6]at h5;dsimp only at h5
 cases h7:mZ s0.cfg s6 with
 | error e=>rw[h7]at h5;cases h5
 | ok q=>
 obtain⟨u,s7⟩:=q;rw[h7]at h5
 cases h5
 have k:=strR_ok ok h7;have m:a.toNat<x.sts.length:=by rw[g.len];omega
 have c:a.toNat<x.rows.length:=by rw[g.rows.len];omega
 refine⟨d,by show (x.sts.set _ _).length=64;rw[Yv,g.len],λz f=>?_,λj=>?_,λp i=>?_,oN g.nd⟩
 .rcases Yu f with f|f
  .exact g.sts z f
  .cases f;exact k
 .dsimp only;rw[a4]
  by_cases e:j=a.toNat
  .subst e;rw[List.getElem?_set_self m,List.getElem?_set_self c];exact⟨λ_=>⟨_,rfl,by show 0<ep;dsimp only at a3;omega⟩,λ_=>⟨_,rfl⟩⟩
  .rw [List.getElem?_set_ne (by omega),List.getElem?_set_ne (by omega)];exact g.reg j
 .rcases nU i with rfl|i
  .have h0:=b.2;exact⟨⟨by show 0<=a;omega,by show a<64;omega⟩,⟨n.1,by show t<=_;omega⟩,n.2⟩
  .exact g.fls p i
theorem Bq{s0:aI}(ok:cR s0):∀{n:Nat} {r b:RS} {x:PAg},fm s0 n r=.ok (x,b)->AgsOk s0 x
 | 0,r,b,x,h=>by
  cases h
  exact⟨ok.rows,ok.len,ok.sts,ok.reg,λp c=>Vu c (by simp),by simp⟩
 | n+1,r,b,x,h=>by
  unfold fm at h
  cases h1:fm s0 n r with
  | error e=>rw[h1]at h;cases h
  | ok q=>
  obtain⟨x1,r1⟩:=q;rw[h1]at h;dsimp only at h
  cases h2:cH r1 with
  | error e=>rw[h2]at h;cases h
  | ok q=>
  obtain⟨a,r2⟩:=q;rw[h2]at h;dsimp only at h
  cases h3:kJ { s0 with rows:=x1.rows,sts:=x1.sts } a r2 with
  | error e=>rw[h3]at h;cases h
  | ok q=>
  obtain⟨y,r3⟩:=q;rw[h3]at h
  cases h
  exact agtR_ok ok.cfg ok.now (Bq ok h1) h3
theorem iRes_b{s:RS}(hb:aH s.bs):aH (dE s).2.bs:=gK hb
theorem Br{s c:RS}{o:Ot}(hb:aH s.bs)(h:jc s=.ok (o,c)):WC o.2/\ge o.2=true/\(0<=o.1.win/\o.1.win<=4611686018427387903)/\aH c.bs:=by
 unfold jc at h
 cases e:gj s with
 | error e'=>rw[e]at h;cases h
 | ok q=>
  obtain⟨w,s1⟩:=q;rw[e]at h;dsimp only at h;have b:aH s1.bs:=by rw[(ip e).1];exact iRes_b hb
  have t1:=lJ (m:=s1.bs.length) b;have t2:=lJ (m:=(aZ s1.bs.length s1).2.bs.length) t1.1
  split at h
  .cases h
  split at h
  .cases h
  rename_i a
  split at h
  .cases h
  rename_i d
  cases h
  have a:(!(im (bF (aZ s1.bs.length s1).1)).2.2 || !inM w 0 4611686018427387903)=false:=by simpa only[Bool.not_eq_true] using a
  rw[VB,Wd]at a;exact⟨Tk t2.2,Tl (by simpa using d),Bp (by simpa only[Wd] using a.2),t2.1⟩
structure CelOk(most:Int)(m:CM):Prop where
 sh:dZ most m
 win:∀p∈m,0<=p.1.win/\p.1.win<=4611686018427387903
theorem xC{most:Int}(h0:dZ most []):∀{n:Nat} {r c:RS} {m:CM},aH r.bs->fo most n r=.ok (m,c)->CelOk most m/\aH c.bs
 | 0,r,c,m,hb,h=>by
  cases h
  exact⟨⟨h0,λp a=>Vu a (by simp)⟩,hb⟩
 | n+1,r,c,m,hb,h=>by
  unfold fo at h
  cases h1:fo most n r with
  | error e=>rw[h1]at h;cases h
  | ok q=>
  obtain⟨m1,r1⟩:=q;rw[h1]at h;dsimp only at h;have b:=xC h0 hb h1
  cases h2:jc r1 with
  | error e=>rw[h2]at h;cases h
  | ok q=>
  obtain⟨o,r2⟩:=q;rw[h2]at h;dsimp only at h;have d:=Br b.2 h2
  split at h
  .cases h
  rename_i hs
  cases h
  refine⟨⟨setS_ok b.1.sh d.1 (by unfold aF;omega),λp a=>?_⟩,d.2.2.2⟩
  unfold jZ at a
  split at a
  .exact b.1.win p a
  split at a
  .exact b.1.win p a
  split at a
  .exact b.1.win p a
  rcases nU a with rfl|a
  .exact d.2.2.1
  .exact b.1.win p a
theorem xD:∀{n:Nat} {r b:RS} {l:List Ot},aH r.bs->eF n r=.ok (l,b)->(∀o∈l,WC o.2)/\aH b.bs
 | 0,r,b,l,hb,h=>by
  cases h
  exact⟨λo c=>Vu c (by simp),hb⟩
 | n+1,r,b,l,hb,h=>by
  unfold eF at h
  cases h1:eF n r with
  | error e=>rw[h1]at h;cases h
  | ok q=>
  obtain⟨l1,r1⟩:=q;rw[h1]at h;dsimp only at h;have d:=xD hb h1
  cases h2:jc r1 with
  | error e=>rw[h2]at h;cases h
  | ok q=>
  obtain⟨o,r2⟩:=q;rw[h2]at h
  cases h
  have c:=Br d.2 h2;refine⟨λx a=>?_,c.2.2.2⟩
  rcases VK.1 a with a|a
  .exact d.1 x a
  .rw [V6]at a;rw[a];exact c.1
section
variable {F L:List aE}{H:aD}{K KP:KE}{Q Q':aE}{sb:Nat}{s:aI}
theorem Uo{b1 b2:Nat}{e v1:Int}{v:KQ}{d:FrameMode->aD->Prop}(i:e≠0)(h:aA H (cellsA b1 [.pointer v] 40::cellsA b2 [aC v1] 50::F))
  (k:∀b,aA b (cellsA b1 [.pointer none] 40::cellsA b2 [aC 10] 50::F)->d (bi (pnV e) true) b):cC Tryz.prog 196 [(PA b1 0),(PA b2 0)] (bi (pnV e) false) H d:=by
 have hd:cC Tryz.prog 196 [(PA b1 0),(PA b2 0)] (bi (pnV e) false) H λc b=>c=bi (pnV e) true/\aA b (cellsA b1 [.pointer none] 40::cellsA b2 [aC 10] 50::F):=by
  refine rL.defq (.inr ⟨rfl,rfl⟩) ?_;unfold rL.code;refine JD ⟨_,rfl,?_⟩;intro u m;refine⟨λ_=>?_,λn=>Vu n (by simpa using i)⟩
  refine h.st 0 rfl rfl ?_;intro s h;refine h.st 1 rfl rfl ?_;intro t h;refine m _ ?_
  skip
  exact h
 intro w f;refine (hd w f).mono λj y x a=>?_
 cases j <;> simp only at a ⊢
 exact⟨a.1,a.2.1▸k _ a.2.2⟩
theorem Up{b1 b2:Nat}{d:FrameMode->aD->Prop}(h:aA H F)
  (k:∀b,aA b F->d .returning b):cC Tryz.prog 196 [(PA b1 0),(PA b2 0)] .returning H d:=by
 have hd:cC Tryz.prog 196 [(PA b1 0),(PA b2 0)] .returning H λc b=>c=.returning/\aA b F:=by
  refine rL.defq (.inl ⟨rfl,rfl,rfl⟩) ?_;unfold rL.code;refine JC ⟨_,rfl,?_⟩;intro m j;refine⟨λf=>Vu f (by simp),λ_=>j _ ?_⟩
  skip
  exact h
 intro w e;refine (hd w e).mono λi s n a=>?_
 cases i <;> simp only at a ⊢
 exact⟨a.1,a.2.1▸k _ a.2.2⟩
end
end Go.Proofs.YtaaieblnikcndaaGreatDoor
