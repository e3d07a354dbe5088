/-
  Lemmas for GateQuiet: part 5 of what it rests on. Conditions: none.
-/
import Derived.Test.YtaaieblnikcndaaGreatDoorGC4
set_option linter.unusedVariables false
set_option linter.unusedSimpArgs false
set_option maxRecDepth 100000
set_option maxHeartbeats 16000000
open Go.IntKind (i64 u64 i8 u8 i32 u32 i16 u16)
namespace Go.Proofs.YtaaieblnikcndaaGreatDoor
open Go
structure bR where
 name:Fa
 value:Fa
abbrev de(l:bR):Os:=[.string l.name,.string l.value]
theorem iS(l:bR):(de l).length=2:=rfl
theorem zU(l:bR):cR (de l)=true:=rfl
structure Ev where
 stamp:Int
 value:Int
 name:Fa
 labs:List bR
 la:KQ
 lc:Nat
def Ev.z:Ev:=⟨0,0,⟨#[]⟩,[],none,0⟩
abbrev cw(e:Ev):Os:=[aB e.stamp,aB e.value,.string e.name,.slice e.la e.labs.length e.lc]
abbrev aggV(e:Ev):Value:=.agg #[aB e.stamp,aB e.value,.string e.name,.slice e.la e.labs.length e.lc]
theorem fH(e:Ev):(cw e).length=4:=rfl
theorem zV(e:Ev):cR (cw e)=true:=rfl
theorem sl44:SlT Tryz.prog 59 99 4 56:=iM (by kernel_rfl)
theorem sl91:SlT Tryz.prog 77 421 2 32:=iM (by kernel_rfl)
theorem qr:l9 Tryz.prog 291 2 99 aggV Ev.z:=qf Tryz.underlying291 (by kernel_rfl)
theorem ko2:nr Tryz.prog 2 aD:=vE Tryz.underlying2
abbrev holdC(hb mb:Nat)(next most:Int):aE:=cellsA hb [aD next,aD most,.map (some mb)] 293
abbrev hZ(mb:Nat)(l:cy Ev):aE:=mapA aD aggV mb l
section
variable {hb mb:Nat}{s:HS Ev}{F:List aE}{H:aC}{K:KE}
theorem QM{next most:Int}(h:aA H F)
  (k1:next<0\/1099511627776<next\/most<1\/256<most->K (.tuple #[.pointer none,aD 11]) H)
  (k2:∀hb mb b,0<=next/\next<=1099511627776/\1<=most/\most<=256->aA b (holdC hb mb next most::hZ mb []::F)->K (.tuple #[PA hb 0,aD 0]) b) :
  CF 185 #[aD next,aD most] H K:=by
 refine cM 185 476 ⟨λa=>k1 ?_,λa=>?_⟩
 .simp only[Vr,Vc]at a;omega
 .simp only[Vp,Ve]at a;refine h.alm aD aggV λmb _ h=>?_
  refine h.al λhb _ h=>?_
  exact k2 _ _ _ (by omega) h
theorem QN{next most:Int}(h:aA H F)(i:Nat)(a:aW i F=holdC hb mb next most):bU Tryz.prog 124 #[PA hb 0] H (aD next):=
 cM 124 28 ⟨_,h.rd i a _,rfl,rfl⟩
theorem QO{first:Int}{ia:KQ}{ic:Nat}{items:List Ev}(h:aA H (holdC hb mb s.next s.most::hZ mb s.rows::F))(ok:s.Ok)(hn:s.next<=1125899906842624)
  (hF:∀H,aA H F->aP H ia (flat cw items)) (h5:items.length<=1000000)
  (k:∀a c N,aA N (slA 99 4 a (s.offer first items).2.1.length c (flat cw (s.offer first items).2.1)::holdC hb mb (s.offer first items).1.next s.most::hZ mb (s.offer first items).1.rows::F)->
   K (.tuple #[.slice a (s.offer first items).2.1.length c,aD (s.offer first items).2.2]) N) :
  CF 153 #[PA hb 0,aD first,.slice ia items.length ic] H K:=by
 refine Ow ?_;have j3:=ok.most1;have h7:=ok.most2;have h9:=ok.next0;refine⟨λY=>?_,λY=>?_⟩
 .simp only[Vr,Vc]at Y;have e:s.offer first items=(s,[],(items.length:Int)):=by unfold HS.offer;rw[UX Y]
  rw[e]at k;exact k none 0 H (h.sl_nil 99 4)
 .simp only[Vp,Ve]at Y;have e:s.offer first items=({ s with next:=(pop s.next (ff s.next s.most first items (s.rows,0)).1).2.1,rows:=(pop s.next (ff s.next s.most first items (s.rows,0)).1).2.2 },
    (pop s.next (ff s.next s.most first items (s.rows,0)).1).1,(ff s.next s.most first items (s.rows,0)).2):=by
   unfold HS.offer;rw[nO]
  rw[e]at k;refine⟨λb V N=>∃(j:Nat) (rows:cy Ev),V=j/\j<=items.length/\jH s.next s.next s.most rows/\0<=b/\b<=j/\
   ff s.next s.most (first+j) (items.drop j) (rows,b)=ff s.next s.most first items (s.rows,0)/\aA N (holdC hb mb s.next s.most::hZ mb rows::F),
   λ_ i _=>items.length-i.toNat,⟨0,s.rows,rfl,V3 _,ok.rows.weaken (by omega) (V7 _),V7 _,by simp,by simp,h⟩,?_⟩
  rintro b V H1 ⟨j,rows,rfl,hj,C,Z,j2,t,h⟩;refine⟨λI=>?_,λI=>?_⟩
  .have G:j<items.length:=by simpa using I
   have O:=hF H1 h.tl.tl;have e1:i64.wrap (first+j)=first+j:=aJ;have e2:i64.wrap (s.next+s.most)=s.next+s.most:=aJ;have e3:i64.wrap ((j:Int)+1)=((j+1:Nat):Int):=aJ;have e4:i64.wrap (b+1)=b+1:=aJ;have L:items.drop j=items[j]::items.drop (j+1):=VP G;rw[L,ff]at t;have R:=Eo (n:=first+j) (v:=items[j]) (s:=(rows,b)) C;have P:=Ns (next:=s.next) (most:=s.most) (n:=first+j) (v:=items[j]) (s:=(rows,b)) Z;rw[e1];refine⟨⟨by omega,by omega⟩,_,_,O.some fH (by omega) G,_,_,_,_,_,_,O.els fH G,?_⟩;refine h.al λ_ _ h=>?_;refine St1 h λ_ h=>?_
   have d:∀U (A B M:aE),M=hZ mb (eB s.next s.most (first+j) items[j] (rows,b)).1->aA U (A::B::holdC hb mb s.next s.most::M::F)->
     ∃(T:Nat) (rows':cy Ev),((j+1:Nat):Int)=T/\T<=items.length/\jH s.next s.next s.most rows'/\0<=(eB s.next s.most (first+j) items[j] (rows,b)).2/\(eB s.next s.most (first+j) items[j] (rows,b)).2<=T/\
     ff s.next s.most (first+T) (items.drop T) (rows',(eB s.next s.most (first+j) items[j] (rows,b)).2)=ff s.next s.most first items (s.rows,0)/\aA U (holdC hb mb s.next s.most::hZ mb rows'::F):=
    λU _ _ _ hM h2=>⟨j+1,_,rfl,G,R,by simp only at P;omega,by simp only at P;omega,by rw[<-t];congr 1;omega,by rw[<-hM];exact h2.tl.tl⟩
   refine⟨_,h.r 1,?_⟩;have h4:=h.mp_get qr ko2 2 rfl (x:=first+j);refine⟨_,_,_,_,_,_,_,h4,?_⟩
   repeat (first|refine h.al λ_ _ h=>?_|refine⟨_,Ra3,?_⟩|refine St3 h λ_ h=>?_)
   refine λJn hJ=>⟨λf=>hJ _ _ ?_,λf=>?_⟩
   .have S:eB s.next s.most (first+j) items[j] (rows,b)=(rows,b):=by
     unfold eB;rw[UX];simp only[Vr,Vc]at f;exact f
    rw[S]at d;rw[e3];exact⟨d _ _ _ _ rfl h,by simp only[Vi];omega⟩
   .simp only[Vp,Ve]at f;have hl:aL (first+j) rows=none:=by
     cases hm:aL (first+j) rows with
     | none=>rfl
     | some u=>rw[hm]at f;exact UY f.2 (by simp)
    refine⟨_,Ra3,?_⟩;refine⟨_,Ra3,?_⟩;dsimp only;rw[e2,e4];refine λj1 W=>⟨λD=>W _ _ ?_,λD=>?_⟩
    .simp only[Vc]at D;have S:eB s.next s.most (first+j) items[j] (rows,b)=(rows,b+1):=by unfold eB;rw[UW (by simp[hl];omega),UX D]
     rw[S]at d;refine hJ _ _ ?_;rw[e3];exact⟨d _ _ _ _ rfl h,by simp only[Vi];omega⟩
    .simp only[Ve]at D;have S:eB s.next s.most (first+j) items[j] (rows,b)=(ins (first+j) items[j] rows,b):=by unfold eB;rw[UW (by simp[hl];omega),UW D]
     rw[S]at d;refine⟨_,Ra3,?_⟩;refine⟨_,_,_,_,_,_,Rs3,?_⟩;refine h.mp_update (x:=first+j) (v:=items[j]) qr ko2 3 rfl λU h2=>W _ _ ?_
     refine hJ _ _ ?_;have ep:hZ mb (mset (first+j) items[j] rows)=hZ mb (ins (first+j) items[j] rows):=ns (by rw[mset,kG hl];exact (yE _ _ _).symm);rw[e3];exact⟨d _ _ _ _ ep h2,by simp only[Vi];omega⟩
  .have J:j=items.length:=by
    have:¬((j:Int)<(items.length:Int)):=by simpa using I
    omega
   subst J;simp only[VY,ff]at t;rw[<-t]at k;simp only at k;have h8:=vK C.rising λp Q=>(C.inb p Q).1
   have h1:=C.length;refine⟨λra rn rc rf N=>∃(got:List Ev) (next:Int) (rows':cy Ev),rn=got.length/\rf=b/\gG rows'/\(∀p∈rows',next<=p.1)/\(pop s.next rows).1=got++(pop next rows').1/\(pop s.next rows).2=(pop next rows').2/\
    0<=next/\next+rows'.length<=s.next+rows.length/\got.length+rows'.length=rows.length/\aA N (slA 99 4 ra rn rc (flat cw got)::holdC hb mb next s.most::hZ mb rows'::F),
    λ_ n _ _ _=>rows.length-n,⟨[],s.next,rows,rfl,rfl,C.rising,λp Q=>(C.inb p Q).1,by simp,by simp,by omega,by omega,by simp,h.sl_nil 99 4⟩,?_⟩
   rintro ra rn rc rf U ⟨got,next,rows',rfl,rfl,E,J,y,w,h6,h0,h3,h⟩;refine⟨_,h.r 1,_,h.r 1,?_⟩;have m:=Nt (next:=next) E J;have e5:i64.wrap (next+1)=next+1:=aJ;refine⟨_,_,_,_,_,_,_,h.mp_get qr ko2 2 rfl (x:=next),?_⟩;refine h.al λb3 _ h=>?_
   refine⟨h.mp_get qr ko2 3 rfl (x:=next),h.r 2,h.r 2,?_⟩;refine h.st 0 rfl rfl λH3 h=>?_
   cases rows' with
   | nil=>
    simp only at m;refine⟨λ_=>?_,λf=>by simp[m]at f⟩
    simp only[pop,V4]at y w;rw[y,w]at k;exact k _ _ _ h.tl
   | cons p r=>
    obtain⟨n,v⟩:=p;simp only at m
    by_cases en:n=next
    .subst en;rw[UX rfl]at m;rw[m]at h ⊢;refine⟨λf=>by simp at f,λ_=>?_⟩
     refine⟨_,h.r 2,_,h.r 2,?_⟩;refine h.mp_delete (x:=n) qr ko2 3 rfl λH3 h=>?_
     have h:aA H3 (cellsA b3 (cw v) 99::slA 99 4 ra got.length rc (flat cw got)::holdC hb mb n s.most::hZ mb (bT n ((n,v)::r))::F):=h;rw[Nu E]at h;simp only[Vf]at h0 h3;refine⟨_,_,_,_,_,_,h.q 0,?_⟩;rintro b4 _ rfl rfl;refine h.append1 sl44 1 rfl (by rfl) (by rfl) (by omega) (by omega) λa' c' H4 h=>⟨_,_,_,rfl,?_⟩
     refine⟨_,h.r 2,?_⟩;refine h.st 2 rfl rfl λH5 h=>?_
     refine⟨?_,by show rows.length-(got.length+1)<rows.length-got.length;omega⟩;rw[e5]at h;simp only[pop,if_true]at y w;refine⟨got++[v],n+1,r,by simp,rfl,(VX.1 E).2,λp Q=>?_,by rw[y];simp,w,by omega,by omega,by simp;omega,?_⟩
     .have:=(VX.1 E).1 p Q;simp only at this;omega
     .rw [dT,nq];exact h.tl
    .rw [UW en]at m;refine⟨λ_=>?_,λf=>by simp[m]at f⟩
     simp only[pop,UW en,V4]at y w;rw[y,w]at k;exact k _ _ _ h.tl
theorem Im{next most:Int}{rows:cy Ev}(h:aA H (holdC hb mb next most::hZ mb rows::F))(j:gG rows)(f:∀p∈rows,aF p.1)(m:rows.length<=1000000)
  (k:∀a c b,aA b (slA 2 1 a rows.length c ((aG rows).map aD)::holdC hb mb next most::hZ mb rows::F)->K (.slice a rows.length c) b) :
  CF 122 #[PA hb 0] H K:=by
 refine cM 122 28 ⟨_,h.r 0,?_⟩;refine OK ⟨_,_,rfl,?_⟩;refine OL h 1 rfl (λx e=>by obtain⟨p,i,rfl⟩:=Vh.1 e;exact f p i) (by omega) λa c b d g=>⟨_,_,_,rfl,?_⟩
 rw[Nv j]at d;exact k a c b d
theorem QP{next most:Int}{rows:cy Ev}(h:aA H (holdC hb mb next most::hZ mb rows::F))(s:gG rows)(w:∀p∈rows,aF p.1)(v:rows.length<=1000000)
  (k:∀a c f,aA f (slA 99 4 a rows.length c (flat cw (rows.map (·.2)))::holdC hb mb next most::hZ mb []::F)->K (.slice a rows.length c) f) :
  CF 123 #[PA hb 0] H K:=by
 refine cN 123 0x11215612399251441c [[(3,sS),(9,sI)]] ?_;refine Im h s w v λA rc G h=>⟨_,_,_,rfl,?_⟩
 refine⟨λla u lc i f=>∃k:Nat,i=k/\k=u/\k<=rows.length/\aA f (slA 99 4 la k lc (flat cw ((rows.take k).map (·.2)))::slA 2 1 A rows.length rc ((aG rows).map aD)::holdC hb mb next most::hZ mb rows::F),
  λ_ _ _ i _=>rows.length-i.toNat,⟨0,rfl,rfl,V3 _,h.sl_nil 99 4⟩,?_⟩
 rintro la u lc i D ⟨j,rfl,rfl,E,h⟩;refine⟨λm=>?_,λm=>?_⟩
 .have b:j<rows.length:=by simpa using m
  have e:j<(aG rows).length:=by simpa[aG] using b
  have d:=(h.sl_rd 1 rfl).at (j:=j) e;have e3:i64.wrap ((j:Int)+1)=((j+1:Nat):Int):=aJ;have n:aL (aG rows)[j] rows=some rows[j].2:=md (Ej s) (by
   have:((aG rows)[j],rows[j].2)=rows[j]:=by simp[aG]
   rw[this];exact Vk _)
  have t:=h.mp_get1 qr ko2 3 rfl (x:=(aG rows)[j]);rw[n]at t;refine⟨⟨by omega,by omega⟩,_,_,d.1,_,d.2,_,h.r 2,_,_,_,_,_,_,t,?_⟩;rintro b1 _ rfl rfl;refine h.append1 sl44 0 rfl (by rfl) (by rfl) (by omega) (by omega) λC B y h=>⟨_,_,_,rfl,?_⟩
  conv=>whnf
  rw[e3];refine⟨⟨j+1,rfl,rfl,b,?_⟩,by simp only[Vi];omega⟩;rw[VE b,Vv,dT];exact h
 .have:j=rows.length:=by
   have:¬((j:Int)<rows.length):=by simpa using m
   omega
  subst this;refine⟨_,h.r 2,?_⟩;refine h.mp_clear qr 3 rfl λy h=>?_
  rw[V2 (Vg _)]at h;exact k _ _ _ (h.o [0,2,3] 4)
theorem QR{next most:Int}{rows:cy Ev}(h:aA H (holdC hb mb next most::hZ mb rows::F))
  (k:∀c a d,aA d (holdC c a next most::hZ a rows::holdC hb mb next most::hZ mb rows::F)->K (PA c 0) d) :
  CF 63 #[PA hb 0] H K:=by
 refine cM 63 28 ?_;refine⟨_,h.r 0,_,h.r 0,_,h.r 0,?_⟩;refine OM h 1 rfl λe h _=>⟨_,rfl,h.r 1,h.r 1,?_⟩
 refine h.al λb _ h=>?_
 exact k _ _ _ h
end
theorem rR(k:IntKind)(f:Nat->Int):∀n i,(bW k f n i).length=n
 | 0,_=>rfl
 | n+1,i=>by simp[bW,rR k f n]
theorem tX(k:IntKind)(f:Nat->Int):∀n i j,j<n->aT (bW k f n i) j=some (.int k (f (i+j)))
 | n+1,i,0,_=>rfl
 | n+1,i,j+1,h=>by
  have:=tX k f n (i+1) j (by omega);simp only[bW,aT];rw[this,show i+1+j=i+(j+1) by omega]
theorem In(k:IntKind)(f:Nat->Int):∀n i,cR (bW k f n i)=true
 | 0,_=>rfl
 | n+1,i=>by
  have:=In k f n (i+1);simpa[bW,cR] using this
def eW(f:Nat->Int)(j:Nat)(x:Int):Nat->Int:=λi=>if i=j then x else f i
theorem Io(k:IntKind){f g:Nat->Int}:∀n i,(∀j,i<=j->j<i+n->f j=g j)->bW k f n i=bW k g n i
 | 0,_,_=>rfl
 | n+1,i,h=>by
  simp only[bW];rw[h i (Vg _) (by omega),Io k n (i+1) λj a b=>h j (by omega) (by omega)]
theorem zW(k:IntKind)(f:Nat->Int)(x:Int):∀n i j,j<n->(bW k f n i).set j (.int k x)=bW k (eW f (i+j) x) n i
 | n+1,i,0,_=>by
  simp only[bW,WI,Wm];rw[show eW f i x i=x by simp[eW],Io k (g:=eW f i x) n (i+1) λj a b=>by simp[eW];omega]
 | n+1,i,j+1,h=>by
  simp only[bW,Yc];rw[zW k f x n (i+1) j (by omega),show i+1+j=i+(j+1) by omega];rw[show eW f (i+(j+1)) x i=f i by simp[eW]]
section
variable {H:aC}{L:List aE}
theorem aA.rda{b e:Nat}{cs:Os}(h:aA H L)(i:Nat)(a:aW i L=cellsA b cs e):bD H b 0 cs:=
 tf λf v c=>by rw[h.rd i a,Vw];exact c
theorem aA.rdv{b e o:Nat}{l vs r:Os}(h:aA H L)(i:Nat)(c:aW i L=cellsA b (l++vs++r) e)(d:o=l.length):bD H b o vs:=
 tf λf v a=>by
  subst d;rw[h.rd i c,Vj,y6,D6 (nT a)];exact a
theorem aA.rdt{b e o:Nat}{l vs:Os}(h:aA H L)(i:Nat)(a:aW i L=cellsA b (l++vs) e)(c:o=l.length):bD H b o vs:=
 aA.rdv (r:=[]) h i (by rw[a,V4]) c
theorem aA.sta{Q:aC->Prop}{b e:Nat}{vs cs:Os}(h:aA H L)(i:Nat)(c:aW i L=cellsA b cs e)(d:vs.length=cs.length)(k:∀a,aA a (put i (cellsA b vs e) L)->Q a) :
  eQ H b 0 vs/\∀a,a=fJ H b 0 vs->Q a:=by
 refine⟨h.can i c 0 vs (by omega),?_⟩;rintro a rfl;have:=h.set i c 0 vs;rw[vA _ _ d]at this;exact k _ this
end
theorem QS{P:Program}{t e:TypeId}{n:Nat}{f:Nat->Int}{i:Int}(b:P.underlying t=some (.array n e))(c:∀w,(Go.sizeOf e).run P w=.ok 1 w)(h:∀w,(Go.isAgg e).run P w=.ok false w)(h0:0<=i)(d:i<n) :
  lU P (Instr.index t (.agg ⟨bW .i64 f n 0⟩) (aB i)) (aB (f i.toNat)):=by
 intro w;have a:=tX .i64 f n 0 i.toNat (by omega);rw[fL]at a;simp only[Instr.index,asIntOf,Sem.run_bind,Sem.run_pure,Result.andThen_ok,fm b];rw[UX ⟨h0,d⟩];simp only[Sem.run_bind,c,Result.andThen_ok,VT,part,h];simp[a]
abbrev B64:Int:=18446744073709551616
abbrev cx(z:Int):Int:=z/B64
abbrev wlo(z:Int):Int:=z%B64
abbrev kN(z:Int):Value:=.agg #[aB (cx z),.int .u64 (wlo z)]
abbrev fW(z:Int):Prop:=-170141183460469231731687303715884105728<=z/\z<170141183460469231731687303715884105728
def gL(a b:Int):Int×Int:=if fW (a+b) then (a+b,0) else (0,12)
theorem oX(z:Int):0<=wlo z/\wlo z<B64:=by unfold wlo B64;omega
theorem wz(z:Int):cx z*B64+wlo z=z:=by unfold cx wlo B64;omega
theorem weq{z y:Int}:(cx z=cx y/\wlo z=wlo y)↔z=y:=by
 constructor
 .rintro⟨h1,h2⟩;rw[<-wz z,<-wz y,h1,h2]
 .rintro rfl;exact⟨rfl,rfl⟩
def bY(v:Int):Int:=if v<0 then 0 else if v=0 then 1 else 1+(bitLen v.toNat:Nat)
theorem oY{v:Int}(h:aF v):0<=bY v/\bY v<65:=by
 unfold bY aF at *
 split
 .omega
 .split
  .omega
  .have:bitLen v.toNat<=63:=by
    unfold bitLen
    split
    .omega
    .rename_i h0;have:=(Nat.log2_lt h0).2 (show v.toNat<2^63 by omega);omega
   omega
def od(h:Nat->Int):Bool:=(List.range 65).all λi=>decide (0<=h i)
theorem qt{h:Nat->Int}:od h=true↔∀i,i<65->0<=h i:=by
 simp[od,VL]
def jl(h:Nat->Int)(v:Int):(Nat->Int)×Int:=
 if od h=false then (Z0,10) else if h (bY v).toNat=9223372036854775807 then (Z0,12) else (eW h (bY v).toNat (h (bY v).toNat+1),0)
def wfH(h:Nat->Int):Prop:=∀i,i<65->aF (h i)
theorem tY:wfH Z0:=λ_ _=>by unfold aF;simp
section
variable {F L:List aE}{H:aC}{K:KE}
theorem Ip{x y:Int}(a:0<=x)(b:0<=y):pD Tryz.prog 361 #[.int .u64 x,.int .u64 y,.int .u64 0] (.tuple #[.int .u64 ((x+y)%B64),.int .u64 ((x+y)/B64)]):=by
 have e:(callFunc 361 #[.int .u64 x,.int .u64 y,.int .u64 0])=(callFunc 361 #[.int .u64 x,.int .u64 y,.int .u64 0]):=rfl;intro w;have h:(callFunc 361 #[.int .u64 x,.int .u64 y,.int .u64 0]).run Tryz.prog w=.ok (.value (.tuple #[.int .u64 (Int.ofNat ((x.toNat+y.toNat+0)%18446744073709551616)),.int .u64 (Int.ofNat ((x.toNat+y.toNat+0)/18446744073709551616))])) w:=by kernel_rfl
 rw[h];have e1:Int.ofNat ((x.toNat+y.toNat+0)%18446744073709551616)=(x+y)%B64:=by unfold B64;simp only[Int.ofNat_eq_natCast];omega
 have e2:Int.ofNat ((x.toNat+y.toNat+0)/18446744073709551616)=(x+y)/B64:=by unfold B64;simp only[Int.ofNat_eq_natCast];omega
 rw[e1,e2]
theorem idx60{f:Nat->Int}{i:Int}(h0:0<=i)(a:i<65):lU Tryz.prog (Instr.index 159 (.agg ⟨bW .i64 f 65 0⟩) (aD i)) (aD (f i.toNat)):=
 QS (n:=65) Tryz.underlying159 Tryz.sizeOf2 Tryz.isAgg2 h0 (by omega)
theorem QU{f:Nat->Int}(h:aA H F)(k:∀d,aA d F->K (.bool (od f)) d):CF 367 #[.agg ⟨bW .i64 f 65 0⟩] H K:=by
 refine cN 367 0x1215612399251b4c [[(6,sI)]] ?_;refine h.al λb _ h=>?_
 refine⟨f,h.rda 0 rfl,?_⟩;refine⟨λi d=>∃j:Nat,i=j/\j<=65/\(∀q,q<j->0<=f q)/\aA d F,λi _=>65-i.toNat,⟨0,rfl,by omega,λ_ h=>by omega,h.tl⟩,?_⟩
 rintro i t ⟨j,rfl,u,m,h⟩;refine⟨λe=>?_,λe=>?_⟩
 .have a:j<65:=by have:=Va e;omega
  refine⟨_,idx60 (by omega) (by omega),?_⟩;rw[Vi];refine⟨λc=>?_,λc=>?_⟩
  .have c:=Va c;have:od f=false:=by
    rw[WW];intro s;have:=qt.1 s j a;omega
   rw[this]at k;exact k _ h
  .have c:=Vb c
   conv=>whnf
   rw[show i64.wrap ((j:Int)+1)=((j+1:Nat):Int) by rw[aJ];omega];refine⟨⟨j+1,rfl,a,λq v=>?_,h⟩,by simp only[Vi];omega⟩
   rcases V0 q j with n|n
   .exact m q n
   .obtain rfl:q=j:=by omega
    omega
 .have:j=65:=by have:=Vb e;omega
  subst this;have:od f=true:=qt.2 m;rw[this]at k;exact k _ h
theorem mA{v:Int}(c:aF v):bU Tryz.prog 277 #[aD v] H (aD (bY v)):=by
 refine NY ?_;have hb:=oY c;unfold bY at hb ⊢;refine⟨λb=>?_,λb=>⟨λa=>?_,λa=>?_⟩⟩
 .rw [UX (Va b)];exact⟨rfl,rfl⟩
 .rw [UW (Vb b),UX (Va a)];exact⟨rfl,rfl⟩
 .have d:=Vb b;have f:=Vb a;rw[UW d,UW f]at hb ⊢;unfold aF at c;have e:u64.wrap v=((v.toNat:Nat):Int):=by rw[dd];omega
  rw[e];refine⟨_,Gi (by omega),?_,rfl⟩;rw[aJ (x:=2+_),aJ];congr 1;omega
theorem whi_w{z:Int}(h:fW z):aF (cx z):=by unfold fW at h;unfold aF cx B64;omega
theorem fdiv63{v:Int}(h:aF v):Int.fdiv v (2^(min (Int.toNat 63) (i64.bits)))=cx v:=by
 show Int.fdiv v 9223372036854775808=cx v;rw[Wx _ (by decide)];unfold aF at h;unfold cx B64;omega
theorem zX{v:Int}(c:aF v)(h:aA H F)(k:∀a,aA a F->K (kN v) a):CF 276 #[aD v] H K:=by
 refine cM 276 28 ?_;refine h.al λb _ h=>⟨by decide,?_⟩
 rw[fdiv63 c];have e:u64.wrap v=wlo v:=by rw[dd]
 conv=>whnf
 rw[e];refine St1 h λ_ h=>?_;refine⟨_,_,Rs1,?_⟩
 exact k _ h.tl
theorem zY{x y:Int}(i:fW x)(m:fW y)(h:aA H F)(k:∀j,aA j F->K (.tuple #[kN (gL x y).1,aD (gL x y).2]) j) :
  CF 336 #[kN x,kN y] H K:=by
 refine NI ?_;have u:=oX x;have n:=oX y;have d:=whi_w i;have f:=whi_w m;have v:=wz x;have w:=wz y;have t:(wlo x+wlo y)%B64=wlo (x+y):=by unfold wlo B64;omega
 have eq:i64.wrap ((wlo x+wlo y)/B64)=(wlo x+wlo y)/B64:=by unfold B64 at *;exact aJ
 have s:i64.wrap (i64.wrap (cx x+cx y)+(wlo x+wlo y)/B64)=i64.wrap (cx (x+y)):=by
  rw[jI,jI,jI];unfold cx wlo B64;omega
 refine h.al λb _ h=>?_
 refine h.al λb1 _ h=>?_
 refine h.al λb2 _ h=>?_
 refine⟨_,h.r 2,_,h.r 1,_,_,Ip u.1 n.1,_,h.r 2,_,h.r 1,_,h.r 2,_,h.r 1,?_⟩;rw[eq,s,t];have a:decide (aY .and .i64 (aY .xor .i64 (cx x) (i64.wrap (cx (x+y)))) (aY .xor .i64 (cx y) (i64.wrap (cx (x+y))))<0)=!decide (fW (x+y)):=by
  rw[VH,Vc,Er (vP _ _ _) (vP _ _ _),Vd,Vc,Vc,vO d (qg _),vO f (qg _),vL,vL,V1,Ve];unfold fW at i m ⊢;rw[jI];unfold cx B64;omega
 dsimp only[ID];rw[a];unfold gL at k;refine⟨λc=>?_,λc=>?_⟩
 .have:¬fW (x+y):=Vb (by simpa only[V1] using c);rw[UW this]at k;refine St3 h λ_ h=>?_;refine⟨_,_,Rs3,?_⟩
  exact k _ h.tl.tl.tl
 .have:fW (x+y):=Va (by simpa only[VI] using c);rw[UX this]at k;have e:i64.wrap (cx (x+y))=cx (x+y):=by have:=whi_w this;unfold aF at this;exact aJ
  rw[e];refine St3 h λ_ h=>?_;refine⟨_,_,Rs3,?_⟩
  exact k _ h.tl.tl.tl
end
theorem sum_append(l r:List Int):(l++r).sum=l.sum+r.sum:=by
 induction l with
 | nil=>simp
 | cons a l ih=>simp only[Wf,W0,ih];omega
theorem Iq{l:List Int}{j:Nat}(h:j<l.length):(l.take (j+1)).sum=(l.take j).sum+l[j]:=by
 rw[VE h,sum_append];simp
theorem Ir:∀{l:List Int},(∀x∈l,aF x)->-(9223372036854775808*(l.length:Int))<=l.sum/\l.sum<=9223372036854775808*(l.length:Int)
 | [],_=>by simp
 | a::l,h=>by
  have b:=h a Vn;have d:=Ir (l:=l) λx c=>h x (Vq _ c)
  unfold aF at b;simp only[W0,Vf];omega
theorem wstep{s v:Int}(hs:fW s)(h:aF v)(a:fW (s+v)) :
  i64.wrap (i64.wrap (cx s+cx v)+i64.wrap ((wlo s+wlo v)/B64))=cx (s+v)/\(wlo s+wlo v)%B64=wlo (s+v):=by
 have i:=oX s;have f:=oX v;have d:=wz s;have e:=wz v;refine⟨?_,by unfold wlo B64;omega⟩;have eq:i64.wrap ((wlo s+wlo v)/B64)=(wlo s+wlo v)/B64:=by unfold B64 at *;exact aJ
 rw[eq];have b:aF (cx (s+v)):=by unfold fW at a;unfold aF cx B64;omega
 have c:i64.wrap (i64.wrap (cx s+cx v)+(wlo s+wlo v)/B64)=i64.wrap (cx (s+v)):=by
  rw[jI,jI,jI];unfold cx wlo B64;omega
 rw[c];unfold aF at b;exact aJ
def rowH(h:Nat->Int):List Int:=(List.range 65).map h
def sumC(h:Nat->Int):Int:=(rowH h).sum
theorem vecL_map(f:Nat->Int)(n i:Nat):bW .i64 f n i=((List.range n).map λj=>f (i+j)).map aB:=by
 induction n generalizing i with
 | zero=>rfl
 | succ n ih=>
  rw[bW,ih,List.range_succ_eq_map];simp only[V5,VM,Wm];congr 1;apply Wp;intro j _;show aB (f (i+1+j))=aB (f (i+(j+1)));rw[show i+1+j=i+(j+1) by omega]
theorem vecL_row(f:Nat->Int):bW .i64 f 65 0=(rowH f).map aB:=by
 rw[vecL_map];simp[rowH]
theorem rowH_len(f:Nat->Int):(rowH f).length=65:=by simp[rowH]
theorem rowH_mem{f:Nat->Int}{x:Int}(h:x∈rowH f):∃i,i<65/\x=f i:=by
 obtain⟨i,hi,rfl⟩:=Vh.1 h;exact⟨i,Wg.1 hi,rfl⟩
structure Cl where
 n:Int
 sum:Int
 mn:Int
 mx:Int
 cer:Int
 pos:Int
 h:Nat->Int
def Cl.z:Cl:=⟨0,0,0,0,0,0,Z0⟩
abbrev dx(c:Cl):Os:=[aB c.n,aB (cx c.sum),.int .u64 (wlo c.sum),aB c.mn,aB c.mx,aB c.cer,aB c.pos]++bW .i64 c.h 65 0
abbrev aggC(c:Cl):Value:=.agg ⟨dx c⟩
theorem kO(c:Cl):(dx c).length=72:=by simp[dx,rR]
structure WC(c:Cl):Prop where
 n:aF c.n
 sum:fW c.sum
 mn:aF c.mn
 mx:aF c.mx
 cer:aF c.cer
 pos:aF c.pos
 h:wfH c.h
theorem WC.z:WC Cl.z:=⟨by decide,by decide,by decide,by decide,by decide,by decide,tY⟩
def inB(c:Cl):Bool:=(List.range 65).all λi=>decide (c.h i=0)||decide (bY c.mn<=i/\(i:Int)<=bY c.mx)
def fX(c:Cl):Bool:=
 !(decide (c.n<0)||decide (c.cer<0)||decide (c.pos<0)||decide (c.mx<c.mn))&&od c.h&&decide (sumC c.h=c.n) &&
 (if c.n=0 then decide (c.sum=0)&&decide (c.mn=0)&&decide (c.mx=0)
  else !(decide (c.h (bY c.mn).toNat=0)||decide (c.h (bY c.mx).toNat=0))&&inB c)
def gM(c:Cl)(certain:Bool):Cl×Int:=
 if fX c=false then (Cl.z,10) else
 if certain then (if c.cer=9223372036854775807 then (Cl.z,12) else ({ c with cer:=c.cer+1 },0))
 else (if c.pos=9223372036854775807 then (Cl.z,12) else ({ c with pos:=c.pos+1 },0))
def jR(c:Cl)(v:Int):Cl×Int:=
 if fX c=false then (Cl.z,10) else
 if (jz c.n 1).2≠0 then (Cl.z,12) else
 if (gL c.sum v).2≠0 then (Cl.z,12) else
 if (jl c.h v).2≠0 then (Cl.z,12) else
 let mn:=if c.n=0 then v else c.mn
 let mx:=if c.n=0 then v else c.mx
 ({ c with n:=(jz c.n 1).1,sum:=(gL c.sum v).1,h:=(jl c.h v).1,mn:=if v<mn then v else mn,mx:=if v>mx then v else mx },0)
theorem Is{c:Cl}(h:WC c)(b:Bool):WC (gM c b).1:=by
 unfold gM;have a:=h.cer;have d:=h.pos;unfold aF at a d
 split
 .exact WC.z
 .split
  .split
   .exact WC.z
   .exact⟨h.n,h.sum,h.mn,h.mx,by unfold aF;dsimp only;omega,h.pos,h.h⟩
  .split
   .exact WC.z
   .exact⟨h.n,h.sum,h.mn,h.mx,h.cer,by unfold aF;dsimp only;omega,h.h⟩
theorem addS_wf(a b:Int):aF (jz a b).1:=by
 unfold jz
 split
 .assumption
 .decide
theorem wadd_wf(a b:Int):fW (gL a b).1:=by
 unfold gL
 split
 .assumption
 .decide
theorem addH_wf{h:Nat->Int}(a:wfH h){v:Int}(d:aF v):wfH (jl h v).1:=by
 unfold jl
 split
 .exact tY
 .split
  .exact tY
  .intro i hi;dsimp only[eW]
   split
   .rename_i e c b;subst b;have:=a _ hi;unfold aF at *;omega
   .exact a i hi
theorem addC_wf{c:Cl}(h:WC c){v:Int}(a:aF v):WC (jR c v).1:=by
 unfold jR
 split
 .exact WC.z
 .split
  .exact WC.z
  .split
   .exact WC.z
   .split
    .exact WC.z
    .refine⟨addS_wf _ _,wadd_wf _ _,?_,?_,h.cer,h.pos,addH_wf h.h a⟩
     .dsimp only;have:=h.mn
      split <;> split <;> assumption
     .dsimp only;have:=h.mx
      split <;> split <;> assumption
section
variable {F L:List aE}{H:aC}{K:KE}
theorem QV{a:KQ}{n c:Nat}{vs:List Int}(B:vs.length=n)(h:aA H F)(A:∀H,aA H F->aP H a (vs.map aD))(v:∀x∈vs,aF x)(E:n<=1000000)
  (k:∀t,aA t F->K (kN vs.sum) t):CF 324 #[.slice a n c] H K:=by
 subst B;refine NO ?_;refine h.al λb _ h=>?_
 refine h.al λb1 _ h=>?_
 refine⟨λi t=>∃j:Nat,i=j/\j<=vs.length/\aA t (cellsA b1 [aD (cx (vs.take j).sum),.int .u64 (wlo (vs.take j).sum)] 157::cellsA b [aD 0,.int .u64 0] 157::F),λi _=>vs.length-i.toNat,⟨0,rfl,V3 _,h⟩,?_⟩
 rintro i D ⟨j,rfl,I,h⟩;have m:∀q,fW (vs.take q).sum:=λq=>by
  have:=Ir (l:=vs.take q) λx y=>v x (VR y)
  rw[Vx]at this;unfold fW;omega
 refine⟨λu=>?_,λu=>?_⟩
 .have d:j<vs.length:=by have:=Va u;omega
  have w:=(A _ h.tl.tl).at d;have s:=v _ (Vk d);have f:=m (j+1);rw[Iq d]at f;have e:=wstep (m j) s f;rw[<-Iq d]at e;have C:u64.wrap vs[j]=wlo vs[j]:=by rw[dd]
  refine⟨⟨by omega,by omega⟩,_,_,w.1,_,w.2,_,h.r 0,?_⟩;rw[C];refine⟨_,_,Ip (oX _).1 (oX _).1,_,h.r 0,by decide,?_⟩;rw[fdiv63 s,e.1,e.2];refine h.sta 0 rfl rfl λG h=>?_
  rw[show i64.wrap ((j:Int)+1)=((j+1:Nat):Int) by rw[aJ];omega];exact⟨⟨j+1,rfl,d,h⟩,by simp only[Vi];omega⟩
 .have:j=vs.length:=by have:=Vb u;omega
  subst this;rw[V2 (Vg _)]at h
  repeat (first|refine St2 h λ_ h=>?_|refine⟨_,_,Rs2,?_⟩)
  exact k _ h.tl.tl
theorem QW{f:Nat->Int}(d:wfH f)(h:aA H F)(k:∀a,aA a F->K (kN (sumC f)) a):CF 275 #[.agg ⟨bW .i64 f 65 0⟩] H K:=by
 refine NZ ?_;refine h.al λb _ h=>?_
 refine h.al λb1 _ h=>⟨by decide,?_⟩
 have e0:bZ (some ⟨b,0,none⟩) 0 65 1=some ⟨b,0,none⟩:=rfl;rw[e0];refine QV (vs:=rowH f) (rowH_len f) h (λH h=>?_) (λx c=>?_) (by decide) λe h=>⟨_,_,rfl,?_⟩
 .have:=h.ce_rd 1 rfl;rw[vecL_row]at this;exact this
 .obtain⟨i,hi,rfl⟩:=rowH_mem c;exact d i hi
 .refine h.sta 0 rfl rfl λj h=>⟨_,_,h.rda 0 rfl,?_⟩
  exact k _ h.tl.tl
theorem It{f:Nat->Int}(h:aA H F)(k:∀b a,aA a (cellsA b (bW .i64 f 65 0) 159::F)->K (.func (.func 278) #[] #[PA b 0]) a):CF 224 #[.agg ⟨bW .i64 f 65 0⟩] H K:=by
 refine cM 224 28 ?_;exact h.al λb _ h=>k _ _ h
theorem Iu{l b:Nat}{f:Nat->Int}(A:Nat->aE)(y:aE)(h:aA H (A 0::cellsA b (bW .i64 f 65 0) 159::F))
  (C:∀j,j<65->f j=0->A j=A (j+1))
  (B:∀j,j<65->f j≠0->∀(G:List aE) (s:aC) (t:KE),aA s (A j::G)->(∀a,aA a (A (j+1)::G)->t (.bool true) a)->(∀a,aA a (y::G)->t (.bool false) a)->
   fI Tryz.prog l [aD (j:Nat),aD (f j)] s t)
  (k:∀c,aA c (A 65::cellsA b (bW .i64 f 65 0) 159::F)->K (.tuple #[]) c)
  (D:∀c,aA c (y::cellsA b (bW .i64 f 65 0) 159::F)->K (.tuple #[]) c) :
  CF 278 #[.func (.yield l) #[] #[],PA b 0] H K:=by
 refine cN 278 0x15612399251283994 [[(18,sB)],[(6,sI)]] ?_;refine⟨f,h.rda 1 rfl,?_⟩;refine⟨λi c=>∃j:Nat,i=j/\j<=65/\aA c (A j::cellsA b (bW .i64 f 65 0) 159::F),λi _=>65-i.toNat,⟨0,rfl,by omega,h⟩,?_⟩
 rintro i s ⟨j,rfl,I,h⟩;refine⟨λn=>?_,λn=>?_⟩
 .have d:j<65:=by have:=Va n;omega
  refine⟨_,idx60 (by omega) (by omega),?_⟩;rw[Vi];have m:∀a,aA a (A (j+1)::cellsA b (bW .i64 f 65 0) 159::F)->(∃w:Nat,i64.wrap ((j:Int)+1)=w/\w<=65/\aA a (A w::cellsA b (bW .i64 f 65 0) 159::F))/\65-(i64.wrap ((j:Int)+1)).toNat<65-((j:Int)).toNat:=by
   intro a h;rw[show i64.wrap ((j:Int)+1)=((j+1:Nat):Int) by rw[aJ];omega];exact⟨⟨j+1,rfl,d,h⟩,by simp only[Vi];omega⟩
  refine λJ u=>⟨λv=>?_,λv=>?_⟩
  .have x:f j≠0:=by simpa using v
   refine B j d x _ _ _ h (λa h=>⟨true,rfl,u _ _ ?_⟩) (λa h=>⟨false,rfl,u _ _ ?_⟩)
   .skip
    exact⟨λe=>by simp at e,λ_=>m _ h⟩
   .skip
    exact⟨λ_=>D _ h,λe=>by simp at e⟩
  .have E:f j=0:=by simpa using v
   refine u _ _ ?_;rw[C j d E]at h;exact⟨λe=>by simp at e,λ_=>m _ h⟩
 .have:j=65:=by have:=Vb n;omega
  subst this;exact k _ h
end
theorem Iv(c:Cl){j:Nat}(a:j<65):aT (dx c) (7+j)=some (aB (c.h j)):=by
 refine (y6 (l:=[aB c.n,aB (cx c.sum),.int .u64 (wlo c.sum),aB c.mn,aB c.mx,aB c.cer,aB c.pos]) j).trans ?_;rw[tX _ _ _ _ _ a,Vw]
section
variable {F L:List aE}{H:aC}{K:KE}
theorem eqW(x y:Int):iH Tryz.prog .neq 157 (kN x) (kN y) (!decide (x=y))/\iH Tryz.prog .eql 157 (kN x) (kN y) (decide (x=y)):=by
 have h:=tr (P:=Tryz.prog) (t:=157) (xs:=[aD (cx x),.int .u64 (wlo x)]) (ys:=[aD (cx y),.int .u64 (wlo y)]) (r:=(cx x == cx y&&(wlo x == wlo y&&true))) (by kernel_rfl);have e:(cx x == cx y&&(wlo x == wlo y&&true))=decide (x=y):=by
  rw[VH];simp only[Bool.and_true,Vd,beq_iff_eq,Vc];exact weq
 rw[e]at h;exact⟨h.2,h.1⟩
theorem tZ{c:Cl}(wc:WC c)(h:aA H F)(k:∀J,aA J F->K (.bool (fX c)) J):CF 222 #[aggC c] H K:=by
 refine cL 222 (.r (.seq (.r (.cond (.r .no) .no)) (.seq (.r (.blk (.loop [(30,sI)] (.r (.seq (.cond .no .no) (.seq (.blk (.r (.r (.cond (.r .no) .no)))) .reg)))))) (.seq (.r (.cond (.r .no) .no)) (.seq (.r (.cond (.r .no) .no)) (.seq (.regJ [(5,sA),(6,sA)]) (.seq (.r (.cond (.r .no) .no)) (.seq (.r (.blk (.rng [sI,sI] [none,(some .ret)] .reg (.blk (.r (.cond (.r .no) .no)))))) (.r .no))))))))) ?_;unfold fX at k;refine h.al λb _ h=>?_
 refine h.al λb1 _ h=>?_
 refine⟨_,h.r 1,_,λ_=>h.r 1,_,λ_=>h.r 1,_,λ_=>h.r 1,_,λ_=>h.r 1,λL=>?_,λL=>?_⟩
 .rw [L]at k;refine h.sta 0 rfl rfl λB h=>⟨_,h.r 0,?_⟩
  exact k _ h.tl.tl
 rw[L]at k;refine⟨c.h,h.rdt (l:=[_,_,_,_,_,_,_]) 1 rfl rfl,?_⟩;refine⟨λi J=>∃j:Nat,i=j/\j<=65/\(∀q,q<j->0<=c.h q)/\aA J (cellsA b1 [.bool false] 4::cellsA b (dx c) 161::F),λi _=>65-i.toNat,⟨0,rfl,by omega,λ_ h=>by omega,h⟩,?_⟩
 rintro i H1 ⟨j,rfl,N,T,h⟩;refine⟨λv=>?_,λv=>?_⟩
 .have I:j<65:=by have:=Va v;omega
  refine⟨_,idx60 (by omega) (by omega),?_⟩;rw[Vi];refine⟨λC=>?_,λC=>?_⟩
  .have C:=Va C;have:od c.h=false:=by
    rw[WW];intro D;have:=qt.1 D j I;omega
   rw[this]at k;refine h.sta 0 rfl rfl λB h=>⟨_,h.r 0,?_⟩
   exact k _ h.tl.tl
  .have C:=Vb C
   conv=>whnf
   rw[show i64.wrap ((j:Int)+1)=((j+1:Nat):Int) by rw[aJ];omega];refine⟨⟨j+1,rfl,I,λq t=>?_,h⟩,by simp only[Vi];omega⟩
   rcases V0 q j with d|d
   .exact T q d
   .obtain rfl:q=j:=by omega
    omega
 .have y:j=65:=by have:=Vb v;omega
  subst y;have V:od c.h=true:=qt.2 T;rw[V]at k;refine⟨c.h,h.rdt (l:=[_,_,_,_,_,_,_]) 1 rfl rfl,_,h.r 1,?_⟩;refine QW wc.h h λB h=>⟨_,_,rfl,h.r 1,?_⟩
  refine zX wc.n h λH3 h=>⟨_,_,rfl,_,(eqW _ _).1,λw=>?_,λw=>?_⟩
  .have:decide (sumC c.h=c.n)=false:=by simpa using w
   rw[this]at k;refine h.sta 0 rfl rfl λB h=>⟨_,h.r 0,?_⟩
   exact k _ h.tl.tl
  have hs:decide (sumC c.h=c.n)=true:=by simpa using w
  rw[hs]at k;simp only[Bool.not_false,WB]at k;refine⟨_,h.r 1,λe=>?_,λe=>?_⟩
  .rw [UX (Va e)]at k;have e0:=(eqW c.sum 0).2;refine⟨_,_,h.rdv (l:=[_]) (vs:=[_,_]) 1 rfl rfl,_,e0,_,λ_=>h.r 1,_,λ_=>h.r 1,?_⟩
   refine h.sta 0 rfl rfl λB h=>⟨_,h.r 0,?_⟩
   exact k _ h.tl.tl
  .rw [UW (Vb e)]at k;have bl:=oY wc.mn;have U:=oY wc.mx;intro Jn hJ;have fin:∀m hb E,aA E (cellsA m [aD (bY c.mn)] 3::cellsA hb [aD (bY c.mx)] 3::cellsA b1 [.bool false] 4::cellsA b (dx c) 161::F)->Jn m 0 hb 0 E:=by
    intro m hb E h;refine hJ _ _ _ _ _ ?_;have g1:aK E b (7+(bY c.mn).toNat)=some (aD (c.h (bY c.mn).toNat)):=by rw[h.rd 3 rfl];exact Iv c (by omega)
    have g2:aK E b (7+(bY c.mx).toNat)=some (aD (c.h (bY c.mx).toNat)):=by rw[h.rd 3 rfl];exact Iv c (by omega)
    refine⟨_,h.r 0,bl,_,g1,_,λ_=>h.r 1,λ_=>U,_,λ_=>g2,λs=>?_,λs=>?_⟩
    .rw [s]at k;refine h.sta 2 rfl rfl λB h=>⟨_,h.r 2,?_⟩
     exact k _ h.tl.tl.tl.tl
    rw[s]at k;simp only[Bool.not_false,WB]at k;refine⟨c.h,h.rdt (l:=[_,_,_,_,_,_,_]) 3 rfl rfl,?_⟩;refine It h λfb Q h=>⟨_,_,rfl,rfl,λR O M Y=>?_⟩
    have h:=h.rng R;refine Iu (f:=c.h) (λj=>star [cellsA m [aD (bY c.mn)] 3,cellsA hb [aD (bY c.mx)] 3,cellsA b1 [.bool false] 4,pt (Q.size+1) (.loop R),pur (∀q,q<j->c.h q=0\/bY c.mn<=q/\(q:Int)<=bY c.mx)])
     (star [cellsA m [aD (bY c.mn)] 3,cellsA hb [aD (bY c.mx)] 3,cellsA b1 [.bool false] 4,pt (Q.size+1) (.loop { R with state:=.done,pending:=some .ret }),pur (inB c=false)])
     (F:=pt Q.size (.deferred (some []))::cellsA b (dx c) 161::F) ?_ ?_ ?_ ?_ ?_
    .refine aA.shut [_,_,_,_,_] ?_;have h2:=((h.o [3,4,5,0,2,1,6] 7).pur (p:=∀q:Nat,q<0->c.h q=0\/bY c.mn<=q/\(q:Int)<=bY c.mx) (λq t=>UY t (Nat.not_lt_zero q)))
     exact h2.o [1,2,3,4,0] 5
    .intro j N hz;have:(∀q,q<j->c.h q=0\/bY c.mn<=q/\(q:Int)<=bY c.mx)=(∀q,q<j+1->c.h q=0\/bY c.mn<=q/\(q:Int)<=bY c.mx):=propext ⟨λD q t=>by
      rcases V0 q j with d|d
      .exact D q d
      .obtain rfl:q=j:=by omega
       exact .inl hz,λD q t=>D q (by omega)⟩
     simp only[this]
    .intro j N W G S K1 h kt kf;have h:=aA.open (A:=[_,_,_,_,_]) h;have x:=(aA.consP (h.o [4,0,1,2,3] 5)).1;refine Y _ _ _ ?_;refine⟨_,_,rfl,h.getO 3 rfl,h.getO 3 rfl,h.stl 3 rfl λH7 h=>⟨_,h.r 0,_,λ_=>h.r 1,λu=>?_,λu=>?_⟩⟩
     .refine h.sta 2 rfl rfl λH8 h=>⟨h.getO 3 rfl,kf _ ?_⟩
      have h:=h.setO 3 rfl (.loop { R with state:=.done,pending:=some .ret });have a:inB c=false:=by
       rw[WW];intro a;unfold inB at a;rw[VL]at a;have:=a j (Wg.2 N);simp only[Vr,Vc]at this u;omega
      refine aA.shut [_,_,_,_,_] ?_;exact ((h.pur a).o [1,2,3,4,0] 6)
     .refine⟨h.getO 3 rfl,kt _ ?_⟩;have h:=h.setO 3 rfl (.loop R);refine aA.shut [_,_,_,_,_] ?_;have P:∀q,q<j+1->c.h q=0\/bY c.mn<=q/\(q:Int)<=bY c.mx:=λq t=>by
       rcases V0 q j with d|d
       .exact x q d
       .obtain rfl:q=j:=by omega
        simp only[Vp,Ve]at u;exact .inr (by omega)
      exact ((h.pur P).o [1,2,3,4,0] 6)
    .intro S h;have h:=aA.open (A:=[_,_,_,_,_]) h;have x:=(aA.consP (h.o [4,0,1,2,3] 5)).1;have a:inB c=true:=by
      unfold inB;rw[VL];intro q t;have:=x q (Wg.1 t);simp only[Vr,Vc];exact this
     rw[a]at k;refine⟨.ready,none,by decide,by rw[nt O M];exact h.getO 3 rfl,h.stl 3 rfl λH9 h=>.inl ⟨rfl,?_⟩⟩
     refine h.sta 2 rfl rfl λZ h=>⟨h.getO 6 rfl,?_⟩
     have h:=h.setO 6 rfl (.deferred none);exact⟨_,h.r 2,k _ (h.o [7] 8).tl⟩
    .intro S h;have h:=aA.open (A:=[_,_,_,_,_]) h;have a:=(aA.consP (h.o [4,0,1,2,3] 5)).1;rw[a]at k;refine⟨.done,some .ret,by decide,h.getO 3 rfl,h.stl 3 rfl λH9 h=>.inr ⟨rfl,h.getO 6 rfl,?_⟩⟩
     have h:=h.setO 6 rfl (.deferred none);exact⟨_,h.r 2,k _ (h.o [7] 8).tl⟩
   refine⟨_,h.r 1,_,mA wc.mn,_,h.r 1,_,mA wc.mx,?_,?_⟩
   .refine h.al λm _ h=>⟨mA wc.mx,h.r 2,mA wc.mn,h.r 2,?_⟩
    refine h.al λhb _ h=>⟨mA wc.mx,h.r 3,mA wc.mn,h.r 3,?_⟩
    refine h.sta 1 rfl rfl λ_ h=>h.sta 0 rfl rfl λ_ h=>?_
    exact fin _ _ _ (h.o [1,0] 2)
   .refine h.al λm _ h=>⟨mA wc.mx,h.r 2,mA wc.mn,h.r 2,?_⟩
    refine h.al λhb _ h=>⟨mA wc.mx,h.r 3,mA wc.mn,h.r 3,?_⟩
    refine h.sta 0 rfl rfl λ_ h=>h.sta 1 rfl rfl λ_ h=>?_
    exact fin _ _ _ h
end
section
variable {H:aC}{L:List aE}
theorem aA.stv{Q:aC->Prop}{b e n o:Nat}{f:Nat->Int}{j:Nat}{x:Int}(h:aA H L)(i:Nat)(c:aW i L=cellsA b (bW .i64 f n 0) e)(d:j<n)(m:o=0+j)(k:∀a,aA a (put i (cellsA b (bW .i64 (eW f j x) n 0) e) L)->Q a) :
  eQ H b o [aB x]/\∀a,a=fJ H b o [aB x]->Q a:=by
 subst m;rw[Vw];refine⟨h.can i c j _ (by rw[rR];simp;omega),?_⟩;rintro a rfl;have:=h.set i c j [aB x];have e2:cv (bW .i64 f n 0) j [aB x]=bW .i64 (eW f j x) n 0:=by
  show (bW .i64 f n 0).set j (aB x)=_;rw[zW _ _ _ _ _ _ d,Vw]
 rw[e2]at this;exact k _ this
theorem aA.stt{Q:aC->Prop}{b e o:Nat}{l r vs:Os}(h:aA H L)(i:Nat)(c:aW i L=cellsA b (l++r) e)(f:o=l.length)(d:vs.length=r.length)(k:∀a,aA a (put i (cellsA b (l++vs) e) L)->Q a) :
  eQ H b o vs/\∀a,a=fJ H b o vs->Q a:=by
 subst f;refine⟨h.can i c _ _ (by rw[UZ];omega),?_⟩;rintro a rfl;have:=h.set i c l.length vs;have e2:cv (l++r) l.length vs=l++vs:=by
  have:=tg vs l r 0;rw[Wm]at this;rw[this,vA _ _ d]
 rw[e2]at this;exact k _ this
end
section
variable {F L:List aE}{H:aC}{K:KE}
theorem QY{f:Nat->Int}{v:Int}(t:wfH f)(n:aF v)(h:aA H F)(k:∀s,aA s F->K (.tuple #[.agg ⟨bW .i64 (jl f v).1 65 0⟩,aD (jl f v).2]) s) :
  CF 337 #[.agg ⟨bW .i64 f 65 0⟩,aD v] H K:=by
 refine cM 337 1907996 ?_;unfold jl at k;refine h.al λb _ h=>?_
 refine h.al λb1 _ h=>⟨f,h.rda 1 rfl,?_⟩
 refine QU h λu h=>⟨_,rfl,λe=>?_,λe=>?_⟩
 .rw [UX (by simpa using e)]at k;refine h.sta 0 rfl rfl λi h=>⟨_,h.rda 0 rfl,k _ h.tl.tl⟩
 rw[UW (by simpa using e)]at k;have hb:=oY n;have d:(bY v).toNat<65:=by omega
 have a:aK u b (0+(bY v).toNat)=some (aD (f (bY v).toNat)):=by
  rw[h.rd 1 rfl,Vw,tX _ _ _ _ _ d,Vw]
 refine⟨_,mA n,hb,_,a,λc=>?_,λc=>?_⟩
 .rw [UX (Va c)]at k;refine h.sta 0 rfl rfl λi h=>⟨_,h.rda 0 rfl,k _ h.tl.tl⟩
 have m:=Vb c;rw[UW m]at k;have j:=t _ d;unfold aF at j;refine⟨hb,_,a,hb,?_⟩;rw[aJ (x:=f (bY v).toNat+1)];refine h.stv 1 rfl d rfl λi h=>⟨_,h.rda 1 rfl,?_⟩
 refine h.sta 0 rfl rfl λi h=>⟨_,h.rda 0 rfl,k _ h.tl.tl⟩
theorem Iw{c:Cl}{a:Bool}(wc:WC c)(h:aA H F)(k:∀i,aA i F->K (.tuple #[aggC (gM c a).1,aD (gM c a).2]) i) :
  CF 291 #[aggC c,.bool a] H K:=by
 refine cN 291 1997721083164 [[(6,sP)]] ?_;unfold gM at k;have wn:=Is wc;refine h.al λb _ h=>?_
 refine h.al λb1 _ h=>⟨_,_,_,_,_,_,_,_,h.rda 1 rfl,?_⟩
 refine tZ wc h λj h=>⟨_,rfl,λe=>?_,λe=>?_⟩
 .rw [UX (by simpa using e)]at k;refine h.sta 0 rfl rfl λd h=>⟨_,_,_,_,_,_,_,_,h.rda 0 rfl,k _ h.tl.tl⟩
 rw[UW (by simpa using e)]at k;refine λm f=>⟨λhb=>f _ _ ?_,λhb=>f _ _ ?_⟩
 .rw [UX hb]at k;refine⟨_,h.r 1,λhm=>?_,λhm=>?_⟩
  .rw [UX (Va hm)]at k;refine h.sta 0 rfl rfl λd h=>⟨_,_,_,_,_,_,_,_,h.rda 0 rfl,k _ h.tl.tl⟩
  .have hm:=Vb hm;rw[UW hm]at k;have:=wc.cer;unfold aF at this;refine⟨_,h.r 1,?_⟩
   conv=>whnf
   rw[aJ (x:=c.cer+1)];refine h.st 1 rfl rfl λd h=>?_
   have h:aA d (cellsA b1 (dx Cl.z) 161::cellsA b (dx { c with cer:=c.cer+1 }) 161::F):=h;refine⟨_,_,_,_,_,_,_,_,h.rda 1 rfl,?_⟩;refine h.sta 0 rfl rfl λd h=>⟨_,_,_,_,_,_,_,_,h.rda 0 rfl,k _ h.tl.tl⟩
 .rw [UW (by rw[hb];decide)]at k;refine⟨_,h.r 1,λhm=>?_,λhm=>?_⟩
  .rw [UX (Va hm)]at k;refine h.sta 0 rfl rfl λd h=>⟨_,_,_,_,_,_,_,_,h.rda 0 rfl,k _ h.tl.tl⟩
  .have hm:=Vb hm;rw[UW hm]at k;have:=wc.pos;unfold aF at this;refine⟨_,h.r 1,?_⟩
   conv=>whnf
   rw[aJ (x:=c.pos+1)];refine h.st 1 rfl rfl λd h=>?_
   have h:aA d (cellsA b1 (dx Cl.z) 161::cellsA b (dx { c with pos:=c.pos+1 }) 161::F):=h;refine⟨_,_,_,_,_,_,_,_,h.rda 1 rfl,?_⟩;refine h.sta 0 rfl rfl λd h=>⟨_,_,_,_,_,_,_,_,h.rda 0 rfl,k _ h.tl.tl⟩
theorem QZ{c:Cl}{v:Int}(wc:WC c)(j:aF v)(h:aA H F)(k:∀D,aA D F->K (.tuple #[aggC (jR c v).1,aD (jR c v).2]) D) :
  CF 294 #[aggC c,aD v] H K:=by
 refine cN 294 0x1d1d28d1d2174911c [[],[(7,sI),(8,sA)]] ?_;unfold jR at k;refine h.al λb _ h=>?_
 refine h.al λb1 _ h=>⟨_,_,_,_,_,_,_,_,h.rda 1 rfl,?_⟩
 refine tZ wc h λN h=>⟨_,rfl,λm=>?_,λm=>?_⟩
 .rw [UX (by simpa using m)]at k;refine h.sta 0 rfl rfl λf h=>⟨_,_,_,_,_,_,_,_,h.rda 0 rfl,k _ h.tl.tl⟩
 rw[UW (by simpa using m)]at k;refine⟨_,h.r 1,_,_,Ge wc.n (by decide),λt=>?_,λt=>?_⟩
 .rw [UX (by simpa using t)]at k;refine h.sta 0 rfl rfl λf h=>⟨_,_,_,_,_,_,_,_,h.rda 0 rfl,k _ h.tl.tl⟩
 rw[UW (by simpa using t)]at k;intro L J;have a:fW v:=by unfold aF at j;unfold fW;omega
 have fin:∀sb i,aA i (cellsA sb [aD (cx (gL c.sum v).1),.int .u64 (wlo (gL c.sum v).1)] 157::cellsA b1 (dx Cl.z) 161::cellsA b (dx c) 161::F)->L (gL c.sum v).2 sb 0 i:=by
  intro sb i h;refine J _ _ _ _ ?_;refine⟨λs=>?_,λs=>?_⟩
  .rw [UX (by simpa using s)]at k;refine h.sta 1 rfl rfl λf h=>⟨_,_,_,_,_,_,_,_,h.rda 1 rfl,k _ h.tl.tl.tl⟩
  rw[UW (by simpa using s)]at k;refine⟨c.h,h.rdt (l:=[_,_,_,_,_,_,_]) 2 rfl rfl,?_⟩;refine QY wc.h j h λA h=>⟨_,_,rfl,?_⟩
  refine h.al λb2 _ h=>?_
  refine h.sta 0 rfl rfl λM h=>⟨λx=>?_,λx=>?_⟩
  .rw [UX (by simpa using x)]at k;refine h.sta 2 rfl rfl λf h=>⟨_,_,_,_,_,_,_,_,h.rda 2 rfl,k _ h.tl.tl.tl.tl⟩
  rw[UW (by simpa using x)]at k;refine⟨_,h.r 3,λu B=>?_⟩
  dsimp only at k;have e:∀(mn mx:Int) y,mn=(if c.n=0 then v else c.mn)->mx=(if c.n=0 then v else c.mx)->aA y (cellsA b2 (bW .i64 (jl c.h v).1 65 0) 159::cellsA sb [aD (cx (gL c.sum v).1),.int .u64 (wlo (gL c.sum v).1)] 157::cellsA b1 (dx Cl.z) 161::cellsA b (dx { c with mn:=mn,mx:=mx }) 161::F)->u y:=by
   intro mn mx y e1 e2 h;refine B _ ?_;rw[<-e1,<-e2]at k;refine⟨_,_,h.rda 1 rfl,_,h.rda 0 rfl,?_⟩;refine h.st 3 rfl rfl λI h=>⟨h.rda 0 rfl,h.rda 1 rfl,?_⟩
   refine h.st 3 rfl rfl λE h=>⟨h.rda 0 rfl,?_⟩
   have h:aA E (cellsA b2 (bW .i64 (jl c.h v).1 65 0) 159::cellsA sb [aD (cx (gL c.sum v).1),.int .u64 (wlo (gL c.sum v).1)] 157::cellsA b1 (dx Cl.z) 161::cellsA b (dx { c with n:=(jz c.n 1).1,sum:=(gL c.sum v).1,mn:=mn,mx:=mx }) 161::F):=h;refine h.stt (l:=[_,_,_,_,_,_,_]) 3 rfl rfl rfl λw h=>?_
   have h:aA w (cellsA b2 (bW .i64 (jl c.h v).1 65 0) 159::cellsA sb [aD (cx (gL c.sum v).1),.int .u64 (wlo (gL c.sum v).1)] 157::cellsA b1 (dx Cl.z) 161::cellsA b (dx { c with n:=(jz c.n 1).1,sum:=(gL c.sum v).1,mn:=mn,mx:=mx,h:=(jl c.h v).1 }) 161::F):=h;refine⟨_,h.r 3,_,h.r 3,?_⟩;refine h.st 3 rfl rfl λG h=>?_
   refine h.st 3 rfl rfl λC h=>?_
   have h:aA C (cellsA b2 (bW .i64 (jl c.h v).1 65 0) 159::cellsA sb [aD (cx (gL c.sum v).1),.int .u64 (wlo (gL c.sum v).1)] 157::cellsA b1 (dx Cl.z) 161::
    cellsA b (dx { c with n:=(jz c.n 1).1,sum:=(gL c.sum v).1,mn:=if v<mn then v else mn,mx:=if v>mx then v else mx,h:=(jl c.h v).1 }) 161::F):=h
   refine⟨_,_,_,_,_,_,_,_,h.rda 3 rfl,?_⟩;refine h.sta 2 rfl rfl λf h=>⟨_,_,_,_,_,_,_,_,h.rda 2 rfl,k _ h.tl.tl.tl.tl⟩
  refine⟨λd=>?_,λd=>?_⟩
  .have d:=Va d;refine h.st 3 rfl rfl λI h=>?_
   refine h.st 3 rfl rfl λE h=>?_
   exact e v v _ (by rw[UX d]) (by rw[UX d]) h
  .have d:=Vb d;exact e c.mn c.mx _ (by rw[UW d]) (by rw[UW d]) h
 refine⟨_,_,h.rdv (l:=[_]) (vs:=[_,_]) 1 rfl rfl,?_,?_⟩
 .refine zX j h λf h=>⟨_,_,rfl,h.rdv (l:=[_]) (vs:=[_,_]) 1 rfl rfl,?_,?_⟩
  .refine zY wc.sum a h λi h=>⟨_,_,_,rfl,?_⟩
   refine h.al λb3 _ h=>?_
   refine h.sta 0 rfl rfl λA h=>fin _ _ h
  .refine h.al λb3 _ h=>⟨h.rdv (l:=[_]) (vs:=[_,_]) 2 rfl rfl,?_⟩
   refine zY wc.sum a h λi h=>⟨_,_,_,rfl,?_⟩
   refine h.sta 0 rfl rfl λA h=>fin _ _ h
 .refine h.al λb3 _ h=>⟨h.rdv (l:=[_]) (vs:=[_,_]) 2 rfl rfl,?_⟩
  refine zX j h λf h=>⟨_,_,rfl,h.rdv (l:=[_]) (vs:=[_,_]) 2 rfl rfl,?_⟩
  refine zY wc.sum a h λi h=>⟨_,_,_,rfl,?_⟩
  refine h.sta 0 rfl rfl λA h=>fin _ _ h
end
structure Ky where
 win:Int
 ser:Fa
deriving DecidableEq
abbrev eL(k:Ky):Os:=[aB k.win,.string k.ser]
abbrev aggK(k:Ky):Value:=.agg ⟨eL k⟩
theorem qu(k:Ky):(eL k).length=2:=rfl
abbrev Ot:=Ky×Cl
abbrev cI(o:Ot):Os:=[aB o.1.win,.string o.1.ser,aB o.2.n,aB (cx o.2.sum),.int .u64 (wlo o.2.sum),aB o.2.mn,aB o.2.mx,aB o.2.cer,aB o.2.pos]++bW .i64 o.2.h 65 0
theorem iT(o:Ot):(cI o).length=74:=by simp[cI,rR]
theorem rS(o:Ot):cR (cI o)=true:=vB rfl (In _ _ _ _)
theorem ba_beq(x y:Fa):(x.toList == y.toList)=decide (x=y):=by
 rw[VH,beq_iff_eq,Vc,ByteArray.toList_eq,ByteArray.toList_eq]
 constructor
 .intro h
  cases x with|mk a=>cases y with|mk b=>
   cases a;cases b
   simp only at h;rw[h]
 .intro h;rw[h]
def cq(first last:Int):List Int:=(List.range (last-first+1).toNat).map λi:Nat=>first+i
abbrev CM:=List (Ky×Cl)
def fN(m:CM)(k:Ky):Cl:=(aL k m).getD Cl.z
def jS(m:CM)(ser:Fa)(ws:List Int):Int:=((ws.filter λw=>(aL ⟨w,ser⟩ m).isNone).length:Nat)
def qv(most:Int)(m:CM)(first last:Int)(ser:Fa):Bool:=
 if last<first then false else if most<=last-first then false else decide ((m.length:Int)+jS m ser (cq first last)<=most)
def ib(m:CM)(ser:Fa)(certain:Bool):List Int->CM×Int
 | []=>([],0)
 | w::r=>if (gM (fN m ⟨w,ser⟩) certain).2≠0 then ([],(gM (fN m ⟨w,ser⟩) certain).2)
  else ((⟨w,ser⟩,(gM (fN m ⟨w,ser⟩) certain).1)::(ib m ser certain r).1,(ib m ser certain r).2)
def lH(l:CM)(m:CM):CM:=l.foldl (λm p=>mset p.1 p.2 m) m
def jT(most:Int)(m:CM)(first last:Int)(ser:Fa):CM×Int:=
 if last<first then (m,10) else if qv most m first last ser=false then (m,20) else
 if (ib m ser (decide (first=last)) (cq first last)).2≠0 then (m,(ib m ser (decide (first=last)) (cq first last)).2)
 else (lH (ib m ser (decide (first=last)) (cq first last)).1 m,0)
def mB(m:CM)(k:Ky)(v:Int):CM×Int:=
 match aL k m with
 | none=>(m,19)
 | some c=>if (jR c v).2≠0 then (m,(jR c v).2) else (mset k (jR c v).1 m,0)
def jU(most:Int)(m:CM)(k:Ky)(c:Cl):CM×Int:=
 if (aL k m).isSome then (m,18) else if fX c=false then (m,10) else if most<=(m.length:Int) then (m,20) else (mset k c m,0)
structure ee(most:Int)(m:CM):Prop where
 m1:1<=most
 m2:most<=1024
 nd:(aG m).Nodup
 wc:∀p∈m,WC p.2
 rt:∀p∈m,fX p.2=true
 wn:∀p∈m,aF p.1.win
 len:(m.length:Int)<=most
theorem ee.cell{most:Int}{m:CM}(h:ee most m)(k:Ky):WC (fN m k):=by
 unfold fN
 cases hm:aL k m with
 | none=>exact WC.z
 | some c=>exact h.wc _ (gY hm)
theorem koK:nr Tryz.prog 154 aggK:=N1 Tryz.underlying154 (λx y h=>by
  cases x;cases y;simp only[List.cons.injEq,Value.int.injEq,Value.string.injEq,and_true,true_and]at h;rw[h.1,h.2])
 (λx y=>by
  have h:rq Tryz.prog 154 (eL x) (eL y)=some (x.win == y.win&&(x.ser == y.ser&&true)):=by kernel_rfl
  rw[h];congr 1;rw[VH];simp only[Bool.and_true,Vd,beq_iff_eq,Vc,Go.MapKept.bytes_beq]
  cases x;cases y
  simp)
 (λx=>by kernel_rfl) (λx n=>by
  have hb:(x.ser == x.ser)=true:=(Go.MapKept.bytes_beq _ _).2 rfl;unfold Instr.sameBits;simp[Instr.sameBits,hb])
theorem mtC:l9 Tryz.prog 272 154 161 aggC Cl.z:=qf Tryz.underlying272 (by kernel_rfl)
theorem sl86:SlT Tryz.prog 143 164 74 600:=iM (by kernel_rfl)
abbrev shC(sb mb:Nat)(most:Int):aE:=cellsA sb [aD most,.map (some mb)] 274
abbrev cz(mb:Nat)(m:CM):aE:=mapA aggK aggC mb m
section
variable {sb mb:Nat}{most:Int}{m:CM}{F L:List aE}{H:aC}{K:KE}
theorem Ix(h:aA H F)(k1:most<1\/1024<most->K (.tuple #[.pointer none,aD 11]) H)
  (k2:∀sb mb b,ee most []->aA b (shC sb mb most::cz mb []::F)->K (.tuple #[PA sb 0,aD 0]) b):CF 184 #[aD most] H K:=by
 refine cM 184 476 ⟨λa=>k1 (by simpa using a),λa=>?_⟩
 simp only[Vp,Ve]at a;refine h.alm aggK aggC λmb _ h=>?_
 refine h.al λsb _ h=>?_
 exact k2 _ _ _ ⟨by omega,by omega,List.nodup_nil,by simp,by simp,by simp,by simp;omega⟩ h
theorem Ra(h:aA H F)(i j:Nat)(a:aW i F=shC sb mb most)(b:aW j F=cz mb m):bU Tryz.prog 55 #[PA sb 0] H (aD (m.length:Nat)):=
 cM 55 28 ⟨_,h.rd i a _,_,h.mp_len mtC j b,rfl,rfl⟩
theorem u64sub{a b:Int}(c:aF a)(hb:aF b)(h:b<=a):u64.wrap (u64.wrap a-u64.wrap b)=a-b:=by
 unfold aF at c hb;rw[dd,dd,dd];omega
theorem Iy{first last:Int}(h:first<=last):((cq first last).length:Int)=last-first+1:=by
 simp only[cq,Vl,List.length_range];omega
theorem Iz{first last:Int}{j:Nat}(a:j<(cq first last).length):(cq first last)[j]=first+(j:Nat):=by simp[cq]
theorem Rb(ok:ee most m){first last:Int}{ser:Fa}(G:aF first)(I:aF last)(h:aA H (shC sb mb most::cz mb m::F))
  (k:∀t,aA t (shC sb mb most::cz mb m::F)->K (.bool (qv most m first last ser)) t) :
  CF 290 #[PA sb 0,aD first,aD last,.string ser] H K:=by
 refine NT ?_;unfold qv at k;have P:=ok.m1;have M:=ok.m2;have L:=ok.len;refine⟨λv=>?_,λv=>?_⟩
 .rw [UX (Va v)]at k;exact k _ h
 have E:=Vb v;rw[UW E]at k;have em:u64.wrap most=most:=by rw[dd];omega
 have N:=u64sub I G (by omega);rw[N];refine⟨_,h.r 0,?_⟩;dsimp only;rw[em];refine⟨λd=>?_,λd=>?_⟩
 .rw [UX (Va d)]at k;exact k _ h
 have A:=Vb d;rw[UW A]at k;have y:=Iy (first:=first) (last:=last) (by omega);refine⟨_,h.r 0,_,h.mp_len mtC 1 rfl,?_⟩;refine⟨λn i t=>∃j:Nat,i=j/\j<=(cq first last).length/\n=(m.length:Int)+jS m ser ((cq first last).take j)/\aA t (shC sb mb most::cz mb m::F),λ_ i _=>(cq first last).length-i.toNat,
  ⟨0,rfl,V3 _,by simp[jS],h⟩,?_⟩
 rintro n i R ⟨j,rfl,U,rfl,h⟩;have e1:i64.wrap (i64.wrap (last-first)+1)=((cq first last).length:Int):=by rw[aJ (x:=last-first),aJ,y]
 rw[e1];refine⟨λf=>?_,λf=>?_⟩
 .have s:j<(cq first last).length:=by have:=Va f;omega
  unfold aF at G I;have S:i64.wrap (first+(j:Nat))=(cq first last)[j]:=by rw[Iz s,aJ]
  have u:∀q,jS m ser ((cq first last).take q)<=q:=λq=>by
   unfold jS;have V:=WV (λw=>(aL (⟨w,ser⟩:Ky) m).isNone) ((cq first last).take q)
   have W:((cq first last).take q).length<=q:=by rw[Vx];omega
   omega
  have Q:=u j;have O:0<=jS m ser ((cq first last).take j):=by unfold jS;omega
  rw[S];refine⟨_,h.r 0,_,_,_,_,_,_,_,_,_,h.mp_get mtC koK 1 rfl (x:=⟨(cq first last)[j],ser⟩),?_⟩;refine h.al λb _ h=>?_
  refine h.sta 0 rfl (by rw[kO];exact (kO Cl.z).symm) λT h=>?_
  have e3:i64.wrap ((j:Int)+1)=((j+1:Nat):Int):=by rw[aJ];omega
  have c:jS m ser ((cq first last).take (j+1))=jS m ser ((cq first last).take j)+(if (aL (⟨(cq first last)[j],ser⟩:Ky) m).isNone then 1 else 0):=by
   unfold jS;rw[VE s,List.filter_append,UZ]
   by_cases hn:(aL (⟨(cq first last)[j],ser⟩:Ky) m).isNone=true
   .simp [hn]
   .simp [hn]
  have a:∀n2:Int,n2=(m.length:Int)+jS m ser ((cq first last).take (j+1))->∀D,aA D (shC sb mb most::cz mb m::F)->yS.r1 (λn i t=>∃j:Nat,i=j/\j<=(cq first last).length/\n=(m.length:Int)+jS m ser ((cq first last).take j)/\aA t (shC sb mb most::cz mb m::F)) (λ_ i _=>(cq first last).length-i.toNat) ((m.length:Int)+jS m ser ((cq first last).take j)) (j:Int) R n2 D:=by
   intro n2 e D h;unfold yS.r1;rw[e3];exact⟨⟨j+1,rfl,s,e,h⟩,by simp only[Vi];omega⟩
  refine λY J=>⟨λB=>J _ _ (a _ ?_ _ h.tl),λB=>J _ _ (a _ ?_ _ h.tl)⟩
  .have:(aL (⟨(cq first last)[j],ser⟩:Ky) m).isNone=true:=by simpa using B
   rw[c,this,aJ];simp only[if_true];omega
  .have:(aL (⟨(cq first last)[j],ser⟩:Ky) m).isNone=false:=by simpa using B
   rw[c,this];simp
 .have C:j=(cq first last).length:=by have:=Vb f;omega
  subst C;rw[V2 (Vg _)];refine⟨_,h.r 0,?_⟩;exact k _ h
theorem Re(ok:ee most m){key:Ky}{v:Int}(j:aF v)(h:aA H (shC sb mb most::cz mb m::F))
  (k:∀e,aA e (shC sb mb most::cz mb (mB m key v).1::F)->K (aD (mB m key v).2) e) :
  CF 243 #[PA sb 0,aggK key,aD v] H K:=by
 refine cM 243 18685212 ?_;unfold mB at k;refine h.al λb _ h=>?_
 have i:=h.mp_get mtC koK 2 rfl (x:=key);refine⟨_,h.r 1,_,_,h.rda 0 rfl,_,_,_,_,_,_,_,_,_,i,?_⟩;refine h.al λb1 _ h=>⟨h.mp_get mtC koK 3 rfl (x:=key),h.rda 1 rfl,h.r 2,?_⟩
 refine h.sta 0 rfl rfl λf h=>?_
 cases hm:aL key m with
 | none=>
  rw[hm]at k;exact⟨λ_=>k _ h.tl.tl,λa=>by simp at a⟩
 | some c=>
  rw[hm]at k h;refine⟨λa=>by simp at a,λ_=>?_⟩
  have wc:WC c:=ok.wc _ (gY hm);have h:aA f (cellsA b1 (dx c) 161::cellsA b (eL key) 154::shC sb mb most::cz mb m::F):=h;refine⟨_,_,_,_,_,_,_,_,h.rda 0 rfl,?_⟩;refine QZ wc j h λn h=>⟨_,_,_,_,_,_,_,_,_,rfl,?_⟩
  refine h.sta 0 rfl (by rw[kO];exact (kO c).symm) λs h=>?_
  dsimp only at k;refine⟨λd=>?_,λd=>?_⟩
  .rw [UX (by simpa using d)]at k;exact k _ h.tl.tl
  .rw [UW (by simpa using d)]at k;refine⟨_,h.r 2,_,_,h.rda 1 rfl,_,_,_,_,_,_,_,_,h.rda 0 rfl,?_⟩;refine h.mp_update (x:=key) (v:=(jR c v).1) mtC koK 3 rfl λt h=>?_
   exact k _ h.tl.tl
theorem Rf(ok:ee most m){key:Ky}{c:Cl}(wc:WC c)(h:aA H (shC sb mb most::cz mb m::F))
  (k:∀f,aA f (shC sb mb most::cz mb (jU most m key c).1::F)->K (aD (jU most m key c).2) f) :
  CF 206 #[PA sb 0,aggK key,aggC c] H K:=by
 refine cM 206 303815964 ?_;unfold jU at k;refine h.al λb _ h=>?_
 refine h.al λb1 _ h=>?_
 have j:=h.mp_get mtC koK 3 rfl (x:=key);refine⟨_,h.r 2,_,_,h.rda 1 rfl,_,_,_,_,_,_,_,_,_,j,?_⟩;refine h.al λb2 _ h=>⟨h.mp_get mtC koK 4 rfl (x:=key),h.rda 2 rfl,h.r 3,?_⟩
 refine h.sta 0 rfl rfl λi h=>⟨λd=>?_,λd=>?_⟩
 .rw [UX d]at k;exact k _ h.tl.tl.tl
 rw[UW (by rw[d];decide)]at k;have h:aA i (cellsA b2 _ 161::cellsA b1 (dx c) 161::cellsA b (eL key) 154::shC sb mb most::cz mb m::F):=h;refine⟨_,_,_,_,_,_,_,_,h.rda 1 rfl,?_⟩;refine tZ wc h λn h=>⟨_,rfl,λe=>?_,λe=>?_⟩
 .rw [UX (by simpa using e)]at k;exact k _ h.tl.tl.tl
 rw[UW (by simpa using e)]at k;refine⟨_,h.r 3,_,h.mp_len mtC 4 rfl,_,h.r 3,λa=>?_,λa=>?_⟩
 .rw [UX (Va a)]at k;exact k _ h.tl.tl.tl
 rw[UW (Vb a)]at k;refine⟨_,h.r 3,_,_,h.rda 2 rfl,_,_,_,_,_,_,_,_,h.rda 1 rfl,?_⟩;refine h.mp_update (x:=key) (v:=c) mtC koK 4 rfl λs h=>?_
 exact k _ h.tl.tl.tl
end
theorem Rg(l r:CM)(m:CM):lH (l++r) m=lH r (lH l m):=by unfold lH;rw[Wr]
section
variable {sb mb:Nat}{most:Int}{m:CM}{F L:List aE}{H:aC}{K:KE}
theorem Rh(ok:ee most m){first last:Int}{ser:Fa}(L:aF first)(M:aF last)(h:aA H (shC sb mb most::cz mb m::F))
  (k:∀n,aA n (shC sb mb most::cz mb (jT most m first last ser).1::F)->K (aD (jT most m first last ser).2) n) :
  CF 241 #[PA sb 0,aD first,aD last,.string ser] H K:=by
 refine Og ?_;unfold jT at k;have P:=ok.m2;refine⟨λC=>?_,λC=>?_⟩
 .rw [UX (Va C)]at k;exact k _ h
 have A:=Vb C;rw[UW A]at k;refine Rb ok L M h λH1 h=>⟨_,rfl,λu=>?_,λu=>?_⟩
 .rw [UX (by simpa using u)]at k;exact k _ h
 have a:qv most m first last ser=true:=by simpa using u
 rw[UW (by rw[a];decide)]at k;have O:last-first<most:=by
  unfold qv at a;rw[UW A]at a
  by_cases h2:most<=last-first
  .rw [UX h2]at a;cases a
  .omega
 have D:=Iy (first:=first) (last:=last) (by omega);have G:=L;unfold aF at G;refine⟨λB J y i n=>∃(j:Nat) (done:CM),i=j/\j<=(cq first last).length/\J=done.length/\done.length=j/\
   ib m ser (decide (first=last)) (cq first last)=(done++(ib m ser (decide (first=last)) ((cq first last).drop j)).1,(ib m ser (decide (first=last)) ((cq first last).drop j)).2)/\
   aA n (slA 164 74 B done.length y (flat cI done)::shC sb mb most::cz mb m::F),
  λ_ _ _ i _=>(cq first last).length-i.toNat,⟨0,[],rfl,V3 _,rfl,rfl,rfl,h.sl_nil 164 74⟩,?_⟩
 rintro B J y i Y ⟨j,done,rfl,Z,rfl,I,e,h⟩;have e1:i64.wrap (i64.wrap (last-first)+1)=((cq first last).length:Int):=by rw[aJ (x:=last-first),aJ,D]
 rw[e1];refine⟨λt=>?_,λt=>?_⟩
 .have c:j<(cq first last).length:=by have:=Va t;omega
  unfold aF at M;have T:i64.wrap (first+(j:Nat))=(cq first last)[j]:=by rw[Iz c,aJ]
  rw[T];rw[VP c,ib]at e;have wc:=ok.cell ⟨(cq first last)[j],ser⟩;refine h.al λb _ h=>?_
  refine h.sta 0 rfl rfl λR h=>λU S=>?_
  refine⟨_,h.r 2,_,_,h.rda 0 rfl,_,_,_,_,_,_,_,_,h.mp_get1 mtC koK 3 rfl (x:=⟨(cq first last)[j],ser⟩),?_⟩;have fin:∀cb s,aA s (cellsA cb (dx (gM (fN m ⟨(cq first last)[j],ser⟩) (decide (first=last))).1) 161::cellsA b (eL ⟨(cq first last)[j],ser⟩) 154::slA 164 74 B done.length y (flat cI done)::shC sb mb most::cz mb m::F)->
    U cb 0 (gM (fN m ⟨(cq first last)[j],ser⟩) (decide (first=last))).2 s:=by
   intro cb s h;refine S _ _ _ _ ?_;refine⟨λd=>?_,λd=>?_⟩
   .have d:(gM (fN m ⟨(cq first last)[j],ser⟩) (decide (first=last))).2≠0:=by simpa using d
    rw[UX d]at e;rw[e,UX d]at k;exact k _ h.tl.tl.tl
   .have d:¬(gM (fN m ⟨(cq first last)[j],ser⟩) (decide (first=last))).2≠0:=by simpa using d
    rw[UW d]at e;refine⟨_,_,h.rda 1 rfl,_,_,_,_,_,_,_,_,h.rda 0 rfl,?_⟩;rintro b1 _ rfl rfl;refine h.append1 (ws:=cI (⟨(cq first last)[j],ser⟩,(gM (fN m ⟨(cq first last)[j],ser⟩) (decide (first=last))).1)) sl86 2 rfl (iT _) (rS _) (by omega) (by omega) λW V n h=>⟨_,_,_,rfl,?_⟩
    rw[show i64.wrap ((j:Int)+1)=((j+1:Nat):Int) by rw[aJ];omega];have h:=h.tl.tl;refine⟨⟨j+1,done++[(⟨(cq first last)[j],ser⟩,(gM (fN m ⟨(cq first last)[j],ser⟩) (decide (first=last))).1)],rfl,c,by simp,by simp[I],?_,?_⟩,by simp only[Vi];omega⟩
    .rw [e,Vj];rfl
    .rw [dT,nq,UZ];exact h
  refine⟨?_,?_⟩
  .refine Iw wc h λs h=>⟨_,_,_,_,_,_,_,_,_,rfl,?_⟩
   refine h.al λb2 _ h=>?_
   refine h.sta 0 rfl (by rw[kO];exact (kO Cl.z).symm) λN h=>fin _ _ h
  .refine h.al λb2 _ h=>⟨h.mp_get1 mtC koK 4 rfl (x:=⟨(cq first last)[j],ser⟩),h.rda 1 rfl,h.r 3,?_⟩
   refine Iw wc h λs h=>⟨_,_,_,_,_,_,_,_,_,rfl,?_⟩
   refine h.sta 0 rfl (by rw[kO];exact (kO Cl.z).symm) λN h=>fin _ _ h
 .have E:j=(cq first last).length:=by have:=Vb t;omega
  subst E;rw[VY,ib,V4]at e;rw[e,UW (λQ=>Q rfl)]at k
  refine⟨λi n=>∃q:Nat,i=q/\q<=done.length/\aA n (slA 164 74 B done.length y (flat cI done)::shC sb mb most::cz mb (lH (done.take q) m)::F),λi _=>done.length-i.toNat,⟨0,rfl,V3 _,h⟩,?_⟩
  rintro i R ⟨q,rfl,hq,h⟩;refine⟨λf=>?_,λf=>?_⟩
  .have c:q<done.length:=by have:=Va f;omega
   have u:=h.sl_rd 0 rfl;have w:=u.els iT c;refine⟨⟨by omega,by omega⟩,_,_,u.some iT (by omega) c,_,_,_,_,_,_,_,_,_,_,w,?_⟩;refine h.al λb5 _ h=>?_
   refine h.sta 0 rfl (by rw[iT];exact (iT (⟨0,⟨#[]⟩⟩,Cl.z)).symm) λs h=>?_
   have h:aA s (cellsA b5 (eL done[q].1++dx done[q].2) 164::slA 164 74 B done.length y (flat cI done)::shC sb mb most::cz mb (lH (done.take q) m)::F):=h;refine⟨_,h.r 2,_,_,h.rdv (l:=[]) 0 rfl rfl,_,_,_,_,_,_,_,_,h.rdt 0 rfl rfl,?_⟩;refine h.mp_update (x:=done[q].1) (v:=done[q].2) mtC koK 3 rfl λN h=>?_
   rw[show i64.wrap ((q:Int)+1)=((q+1:Nat):Int) by rw[aJ];omega];refine⟨⟨q+1,rfl,c,?_⟩,by simp only[Vi];omega⟩;rw[VE c,Rg];exact h.tl
  .have:q=done.length:=by have:=Vb f;omega
   subst this;rw[V2 (Vg _)]at h;exact k _ h.tl
end
open  Go.Shelf Go.RowKit Go.Lib Go.Sort
def qw(a b:Int):Int:=if a<b then -1 else if b<a then 1 else 0
def oe(x y:Fa):Int:=if Op.bytesLess x.toList y.toList then -1 else if !(Op.bytesLess x.toList y.toList||x.toList == y.toList) then 1 else 0
theorem cmp182(a b:Int)(W:World):Calls Tryz.prog 220 #[.int .i64 a,.int .i64 b] W λe f=>e=.returned (.int .i64 (qw a b))/\f=W:=by
 obtain⟨r,c⟩:∃r,r=qw a b:=⟨_,rfl⟩;rw[<-c];unfold qw at c
 go_enter Tryz.func220,Tryz.ntmps220
 go_wp2
 .rename_i h;have e:r=-1:=by rw[c,UX h]
  go_ret
  exact⟨by clear c;subst e;rfl,rfl⟩
 .rename_i i _ _ d;have e:r=1:=by rw[c,nO,UX d]
  go_ret
  exact⟨by clear c;subst e;rfl,rfl⟩
 .rename_i i _ _ d;have e:r=0:=by rw[c,nO,nO]
  go_ret
  exact⟨by clear c;subst e;rfl,rfl⟩
theorem cmp183(x y:Fa)(W:World):Calls Tryz.prog 221 #[.string x,.string y] W λe d=>e=.returned (.int .i64 (oe x y))/\d=W:=by
 obtain⟨r,a⟩:∃r,r=oe x y:=⟨_,rfl⟩;rw[<-a];unfold oe at a
 go_enter Tryz.func221,Tryz.ntmps221
 go_wp2
 .rename_i h;have e:r=-1:=by rw[a,UX h]
  go_ret
  exact⟨by clear a;subst e;rfl,rfl⟩
 .have c:=‹Op.bytesLess x.toList y.toList=false›;have b:=‹(!x.toList == y.toList)=true›;have e:r=1:=by rw[a,c];simp only[W1,b,if_true,W2,if_false]
  go_ret
  exact⟨by clear a;subst e;rfl,rfl⟩
 .have c:=‹Op.bytesLess x.toList y.toList=false›;have b:=‹(!x.toList == y.toList)=false›;have e:r=0:=by rw[a,c];simp only[W1,b,if_true,W2,if_false]
  go_ret
  exact⟨by clear a;subst e;rfl,rfl⟩
def j4(x y:Ky):Int:=if qw x.win y.win≠0 then qw x.win y.win else oe x.ser y.ser
theorem cmp131(x y:Ky)(W:World):Calls Tryz.prog 130 #[.agg #[.int .i64 x.win,.string x.ser],.agg #[.int .i64 y.win,.string y.ser]] W λe c=>e=.returned (.int .i64 (j4 x y))/\∃q b,c=grow (W.drewN q) b:=by
 obtain⟨r,a⟩:∃r,r=j4 x y:=⟨_,rfl⟩;rw[<-a];unfold j4 at a;have i:=λd=>cmp182 x.win y.win d
 have f:=λd=>cmp183 x.ser y.ser d
 generalize qw x.win y.win=ri at *;generalize oe x.ser y.ser=rs at *
 go_enter Tryz.func130,Tryz.ntmps130
 go_wp2_with (first|(go_at_call 220;refine (i _).mono ?_;rintro e c ⟨rfl,rfl⟩)|(go_at_call 221;refine (f _).mono ?_;rintro e c ⟨rfl,rfl⟩))
 .rename_i h;have e:r=ri:=by rw[a,UX (by simpa using h)]
  go_ret
  exact⟨by clear a;subst e;rfl,0,_,by rw[alloc_eq_grow,alloc_eq_grow,grow_grow];rfl⟩
 .rename_i h;have e:r=rs:=by rw[a,UW (by simpa using h)]
  go_ret
  exact⟨by clear a;subst e;rfl,0,_,by rw[alloc_eq_grow,alloc_eq_grow,grow_grow];rfl⟩
theorem ltKy(x y:Ky):ltOf j4 x y=(decide (x.win<y.win)||(decide (x.win=y.win)&&Op.bytesLess x.ser.toList y.ser.toList)):=by
 unfold ltOf j4 qw oe
 by_cases h1:x.win<y.win
 .simp [h1]
 .by_cases h2:y.win<x.win
  .have:¬x.win=y.win:=by omega
   simp[h1,h2,this]
  .have:x.win=y.win:=by omega
   rw[UW h1,UW h2];simp only[ne_eq,not_true_eq_false,if_false]
   by_cases h3:Op.bytesLess x.ser.toList y.ser.toList=true
   .simp [h1,this,h3]
   .by_cases h4:(!(Op.bytesLess x.ser.toList y.ser.toList||x.ser.toList == y.ser.toList))=true
    .rw [UW h3,UX h4];simp[h1,h3]
    .rw [UW h3,UW h4];simp[h1,h3]
theorem rT(x y:Ky):ltOf j4 x y=true↔x.win<y.win\/x.win=y.win/\x.ser.toList<y.ser.toList:=by
 rw[ltKy,bytesLess_eq];simp
theorem swoKy:SWO (ltOf j4) where
 irrefl x:=by
  rw[WW];intro h
  rcases (rT _ _).1 h with h|h
  .omega
  .exact List.lt_irrefl _ h.2
 trans x y z b a:=by
  rw[rT]at *
  rcases b with b|b <;> rcases a with a|a
  .exact .inl (by omega)
  .exact .inl (by omega)
  .exact .inl (by omega)
  .exact .inr ⟨by omega,List.lt_trans b.2 a.2⟩
 ntrans x y z b a:=by
  rw[WW]at *;intro c;rw[Ne,rT,not_or]at b a;rw[rT]at c;have a1:¬(x.win=y.win/\x.ser.toList<y.ser.toList):=b.2;have a2:¬(y.win=z.win/\y.ser.toList<z.ser.toList):=a.2
  rcases c with c|c
  .omega
  .have e1:x.win=y.win:=by omega
   have e2:y.win=z.win:=by omega
   have b1:¬x.ser.toList<y.ser.toList:=λh=>a1 ⟨e1,h⟩
   have b2:¬y.ser.toList<z.ser.toList:=λh=>a2 ⟨e2,h⟩
   exact List.not_lt.2 (List.le_trans (List.not_lt.1 b2) (List.not_lt.1 b1)) c.2
theorem totKy(x y:Ky)(b:(ltOf j4) x y=false)(a:(ltOf j4) y x=false):x=y:=by
 rw[WW,Ne,rT,not_or]at b a;have e:x.win=y.win:=by omega
 have b1:¬x.ser.toList<y.ser.toList:=λh=>b.2 ⟨e,h⟩
 have b2:¬y.ser.toList<x.ser.toList:=λh=>a.2 ⟨e.symm,h⟩
 have e2:x.ser.toList=y.ser.toList:=List.le_antisymm (List.not_lt.1 b2) (List.not_lt.1 b1);have:=ba_beq x.ser y.ser;rw[e2]at this;have c:x.ser=y.ser:=by simpa using this
 cases x;cases y
 simp only at e c;rw[e,c]
instance:Inhabited Ky:=⟨⟨0,⟨#[]⟩⟩⟩
theorem Ri(pre cs post ys:Os)(c:ys.length=cs.length) :
  Sort.putCells id pre.length ys.toArray (pre++cs++post).toArray=(pre++ys++post).toArray:=by
 apply Array.ext';apply Wu;intro j;simp only[Sort.putCells,List.size_toArray];rw[Array.getElem?_toList,Array.getElem?_mapIdx,List.getElem?_toArray];rw[Vj,Vj]
 by_cases h1:j<pre.length
 .have e1:(pre++(cs++post))[j]?=some pre[j]:=by rw[List.getElem?_append_left h1,List.getElem?_eq_getElem h1]
  have e2:(pre++(ys++post))[j]?=some pre[j]:=by rw[List.getElem?_append_left h1,List.getElem?_eq_getElem h1]
  rw[e1,e2];simp only[V9];rw[nO]
 .have e1:(pre++(cs++post))[j]?=(cs++post)[j-pre.length]?:=List.getElem?_append_right (by omega);have e2:(pre++(ys++post))[j]?=(ys++post)[j-pre.length]?:=List.getElem?_append_right (by omega);rw[e1,e2]
  by_cases h2:j<pre.length+ys.length
  .have b:j-pre.length<cs.length:=by omega
   have a:j-pre.length<ys.length:=by omega
   have e3:(cs++post)[j-pre.length]?=some cs[j-pre.length]:=by rw[List.getElem?_append_left b,List.getElem?_eq_getElem b]
   have e4:(ys++post)[j-pre.length]?=some ys[j-pre.length]:=by rw[List.getElem?_append_left a,List.getElem?_eq_getElem a]
   rw[e3,e4];simp only[V9];rw[UX ⟨by omega,h2⟩];simp[a]
  .have e3:(cs++post)[j-pre.length]?=post[j-pre.length-cs.length]?:=List.getElem?_append_right (by omega);have e4:(ys++post)[j-pre.length]?=post[j-pre.length-cs.length]?:=by rw[List.getElem?_append_right (by omega),c]
   rw[e3,e4]
   cases hp:post[j-pre.length-cs.length]? with
   | none=>rfl
   | some v=>
    simp only[V9];rw[nO]
theorem I1{α:Type}[Inhabited α](enc:α->Os)(k:Nat)(c:∀x,(enc x).length=k)(xs:List α):Go.Sort.flatK enc k xs.toArray=(flat enc xs).toArray:=by
 apply Array.ext';apply Wa
 .simp [eZ c]
 .intro t j i;have a:t<xs.length*k:=by simpa using j
  have k0:0<k:=by
   rcases WS k with h|h
   .subst h;simp at a
   .exact h
  have e:t/k<xs.length:=by rw[W3 k0];exact a
  have hm:t%k<k:=Wc _ k0;have b:=vz c e (t%k) hm;have f:t/k*k+t%k=t:=WJ t k;rw[f,fL,fL]at b;have d:t%k<(enc xs[t/k]).length:=by rw[c];exact hm
  rw[List.getElem?_eq_getElem (by simpa using i),List.getElem?_eq_getElem d]at b;have b:=Option.some.inj b;simp only[Array.getElem_toList];rw[b];simp[Go.Sort.flatK,e,d]
def ie(x y:Ky):Bool:=!(decide (y.win<x.win)||(decide (y.win=x.win)&&Op.bytesLess y.ser.toList x.ser.toList))
def ei(ks:List Ky):List Ky:=ks.mergeSort ie
theorem kP(ks:List Ky):(ei ks).Perm ks:=List.mergeSort_perm _ _
theorem ua(ks:List Ky):(ei ks).length=ks.length:=(kP ks).length_eq
open  Go.RowKit Go.Sort
section
variable {L:List aE}{H:aC}{K:KE}
theorem Rk:∀args w,(callFunc 130 args).run Tryz.prog w=.ok (.enter 130 args) w:=λargs w=>by kernel_rfl
theorem sortK_eq(ks:List Ky):ks.mergeSort (λx y=>!(ltOf j4) y x)=ei ks:=by
 unfold ei;congr 1;funext x y;rw[ltKy];rfl
theorem Rl{a:KQ}{c:Nat}{xs:List Ky}(h:aA H L)(i:Nat)(hA:aW i L=slA 154 2 a xs.length c (flat eL xs))(M:xs.length<4611686018427387904)
  (k:∀Q,aA Q (put i (slA 154 2 a xs.length c (flat eL (ei xs))) L)->K (.tuple #[]) Q) :
  CF 218 #[.slice a xs.length c,.func (.func 130) #[] #[]] H K:=by
 refine .mk λw U=>?_
 subst U;have R:=h.foc i;rw[hA]at R;obtain⟨hl,⟨rfl,Y,rfl,u⟩|⟨b,pre,post,F,fr,rfl,s,D,C,u⟩⟩:=kr R
 .have Z:xs=[]:=Wk.1 Y;subst Z;refine jg (AnyF.slices_SortFunc_none Tryz.sortKA none 0 _ w) ?_;rintro e w' ⟨rfl,rfl⟩;refine⟨_,rfl,⟨rfl,rfl,rfl⟩,k _ (aA.back ?_)⟩;rw[show ei []=[] from by simp[ei]];exact re u
 .have hb:=aQ.get u;have N:b<w.heap.size:=aQ.lt u;have J:(flat eL xs).length=xs.length*2:=eZ qu xs;have G:=List.Perm.length_eq (kP xs);have d:(flat eL (ei xs)).length=xs.length*2:=by rw[eZ qu,G]
  have O:xs.length*2<=c*2:=VS _ s;have S:HoldsK eL 2 w b pre.length xs.toArray:=by
   unfold HoldsK;rw[I1 eL 2 qu];intro j A;have f:j<(flat eL xs).length:=by simpa using A
   refine⟨?_,?_⟩
   case refine_2=>
    have:=C (pre.length+j) (by omega) (by omega);simp only[World.frozen?,hb,VF,Ve];omega
   simp only[World.cell?,hb,Option.isSome_none,W2,if_false,List.getElem?_toArray];rw[Vj,List.getElem?_append_right (by omega),W7,List.getElem?_append_left f,List.getElem?_eq_getElem f];simp[f]
  have t:CmpLays Tryz.prog 130 #[] eL 2 j4 b pre.length xs.toArray.size w:=λm os dk hs x y=>cmp131 x y _
  refine jg (AnyQ.slices_SortFunc_total Tryz.sortKA 2 Tryz.isAgg154 Tryz.sizeOf154 eL qu (λx v P=>by simp[eL]at P;rcases P with rfl|rfl <;> rfl) j4 swoKy 130 #[] b pre.length c xs.toArray w Rk t S N (by simpa using M) totKy) ?_
  rintro e w' ⟨rfl,n,os,rfl⟩;refine⟨_,rfl,⟨rfl,rfl,rfl⟩,k _ (aA.back ?_)⟩;have T:(xs.toArray.toList.mergeSort λx y=>!(ltOf j4) y x).toArray=(ei xs).toArray:=by rw[<-sortK_eq]
  rw[T];have I:aQ (w.heap.modify b (onCells (putCells id pre.length (flat eL (ei xs)).toArray))) (pt b (.cells (pre++flat eL (ei xs)++post).toArray F fr)*star (del i L)):=by
   refine aQ.upd u ?_ λj A=>?_
   .rw [Array.getElem?_modify,UX rfl,hb];simp only[V9,onCells];rw[Ri _ _ _ _ (by rw[J,d])]
   .rw [Array.getElem?_modify,UW (Ne.symm A)]
  have V:aQ (w.heap.modify b (onCells (putCells id pre.length (flat eL (ei xs)).toArray))++os.toList.toArray) (pt b (.cells (pre++flat eL (ei xs)++post).toArray F fr)*star (del i L)):=
   I.grow λj A=>by rw[Array.getElem?_append_left A]
  have E:=V.frame (B:=slA 154 2 (some ⟨b,pre.length,none⟩) xs.length c (flat eL (ei xs))) λp W=>⟨d,.inr ⟨b,pre,post,F,fr,rfl,s,D,λ_=>C,W⟩⟩
  simpa[sortWorldK,grow,putRowK,putRow,mapBlock,Sort.ahead,I1 eL 2 qu] using E
theorem I4{r:Nat}{m:CM}(h:aA H L)(i:Nat)(u:aW i L=mapA aggK aggC r m)
  (k:∀c d,aA d (mapA aggK aggC c m::L)->K (.map (some c)) d) :
  CF 127 #[.map (some r)] H K:=by
 refine .mk λw v=>?_
 subst v;have f:=h.foc i;rw[u]at f;obtain⟨x,b,a,A,s,j,t⟩:=me f;have n:=AnyW.maps_Clone Tryz.cloneA4 r b a w t.get;refine jg n ?_;rintro e B ⟨rfl,rfl⟩;refine⟨_,rfl,⟨rfl,rfl,rfl⟩,k _ _ ?_⟩;exact (h.push (.map b a)).mono λp y=>⟨x,b,a,A,s,j,y⟩
end
theorem wx(x y:Ky):ie x y=true↔x.win<y.win\/x.win=y.win/\x.ser.toList<=y.ser.toList:=by
 unfold ie;rw[Go.Proofs.bytesLess_eq];simp only[V1,Vp,Ve,VF,List.not_lt]
 constructor
 .rintro⟨h1,a⟩
  by_cases h:x.win<y.win
  .exact .inl h
  .rcases a with a|a
   .omega
   .exact .inr ⟨by omega,a⟩
 .rintro (h|h)
  .exact⟨by omega,.inl (by omega)⟩
  .exact⟨by omega,.inr h.2⟩
theorem Rm{x y z:Ky}(a:ie x y=true)(b:ie y z=true):ie x z=true:=by
 rw[wx]at *
 rcases a with a|a <;> rcases b with b|b
 .exact .inl (by omega)
 .exact .inl (by omega)
 .exact .inl (by omega)
 .exact .inr ⟨by omega,List.le_trans a.2 b.2⟩
theorem Rn(x y:Ky):(ie x y||ie y x)=true:=by
 rw[Vr,wx,wx]
 by_cases h1:x.win<y.win
 .exact .inl (.inl h1)
 .by_cases h2:y.win<x.win
  .exact .inr (.inl h2)
  .rcases List.le_total x.ser.toList y.ser.toList with h|h
   .exact .inl (.inr ⟨by omega,h⟩)
   .exact .inr (.inr ⟨by omega,h⟩)
theorem ba_ext{x y:Fa}(h:x.toList=y.toList):x=y:=by
 have:=ba_beq x y;rw[h]at this;simpa using this
theorem Rq{x y:Ky}(a:ie x y=true)(b:ie y x=true):x=y:=by
 rw[wx]at *
 rcases a with a|a <;> rcases b with b|b
 .omega
 .omega
 .omega
 .have:=ba_ext (List.le_antisymm a.2 b.2)
  cases x;cases y
  simp only at this a;rw[this,a.1]
theorem wy(l:List Ky):(ei l).Pairwise λa b=>ie a b=true:=
 List.pairwise_mergeSort (le:=ie) (λa b c e d=>Rm e d) Rn l
theorem Rr{l c:List Ky}(h:l.Perm c):ei l=ei c:=
 List.Perm.eq_of_pairwise (le:=λa b=>ie a b=true) (λa b _ _ e d=>Rq e d) (wy l) (wy c) (((kP l).trans h).trans (kP c).symm)
def bA(m:CM):List Ot:=(ei (aG m)).map λk=>(k,fN m k)
theorem ub(m:CM):(bA m).length=m.length:=by simp[bA,ua,aG]
def iz(m:CM)(before:Int):List Ot:=(bA m).takeWhile λo=>decide (o.1.win<before)
def lI(m:CM)(l:List Ot):CM:=l.foldl (λm o=>bT o.1 m) m
def nH(m:CM)(before:Int):CM:=lI m (iz m before)
section
variable {sb mb:Nat}{most:Int}{m:CM}{F L:List aE}{H:aC}{K:KE}
theorem Rs(h:aA H F)(k:∀c0 a,aA a (cellsA c0 [.map (some mb)] 272::F)->K (.func (.func 219) #[] #[PA c0 0]) a):CF 129 #[.map (some mb)] H K:=by
 refine cM 129 28 ?_;exact h.al λc0 _ h=>k _ _ h
theorem Rt{l c0:Nat}(A:List Ky->aE)(h:aA H (A []::cellsA c0 [.map (some mb)] 272::cz mb m::F))
  (v:∀dn key (G:List aE) (j:aC) (s:KE),dn.length<m.length->aA j (A dn::G)->(∀i,aA i (A (dn++[key])::G)->s (.bool true) i)->fI Tryz.prog l [aggK key] j s)
  (k:∀dn c,dn.Perm (aG m)->aA c (A dn::cellsA c0 [.map (some mb)] 272::cz mb m::F)->K (.tuple #[]) c) :
  CF 219 #[.func (.yield l) #[] #[],PA c0 0] H K:=by
 refine cN 219 6017780034900889 [[]] ?_;refine⟨_,h.r 1,?_⟩
 conv=>whnf
 refine h.rg_new mtC 2 rfl λb j h=>⟨b,rfl,?_⟩
 refine⟨λc=>∃dn:CM,aA c (A (aG dn)::cellsA c0 [.map (some mb)] 272::kH aggK aggC b mb m dn::F),λc=>m.length-oI c b,⟨[],h⟩,?_⟩
 rintro i ⟨dn,h⟩;have t:=h.rg_count 2 rfl;refine h.rg_next 2 rfl (λw=>.inl ⟨rfl,(λd=>by cases d),λ_=>?_⟩) λp x y B h=>.inr ⟨_,_,rfl,(λ_=>?_),λd=>by cases d⟩
 .exact k (aG dn) _ (w.map Prod.fst) (h.rg_map 2 rfl)
 .have a:=h.rg_count 2 rfl;have f:=aA.rg_entry (P:=Tryz.prog) h 2 rfl;refine⟨_,_,_,f,?_⟩;refine h.al λb1 _ h=>?_
  refine h.sta 0 rfl rfl λC h=>⟨_,_,h.rda 0 rfl,?_⟩
  rw[UZ]at a;have n:(aG dn).length<m.length:=by simp only[aG,Vl];simp at a;omega
  refine v (aG dn) p.1 _ _ _ n (h.o [1,0,2,3] 4) λu h=>⟨true,rfl,(λd=>by cases d),λ_=>?_⟩
  have h:aA u (A (aG dn++[p.1])::cellsA c0 [.map (some mb)] 272::kH aggK aggC b mb m (dn++[p])::F):=h.o [0,2,3] 4;refine⟨⟨dn++[p],?_⟩,?_⟩
  .have e:aG (dn++[p])=aG dn++[p.1]:=by simp[aG]
   rw[e];exact h
  .have:=h.rg_count 2 rfl;rw[UZ]at this;simp only[VN]at this;show m.length-oI u b<m.length-oI i b;omega
theorem sl225:SlT Tryz.prog 277 154 2 24:=iM (by kernel_rfl)
theorem Ru{c0:Nat}(D:m.length<=1000000)(h:aA H (cellsA c0 [.map (some mb)] 272::cz mb m::F))
  (k:∀dn a c f,dn.Perm (aG m)->aA f (slA 154 2 a dn.length c (flat eL dn)::cz mb m::F)->K (.slice a dn.length c) f) :
  CF 271 #[.slice none 0 0,.func (.func 219) #[] #[PA c0 0]] H K:=by
 refine cL 271 (.r (.seq (.r (.blk (.rng [.agg [.int .i64,.str]] [none] .reg (.blk .reg)))) (.r .no))) ?_;refine h.al λb _ h=>⟨rfl,λR d e v=>?_⟩
 rename_i H0;have h:=h.rng R;have h:=h.sl_nil 154 2;refine Rt (m:=m) (mb:=mb) (λdn=>exS λp:KQ×Nat=>star [cellsA b [.slice p.1 dn.length p.2] 277,slA 154 2 p.1 dn.length p.2 (flat eL dn),pt (H0.size+1) (.loop R)])
  (F:=pt H0.size (.deferred (some []))::F) ?_ ?_ ?_
 .have h:=h.o [3,0,1,4,5,2] 6;exact cJ.2 ⟨(none,0),aA.shut [_,_,_] h⟩
 .intro dn key G j B s h t;obtain⟨⟨a,c⟩,h⟩:=cJ.1 h;have h:=aA.open (A:=[_,_,_]) h;refine v _ _ _ ?_;refine⟨_,_,rfl,h.getO 2 rfl,?_⟩;refine h.al λb1 _ h=>?_
  refine h.sta 0 rfl rfl λw h=>⟨h.getO 3 rfl,h.stl 3 rfl λx h=>?_⟩
  refine⟨_,_,_,h.r 1,_,_,h.rda 0 rfl,?_⟩;rintro b2 _ rfl rfl
  conv=>whnf
  refine h.append1 (ws:=eL key) sl225 2 rfl rfl rfl (by omega) (by omega) λn i E h=>⟨_,_,_,rfl,?_⟩
  refine h.sta 1 rfl rfl λy h=>⟨h.getO 3 rfl,t _ ?_⟩
  have h:=h.setO 3 rfl (.loop R);refine cJ.2 ⟨(n,i),aA.shut [_,_,_] ?_⟩;rw[dT,nq,UZ];exact h.o [1,2,3] 4
 .intro dn j u h;obtain⟨⟨a,c⟩,h⟩:=cJ.1 h;have h:=aA.open (A:=[_,_,_]) h;refine⟨.ready,none,by decide,by rw[nt d e];exact h.getO 2 rfl,h.stl 2 rfl λC h=>⟨rfl,?_⟩⟩
  refine⟨_,_,_,h.r 0,h.getO 5 rfl,?_⟩;have h:=h.setO 5 rfl (.deferred none);exact k dn a c _ u (h.o [1,4] 6)
theorem Rv{c0:Nat}(f:m.length<=1000000)(h:aA H (cellsA c0 [.map (some mb)] 272::cz mb m::F))
  (k:∀a c e,aA e (slA 154 2 a m.length c (flat eL (ei (aG m)))::cz mb m::F)->K (.slice a m.length c) e) :
  CF 128 #[.func (.func 219) #[] #[PA c0 0],.func (.func 130) #[] #[]] H K:=by
 refine cM 128 4380 ?_;refine cM 217 28 ?_;refine Ru f h λdn a c j d h=>⟨_,_,_,rfl,_,_,_,rfl,?_⟩
 have b:dn.length=m.length:=by rw[d.length_eq];simp[aG]
 refine Rl h 0 rfl (by omega) λi h=>⟨rfl,?_⟩
 rw[b,Rr d]at h;rw[b];exact k _ _ _ h
theorem I5(h:aA H F)(k:∀c0 a,aA a (cellsA c0 [PA sb 0] 141::F)->K (.func (.func 126) #[] #[PA c0 0]) a):CF 56 #[PA sb 0] H K:=by
 refine cM 56 28 ?_
 conv=>whnf
 exact h.al λc0 _ h=>k _ _ h
theorem I6{l c0:Nat}(J:m.length<=1000000)(A:Nat->aE)(D:Nat->aE)(B:aE)(h:aA H (cellsA c0 [PA sb 0] 141::shC sb mb most::cz mb m::B::F))
  (C:∀G b,aA b (shC sb mb most::cz mb m::B::G)->aA b (A 0::G))
  (N:∀j (L:j<(bA m).length) (G:List aE) (w:aC) (v:KE),aA w (A j::G)->(∀f,aA f (A (j+1)::G)->v (.bool true) f)->(∀f,aA f (D j::G)->v (.bool false) f)->
   fI Tryz.prog l [aggK (bA m)[j].1,aggC (bA m)[j].2] w v)
  (k:∀b,aA b (A (bA m).length::F)->K (.tuple #[]) b)
  (P:∀j b,j<(bA m).length->aA b (D j::F)->K (.tuple #[]) b) :
  CF 126 #[.func (.yield l) #[] #[],PA c0 0] H K:=by
 refine cN 126 0x11561239925113994 [[(15,sI)]] ?_
 conv=>whnf
 refine⟨_,h.rd 0 rfl _,⟨_,h.r 1,?_⟩⟩;refine I4 h 2 rfl λr w h=>⟨_,rfl,?_⟩
 refine Rs h λkc f h=>⟨_,_,rfl,?_⟩
 refine Rv J h λa c R h=>⟨_,_,_,rfl,?_⟩
 have y:(bA m).length=m.length:=ub m;have M:(ei (aG m)).length=m.length:=by rw[ua];simp[aG]
 have h:=C _ _ (h.o [3,4,5,0,1] 6);refine⟨λt b=>∃j:Nat,t=j/\j<=m.length/\aA b (A j::slA 154 2 a m.length c (flat eL (ei (aG m)))::cz r m::F),λt _=>m.length-t.toNat,⟨0,rfl,V3 _,h⟩,?_⟩
 rintro t O ⟨j,rfl,L,h⟩;refine⟨λn=>?_,λn=>?_⟩
 .have s:j<m.length:=by have:=Va n;omega
  have d:j<(ei (aG m)).length:=by omega
  have E:=h.sl_rd 1 rfl;refine⟨⟨by omega,by omega⟩,_,_,E.some qu (by omega) d,_,_,E.els qu d,?_⟩;refine h.al λb1 _ h=>?_
  refine h.sta 0 rfl rfl λQ h=>⟨_,_,h.rda 0 rfl,_,_,h.rda 0 rfl,?_⟩
  refine⟨_,_,_,_,_,_,_,_,h.mp_get1 mtC koK 3 rfl (x:=(ei (aG m))[j]),?_⟩;have e:(bA m)[j]'(by omega)=((ei (aG m))[j],fN m (ei (aG m))[j]):=by simp[bA]
  have i:=N j (by omega);rw[e]at i;refine i _ Q _ (h.o [1,0,2,3] 4) (λI h=>⟨true,rfl,(λu=>by cases u),λ_=>?_⟩) λI h=>⟨false,rfl,(λ_=>?_),λu=>by cases u⟩
  .conv=>whnf
   rw[show i64.wrap ((j:Int)+1)=((j+1:Nat):Int) by rw[aJ];omega];exact⟨⟨j+1,rfl,s,h.o [0,2,3] 4⟩,by simp only[Vi];omega⟩
  .exact P j _ (by omega) (h.o [0] 4)
 .have:j=m.length:=by have:=Vb n;omega
  subst this;have:=k O;rw[y]at this;exact this (h.o [0] 3)
theorem Rw(h:aA H (shC sb mb most::cz mb m::F))
  (k:∀c a d,aA d (shC c a most::cz a m::shC sb mb most::cz mb m::F)->K (PA c 0) d) :
  CF 60 #[PA sb 0] H K:=by
 refine cM 60 28 ?_;refine⟨_,h.r 0,_,h.r 0,?_⟩;refine I4 h 1 rfl λr e h=>⟨_,rfl,h.r 1,?_⟩
 exact h.al λb _ h=>k _ _ _ h
end
abbrev aX(s:Fa):List UInt8:=s.data.toList
theorem kQ(s:Fa):(aX s).length=s.size:=Wb
theorem wA{s:Fa}{i:Nat}(h:i<(aX s).length):bAt s i=((aX s)[i].toNat:Int):=by
 have a:i<s.data.size:=by simpa using h
 unfold bAt;rw[Array.getElem?_eq_getElem a];simp
def lowC(c:UInt8):Bool:=decide (97<=c.toNat)&&decide (c.toNat<=122)
def oZ(c:UInt8):Bool:=lowC c||(decide (48<=c.toNat)&&decide (c.toNat<=57))||decide (c.toNat=95)
def valC(c:UInt8):Bool:=decide (33<=c.toNat)&&decide (c.toNat<=126)&&decide (c∉[(44:UInt8),61,123,125])
def jV(s:Fa):Bool:=decide (1<=s.size)&&decide (s.size<=64)&&lowC ((aX s).headD 0)&&(aX s).all oZ
def bR.z:bR:=⟨⟨#[]⟩,⟨#[]⟩⟩
def ig(l:bR):Bool:=decide (l.value.size<=64)&&(aX l.value).all valC&&jV l.name
def pe(labs:List bR)(i:Nat):Bool:=ig (labs.getD i bR.z)&&(decide (i=0)||Op.bytesLess (labs.getD (i-1) bR.z).name.toList (labs.getD i bR.z).name.toList)
def fu(name:Fa)(labs:List bR):Bool:=jV name&&decide (labs.length<=8)&&(List.range labs.length).all (pe labs)
theorem zZ{p:Nat->Bool}{n:Nat}:(List.range n).all p=true↔∀i,i<n->p i=true:=by
 rw[VL];exact⟨λh i hi=>h i (Wg.2 hi),λh i hi=>h i (Wg.1 hi)⟩
theorem Aa{α:Type}{p:α->Bool}{l:List α}(h:∀i (hi:i<l.length),p l[i]=true):l.all p=true:=by
 rw[VL];intro x a;obtain⟨i,hi,rfl⟩:=VU a;exact h i hi
theorem wB{α:Type}{p:α->Bool}{l:List α}{i:Nat}(hi:i<l.length)(h:p l[i]=false):l.all p=false:=by
 cases e:l.all p
 .rfl
 .rw [VL]at e;rw[e _ (Vk hi)]at h
  cases h
theorem og{α:Type}{l:List α}{i:Nat}(d:α)(h:i<l.length):l.getD i d=l[i]:=by
 rw[WN,List.getElem?_eq_getElem h];rfl
theorem I7{l:List UInt8}(h:0<l.length):l.headD 0=l[0]:=by
 cases l with
 | nil=>simp at h
 | cons a l=>rfl
def cU(c:UInt8)(l:List UInt8):Int:=if l.idxOf c<l.length then (l.idxOf c:Int) else -1
theorem I8(c:UInt8):∀l:List UInt8,Go.Lib.indexByte l c=cU c l
 | []=>rfl
 | b::l=>by
  unfold Go.Lib.indexByte;rw[I8 c l];unfold cU;rw[List.idxOf_cons,Vf]
  cases e:(b == c) with
  | true=>simp
  | false=>
   simp only[cond_false,W2,if_false,Nat.add_lt_add_iff_right]
   split
   .rename_i h;rw[UW (by rw[beq_iff_eq];omega)];omega
   .rfl
theorem idxU_ge(c:UInt8)(l:List UInt8):-1<=cU c l/\cU c l<l.length:=by
 unfold cU;split <;> omega
theorem idxU_mem(c:UInt8)(l:List UInt8):0<=cU c l↔c∈l:=by
 unfold cU;rw[<-List.idxOf_lt_length_iff]
 split <;> rename_i h
 .exact⟨λ_=>h,λ_=>by omega⟩
 .exact⟨λh=>by omega,λa=>UY a h⟩
section
variable {F L:List aE}{H:aC}{K:KE}
theorem natIdx{s:Fa}{c:Int}:pD Tryz.prog 378 #[.string s,.int .u8 c] (aD (cU c.toNat.toUInt8 (aX s))):=by
 intro w;have h:(callFunc 378 #[.string s,.int .u8 c]).run Tryz.prog w=(do let v <-Extern.BytealgIndexByte.indexByte #[.string s,.int .u8 c];pure (Next.value v)).run Tryz.prog w:=by kernel_rfl
 rw[h];have a:=Go.Lib.run_indexByteString (P:=Tryz.prog) s c w;simp only[Sem.run_bind,a,I8];rfl
theorem Rz{s:Fa}{c:Int}(k:K (aD (cU c.toNat.toUInt8 (aX s))) H):CF 325 #[.string s,.int .u8 c] H K:=
 cM 325 28 (cM 362 28 ⟨_,natIdx,_,rfl,k⟩)
theorem I9{s:Fa}:bU Tryz.prog 279 #[.string s] H (.bool (jV s)):=by
 refine NX ?_;refine⟨λa=>?_,λa=>?_,λa=>?_,λa=>?_⟩
 .simp only[Vp,Ve]at a;omega
 .simp only[Vp,Ve]at a;omega
 .have:jV s=false:=by
   cases e:jV s
   .rfl
   .unfold jV lowC at e;simp only[Vd,Vc]at e;simp only[Vr,Vc]at a;obtain⟨⟨⟨e1,e2⟩,e3,e4⟩,-⟩:=e;have n:=kQ s;have hb:bAt s 0=((aX s)[0]'(by omega)).toNat:=wA (by omega);have d:(aX s).headD 0=(aX s)[0]'(by omega):=I7 (by omega);rw[d]at e3 e4;omega
  rw[this];exact⟨rfl,rfl⟩
 .simp only[Vp,Ve]at a;obtain⟨⟨⟨c1,c2⟩,c3⟩,c4⟩:=a;have n:=kQ s;have hb:bAt s 0=((aX s)[0]'(by omega)).toNat:=wA (by omega);have d:(aX s).headD 0=(aX s)[0]'(by omega):=I7 (by omega);have t:jV s=(aX s).all oZ:=by
   unfold jV;rw[d];unfold lowC;rw[Vs (by omega),Vs (by omega),Vs (by omega),Vs (by omega)];simp
  rw[t];refine⟨λi w=>w=H/\∃j:Nat,i=j/\j<=s.size/\∀q (c:q<(aX s).length),q<j->oZ (aX s)[q]=true,λi _=>s.size-i.toNat,⟨rfl,0,rfl,by omega,λq _ h=>by omega⟩,?_⟩
  rintro i y ⟨rfl,j,rfl,A,m⟩;refine⟨λa=>?_,λa=>?_⟩
  .have k:j<s.size:=by have:=Va a;omega
   have b:j<(aX s).length:=by omega
   refine⟨by omega,?_⟩;rw[Vi,wA b];refine⟨λf=>?_,λf=>?_⟩
   .simp only[Vd,Vr,Vc,V1,Ve]at f;rw[wB b (by unfold oZ lowC;simp only[Vp,VF,Ve];omega)];exact⟨rfl,rfl⟩
   .rw [aJ (x:=(j:Int)+1)];refine⟨⟨rfl,j+1,by omega,k,λq c v=>?_⟩,by dsimp only;omega⟩
    by_cases hqj:q=j
    .subst hqj;unfold oZ lowC;simp only[VF,Vp,Ve,VI,Vc]at f;simp only[Vr,Vd,Vc];omega
    .exact m q c (by omega)
  .have u:s.size<=j:=by have:=Vb a;omega
   rw[Aa λq c=>m q c (by omega)]
   exact⟨rfl,rfl⟩
theorem R2{l:bR}(h:aA H F)(k:∀n,aA n F->K (.bool (ig l)) n):CF 280 #[.agg #[.string l.name,.string l.value]] H K:=by
 refine NW ?_;refine h.al λb _ h=>?_
 refine⟨_,h.r 0,λd=>?_,λd=>?_⟩
 .have:ig l=false:=by
   unfold ig;rw[VK (by have:=Va d;omega)];rfl
  rw[<-this];exact k _ h.tl
 .have hs:l.value.size<=64:=by have:=Vb d;omega
  have B:=kQ l.value;refine⟨λi n=>∃j:Nat,i=j/\j<=l.value.size/\(∀q (m:q<(aX l.value).length),q<j->valC (aX l.value)[q]=true)/\aA n (cellsA b [.string l.name,.string l.value] 421::F),λi _=>l.value.size-i.toNat,⟨0,rfl,by omega,λq _ h=>by omega,h⟩,?_⟩
  rintro i u ⟨j,rfl,C,t,h⟩;refine⟨_,h.r 0,λd=>?_,λd=>?_⟩
  .have s:j<l.value.size:=by have:=Va d;omega
   have a:j<(aX l.value).length:=by omega
   refine⟨_,h.r 0,by omega,?_⟩;intro A v;rw[Vi,wA a];have f:A (!valC (aX l.value)[j]) u:=by
    refine v _ _ ?_;refine⟨λc=>?_,λc=>?_⟩
    .have:ig l=false:=by
      unfold ig;rw[wB a (by simpa using c)];simp
     rw[<-this];exact k _ h.tl
    .rw [aJ (x:=(j:Int)+1)];refine⟨⟨j+1,by omega,s,λq m y=>?_,h⟩,by dsimp only;omega⟩
     by_cases hqj:q=j
     .subst hqj;simpa using c
     .exact t q m (by omega)
   refine⟨λc=>?_,λc=>?_⟩
   .simp only[Vp,Ve]at c;refine Rz ⟨_,rfl,?_⟩;have:decide (0<=cU (((aX l.value)[j].toNat:Int).toNat.toUInt8) (aX ⟨#[44,61,123,125]⟩))=!valC (aX l.value)[j]:=by
     rw[VH,Vc,idxU_mem];have e:((aX l.value)[j].toNat:Int).toNat.toUInt8=(aX l.value)[j]:=by simp
     rw[e];unfold valC;rw[Vs (by omega),Vs (by omega)];simp
    dsimp only;rw[this];exact f
   .have:valC (aX l.value)[j]=false:=by
     unfold valC;simp only[Vp,Ve]at c;simp only[VF,Ve];omega
    rw[this]at f;exact f
  .have w:l.value.size<=j:=by have:=Vb d;omega
   refine⟨_,h.r 0,_,I9,?_⟩;have:ig l=jV l.name:=by
    unfold ig;rw[Vs hs,Aa λq m=>t q m (by omega)]
    simp
   rw[<-this];exact k _ h.tl
theorem qx{name:Fa}{a:KQ}{c:Nat}{labs:List bR}(h:aA H F)(t:∀H,aA H F->aP H a (flat de labs))
  (k:∀s,aA s F->K (.bool (fu name labs)) s):CF 226 #[.agg #[.string name,.slice a labs.length c]] H K:=by
 refine Oj ?_;refine h.al λb _ h=>?_
 refine⟨_,h.r 0,_,I9,_,_,_,λ_=>h.r 0,λd=>?_,λd=>?_⟩
 .have:fu name labs=false:=by
   unfold fu;simp only[Vr,V1,Vc]at d
   rcases d with d|d
   .rw [d];rfl
   .rw [VK (p:=labs.length<=8) (by omega)];simp
  rw[<-this];exact k _ h.tl
 .simp only[Vp,VI,Ve]at d;obtain⟨c1,c2⟩:=d;have u:fu name labs=(List.range labs.length).all (pe labs):=by
   unfold fu;rw[c1,Vs (by omega)];simp
  refine⟨_,_,_,h.r 0,?_⟩;refine⟨λi s=>∃j:Nat,i=j/\j<=labs.length/\(∀q,q<j->pe labs q=true)/\aA s (cellsA b [.string name,.slice a labs.length c] 79::F),λi _=>labs.length-i.toNat,⟨0,rfl,by omega,λq h=>by omega,h⟩,?_⟩
  rintro i C ⟨j,rfl,G,w,h⟩;refine⟨λd=>?_,λd=>?_⟩
  .have f:j<labs.length:=by have:=Va d;omega
   have m:=t _ h.tl;refine⟨by omega,_,_,m.some iS (by omega) f,_,_,m.els iS f,?_⟩;refine h.al λb2 _ h=>?_
   refine h.st 0 rfl rfl ?_;intro B h;refine⟨_,_,h.q 0,?_⟩;refine R2 (l:=labs[j]) h λD h=>⟨_,rfl,?_⟩
   have m:=t _ h.tl.tl;have v:0<j->i64.wrap ((j:Int)-1)=((j-1:Nat):Int):=λh=>by rw[aJ];omega
   have hs:pe labs j=(ig labs[j]&&(decide (j=0)||Op.bytesLess (labs.getD (j-1) bR.z).name.toList labs[j].name.toList)):=by
    unfold pe;rw[og bR.z f]
   refine⟨a,labs.length,c,λ_=>h.r 1,λn=>?_,_,_,λn=>m.some iS (by omega) f,(labs.getD (j-1) bR.z).name,λn=>?_,labs[j].name,λ_=>h.r 0,λd=>?_,λd=>?_⟩
   .have h0:=Va n.2;rw[v (by omega)];omega
   .have h0:=Va n.2;rw[v (by omega),Vi];exact m.el0 iS (k:=j-1) (by omega) (by rw[og bR.z (by omega)];rfl)
   .have:fu name labs=false:=by
     rw[u]
     cases e:(List.range labs.length).all (pe labs)
     .rfl
     .rw [zZ]at e;have e:=e j f;rw[hs]at e;simp only[Vr,Vd,V1,Vc]at e d
      rcases d with d|d
      .rw [d]at e;simp at e
      .rcases e.2 with e2|e2
       .omega
       .rw [d.2]at e2;simp at e2
    rw[<-this];exact k _ h.tl.tl
   .rw [aJ (x:=(j:Int)+1)];refine⟨⟨j+1,by omega,f,λq A=>?_,h.tl⟩,by dsimp only;omega⟩
    by_cases hqj:q=j
    .subst hqj;rw[hs];simp only[Vp,VF,VI,Ve]at d;simp only[Vr,Vd,Vc];refine⟨d.1,?_⟩
     rcases d.2 with e|e
     .left;omega
     .right;exact e
    .exact w q (by omega)
  .have y:labs.length<=j:=by have:=Vb d;omega
   have:fu name labs=true:=by rw[u,zZ];exact λq E=>w q (by omega)
   rw[<-this];exact k _ h.tl
end
def fw(l:bR):Fa:=(l.name++(⟨#[61]⟩:Fa))++l.value
def jW(labs:List bR):Fa:=⟨(Go.Lib.join ((labs.map fw).map aX) [44]).toArray⟩
def fY(name:Fa)(labs:List bR):Fa:=
 if fu name labs then (if labs=[] then name else ((name++(⟨#[123]⟩:Fa))++jW labs)++(⟨#[125]⟩:Fa)) else ⟨#[]⟩
theorem R3{α:Type}(f:α->Value)(z:Value)(l:List α)(j:Nat)(h:j<l.length) :
  cv ((l.take j).map f++List.replicate (l.length-j) z) j [f l[j]]=(l.take (j+1)).map f++List.replicate (l.length-(j+1)) z:=by
 have e:l.length-j=(l.length-(j+1))+1:=by omega
 rw[e,Yf];have a:((l.take j).map f).length=j:=by rw[Vl,Vx];omega
 have:=tg [f l[j]] ((l.take j).map f) (z::List.replicate (l.length-(j+1)) z) 0;simp only[a,Wm]at this;rw[this,VE h,Vv];simp[cv]
theorem join_le{n:Nat}:∀{xs:List (List UInt8)},(∀x∈xs,x.length<=n)->(Go.Lib.join xs [44]).length<=(n+1)*xs.length
 | [],_=>by simp[Go.Lib.join,List.intercalate]
 | x::r,h=>by
  rw[Go.Lib.join_length];have:∀{l:List (List UInt8)},(∀x∈l,x.length<=n)->Go.Lib.lens l<=n*l.length:=by
   intro l
   induction l with
   | nil=>intro _;simp[Go.Lib.lens]
   | cons y l ih=>
    intro h;have a:=ih λx b=>h x (Vq _ b)
    have c:=h y (Vn ..);simp only[Go.Lib.lens,V5,W0,Vf,Nat.mul_succ]at a ⊢;omega
  have a:=this h;simp only[Vf,Vy,Vw,Nat.one_mul,Nat.mul_succ,VJ]at a ⊢;omega
theorem rU(x y:Fa):(x++y).size=x.size+y.size:=ByteArray.size_append
theorem rV{s:Fa}(h:jV s=true):s.size<=64/\1<=s.size:=by
 unfold jV at h;simp only[Vd,Vc]at h;omega
theorem rW{l:bR}(h:ig l=true):l.name.size<=64/\l.value.size<=64:=by
 unfold ig at h;simp only[Vd,Vc]at h;exact⟨(rV h.2).1,h.1.1⟩
theorem R4(l:bR):(fw l).size=l.name.size+1+l.value.size:=by
 unfold fw;rw[rU,rU];rfl
structure RightP(name:Fa)(labs:List bR):Prop where
 named:jV name=true
 len:labs.length<=8
 val:∀l∈labs,ig l=true
 step:∀i,i<labs.length->pe labs i=true
theorem mC{name:Fa}{labs:List bR}(h:fu name labs=true):RightP name labs:=by
 unfold fu at h;simp only[Vd,Vc,zZ]at h;refine⟨h.1.1,h.1.2,λl a=>?_,h.2⟩
 obtain⟨i,hi,rfl⟩:=VU a;have:=h.2 i hi;unfold pe at this;rw[og bR.z hi]at this;simp only[Vd]at this;exact this.1
theorem joinL_le{labs:List bR}(h:∀l∈labs,ig l=true):(Go.Lib.join ((labs.map fw).map aX) [44]).length<=130*labs.length:=by
 have:=join_le (n:=129) (xs:=(labs.map fw).map aX) (by
  intro x a;rw[VM,Vh]at a;obtain⟨l,b,rfl⟩:=a;have:=rW (h l b);show (aX (fw l)).length<=129;rw[kQ,R4];omega)
 simpa using this
theorem R5{labs:List bR}:(jW labs).size=(Go.Lib.join ((labs.map fw).map aX) [44]).length:=by
 unfold jW;show Array.size _=_;simp
theorem rdS_some{H:aC}{a:KQ}{cs:Os}(h:aP H a cs)(b:0<cs.length):a=some ⟨aV a,aS a,none⟩:=(h 0 _ (vy b)).1
theorem Tryz.joinX:Builder.Extra Tryz.prog Tryz.joinA_ren where
 sizeBuilder:=by kernel_rfl
 liesBuilder:=by kernel_rfl
 t5:=Tryz.underlying5
 a5:=Tryz.isAgg5
 z5:=Tryz.sizeOf5
 v5:=Tryz.zeroValue5
 infoByte:=by kernel_rfl
 cellsByte:=by kernel_rfl
 sizeByte:=by kernel_rfl
 neB5:=by decide
section
variable {F L:List aE}{H:aC}{K:KE}
theorem Join_spec{a:KQ}{c:Nat}{xs:List Fa}(h:aA H L)(d:aP H a (xs.map λs=>.string s))(h0:0<xs.length)(y:xs.length<=1000000)(n:xs.length<=c)
  (m:(Go.Lib.join (xs.map aX) [44]).length<=1000000000)
  (k:∀i,aA i L->K (.string ⟨(Go.Lib.join (xs.map aX) [44]).toArray⟩) i):CF 289 #[.slice a xs.length c,.string ⟨#[44]⟩] H K:=by
 refine .mk λw u=>?_
 subst u;have hs:=rdS_some d (by simpa using h0);rw[hs]at d ⊢;have b:∀(j:Nat) x,xs[j]?=some x->w.cell? ⟨aV a,aS a+j,none⟩=some (.string x):=by
  intro j x t;rw[cell?_cellAt];exact (d j (.string x) (by rw[fL,List.getElem?_map,t];rfl)).2
 have f:aV a<w.heap.size:=by
  have:=b 0 xs[0] (List.getElem?_eq_getElem h0);rw[cell?_cellAt]at this;unfold aK at this
  cases e:w.heap[aV a]? with
  | none=>rw[e]at this;cases this
  | some o=>exact (Array.getElem?_eq_some_iff.1 e).1
 refine jg (Any.strings_Join Tryz.joinA Tryz.joinX (aV a) (aS a) c xs ⟨#[44]⟩ w b f (by omega) n (by show (Go.Lib.join (xs.map aX) [44]).length<=_;omega)) ?_;rintro e v ⟨rfl,hb⟩;exact⟨_,rfl,tn hb,k _ (h.grow (rp hb))⟩
theorem sl294:SlT Tryz.prog 408 9 1 16:=iM (by kernel_rfl)
theorem R6{name:Fa}{a:KQ}{c:Nat}{labs:List bR}(h:aA H F)(A:∀H,aA H F->aP H a (flat de labs))
  (k:∀s,aA s F->K (.string (fY name labs)) s):CF 239 #[.agg #[.string name,.slice a labs.length c]] H K:=by
 refine Oh ?_;refine h.al λb _ h=>?_
 refine⟨_,_,_,_,h.q 0,?_⟩;refine qx h (λH h=>A H h.tl) λO h=>⟨_,rfl,λf=>?_,λf=>?_⟩
 .have:fY name labs=⟨#[]⟩:=by unfold fY;rw[UW (by simpa using f)]
  rw[<-this];exact k _ h.tl
 .simp only[VI]at f;have n:=mC f;refine⟨_,_,_,h.r 0,λm=>?_,λm=>?_⟩
  .have m:=Va m;have L:labs=[]:=Wk.1 (by omega);refine⟨_,h.r 0,?_⟩;have:fY name labs=name:=by unfold fY;rw[UX f,UX L]
   rw[<-this];exact k _ h.tl
  .have m:=Vb m;have E:=n.len;refine⟨_,_,_,h.r 0,?_⟩;refine h.mk1 sl294 (z0:=.string ⟨#[]⟩) (by kernel_rfl) (by kernel_rfl) (by omega) (by omega) λpa P h=>?_
   refine⟨_,_,_,rfl,_,_,_,h.r 1,?_⟩;refine⟨λi s=>∃j:Nat,i=j/\j<=labs.length/\aA s (slA 9 1 pa labs.length labs.length ((labs.take j).map (λl=>.string (fw l))++List.replicate (labs.length-j) (Value.string ⟨#[]⟩))::cellsA b [.string name,.slice a labs.length c] 79::F),
    λi _=>labs.length-i.toNat,⟨0,rfl,by omega,by simpa using h⟩,?_⟩
   rintro i O ⟨j,rfl,I,h⟩;refine⟨λf=>?_,λf=>?_⟩
   .have d:j<labs.length:=by have:=Va f;omega
    have C:=A _ h.tl.tl;have Q:=rW (n.val _ (Vk d));refine⟨by omega,_,_,C.some iS (by omega) d,_,_,C.els iS d,?_⟩;refine h.al λb2 _ h=>?_
    refine h.st 0 rfl rfl ?_;intro R h;refine⟨_,h.r 0,?_,_,h.r 0,?_,by omega,?_⟩
    .show (((labs[j].name.size+1:Nat)):Int)<=9223372036854775807;omega
    .show ((((labs[j].name++(⟨#[61]⟩:Fa)).size+labs[j].value.size:Nat)):Int)<=9223372036854775807;rw[rU];show ((labs[j].name.size+1+labs[j].value.size:Nat):Int)<=9223372036854775807;omega
    .have w:((labs.take j).map (λl=>Value.string (fw l))++List.replicate (labs.length-j) (Value.string ⟨#[]⟩)).length=labs.length:=by
      rw[UZ,Vl,Vx,List.length_replicate];omega
     obtain⟨M,N,y⟩:=h.sl_set 1 rfl j [.string (fw labs[j])] (by rw[w];simp;omega) (by simp);rw[R3 (λl=>Value.string (fw l)) _ labs j d]at y
     rw[Vi];refine⟨_,_,M,N,?_⟩;intro S D;rw[aJ (x:=(j:Int)+1)];refine⟨⟨j+1,by omega,d,?_⟩,by dsimp only;omega⟩;rw[D];exact y.tl
   .have u:labs.length<=j:=by have:=Vb f;omega
    have e1:labs.take j=labs:=V2 u;have e2:labs.length-j=0:=by omega
    rw[e1,e2,List.replicate_zero,V4]at h;have I:=joinL_le n.val;have G:=R5 (labs:=labs);have J:=rV n.named;refine⟨_,h.r 1,?_,?_⟩
    .show (((name.size+1:Nat)):Int)<=9223372036854775807;omega
    have t:=h.sl_rd 0 rfl;have v:(labs.map fw).length=labs.length:=Vl ..;rw[<-v];refine Join_spec (xs:=labs.map fw) h (by rw[VM];exact t) (by omega) (by omega) (by omega) (by omega) λT h=>⟨_,rfl,h.r 1,?_,?_,?_⟩
    .show (((name++(⟨#[123]⟩:Fa)).size+(jW labs).size:Nat):Int)<=9223372036854775807;rw[rU];show (((name.size+1)+(jW labs).size:Nat):Int)<=9223372036854775807;omega
    .show ((((name++(⟨#[123]⟩:Fa))++jW labs).size+1:Nat):Int)<=9223372036854775807;rw[rU,rU];show (((name.size+1)+(jW labs).size+1:Nat):Int)<=9223372036854775807;omega
    .have:fY name labs=((name++(⟨#[123]⟩:Fa))++jW labs)++(⟨#[125]⟩:Fa):=by
      unfold fY;rw[UX ‹_›,UW (by intro e;rw[e]at m;simp at m)]
     have B:=k _ h.tl.tl;rw[this]at B;exact B
end
theorem Ab{α:Type}{p:α->Bool}:∀{l:List α} {j:Nat},(∀i (h:i<l.length),i<j->p l[i]=true)->(∀h:j<l.length,p l[j]=false)->l.takeWhile p=l.take j
 | [],j,_,_=>by simp
 | a::r,0,_,h2=>by
  have:p a=false:=h2 (by simp);simp[List.takeWhile,this]
 | a::r,j+1,h1,h2=>by
  have e:p a=true:=h1 0 (by simp) (by omega);simp only[List.takeWhile,e,Wo];rw[Ab (λi h hi=>h1 (i+1) (by simpa using h) (by omega)) λh=>h2 (by simpa using h)]
theorem R7(m:CM)(l r:List Ot):lI m (l++r)=lI (lI m l) r:=by unfold lI;rw[Wr]
section
variable {sb mb:Nat}{most:Int}{m:CM}{F L:List aE}{H:aC}{K:KE}
def clA(sb mb b b1 b2 l:Nat)(most:Int)(m:CM)(before:Int)(R:Loop)(j:Nat)(p:Prop):aE:=exS λq:KQ×Nat=>
 star [cellsA b [PA sb 0] 141,cellsA b1 [aD before] 2,cellsA b2 [.slice q.1 ((bA m).take j).length q.2] 143,slA 164 74 q.1 ((bA m).take j).length q.2 (flat cI ((bA m).take j)),
  shC sb mb most,cz mb (lI m ((bA m).take j)),pt l (.loop R),pur p]
abbrev uc(m:CM)(before:Int)(j:Nat):Prop:=∀i (h:i<(bA m).length),i<j->(bA m)[i].1.win<before
theorem R8(E:m.length<=1000000){d:Int}(h:aA H (shC sb mb most::cz mb m::F))
  (k:∀a c u,aA u (slA 164 74 a (iz m d).length c (flat cI (iz m d))::shC sb mb most::cz mb (nH m d)::F)->K (.slice a (iz m d).length c) u) :
  CF 159 #[PA sb 0,aD d] H K:=by
 refine Oo ?_;have P:(bA m).length=m.length:=ub m;refine h.al λb _ h=>h.al λb1 _ h=>h.al λb2 _ h=>⟨_,h.r 2,?_⟩
 refine I5 h λc0 n h=>⟨_,_,rfl,rfl,λR v t J=>?_⟩
 have h:=h.rng R;have h:=h.sl_nil 164 74;refine I6 (m:=m) (sb:=sb) (mb:=mb) (most:=most) E (λj=>clA sb mb b b1 b2 (n.size+1) most m d R j (uc m d j))
  (λj=>clA sb mb b b1 b2 (n.size+1) most m d { R with state:=.done,pending:=some (.exit 0) } j (uc m d j/\∀h:j<(bA m).length,¬(bA m)[j].1.win<d))
  (star [slA 164 74 none 0 0 [],cellsA b2 [.slice none 0 0] 143,cellsA b1 [aD d] 2,cellsA b [PA sb 0] 141,pt (n.size+1) (.loop R)]) (F:=pt n.size (.deferred (some []))::F) ?_ ?_ ?_ ?_ ?_
 .have h:=aA.shut [_,_,_,_,_] (h.o [0,4,5,6,1,3,7,8,2] 9);exact h.o [1,2,3,0,4] 5
 .intro G u h;have h:=(aA.open (A:=[_,_,_,_,_]) (h.o [2,0,1] 3)).pur (p:=uc m d 0) (λi _ hi=>UY hi (Nat.not_lt_zero i))
  exact cJ.2 ⟨(none,0),aA.shut [_,_,_,_,_,_,_,_] (h.o [4,3,2,1,6,7,5,0] 8)⟩
 .intro j w G B U h M O;obtain⟨⟨a,c⟩,h⟩:=cJ.1 h;have h:=aA.open (A:=[_,_,_,_,_,_,_,_]) h;have f:=(aA.consP (h.o [7] 8)).1;refine J _ _ _ ?_;refine⟨_,_,_,_,_,_,_,_,_,_,rfl,h.getO 6 rfl,?_⟩;refine h.al λb3 _ h=>?_
  refine h.sta 0 rfl rfl λV h=>?_
  refine h.al λb4 _ h=>?_
  refine h.sta 0 rfl (by rw[kO];exact (kO Cl.z).symm) λW h=>⟨h.getO 8 rfl,h.stl 8 rfl λH5 h=>?_⟩
  refine⟨_,h.r 1,_,h.r 3,λs=>?_,λs=>?_⟩
  .have I:=Va s;refine⟨h.getO 8 rfl,O _ ?_⟩;have h:=h.setO 8 rfl (.loop { R with state:=.done,pending:=some (.exit 0) });have e:uc m d j/\∀h:j<(bA m).length,¬(bA m)[j].1.win<d:=⟨f,λ_=>by omega⟩
   have h:=(h.o [2,3,4,5,6,7,8] 10).pur e;exact cJ.2 ⟨(a,c),aA.shut [_,_,_,_,_,_,_,_] (h.o [1,2,3,4,5,6,7,0] 8)⟩
  .have S:=Vb s;refine⟨_,_,_,h.r 4,_,_,h.rda 1 rfl,_,_,_,_,_,_,_,_,h.rda 0 rfl,?_⟩;rintro b5 _ rfl rfl;have L:((bA m).take j).length<=1000000:=by rw[Vx];omega
   refine h.append1 (ws:=cI (bA m)[j]) sl86 5 rfl (iT _) (rS _) (by omega) (by omega) λD C T h=>⟨_,_,_,rfl,?_⟩
   refine h.sta 4 rfl rfl λZ h=>⟨_,h.r 2,cY ⟨_,h.r 6,_,_,h.rda 1 rfl,?_⟩⟩
   refine h.mp_delete (x:=(bA m)[j].1) mtC koK 7 rfl λY h=>⟨h.getO 8 rfl,M _ ?_⟩
   have h:=h.setO 8 rfl (.loop R);have e:uc m d (j+1):=λi hi Q=>by
    rcases V0 i j with y|y
    .exact f i hi y
    .obtain rfl:i=j:=by omega
     omega
   have h:=(h.o [2,3,4,5,6,7,8] 10).pur e;refine cJ.2 ⟨(D,C),aA.shut [_,_,_,_,_,_,_,_] ?_⟩;rw[VE w,dT,nq,R7,UZ];exact h.o [1,2,3,4,5,6,7,0] 8
 .intro B h;obtain⟨⟨a,c⟩,h⟩:=cJ.1 h;have h:=aA.open (A:=[_,_,_,_,_,_,_,_]) h;have f:=(aA.consP (h.o [7] 8)).1;have ec:iz m d=(bA m).take (bA m).length:=Ab (λi h hi=>Vs (f i h hi)) λh=>UY h (Nat.lt_irrefl _)
  unfold nH at k;rw[ec]at k;refine⟨.ready,none,by decide,by rw[nt v t];exact h.getO 6 rfl,h.stl 6 rfl λN h=>.inl ⟨rfl,?_⟩⟩
  refine⟨_,_,_,h.r 2,h.getO 8 rfl,?_⟩;have h:=h.setO 8 rfl (.deferred none);exact k a c _ (h.o [3,4,5] 9)
 .intro j B w h;obtain⟨⟨a,c⟩,h⟩:=cJ.1 h;have h:=aA.open (A:=[_,_,_,_,_,_,_,_]) h;have f:=(aA.consP (h.o [7] 8)).1;have ec:iz m d=(bA m).take j:=Ab (λi h hi=>Vs (f.1 i h hi)) λh=>VK (f.2 h)
  unfold nH at k;rw[ec]at k;refine⟨.done,some (.exit 0),by decide,h.getO 6 rfl,h.stl 6 rfl λN h=>.inr ⟨rfl,?_⟩⟩
  refine⟨_,_,_,h.r 2,h.getO 8 rfl,?_⟩;have h:=h.setO 8 rfl (.deferred none);exact k a c _ (h.o [3,4,5] 9)
end
def wNat(z:Int)(p:Nat):Nat:=if p<8 then (cx z%B64).toNat/2^(8*(7-p))%256 else (wlo z).toNat/2^(8*(15-p))%256
def dO(z:Int):List Int:=(List.range 16).map λp=>(wNat z p:Int)
def ii(z:Int)(t:Nat):List Int:=(List.range 16).map λp=>if (p<=7/\7<p+t)\/(8<=p/\15<p+t) then (wNat z p:Int) else 0
theorem R9(z:Int)(t:Nat):(ii z t).length=16:=by simp[ii]
theorem rX(z:Int):(dO z).length=16:=by simp[dO]
theorem RA(z:Int):aH (dO z):=by
 intro x a;obtain⟨p,_,rfl⟩:=Vh.1 a;unfold wNat
 split <;> omega
theorem RG(z:Int):ii z 0=List.replicate 16 0:=by
 refine Wa (by simp[ii]) λi a b=>?_
 have:i<16:=by simpa[ii] using a
 simp only[ii,VV,Yj,List.getElem_replicate];rw[nO]
theorem RH(z:Int):ii z 8=dO z:=by
 refine Wa (by simp[ii,dO]) λi a b=>?_
 have:i<16:=by simpa[ii] using a
 simp only[ii,dO,VV,Yj];rw[pO]
theorem RI(z:Int){t:Nat}(b:t<8):((ii z t).set (7-t) (wNat z (7-t):Int)).set (15-t) (wNat z (15-t):Int)=ii z (t+1):=by
 refine Wa (by simp[ii]) λi a c=>?_
 have hi:i<16:=by simpa[ii] using a
 simp only[List.getElem_set,ii,VV,Yj]
 by_cases e1:15-t=i
 .rw [UX e1,pO,e1]
 .rw [UW e1]
  by_cases e2:7-t=i
  .rw [UX e2,pO,e2]
  .rw [UW e2]
   by_cases e3:(i<=7/\7<i+t)\/(8<=i/\15<i+t)
   .rw [UX e3,pO]
   .rw [UW e3,nO]
def jX(l:List Int):Nat:=l.foldl (λa b=>a*256%18446744073709551616+b.toNat) 0
theorem wC(l:List Int)(b:Int):jX (l++[b])=jX l*256%18446744073709551616+b.toNat:=by unfold jX;rw[Wr];rfl
theorem IB{l:List Int}(h:aH l):jX l<18446744073709551616:=by
 rcases List.eq_nil_or_concat l with rfl|⟨r,b,rfl⟩
 .exact WH rfl
 .rw [List.concat_eq_append]at h ⊢;rw[wC];have:=h b (by simp);omega
def jm(bs:List Int):Int:=i64.wrap (jX (bs.take 8):Nat)*B64+(jX (bs.drop 8):Nat)
theorem IC{a:Nat}{b:Int}(h0:0<=b)(d:b<256):aY .or .u64 (u64.wrap ((a:Int)*2^(min (Int.toNat 8) (u64.bits)))) (u64.wrap b)=((a*256%18446744073709551616+b.toNat:Nat):Int):=by
 have e1:u64.wrap ((a:Int)*2^(min (Int.toNat 8) (u64.bits)))=((a*256%18446744073709551616:Nat):Int):=by
  show u64.wrap ((a:Int)*256)=_;rw[dd];omega
 have e2:u64.wrap b=((b.toNat:Nat):Int):=by rw[dd];omega
 rw[e1,e2,or64 (by omega) (by omega)];congr 1;have c:a*256%18446744073709551616=2^8*(a%72057594037927936):=by omega
 rw[c];exact (Ym (by show b.toNat<256;omega) _).symm
theorem RJ{bs:List Int}(h:aH bs):cx (jm bs)=i64.wrap (jX (bs.take 8):Nat)/\wlo (jm bs)=(jX (bs.drop 8):Nat):=by
 have b:=IB (l:=bs.drop 8) λx a=>h x (Wh a)
 unfold jm cx wlo B64;generalize i64.wrap _=q;omega
theorem IE(bs:List Int)(h:aH bs):fW (jm bs):=by
 have c:=IB (l:=bs.drop 8) λx a=>h x (Wh a)
 have b:aF (i64.wrap (jX (bs.take 8):Nat)):=qg _;unfold aF at b;unfold jm fW B64;omega
section
variable {F L:List aE}{H:aC}{K:KE}
theorem IG{x:Int}(h0:0<=x){t:Nat}(a:t<8):u8.wrap (Int.fdiv x (2^(min (Int.toNat (i64.wrap (8*(t:Int)))) (u64.bits))))=((x.toNat/2^(8*t)%256:Nat):Int):=by
 rw[aJ (x:=8*(t:Int))];have e1:min (Int.toNat (8*(t:Int))) u64.bits=8*t:=by show min _ 64=_;omega
 obtain⟨n,rfl⟩:∃n:Nat,x=n:=⟨x.toNat,by omega⟩;rw[e1,rr,oM,Vi]
theorem RK{z:Int}(s:fW z)(h:aA H F)(k:∀a c f,aA f (slA 5 1 a 16 c ((dO z).map U8)::F)->K (.slice a 16 c) f) :
  CF 223 #[kN z] H K:=by
 refine Ol ?_;refine h.al λb _ h=>?_
 refine aA.mk1 (c:=16) sl32 (z0:=U8 0) (by kernel_rfl) rfl h (by decide) (by decide) λa u h=>⟨_,_,_,rfl,?_⟩
 have e0:List.replicate 16 (U8 0)=(ii z 0).map U8:=by rw[RG];rfl
 rw[e0]at h;refine⟨λi f=>∃t:Nat,i=t/\t<=8/\aA f (slA 5 1 a 16 16 ((ii z t).map U8)::cellsA b [aD (cx z),.int .u64 (wlo z)] 157::F),λi _=>8-i.toNat,⟨0,rfl,by omega,h⟩,?_⟩
 rintro i y ⟨t,rfl,x,h⟩;refine⟨λj=>?_,λj=>?_⟩
 .have d:t<8:=by have:=Va j;omega
  have e:((ii z t).map U8).length=16:=by rw[Vl,R9]
  have e7:i64.wrap (7-(t:Int))=((7-t:Nat):Int):=by rw[aJ];omega
  have e15:i64.wrap (15-(t:Int))=((15-t:Nat):Int):=by rw[aJ];omega
  have e8:i64.wrap (8*(t:Int))=8*(t:Int):=aJ;have n:u64.wrap (cx z)=cx z%B64:=dd _;have hm:0<=cx z%B64:=by unfold B64;omega
  have q1:(cx z%B64).toNat/2^(8*t)%256=wNat z (7-t):=by unfold wNat;rw[pO,show 7-(7-t)=t by omega]
  have q2:(wlo z).toNat/2^(8*t)%256=wNat z (15-t):=by unfold wNat;rw[nO,show 15-(15-t)=t by omega]
  refine⟨_,h.r 1,by rw[e8];omega,?_⟩;rw[n,IG hm d,q1,e7,e15];obtain⟨s1,s2,s3⟩:=h.sl_set 0 rfl (7-t) [U8 (wNat z (7-t))] (by rw[e];simp;omega) (by simp);refine⟨⟨by omega,by omega⟩,_,_,s1,?_⟩;rw[Vi];refine⟨s2,?_⟩;rintro v rfl;have h:=s3;refine⟨_,h.r 1,by rw[e8];omega,⟨by omega,by omega⟩,_,_,s1,?_⟩;rw[Vi,IG (oX z).1 d,q2];obtain⟨_,t2,t3⟩:=h.sl_set 0 rfl (15-t) [U8 (wNat z (15-t))] (by rw[nU,e];show 15-t+1<=16;omega) (by simp);refine⟨t2,?_⟩;rintro w rfl;rw[show i64.wrap ((t:Int)+1)=((t+1:Nat):Int) by rw[aJ];omega];refine⟨⟨t+1,rfl,d,?_⟩,by simp only[Vi];omega⟩;have m:cv (cv ((ii z t).map U8) (7-t) [U8 (wNat z (7-t))]) (15-t) [U8 (wNat z (15-t))]=(ii z (t+1)).map U8:=by
   rw[<-RI z d,WE,WE];rfl
  rw[<-m];exact t3
 .have:t=8:=by have:=Vb j;omega
  subst this;rw[RH]at h;exact k _ _ _ (h.o [0] 2)
theorem RM{a:KQ}{c n:Nat}{bs:List Int}(v:bs.length=n)(hb:aH bs)(h:aA H F)(u:∀H,aA H F->aP H a (bs.map U8))(A:n<=1000000000)
  (k1:n≠16->∀d,aA d F->K (.tuple #[kN 0,.bool false]) d)
  (k2:n=16->∀d,aA d F->K (.tuple #[kN (jm bs),.bool true]) d):CF 301 #[.slice a n c] H K:=by
 subst v;refine NS ?_;refine h.al λb _ h=>⟨λk=>?_,λk=>?_⟩
 .have m:bs.length≠16:=by
   intro e;rw[e]at k;simp at k
  refine h.sta 0 rfl rfl λw h=>⟨_,_,h.rda 0 rfl,k1 m _ h.tl⟩
 .have x:bs.length=16:=by simp at k;omega
  refine⟨λhi lo i d=>∃t:Nat,i=t/\t<=8/\hi=(jX (bs.take t):Nat)/\lo=(jX ((bs.drop 8).take t):Nat)/\aA d (cellsA b [aD 0,.int .u64 0] 157::F),λ_ _ i _=>8-i.toNat,⟨0,rfl,by omega,rfl,rfl,h⟩,?_⟩
  rintro hi lo i B ⟨t,rfl,y,rfl,rfl,h⟩;refine⟨λf=>?_,λf=>?_⟩
  .have s:t<8:=by have:=Va f;omega
   have e8:i64.wrap (8+(t:Int))=((8+t:Nat):Int):=by rw[aJ];omega
   have r1:=(u _ h.tl).at (j:=t) (by omega);have r2:=(u _ h.tl).at (j:=8+t) (by omega);have b1:=hb _ (Vk (show t<bs.length by omega));have b2:=hb _ (Vk (show 8+t<bs.length by omega));rw[e8];refine⟨by decide,⟨by omega,by omega⟩,_,_,r1.1,_,r1.2,by decide,⟨by omega,by omega⟩,_,_,r2.1,_,r2.2,?_⟩;dsimp only;rw[IC b1.1 b1.2,IC b2.1 b2.2];rw[show i64.wrap ((t:Int)+1)=((t+1:Nat):Int) by rw[aJ];omega];refine⟨⟨t+1,rfl,s,?_,?_,h⟩,by simp only[Vi];omega⟩
   .rw [VE (by omega),wC]
   .have hd:t<(bs.drop 8).length:=by rw[Vt];omega
    rw[VE hd,wC,List.getElem_drop]
  .have:t=8:=by have:=Vb f;omega
   subst this;have e2:(bs.drop 8).take 8=bs.drop 8:=V2 (by rw[Vt];omega);rw[e2];obtain⟨w1,w2⟩:=RJ hb;rw[<-w1,<-w2];refine h.sta 0 rfl rfl λw h=>⟨_,_,h.rda 0 rfl,k2 x _ h.tl⟩
end
def gN(h:Nat->Int)(n:Nat):List Nat:=(List.range n).flatMap λi=>if h i=0 then [] else [i,(h i).toNat]
theorem Ac(h:Nat->Int)(n:Nat):gN h (n+1)=gN h n++(if h n=0 then [] else [n,(h n).toNat]):=by
 unfold gN;rw[List.range_succ,VW];simp
theorem wD(h:Nat->Int):∀n,(gN h n).length<=2*n
 | 0=>by simp[gN]
 | n+1=>by
  rw[Ac,UZ];have:=wD h n
  split
  .simp only[Vy];omega
  .simp only[Vf,Vy];omega
theorem IH{h:Nat->Int}(b:wfH h)(n:Nat)(c:n<=65):∀u∈gN h n,u<18446744073709551616:=by
 intro u a;obtain⟨i,hi,a⟩:=WK.1 a;have hi:=Wg.1 hi;have:=b i (by omega);unfold aF at this
 split at a
 .cases a
 .rcases Vm.1 a with rfl|a
  .omega
  .rw [Vo]at a;omega
def dh(c:Cl):List Int:=if fX c then eJ [c.n.toNat,c.cer.toNat,c.pos.toNat]++cX [c.mn,c.mx]++cZ (bF (dO c.sum))++eJ [(gN c.h 65).length/2]++eJ (gN c.h 65) else []
theorem Ad{c:Cl}(h:fX c=true):0<=c.n/\0<=c.cer/\0<=c.pos/\(∀i,i<65->0<=c.h i):=by
 unfold fX at h;simp only[Vd,V1,Vp,Ve]at h;obtain⟨⟨⟨⟨⟨⟨e,d⟩,j⟩,f⟩,a⟩,b⟩,k⟩:=h;exact⟨by omega,by omega,by omega,qt.1 a⟩
theorem RP(c:Cl):aH (dh c):=by
 unfold dh
 split
 .exact dE (dE (dE (dE (zh _) (tL _)) (ql _)) (zh _)) (zh _)
 .exact kJ
theorem nI(l:List Int):(bF l).size=l.length:=Go.strOfNums_size l
theorem ud{c:Cl}(wc:WC c):(dh c).length<=5000:=by
 unfold dh
 split
 .rename_i i;obtain⟨p1,p2,p3,p4⟩:=Ad i;have f:=wc.n;have b:=wc.cer;have e:=wc.pos;unfold aF at f b e;have l1:(eJ [c.n.toNat,c.cer.toNat,c.pos.toNat]).length<=30:=tM (by
   intro u a;simp only[Vm,We,or_false]at a;omega)
  have l2:=mq [c.mn,c.mx];have l3:(cZ (bF (dO c.sum))).length<=26:=by
   have:=lE (s:=bF (dO c.sum)) (by rw[nI,rX];decide);rw[nI,rX]at this;omega
  have d:=wD c.h 65;have l4:(eJ [(gN c.h 65).length/2]).length<=10:=tM (by
   intro u a;simp only[Vm,We,or_false]at a;omega)
  have j:=tM (IH wc.h 65 (Vg _));simp only[UZ,Vf,Vy]at *;omega
 .simp
theorem sl285:SlT Tryz.prog 398 155 1 8:=iM (by kernel_rfl)
abbrev U64(n:Nat):Value:=.int .u64 (n:Int)
section
variable {F L:List aE}{H:aC}{K:KE}
theorem wE{v:Int}(h0:0<=v)(h:aF v):u64.wrap v=((v.toNat:Nat):Int):=by unfold aF at h;rw[dd];omega
theorem dp{a a2:KQ}{n c m c2 i:Nat}{x y:List Int}(h:aA H L)(f:aW i L=slA 5 1 a n c (x.map U8))(s:n=x.length)(hm:y.length=m)(j:aP H a2 (y.map U8))(t:x.length+y.length<=1000000000)
  (k:∀d b e,aA e (put i (slA 5 1 d (x++y).length b ((x++y).map U8)) L)->K (.slice d (x++y).length b) e) :
  cA Tryz.prog (Builtin.append_ #[43,43] 43 #[.slice a n c,.slice a2 m c2]) H K:=by
 subst s hm;refine h.append sl32 i f j (by simp) (Ed _ _) (by omega) (by omega) λd b e h=>?_
 have:=k d b e;rw[UZ,Vv]at this;exact this h
theorem II{c:Cl}(wc:WC c)(h:aA H F)
  (k:∀a C V,aA V (slA 5 1 a (dh c).length C ((dh c).map U8)::F)->K (.slice a (dh c).length C) V) :
  CF 132 #[aggC c] H K:=by
 refine cL 132 (.r (.seq (.r (.cond (.r .no) .no)) (.r (.r (.r (.r (.seq (.r (.blk (.rng [sI,sI] [none] (.r .reg) (.blk .reg)))) (.r (.r .no))))))))) ?_;have e:=ud wc;unfold dh at k e;refine h.al λb _ h=>⟨_,_,_,_,_,_,_,_,h.rda 0 rfl,?_⟩
 refine tZ wc h λH1 h=>⟨_,rfl,λD=>?_,λD=>?_⟩
 .rw [UW (by simpa using D)]at k;exact k none 0 _ (h.tl.sl_nil 5 1)
 have W:fX c=true:=by simpa using D
 rw[UX W]at k e;obtain⟨p1,p2,p3,p4⟩:=Ad W;simp only[UZ]at e;have U:=wc.n;have w:=wc.cer;have x:=wc.pos;refine⟨_,h.r 0,_,h.r 0,_,h.r 0,?_⟩;dsimp only
 conv=>whnf
 rw[wE p1 U,wE p2 w,wE p3 x];unfold aF at U w x;refine h.al λb1 _ h=>?_
 refine qm (us:=[c.n.toNat,c.cer.toNat,c.pos.toNat]) h (λH h=>h.ce_rd 0 rfl) (by
   intro u Q;simp only[Vm,We,or_false]at Q;omega) (by simp) λa1 c1 H3 h=>⟨_,_,_,rfl,?_⟩
 refine⟨_,h.r 2,_,h.r 2,?_⟩;refine h.al λb2 _ h=>?_
 refine EZ (vs:=[c.mn,c.mx]) h (λH h=>h.ce_rd 0 rfl) (by simp) λa2 c2 H5 h=>⟨_,_,_,rfl,?_⟩
 refine dp h (i:=2) rfl rfl rfl (h.sl_rd 0 rfl) (by omega) λa3 c3 H6 h=>⟨_,_,_,rfl,?_⟩
 refine⟨_,_,h.rdv (l:=[_]) (vs:=[_,_]) 4 rfl rfl,?_⟩;refine RK wc.sum h λa4 c4 H7 h=>⟨_,_,_,rfl,?_⟩
 have hs:=rH (c:=c4) (bs:=dO c.sum) (slB_is (k:=0) (c:=c4) h |> λhh=>by
  rcases (kr (F:=star _) h).2 with ⟨L,_⟩|⟨b,pre,post,e',fr,L,_⟩
  .exact .inl L
  .exact .inr ⟨_,_,L⟩) (h.sl_rd 0 rfl)
 rw[rX]at hs;refine⟨_,hs,?_⟩;refine h.al λb3 _ h=>?_
 have T:(bF (dO c.sum)).size=16:=by rw[nI,rX]
 have y:dD [bF (dO c.sum)]=cZ (bF (dO c.sum)):=by simp[dD]
 have h4:(cZ (bF (dO c.sum))).length<=26:=by have:=lE (s:=bF (dO c.sum)) (by omega);omega
 refine wg (ts:=[bF (dO c.sum)]) h (λH h=>h.ce_rd 0 rfl) (λi=>by
   rcases WS i with rfl|hi
   .simp [dD]
   .rw [V2 (show [bF (dO c.sum)].length<=i from hi),y];omega) (by intro s v;rw[Vo]at v;rw[v,T];decide) (by simp) λa5 c5 H9 h=>⟨_,_,_,rfl,?_⟩
 rw[y]at h ⊢;refine dp h (i:=5) rfl rfl rfl (h.sl_rd 0 rfl) (by simp only[UZ];omega) λa6 c6 h5 h=>⟨_,_,_,rfl,?_⟩
 refine h.al λb4 _ h=>⟨c.h,h.rdt (l:=[_,_,_,_,_,_,_]) 8 rfl rfl,?_⟩
 have h:=h.o [0,6] 9;refine It h λfb B h=>⟨_,_,rfl,rfl,λR J N hy=>?_⟩
 have h:=h.rng R;have h:=h.sl_nil 155 1;refine Iu (f:=c.h) (λj=>exS λp:KQ×Nat=>star [cellsA b4 [.slice p.1 (gN c.h j).length p.2] 398,slA 155 1 p.1 (gN c.h j).length p.2 ((gN c.h j).map U64),pt (B.size+1) (.loop R)]) (pur False)
  (F:=pt B.size (.deferred (some []))::slA 5 1 a6 (eJ [c.n.toNat,c.cer.toNat,c.pos.toNat]++cX [c.mn,c.mx]++cZ (bF (dO c.sum))).length c6 ((eJ [c.n.toNat,c.cer.toNat,c.pos.toNat]++cX [c.mn,c.mx]++cZ (bF (dO c.sum))).map U8)::F) ?_ ?_ ?_ ?_ ?_
 .exact cJ.2 ⟨(none,0),aA.shut [_,_,_] (h.o [4,0,1,3,2,5] 6)⟩
 .intro j O hz;rw[show gN c.h (j+1)=gN c.h j by rw[Ac,UX hz,V4]]
 .intro j O P G t K1 h kt _;obtain⟨⟨a,C⟩,h⟩:=cJ.1 h;have h:=aA.open (A:=[_,_,_]) h;refine hy _ _ _ ?_;have M:=wD c.h j;have I:=wc.h j O;have E:=p4 j O;refine⟨_,_,rfl,h.getO 2 rfl,h.getO 2 rfl,h.stl 2 rfl λh0 h=>⟨_,_,_,h.r 0,?_⟩⟩
  conv=>whnf
  rw[wE E I,u64n (show j<18446744073709551616 by omega)];refine h.al λb5 _ h=>?_
  refine h.append (m:=2) (ws:=[U64 j,U64 (c.h j).toNat]) sl285 2 rfl (h.ce_rd 0 rfl) rfl rfl (by omega) (by omega) λa' S h7 h=>⟨_,_,_,rfl,?_⟩
  refine h.sta 1 rfl rfl λh3 h=>⟨h.getO 3 rfl,kt _ ?_⟩
  have h:=h.setO 3 rfl (.loop R);refine cJ.2 ⟨(a',S),aA.shut [_,_,_] ?_⟩;rw[Ac,UW P,UZ,Vv];exact h.o [1,2,3] 4
 .intro t h;obtain⟨⟨a,C⟩,h⟩:=cJ.1 h;have h:=aA.open (A:=[_,_,_]) h;refine⟨.ready,none,by decide,by rw[nt J N];exact h.getO 2 rfl,h.stl 2 rfl λZ h=>⟨rfl,?_⟩⟩
  refine⟨_,_,_,h.r 0,by decide,?_⟩;have M:=wD c.h 65;have d:u64.wrap (i64.wrap (Int.tdiv ((gN c.h 65).length:Int) 2))=(((gN c.h 65).length/2:Nat):Int):=by
   rw[show Int.tdiv ((gN c.h 65).length:Int) 2=(((gN c.h 65).length/2:Nat):Int) from rfl,aJ,u64n (by omega)]
  conv=>whnf
  rw[d];refine h.al λb6 _ h=>?_
  refine qm (us:=[(gN c.h 65).length/2]) h (λH h=>h.ce_rd 0 rfl) (by
    intro u Q;rw[Vo]at Q;omega) (by simp) λa7 c7 j1 h=>⟨_,_,_,rfl,?_⟩
  refine dp h (i:=7) rfl rfl rfl (h.sl_rd 0 rfl) (by simp only[UZ];omega) λa8 c8 h6 h=>⟨_,_,_,rfl,?_⟩
  refine⟨_,_,_,h.r 2,?_⟩;refine qm (us:=gN c.h 65) h (λH h=>h.sl_rd 3 rfl) (IH wc.h 65 (Vg _)) (by omega) λa9 c9 h1 h=>⟨_,_,_,rfl,?_⟩
  refine dp h (i:=8) rfl rfl rfl (h.sl_rd 0 rfl) (by simp only[UZ];omega) λh9 Y h8 h=>⟨_,_,_,rfl,h.getO 7 rfl,?_⟩
  have h:=h.setO 7 rfl (.deferred none);exact k _ _ _ (h.o [8] 9)
 .intro t h;exact (aA.consP h).1.elim
end
abbrev iU(l:bR):List Int:=cZ l.name++cZ l.value
def serB(name:Fa)(labs:List bR):List Int:=(cZ name++bQ labs.length)++labs.flatMap iU
def iV(name:Fa)(labs:List bR):List Int:=if fu name labs then serB name labs else []
theorem RQ(name:Fa)(labs:List bR):aH (serB name labs):=
 dE (dE (ql _) (oL _)) (jx λ_ _=>dE (ql _) (ql _))
theorem Ae(name:Fa)(labs:List bR):aH (iV name labs):=by
 unfold iV;split
 .exact RQ _ _
 .exact kJ
theorem IJ(s:Fa):dD [s]=cZ s:=by simp[dD]
theorem wF(n:Nat):eJ [n]=bQ n:=by simp[eJ]
theorem IK(l:bR):dD [l.name,l.value]=iU l:=by simp[dD,iU]
theorem IL{l:bR}(h:ig l=true):(iU l).length<=148:=by
 have:=rW h;have b:=lE (s:=l.name) (by omega);have a:=lE (s:=l.value) (by omega);rw[UZ];omega
theorem IM{labs:List bR}:(∀l∈labs,ig l=true)->(labs.flatMap iU).length<=148*labs.length:=by
 induction labs with
 | nil=>intro _;simp
 | cons a l ih=>
  intro h;have d:=ih λx b=>h x (Vq _ b)
  have c:=IL (h a (Vn ..));rw[V6,UZ,Vf];omega
def dK:Nat->RS->List bR×RS
 | 0,s=>([],s)
 | n+1,s=>((dK n s).1++[⟨bF (aZ 64 (dK n s).2).1,bF (aZ 64 (aZ 64 (dK n s).2).2).1⟩],(aZ 64 (aZ 64 (dK n s).2).2).2)
structure SRes where
 name:Fa
 labs:List bR
 e:Int
 rest:RS
def cK(s:RS):SRes:=
 if (dK (bX 8 (aZ 64 s).2).1.toNat (bX 8 (aZ 64 s).2).2).2.e≠0 then ⟨⟨#[]⟩,[],(dK (bX 8 (aZ 64 s).2).1.toNat (bX 8 (aZ 64 s).2).2).2.e,(dK (bX 8 (aZ 64 s).2).1.toNat (bX 8 (aZ 64 s).2).2).2⟩
 else if fu (bF (aZ 64 s).1) (dK (bX 8 (aZ 64 s).2).1.toNat (bX 8 (aZ 64 s).2).2).1 then ⟨bF (aZ 64 s).1,(dK (bX 8 (aZ 64 s).2).1.toNat (bX 8 (aZ 64 s).2).2).1,0,(dK (bX 8 (aZ 64 s).2).1.toNat (bX 8 (aZ 64 s).2).2).2⟩
 else ⟨⟨#[]⟩,[],10,(dK (bX 8 (aZ 64 s).2).1.toNat (bX 8 (aZ 64 s).2).2).2⟩
theorem Af{s:RS}(h:aH s.bs):∀n,aH (dK n s).2.bs
 | 0=>h
 | n+1=>(lF (lF (Af h n)).1).1
theorem Ah(s:RS):∀n,(dK n s).2.bs.length<=s.bs.length
 | 0=>Vg _
 | n+1=>Vu (mr _ _).1 (Vu (mr _ _).1 (Ah s n))
theorem Ai(s:RS):∀n,(dK n s).1.length=n
 | 0=>rfl
 | n+1=>by unfold dK;rw[UZ,Ai s n];rfl
theorem IP(s:RS):0<=(bX 8 s).1/\(bX 8 s).1<=8:=by
 unfold bX
 split
 .dsimp only;omega
 .split
  .split
   .dsimp only;omega
   .dsimp only;omega
  .dsimp only;omega
  .dsimp only;omega
theorem Aj{s:RS}(h:aH s.bs):aH (cK s).rest.bs:=by
 have:=Af (rK (m:=8) (lF (m:=64) h).1) (bX 8 (aZ 64 s).2).1.toNat
 unfold cK;split
 .exact this
 .split <;> exact this
theorem Ak(s:RS):(cK s).rest.bs.length<=s.bs.length:=by
 have:=Ah (bX 8 (aZ 64 s).2).2 (bX 8 (aZ 64 s).2).1.toNat
 have a:=rL (aZ 64 s).2 8;have b:=(mr s 64).1;unfold cK;split
 .dsimp only;omega
 .split <;> dsimp only <;> omega
theorem IQ{s:RS}(h:(cK s).e=0):fu (cK s).name (cK s).labs=true:=by
 unfold cK at h ⊢
 split at h
 .rename_i a;exact UY h a
 .rename_i a;rw[UW a]
  split at h
  .rename_i b;rw[UX b];exact b
  .simp at h
theorem IR{name:Fa}{labs:List bR}(h:RightP name labs):(serB name labs).length<=1300:=by
 have a:=rV h.named;have d:=lE (s:=name) (by omega);have e:=nW (u:=labs.length) (by have:=h.len;omega);have b:=IM h.val;have c:=h.len;unfold serB;rw[UZ,UZ];omega
theorem wG(name:Fa)(labs:List bR):(iV name labs).length<=1300:=by
 unfold iV;split
 .rename_i h;exact IR (mC h)
 .simp
section
variable {F L:List aE}{H:aC}{K:KE}
theorem wH{a:KQ}{c:Nat}{s:Fa}(h:aA H F)(j:∀H,aA H F->aP H a [.string s])(hs:s.size<=100000000)
  (k:∀e b f,aA f (slA 5 1 e (cZ s).length b ((cZ s).map U8)::F)->K (.slice e (cZ s).length b) f) :
  CF 131 #[.slice a 1 c] H K:=by
 have m:=lE (s:=s) (by omega);refine wg (ts:=[s]) h j (λi=>?_) (λx d=>by rw[Vo]at d;subst d;omega) (by simp) ?_
 .rcases WS i with rfl|hi
  .simp [dD]
  .rw [V2 (show [s].length<=i from hi),IJ];omega
 .rw [IJ];exact k
theorem Am{name:Fa}{a:KQ}{c:Nat}{labs:List bR}(h:aA H F)(D:∀H,aA H F->aP H a (flat de labs))
  (k:∀v t w,aA w (slA 5 1 v (iV name labs).length t ((iV name labs).map U8)::F)->K (.slice v (iV name labs).length t) w) :
  CF 178 #[.agg #[.string name,.slice a labs.length c]] H K:=by
 refine cN 178 0x1d2821561239925144c [[(3,sS),(23,sI)],[(3,sS)]] ?_;refine h.al λb _ h=>?_
 refine⟨_,_,_,_,h.q 0,?_⟩;refine qx h (λH h=>D H h.tl) λP h=>⟨_,rfl,λf=>?_,λf=>?_⟩
 .have e:iV name labs=[]:=by unfold iV;rw[UW (by simpa using f)]
  rw[e]at k;exact k none 0 _ (h.tl.sl_nil 5 1)
 .simp only[VI]at f;have n:=mC f;have e:iV name labs=serB name labs:=by unfold iV;rw[UX f]
  rw[e]at k;have U:=n.len;have L:=rV n.named;have I:=IR n;have V:=lE (s:=name) (by omega);have hu:=nW (u:=labs.length) (by omega);intro T S;have m:∀(ba:KQ) (bc:Nat) A,aA A (slA 5 1 ba (cZ name++bQ labs.length).length bc ((cZ name++bQ labs.length).map U8)::cellsA b [.string name,.slice a labs.length c] 79::F)->T ba (cZ name++bQ labs.length).length bc A:=by
   intro ba bc A h;refine S _ _ _ _ ?_;refine⟨_,_,_,h.r 1,?_⟩;refine⟨λv M t i w=>∃j:Nat,i=j/\j<=labs.length/\M=((cZ name++bQ labs.length)++(labs.take j).flatMap iU).length/\
    aA w (slA 5 1 v ((cZ name++bQ labs.length)++(labs.take j).flatMap iU).length t (((cZ name++bQ labs.length)++(labs.take j).flatMap iU).map U8)::cellsA b [.string name,.slice a labs.length c] 79::F),
    λ_ _ _ i _=>labs.length-i.toNat,⟨0,rfl,by omega,by simp,by simpa using h⟩,?_⟩
   rintro a1 n1 c1 i P ⟨j,rfl,W,rfl,h⟩;refine⟨λf=>?_,λf=>?_⟩
   .have d:j<labs.length:=by have:=Va f;omega
    have G:=D _ h.tl.tl;have Y:=rW (n.val _ (Vk d));have Q:=IL (n.val _ (Vk d));have R:=IM (labs:=labs.take j) λl J=>n.val l (VR J)
    have O:(labs.take j).length<=labs.length:=by rw[Vx];omega
    refine⟨by omega,_,_,G.some iS (by omega) d,_,_,G.els iS d,?_⟩;refine h.al λb2 _ h=>?_
    refine h.st 0 rfl rfl ?_;intro C h;refine⟨_,h.r 0,_,h.r 0,?_⟩;refine h.al λb3 _ h=>?_
    refine wg (ts:=[labs[j].name,labs[j].value]) h (λH h=>h.ce_rd 0 rfl) (λi=>?_) ?_ (by simp) λv t Z h=>?_
    .have:(dD ([labs[j].name,labs[j].value].take i)).length<=(dD [labs[j].name,labs[j].value]).length:=by
      have:[labs[j].name,labs[j].value]=[labs[j].name,labs[j].value].take i++[labs[j].name,labs[j].value].drop i:=(VO _ _).symm;rw[show (dD [labs[j].name,labs[j].value]).length=(dD ([labs[j].name,labs[j].value].take i++[labs[j].name,labs[j].value].drop i)).length by rw[<-this]];unfold dD;rw[VW,UZ];omega
     rw[IK]at this;omega
    .intro s hs;simp only[Vm,We,or_false]at hs
     rcases hs with rfl|rfl <;> omega
    .rw [IK]at h ⊢;refine⟨_,_,_,rfl,?_⟩;refine dp h (i:=3) rfl rfl rfl (h.sl_rd 0 rfl) (by simp only[UZ]at *;omega) λa3 c3 y h=>⟨_,_,_,rfl,?_⟩
     conv=>whnf
     rw[aJ (x:=(j:Int)+1)];have e5:((cZ name++bQ labs.length)++(labs.take (j+1)).flatMap iU)=((cZ name++bQ labs.length)++(labs.take j).flatMap iU)++iU labs[j]:=by
      rw[jL d,Vj _ _ (iU labs[j])]
     refine⟨⟨j+1,by omega,d,by rw[e5],?_⟩,by dsimp only;omega⟩;rw[e5];exact h.o [3,4] 5
   .have B:labs.length<=j:=by have:=Vb f;omega
    have e1:labs.take j=labs:=V2 B;rw[e1]at h ⊢;exact k _ _ _ (h.o [0] 2)
  have N:u64.wrap ((labs.length:Nat):Int)=((labs.length:Nat):Int):=by rw[dd];omega
  refine⟨_,h.r 0,_,_,_,h.r 0,?_⟩;dsimp only
  conv=>whnf
  rw[N];refine⟨?_,?_⟩
  .refine h.al λb4 _ h=>⟨h.r 1,?_,?_⟩
   .refine wH h (λH h=>h.ce_rd 0 rfl) (by omega) λa1 c1 C h=>⟨_,_,_,rfl,h.r 2,?_⟩
    refine h.al λb5 _ h=>?_
    refine qm (us:=[labs.length]) h (λH h=>h.ce_rd 0 rfl) (by simp;omega) (by simp) λa2 c2 E h=>⟨_,_,_,rfl,?_⟩
    rw[wF]at h ⊢;refine dp h (i:=2) rfl rfl rfl (h.sl_rd 0 rfl) (by omega) λa3 c3 y h=>⟨_,_,_,rfl,?_⟩
    exact m _ _ _ (h.o [2,4] 5)
   .refine h.al λb5 _ h=>?_
    refine wH h (λH h=>h.ce_rd 1 rfl) (by omega) λa1 c1 C h=>⟨_,_,_,rfl,?_⟩
    refine qm (us:=[labs.length]) h (λH h=>h.ce_rd 1 rfl) (by simp;omega) (by simp) λa2 c2 E h=>⟨_,_,_,rfl,?_⟩
    rw[wF]at h ⊢;refine dp h (i:=1) rfl rfl rfl (h.sl_rd 0 rfl) (by omega) λa3 c3 y h=>⟨_,_,_,rfl,?_⟩
    exact m _ _ _ (h.o [1,4] 5)
  .refine h.al λb5 _ h=>⟨h.r 1,?_⟩
   refine h.al λb4 _ h=>?_
   refine wH h (λH h=>h.ce_rd 0 rfl) (by omega) λa1 c1 C h=>⟨_,_,_,rfl,?_⟩
   refine qm (us:=[labs.length]) h (λH h=>h.ce_rd 2 rfl) (by simp;omega) (by simp) λa2 c2 E h=>⟨_,_,_,rfl,?_⟩
   rw[wF]at h ⊢;refine dp h (i:=1) rfl rfl rfl (h.sl_rd 0 rfl) (by omega) λa3 c3 y h=>⟨_,_,_,rfl,?_⟩
   exact m _ _ _ (h.o [1,4] 5)
theorem IS{rb:Nat}{s:RS}(h:aA H (crdA rb s::F))(hb:aH s.bs)(Q:s.bs.length<=1099511627776)
  (k:∀a c d,aA d (crdA rb (cK s).rest::slA 421 2 a (cK s).labs.length c (flat de (cK s).labs)::F)->
   K (.tuple #[.agg #[.string (cK s).name,.slice a (cK s).labs.length c],aD (cK s).e]) d):CF 253 #[PA rb 0] H K:=by
 refine cN 253 0x112156123992514421bdc [[(12,sI)]] ?_;refine h.al λb _ h=>?_
 have h:=h.o [1,0] 2;refine nD (most:=64) h hb Q (by unfold aF;decide) λM h=>⟨_,rfl,?_⟩
 have t:=(lF (m:=64) hb).1;have V:=(mr s 64).1;refine h.al λb1 _ h=>?_
 refine h.st 0 rfl rfl ?_;intro U h;have h:=h.o [1,0,2] 3;refine tG (most:=8) h t (by omega) (by unfold aF;decide) λZ h=>⟨_,rfl,?_⟩
 have I:=rK (m:=8) t;have T:=rL (aZ 64 s).2 8;have R:=IP (aZ 64 s).2;unfold cK at k;generalize hcr:bX 8 (aZ 64 s).2=C at *;obtain⟨cn,s1⟩:=C;dsimp only at *;obtain⟨n,rfl⟩:∃n:Nat,cn=n:=⟨cn.toNat,by omega⟩;rw[Vi]at k;refine⟨λi d=>∃j:Nat,i=j/\j<=n/\∃a c,aA d (crdA rb (dK j s1).2::slA 421 2 a j c (flat de (dK j s1).1)::cellsA b1 [.string (bF (aZ 64 s).1),.slice a j c] 79::cellsA b [.string ⟨#[]⟩,.slice none 0 0] 79::F),
  λi _=>n-i.toNat,⟨0,rfl,by omega,none,0,((h.sl_nil 421 2).o [1,0,2,3] 4)⟩,?_⟩
 rintro i M ⟨j,rfl,Y,a,c,h⟩;have v:=Af I j;have P:=Ah s1 j;refine⟨λy=>?_,λy=>?_⟩
 .have J:j<n:=by have:=Va y;omega
  refine nD (most:=64) h v (by omega) (by unfold aF;decide) λW h=>⟨_,rfl,_,_,_,h.r 2,?_⟩
  have G:=(lF (m:=64) v).1;have S:=(mr (dK j s1).2 64).1;refine nD (most:=64) h G (by omega) (by unfold aF;decide) λU h=>⟨_,rfl,h.r 2,?_⟩
  refine h.al λb2 _ h=>⟨h.r 3,?_⟩
  have w:=Ai s1 j;refine h.append (m:=1) (ws:=de ⟨bF (aZ 64 (dK j s1).2).1,bF (aZ 64 (aZ 64 (dK j s1).2).2).1⟩) sl91 2 rfl (h.ce_rd 0 rfl) rfl (zU _) (by omega) (by omega) λO N H5 h=>⟨_,_,_,rfl,?_⟩
  refine h.st 3 rfl rfl ?_;intro A h
  conv=>whnf
  rw[aJ (x:=(j:Int)+1)];refine⟨⟨j+1,by omega,J,O,N,?_⟩,by dsimp only;omega⟩;have e:flat de (dK (j+1) s1).1=flat de (dK j s1).1++de ⟨bF (aZ 64 (dK j s1).2).1,bF (aZ 64 (aZ 64 (dK j s1).2).2).1⟩:=by
   show flat de (_++[_])=_;rw[dT];simp[flat]
  rw[e];exact h.o [1,2,3,4] 5
 .have E:j=n:=by have:=Vb y;omega
  subst E;have w:=Ai s1 j;refine⟨_,mp h,λf=>?_,λf=>?_⟩
  .have f:(dK j s1).2.e≠0:=by simpa using f
   rw[UX f]at k;refine h.st 3 rfl rfl ?_;intro A h;refine⟨_,_,_,_,h.q 3,?_⟩;exact k none 0 _ (((h.sl_nil 421 2).o [1,0] 5))
  .have f:¬(dK j s1).2.e≠0:=by simpa using f
   rw[UW f]at k;refine⟨_,_,_,_,h.q 2,?_⟩;have L:CF 226 #[.agg #[.string (bF (aZ 64 s).1),.slice a (dK j s1).1.length c]] M (λu d=>u=.bool (fu (bF (aZ 64 s).1) (dK j s1).1)/\aA d (crdA rb (dK j s1).2::slA 421 2 a j c (flat de (dK j s1).1)::cellsA b1 [.string (bF (aZ 64 s).1),.slice a j c] 79::cellsA b [.string ⟨#[]⟩,.slice none 0 0] 79::F)):=
    qx h (λH h=>h.sl_rd 1 rfl) λd h=>⟨rfl,h⟩
   rw[w]at L;refine L.mono ?_;rintro u H7 ⟨rfl,h⟩;refine⟨_,rfl,λD=>?_,λD=>?_⟩
   .rw [UW (by simpa using D)]at k;refine h.st 3 rfl rfl ?_;intro A h;refine⟨_,_,_,_,h.q 3,?_⟩;exact k none 0 _ (((h.sl_nil 421 2).o [1,0] 5))
   .rw [UX (by simpa using D)]at k;refine⟨_,_,_,_,h.q 2,?_⟩;refine h.st 3 rfl rfl ?_;intro A h;refine⟨_,_,_,_,h.q 3,?_⟩;have B:=k a c _ (by dsimp only;rw[w];exact h.o [0,1] 4);dsimp only at B;rw[w]at B;exact B
end
def fZ(c:UInt8)(s:Fa):Fa×Fa×Bool:=
 if 0<=cU c (aX s) then (s.extract 0 (cU c (aX s)).toNat,s.extract ((cU c (aX s)).toNat+1) s.size,true) else (s,⟨#[]⟩,false)
def mD(c:UInt8)(s:Fa):Fa×Bool:=
 if decide (1<=s.size)&&((s.extract (s.size-1) s.size).toList == (⟨#[c]⟩:Fa).toList) then (s.extract 0 (s.size-1),true) else (s,false)
def iW:Nat->Fa->List Fa
 | 0,s=>[s]
 | n+1,s=>if cU 44 (aX s)<0 then [s] else s.extract 0 (cU 44 (aX s)).toNat::iW n (s.extract ((cU 44 (aX s)).toNat+1) s.size)
def gO(s:Fa):List Fa:=iW s.size s
def rY(acc:Option (List bR))(p:Fa):Option (List bR):=match acc with
 | none=>none
 | some labs=>if (fZ 61 p).2.2 && !decide (labs.length=8) then some (labs++[⟨(fZ 61 p).1,(fZ 61 p).2.1⟩]) else none
def kz(ps:List Fa):Option (List bR):=ps.foldl rY (some [])
def ij(t:Fa):Fa×List bR×Bool:=
 if (fZ 123 t).2.2 then
  if (mD 125 (fZ 123 t).2.1).2 then match kz (gO (mD 125 (fZ 123 t).2.1).1) with
   | none=>(⟨#[]⟩,[],false)
   | some labs=>if fu (fZ 123 t).1 labs then ((fZ 123 t).1,labs,true) else (⟨#[]⟩,[],false)
  else (⟨#[]⟩,[],false)
 else if fu (fZ 123 t).1 [] then ((fZ 123 t).1,[],true) else (⟨#[]⟩,[],false)
theorem IT(c:UInt8)(s:Fa):-1<=cU c (aX s)/\cU c (aX s)<s.size:=by
 have:=idxU_ge c (aX s);rw[kQ]at this;exact this
theorem RR(ps:List Fa):ps.foldl rY none=none:=by
 induction ps with
 | nil=>rfl
 | cons p r ih=>exact ih
theorem RT{ps:List Fa}{j:Nat}(h:j<ps.length):kz (ps.take (j+1))=rY (kz (ps.take j)) ps[j]:=by
 unfold kz;rw[VE h,Wr];rfl
theorem RU{ps:List Fa}{j:Nat}(h:kz (ps.take j)=none):kz ps=none:=by
 have:ps=ps.take j++ps.drop j:=(VO _ _).symm;rw[this];unfold kz at h ⊢;rw[Wr,h,RR]
theorem IU:∀(n:Nat) (s p:Fa),p∈iW n s->p.size<=s.size
 | 0,s,p,h=>by
  have:p=s:=Vo.1 h;subst this;exact Vg _
 | n+1,s,p,h=>by
  unfold iW at h
  split at h
  .have:p=s:=Vo.1 h;subst this;exact Vg _
  .rcases Vm.1 h with h|h
   .rw [h,ByteArray.size_extract];omega
   .have:=IU n _ p h;rw[ByteArray.size_extract,Nat.min_self]at this;omega
theorem IV(n:Nat)(s:Fa):iW n s≠[]:=by
 cases n with
 | zero=>simp[iW]
 | succ n=>unfold iW;split <;> simp
section
variable {F L:List aE}{H:aC}{K:KE}
theorem IW{s:Fa}{c:UInt8}(k:K (aD (cU c (aX s))) H):CF 348 #[.string s,.string ⟨#[c]⟩] H K:=by
 refine NH ⟨λa=>?_,λa=>⟨λhd=>?_,λhd=>?_⟩⟩
 .simp only[Vr,Vc]at a
  rcases a with a|a
  .exact UY a (by show ¬((1:Int)=0);omega)
  .have e:(⟨#[c]⟩:Fa)=s:=ba_ext (by simpa using a);have:cU c (aX s)=0:=by
    rw[<-e];show cU c [c]=0;unfold cU;simp
   rw[<-this];exact k
 .refine⟨⟨by omega,by show (0:Int)<1;omega⟩,?_⟩;refine N6 ⟨_,natIdx,_,rfl,?_⟩;have:(bAt (⟨#[c]⟩:Fa) 0).toNat.toUInt8=c:=by
   show ((c.toNat:Int)).toNat.toUInt8=c;simp
  rw[this];exact k
 .exact UY (Vb hd) (by show ¬¬((1:Int)=1);omega)
theorem IY{s:Fa}{c:UInt8}(hs:s.size<=1099511627776)(k:K (.tuple #[.string (fZ c s).1,.string (fZ c s).2.1,.bool (fZ c s).2.2]) H) :
  CF 264 #[.string s,.string ⟨#[c]⟩] H K:=by
 refine Ob (NR ?_);refine IW ⟨_,rfl,λa=>?_,λa=>?_⟩
 .have a:=Va a;have hi:=IT c s;have b:i64.wrap (cU c (aX s)+(((⟨#[c]⟩:Fa).size:Nat):Int))=cU c (aX s)+1:=by
   show i64.wrap (cU c (aX s)+1)=_;rw[aJ]
  rw[b];refine⟨by omega,by omega,_,_,_,rfl,?_⟩;unfold fZ at k;rw[UX a]at k;rw[show (cU c (aX s)+1).toNat=(cU c (aX s)).toNat+1 by omega];exact k
 .have a:=Vb a;unfold fZ at k;rw[UW a]at k;exact⟨_,_,_,rfl,k⟩
theorem RV{s:Fa}{c:UInt8}(hs:s.size<=1099511627776):bU Tryz.prog 265 #[.string s,.string ⟨#[c]⟩] H (.tuple #[.string (mD c s).1,.bool (mD c s).2]):=by
 have d:(((⟨#[c]⟩:Fa).size:Nat):Int)=1:=rfl;have e:∀h:1<=s.size,i64.wrap ((s.size:Int)-1)=((s.size-1:Nat):Int):=λh=>by rw[aJ];omega
 refine Oa ⟨_,_,NQ ⟨decide (1<=s.size)&&((s.extract (s.size-1) s.size).toList == (⟨#[c]⟩:Fa).toList),N9 ⟨λa=>?_,?_,rfl⟩,λa=>?_,λa=>?_⟩,rfl,rfl⟩
 .have a:=Va a;rw[d]at a ⊢;rw[e (by omega)];omega
 .rw [d]
  by_cases b:1<=s.size
  .rw [e b,Vi,Vs b,Vs (show (1:Int)<=s.size by omega)]
  .rw [VK b,VK (show ¬(1:Int)<=s.size by omega),Bool.false_and,Bool.false_and]
 .unfold mD;rw[UW (by rw[V1,]at a;rw[a];simp)];exact⟨rfl,rfl⟩
 .have a:(decide (1<=s.size)&&((s.extract (s.size-1) s.size).toList == (⟨#[c]⟩:Fa).toList))=true:=by simpa using a
  have b:1<=s.size:=by
   rw[Vd]at a;exact Va a.1
  unfold mD;rw[UX a,d,e b];exact⟨by omega,rfl,rfl⟩
theorem RY{l c0 c1 c2:Nat}{s:Fa}(hs:s.size<=1099511627776)(A:Nat->aE)(L:Nat->aE)
  (h:aA H (A 0::cellsA c0 [.string ⟨#[44]⟩] 9::cellsA c1 [.string s] 9::cellsA c2 [aD 0] 3::F))
  (M:∀j (Q:j<(gO s).length) (G:List aE) (u:aC) (x:KE),aA u (A j::G)->(∀c,aA c (A (j+1)::G)->x (.bool true) c)->(∀c,aA c (L j::G)->x (.bool false) c)->
   fI Tryz.prog l [.string (gO s)[j]] u x)
  (k:∀d,aA d (A (gO s).length::F)->K (.tuple #[]) d)
  (N:∀j d,j<(gO s).length->aA d (L j::F)->K (.tuple #[]) d) :
  CF 350 #[.func (.yield l) #[] #[],PA c0 0,PA c1 0,PA c2 0] H K:=by
 refine N8 ?_;refine⟨_,h.r 1,λb=>UY (Va b) (by show ¬((1:Int)=0);omega),λb=>?_⟩
 refine⟨λd=>∃(j n:Nat) (r:Fa),j<(gO s).length/\(gO s).drop j=iW n r/\r.size<=n/\n<=s.size/\aA d (A j::cellsA c0 [.string ⟨#[44]⟩] 9::cellsA c1 [.string r] 9::cellsA c2 [aD 0] 3::F),
  λd=>match aK d c1 0 with|some (.string r)=>r.size|_=>0,⟨0,s.size,s,WO.2 (IV _ _),rfl,Vg _,Vg _,h⟩,?_⟩
 rintro u ⟨j,n,r,f,hd,T,R,h⟩;have E:=h.rd 2 rfl 0;refine⟨_,h.r 2,_,h.r 1,?_⟩;have hi:=IT 44 r;have v:(gO s)[j]=(iW n r)[0]'(by rw[<-hd,Vt];omega):=by
  simp only[<-hd,List.getElem_drop,Wm]
 refine N7 (IW ⟨_,rfl,_,rfl,λb=>?_,λb=>?_⟩)
 .have b:=Va b;have e:iW n r=[r]:=by
   cases n with
   | zero=>rfl
   | succ n=>unfold iW;rw[UX b]
  have w:(gO s).length=j+1:=by
   have:=congrArg List.length hd;rw[e,Vt]at this;simp at this;omega
  have e0:(gO s)[j]=r:=by rw[v];simp only[e];rfl
  refine⟨_,h.r 2,?_⟩;have a:=M j f (cellsA c0 [.string ⟨#[44]⟩] 9::cellsA c1 [.string r] 9::cellsA c2 [aD 0] 3::F) u (λu3 I=>∃r4,u3=.bool r4/\K (.tuple #[]) I) h
   (λc h=>⟨true,rfl,k _ (by rw[w];exact h.o [0] 4)⟩)
   (λc h=>⟨false,rfl,N j _ f (h.o [0] 4)⟩)
  rw[e0]at a;exact a
 .have b:=Vb b;have C:∃m,n=m+1:=⟨n-1,by omega⟩;obtain⟨m,rfl⟩:=C;have e:iW (m+1) r=r.extract 0 (cU 44 (aX r)).toNat::iW m (r.extract ((cU 44 (aX r)).toNat+1) r.size):=by
   show (if _ then _ else _)=_
   rw[UW b]
  have O:i64.wrap (cU 44 (aX r)+0)=cU 44 (aX r):=by rw[aJ];omega
  have B:i64.wrap (cU 44 (aX r)+(((⟨#[44]⟩:Fa).size:Nat):Int))=cU 44 (aX r)+1:=by
   show i64.wrap (cU 44 (aX r)+1)=_;rw[aJ]
  have e0:(gO s)[j]=r.extract 0 (cU 44 (aX r)).toNat:=by rw[v];simp only[e];rfl
  have i:(gO s).drop (j+1)=iW m (r.extract ((cU 44 (aX r)).toNat+1) r.size):=by
   rw[<-WM,hd,e];rfl
  have D:j+1<(gO s).length:=by
   have P:=WO.2 (IV m (r.extract ((cU 44 (aX r)).toNat+1) r.size));rw[<-i,Vt]at P;omega
  refine⟨_,h.r 2,_,h.r 3,?_⟩;dsimp only;rw[O];refine⟨by omega,?_⟩;have a:=M j f (cellsA c0 [.string ⟨#[44]⟩] 9::cellsA c1 [.string r] 9::cellsA c2 [aD 0] 3::F) u;rw[e0]at a;refine a _ h (λc h=>⟨true,rfl,λy=>UY y (by simp),λ_=>?_⟩) (λc h=>⟨false,rfl,λ_=>N j _ f (h.o [0] 4),λy=>UY y (by simp)⟩)
  refine⟨_,h.r 2,_,h.r 1,?_⟩;dsimp only;rw[B];refine⟨by omega,?_⟩;have J:(r.extract ((cU 44 (aX r)).toNat+1) r.size).size=r.size-((cU 44 (aX r)).toNat+1):=by
   rw[ByteArray.size_extract,Nat.min_self]
  refine h.st 2 rfl rfl ?_;intro S h;rw[show (cU 44 (aX r)+1).toNat=(cU 44 (aX r)).toNat+1 by omega]at h;refine⟨⟨j+1,m,_,D,i,by omega,by omega,h⟩,?_⟩;have t:=h.rd 2 rfl 0;rw[E,t];show ByteArray.size _<ByteArray.size _;rw[J];omega
theorem IZ{t:Fa}(Q:t.size<=1099511627776)(h:aA H F)
  (k:∀a c I,aA I (slA 421 2 a (ij t).2.1.length c (flat de (ij t).2.1)::F)->K (.tuple #[.agg #[.string (ij t).1,.slice a (ij t).2.1.length c],.bool (ij t).2.2]) I) :
  CF 209 #[.string t] H K:=by
 refine cL 209 (.r (.r (.r (.seq (.r (.cond (.r (.seq (.r (.cond (.r .no) .no)) (.r (.blk (.rng [sT] [none,(some .ret)] .reg (.blk (.r (.seq (.r (.cond (.r .no) .no)) .reg)))))))) .no)) (.seq (.r (.cond (.r .no) .no)) (.r .no)))))) ?_;refine h.al λb _ h=>?_
 refine h.al λb1 _ h=>?_
 refine IY Q ⟨_,_,_,rfl,?_⟩;refine h.al λb2 _ h=>?_
 refine h.st 0 rfl rfl ?_;intro H1 h;have M:(fZ 123 t).2.1.size<=t.size:=by
  unfold fZ;split
  .dsimp only;rw[ByteArray.size_extract];omega
  .exact V3 _
 unfold ij at k;generalize hC:fZ 123 t=C at *;obtain⟨nm,rest,ok⟩:=C;dsimp only at *;refine⟨λd=>?_,λd=>?_⟩
 .subst d;rw[UX rfl]at k;refine⟨_,_,RV (by omega),λd=>?_,λd=>?_⟩
  .rw [UW (by simpa using d)]at k;refine h.st 2 rfl rfl ?_;intro H2 h;refine h.st 1 rfl rfl ?_;intro H3 h;refine⟨_,_,_,_,h.q 2,_,h.r 1,?_⟩;exact k none 0 _ ((h.sl_nil 421 2).o [0] 4)
  .rw [UX (by simpa using d)]at k;have V:(mD 125 rest).1.size<=rest.size:=by
    unfold mD;split
    .dsimp only;rw[ByteArray.size_extract];omega
    .exact Vg _
   generalize hf:(mD 125 rest).1=f at *;refine cM 266 28 (cM 304 28 ?_);refine h.al λc1 _ h=>?_
   refine h.al λc0 _ h=>?_
   refine h.al λc2 E h=>⟨_,_,rfl,_,_,rfl,rfl,λR B x U=>?_⟩
   have h:=h.rng R;refine RY (s:=f) (by omega)
    (λj=>exS λp:(KQ×Nat)×List bR=>star [cellsA b2 [.string nm,.slice p.1.1 p.2.length p.1.2] 79,slA 421 2 p.1.1 p.2.length p.1.2 (flat de p.2),cellsA b1 [.bool false] 4,cellsA b [.string ⟨#[]⟩,.slice none 0 0] 79,pt (E.size+1) (.loop R),pur (kz ((gO f).take j)=some p.2/\p.2.length<=8)])
    (λj=>star [cellsA b1 [.bool false] 4,cellsA b [.string ⟨#[]⟩,.slice none 0 0] 79,pt (E.size+1) (.loop { R with state:=.done,pending:=some .ret }),pur (kz ((gO f).take (j+1))=none)])
    (F:=pt E.size (.deferred (some []))::F) ?_ ?_ ?_ ?_
   .refine cJ.2 ⟨((none,0),[]),aA.shut [_,_,_,_,_,_] ?_⟩;exact ((h.sl_nil 421 2).pur (p:=kz ((gO f).take 0)=some []/\([]:List bR).length<=8) ⟨rfl,by simp⟩).o [7,1,8,9,2,0,5,6,4,3] 10
   .intro j y G J Z h W Y;obtain⟨⟨⟨a,c⟩,labs⟩,h⟩:=cJ.1 h;have h:=aA.open (A:=[_,_,_,_,_,_]) h;have u:=(aA.consP (h.o [5,0,1,2,3,4] 6)).1;dsimp only at h;have S:=IU f.size f _ (Vk (l:=gO f) y);have i:=RT y;rw[u.1]at i;dsimp only at u;unfold rY at i;dsimp only at i;refine U _ _ _ ?_;refine⟨_,rfl,h.getO 4 rfl,h.getO 4 rfl,h.stl 4 rfl λL h=>?_⟩
    refine IY (by omega) ?_;generalize fZ 61 (gO f)[j]=D at *;obtain⟨d1,d2,d3⟩:=D;dsimp only at i ⊢;refine⟨_,_,_,rfl,a,labs.length,c,λ_=>h.r 0,λd=>?_,λd=>?_⟩
    .rw [UW (by
      intro e;simp only[Vd,V1,Ve]at e;simp only[Vr,V1,Vc]at d
      rcases d with d|d
      .rw [d]at e;simp at e
      .omega)]at i
     refine h.st 3 rfl rfl ?_;intro w h;refine h.st 2 rfl rfl ?_;intro n h;refine⟨h.getO 4 rfl,Y _ ?_⟩;have h:=h.setO 4 rfl (.loop { R with state:=.done,pending:=some .ret });refine aA.shut [_,_,_,_] ?_;exact (h.pur i).o [3,4,5,0] 7
    .simp only[Vp,VI,Ve]at d;rw[UX (by
      simp only[Vd,V1,Ve];exact⟨d.1,by omega⟩)]at i
     refine⟨_,_,_,h.r 0,?_⟩;refine h.al λb3 _ h=>?_
     refine h.append (m:=1) (ws:=de ⟨d1,d2⟩) sl91 2 rfl (h.ce_rd 0 rfl) rfl (zU _) (by omega) (by omega) λO N T h=>⟨_,_,_,rfl,?_⟩
     refine h.st 1 rfl rfl ?_;intro P h;refine⟨h.getO 5 rfl,W _ ?_⟩;have h:=h.setO 5 rfl (.loop R);refine cJ.2 ⟨((O,N),labs++[⟨d1,d2⟩]),aA.shut [_,_,_,_,_,_] ?_⟩;have e:flat de (labs++[⟨d1,d2⟩])=flat de labs++de ⟨d1,d2⟩:=by
      rw[dT];simp[flat]
     dsimp only;rw[e,UZ];exact (h.pur (p:=kz ((gO f).take (j+1))=some (labs++[⟨d1,d2⟩])/\labs.length+[(⟨d1,d2⟩:bR)].length<=8) ⟨i,by simp;omega⟩).o [2,3,4,5,6,0] 8
   .intro J h;obtain⟨⟨⟨a,c⟩,labs⟩,h⟩:=cJ.1 h;have h:=aA.open (A:=[_,_,_,_,_,_]) h;have u:=(aA.consP (h.o [5,0,1,2,3,4] 6)).1;rw[V8]at u;rw[u.1]at k;dsimp only at h k;refine⟨.ready,none,by decide,by rw[nt B x];exact h.getO 4 rfl,h.stl 4 rfl λL h=>.inl ⟨rfl,?_⟩⟩
    refine⟨_,_,_,_,h.q 0,?_⟩;refine qx h (λH h=>h.sl_rd 1 rfl) λw h=>⟨_,rfl,λd=>?_,λd=>?_⟩
    .rw [UW (by simpa using d)]at k;refine h.st 3 rfl rfl ?_;intro n h;refine h.st 2 rfl rfl ?_;intro v h;refine⟨h.getO 6 rfl,?_⟩;have h:=h.setO 6 rfl (.deferred none);refine⟨_,_,_,_,h.q 3,_,h.r 2,?_⟩;exact k none 0 _ ((h.sl_nil 421 2).o [0] 8)
    .rw [UX (by simpa using d)]at k;refine⟨_,_,_,_,h.q 0,?_⟩;refine h.st 3 rfl rfl ?_;intro n h;refine h.st 2 rfl rfl ?_;intro v h;refine⟨h.getO 6 rfl,?_⟩;have h:=h.setO 6 rfl (.deferred none);refine⟨_,_,_,_,h.q 3,_,h.r 2,?_⟩;exact k a c _ (h.o [1] 7)
   .intro j J y h;have h:=aA.open (A:=[_,_,_,_]) h;have u:=(aA.consP (h.o [3,0,1,2] 4)).1;rw[RU u]at k;refine⟨.done,some .ret,by decide,h.getO 2 rfl,h.stl 2 rfl λL h=>.inr ⟨rfl,h.getO 4 rfl,?_⟩⟩
    have h:=h.setO 4 rfl (.deferred none);refine⟨_,_,_,_,h.q 1,_,h.r 0,?_⟩;exact k none 0 _ ((h.sl_nil 421 2).o [0] 6)
 .subst d;rw[UW (by simp)]at k;refine⟨_,_,_,_,h.q 0,?_⟩;refine qx (labs:=[]) h (λH h=>ip H none) λw h=>⟨_,rfl,λd=>?_,λd=>?_⟩
  .rw [UW (by simpa using d)]at k;refine h.st 2 rfl rfl ?_;intro n h;refine h.st 1 rfl rfl ?_;intro v h;refine⟨_,_,_,_,h.q 2,_,h.r 1,?_⟩;exact k none 0 _ ((h.sl_nil 421 2).o [0] 4)
  .rw [UX (by simpa using d)]at k;refine⟨_,_,_,_,h.q 0,?_⟩;refine h.st 2 rfl rfl ?_;intro n h;refine h.st 1 rfl rfl ?_;intro v h;refine⟨_,_,_,_,h.q 2,_,h.r 1,?_⟩;exact k none 0 _ ((h.sl_nil 421 2).o [0] 4)
end
end Go.Proofs.YtaaieblnikcndaaGreatDoor
