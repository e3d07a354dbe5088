/-
  Lemmas for GateKept: part 5 of what it rests on. Conditions: none.
-/
import Derived.Test.YtaaieblnikcndaaGreatDoorGK4
set_option linter.unusedVariables false
set_option linter.unusedSimpArgs false
set_option maxRecDepth 100000
set_option maxHeartbeats 16000000
open Go.IntKind (i64 u64 i8 u8 i32 u32 i16 u16)
namespace Go.Proofs.YtaaieblnikcndaaGreatDoor
open Go
structure bS where
 name:Fa
 value:Fa
abbrev df(l:bS):Os:=[.string l.name,.string l.value]
theorem iU(l:bS):(df l).length=2:=rfl
theorem zZ(l:bS):cT (df l)=true:=rfl
structure Ev where
 stamp:Int
 value:Int
 name:Fa
 labs:List bS
 la:KQ
 lc:Nat
def Ev.z:Ev:=⟨0,0,⟨#[]⟩,[],none,0⟩
abbrev cw(e:Ev):Os:=[aB e.stamp,aB e.value,.string e.name,.slice e.la e.labs.length e.lc]
abbrev aggV(e:Ev):Value:=.agg #[aB e.stamp,aB e.value,.string e.name,.slice e.la e.labs.length e.lc]
theorem fH(e:Ev):(cw e).length=4:=rfl
theorem Aa(e:Ev):cT (cw e)=true:=rfl
theorem sl44:SlT Tryz.prog 59 99 4 56:=iO (by kernel_rfl)
theorem sl91:SlT Tryz.prog 77 421 2 32:=iO (by kernel_rfl)
theorem qA:kA Tryz.prog 291 2 99 aggV Ev.z:=og Tryz.underlying291 (by kernel_rfl)
theorem ko2:mj Tryz.prog 2 aC:=vO Tryz.underlying2
abbrev holdC(hb mb:Nat)(next most:Int):aE:=cellsA hb [aC next,aC most,.map (some mb)] 293
abbrev ig(mb:Nat)(l:cy Ev):aE:=mapA aC aggV mb l
section
variable {hb mb:Nat}{s:HS Ev}{F:List aE}{H:aD}{K:KE}
theorem Ri{next most:Int}(h:aA H F)
  (k1:next<0\/1099511627776<next\/most<1\/256<most->K (.tuple #[.pointer none,aC 11]) H)
  (k2:∀hb mb b,0<=next/\next<=1099511627776/\1<=most/\most<=256->aA b (holdC hb mb next most::ig mb []::F)->K (.tuple #[PA hb 0,aC 0]) b) :
  CF 185 #[aC next,aC most] H K:=by
 refine cM 185 476 ⟨λa=>k1 ?_,λa=>?_⟩
 .simp only[VE,Vy]at a;omega
 .simp only[VB,V0]at a;refine h.alm aC aggV λmb _ h=>?_
  refine h.al λhb _ h=>?_
  exact k2 _ _ _ (by omega) h
theorem Rk{next most:Int}(h:aA H F)(i:Nat)(a:aW i F=holdC hb mb next most):bX Tryz.prog 124 #[PA hb 0] H (aC next):=
 cM 124 28 ⟨_,h.rd i a _,rfl,rfl⟩
theorem Rl{first:Int}{ia:KQ}{ic:Nat}{items:List Ev}(h:aA H (holdC hb mb s.next s.most::ig mb s.rows::F))(ok:s.Ok)(hn:s.next<=1125899906842624)
  (hF:∀H,aA H F->aP H ia (flat cw items)) (h5:items.length<=1000000)
  (k:∀a c N,aA N (slA 99 4 a (s.offer first items).2.1.length c (flat cw (s.offer first items).2.1)::holdC hb mb (s.offer first items).1.next s.most::ig mb (s.offer first items).1.rows::F)->
   K (.tuple #[.slice a (s.offer first items).2.1.length c,aC (s.offer first items).2.2]) N) :
  CF 153 #[PA hb 0,aC first,.slice ia items.length ic] H K:=by
 refine OE ?_;have j2:=ok.most1;have h8:=ok.most2;have h6:=ok.next0;refine⟨λY=>?_,λY=>?_⟩
 .simp only[VE,Vy]at Y;have e:s.offer first items=(s,[],(items.length:Int)):=by unfold HS.offer;rw[Vt Y]
  rw[e]at k;exact k none 0 H (h.sl_nil 99 4)
 .simp only[VB,V0]at Y;have e:s.offer first items=({ s with next:=(pop s.next (fj s.next s.most first items (s.rows,0)).1).2.1,rows:=(pop s.next (fj s.next s.most first items (s.rows,0)).1).2.2 },
    (pop s.next (fj s.next s.most first items (s.rows,0)).1).1,(fj s.next s.most first items (s.rows,0)).2):=by
   unfold HS.offer;rw[nO]
  rw[e]at k;refine⟨λb R N=>∃(j:Nat) (rows:cy Ev),R=j/\j<=items.length/\jM s.next s.next s.most rows/\0<=b/\b<=j/\
   fj s.next s.most (first+j) (items.drop j) (rows,b)=fj s.next s.most first items (s.rows,0)/\aA N (holdC hb mb s.next s.most::ig mb rows::F),
   λ_ i _=>items.length-i.toNat,⟨0,s.rows,rfl,VQ _,ok.rows.weaken (by omega) (VV _),VV _,by simp,by simp,h⟩,?_⟩
  rintro b R H1 ⟨j,rows,rfl,hj,y,h1,h9,t,h⟩;refine⟨λI=>?_,λI=>?_⟩
  .have E:j<items.length:=by simpa using I
   have S:=hF H1 h.tl.tl;have e1:i64.wrap (first+j)=first+j:=aK;have e2:i64.wrap (s.next+s.most)=s.next+s.most:=aK;have e3:i64.wrap ((j:Int)+1)=((j+1:Nat):Int):=aK;have e4:i64.wrap (b+1)=b+1:=aK;have J:items.drop j=items[j]::items.drop (j+1):=Wm E;rw[J,fj]at t;have Q:=Ex (n:=first+j) (v:=items[j]) (s:=(rows,b)) y;have P:=NH (next:=s.next) (most:=s.most) (n:=first+j) (v:=items[j]) (s:=(rows,b)) h1;rw[e1];refine⟨⟨by omega,by omega⟩,_,_,S.some fH (by omega) E,_,_,_,_,_,_,S.els fH E,?_⟩;refine h.al λ_ _ h=>?_;refine St1 h λ_ h=>?_
   have d:∀V (A B M:aE),M=ig mb (eA s.next s.most (first+j) items[j] (rows,b)).1->aA V (A::B::holdC hb mb s.next s.most::M::F)->
     ∃(T:Nat) (rows':cy Ev),((j+1:Nat):Int)=T/\T<=items.length/\jM s.next s.next s.most rows'/\0<=(eA s.next s.most (first+j) items[j] (rows,b)).2/\(eA s.next s.most (first+j) items[j] (rows,b)).2<=T/\
     fj s.next s.most (first+T) (items.drop T) (rows',(eA s.next s.most (first+j) items[j] (rows,b)).2)=fj s.next s.most first items (s.rows,0)/\aA V (holdC hb mb s.next s.most::ig mb rows'::F):=
    λV _ _ _ hM h2=>⟨j+1,_,rfl,E,Q,by simp only at P;omega,by simp only at P;omega,by rw[<-t];congr 1;omega,by rw[<-hM];exact h2.tl.tl⟩
   refine⟨_,h.r 1,?_⟩;have h3:=h.mp_get qA ko2 2 rfl (x:=first+j);refine⟨_,_,_,_,_,_,_,h3,?_⟩
   repeat (first|refine h.al λ_ _ h=>?_|refine⟨_,Ra3,?_⟩|refine St3 h λ_ h=>?_)
   refine λJn hJ=>⟨λf=>hJ _ _ ?_,λf=>?_⟩
   .have W:eA s.next s.most (first+j) items[j] (rows,b)=(rows,b):=by
     unfold eA;rw[Vt];simp only[VE,Vy]at f;exact f
    rw[W]at d;rw[e3];exact⟨d _ _ _ _ rfl h,by simp only[V4];omega⟩
   .simp only[VB,V0]at f;have hl:aJ (first+j) rows=none:=by
     cases hm:aJ (first+j) rows with
     | none=>rfl
     | some u=>rw[hm]at f;exact Vu f.2 (by simp)
    refine⟨_,Ra3,?_⟩;refine⟨_,Ra3,?_⟩;dsimp only;rw[e2,e4];refine λh7 O=>⟨λD=>O _ _ ?_,λD=>?_⟩
    .simp only[Vy]at D;have W:eA s.next s.most (first+j) items[j] (rows,b)=(rows,b+1):=by unfold eA;rw[Vs (by simp[hl];omega),Vt D]
     rw[W]at d;refine hJ _ _ ?_;rw[e3];exact⟨d _ _ _ _ rfl h,by simp only[V4];omega⟩
    .simp only[V0]at D;have W:eA s.next s.most (first+j) items[j] (rows,b)=(ins (first+j) items[j] rows,b):=by unfold eA;rw[Vs (by simp[hl];omega),Vs D]
     rw[W]at d;refine⟨_,Ra3,?_⟩;refine⟨_,_,_,_,_,_,Rs3,?_⟩;refine h.mp_update (x:=first+j) (v:=items[j]) qA ko2 3 rfl λV h2=>O _ _ ?_
     refine hJ _ _ ?_;have ep:ig mb (mset (first+j) items[j] rows)=ig mb (ins (first+j) items[j] rows):=nC (by rw[mset,kO hl];exact (yK _ _ _).symm);rw[e3];exact⟨d _ _ _ _ ep h2,by simp only[V4];omega⟩
  .have L:j=items.length:=by
    have:¬((j:Int)<(items.length:Int)):=by simpa using I
    omega
   subst L;simp only[Wu,fj]at t;rw[<-t]at k;simp only at k;have j1:=vU y.rising λp U=>(y.inb p U).1
   have Z:=y.length;refine⟨λra rn rc rf N=>∃(got:List Ev) (next:Int) (rows':cy Ev),rn=got.length/\rf=b/\gJ rows'/\(∀p∈rows',next<=p.1)/\(pop s.next rows).1=got++(pop next rows').1/\(pop s.next rows).2=(pop next rows').2/\
    0<=next/\next+rows'.length<=s.next+rows.length/\got.length+rows'.length=rows.length/\aA N (slA 99 4 ra rn rc (flat cw got)::holdC hb mb next s.most::ig mb rows'::F),
    λ_ n _ _ _=>rows.length-n,⟨[],s.next,rows,rfl,rfl,y.rising,λp U=>(y.inb p U).1,by simp,by simp,by omega,by omega,by simp,h.sl_nil 99 4⟩,?_⟩
   rintro ra rn rc rf V ⟨got,next,rows',rfl,rfl,G,L,C,w,j3,h4,h0,h⟩;refine⟨_,h.r 1,_,h.r 1,?_⟩;have m:=NI (next:=next) G L;have e5:i64.wrap (next+1)=next+1:=aK;refine⟨_,_,_,_,_,_,_,h.mp_get qA ko2 2 rfl (x:=next),?_⟩;refine h.al λb3 _ h=>?_
   refine⟨h.mp_get qA ko2 3 rfl (x:=next),h.r 2,h.r 2,?_⟩;refine h.st 0 rfl rfl λH3 h=>?_
   cases rows' with
   | nil=>
    simp only at m;refine⟨λ_=>?_,λf=>by simp[m]at f⟩
    simp only[pop,VT]at C w;rw[C,w]at k;exact k _ _ _ h.tl
   | cons p r=>
    obtain⟨n,v⟩:=p;simp only at m
    by_cases en:n=next
    .subst en;rw[Vt rfl]at m;rw[m]at h ⊢;refine⟨λf=>by simp at f,λ_=>?_⟩
     refine⟨_,h.r 2,_,h.r 2,?_⟩;refine h.mp_delete (x:=n) qA ko2 3 rfl λH3 h=>?_
     have h:aA H3 (cellsA b3 (cw v) 99::slA 99 4 ra got.length rc (flat cw got)::holdC hb mb n s.most::ig mb (bT n ((n,v)::r))::F):=h;rw[NJ G]at h;simp only[V1]at h4 h0;refine⟨_,_,_,_,_,_,h.q 0,?_⟩;rintro b4 _ rfl rfl;refine h.append1 sl44 1 rfl (by rfl) (by rfl) (by omega) (by omega) λa' c' H4 h=>⟨_,_,_,rfl,?_⟩
     refine⟨_,h.r 2,?_⟩;refine h.st 2 rfl rfl λH5 h=>?_
     refine⟨?_,by show rows.length-(got.length+1)<rows.length-got.length;omega⟩;rw[e5]at h;simp only[pop,if_true]at C w;refine⟨got++[v],n+1,r,by simp,rfl,(Wt.1 G).2,λp U=>?_,by rw[C];simp,w,by omega,by omega,by simp;omega,?_⟩
     .have:=(Wt.1 G).1 p U;simp only at this;omega
     .rw [dS,nB];exact h.tl
    .rw [Vs en]at m;refine⟨λ_=>?_,λf=>by simp[m]at f⟩
     simp only[pop,Vs en,VT]at C w;rw[C,w]at k;exact k _ _ _ h.tl
theorem Iv{next most:Int}{rows:cy Ev}(h:aA H (holdC hb mb next most::ig mb rows::F))(f:gJ rows)(e:∀p∈rows,aF p.1)(m:rows.length<=1000000)
  (k:∀a c b,aA b (slA 2 1 a rows.length c ((aG rows).map aC)::holdC hb mb next most::ig mb rows::F)->K (.slice a rows.length c) b) :
  CF 122 #[PA hb 0] H K:=by
 refine cM 122 28 ⟨_,h.r 0,?_⟩;refine OZ ⟨_,_,rfl,?_⟩;refine Pa h 1 rfl (λx i=>by obtain⟨p,j,rfl⟩:=V3.1 i;exact e p j) (by omega) λa c b d g=>⟨_,_,_,rfl,?_⟩
 rw[NK f]at d;exact k a c b d
theorem Rm{next most:Int}{rows:cy Ev}(h:aA H (holdC hb mb next most::ig mb rows::F))(t:gJ rows)(v:∀p∈rows,aF p.1)(y:rows.length<=1000000)
  (k:∀a c f,aA f (slA 99 4 a rows.length c (flat cw (rows.map (·.2)))::holdC hb mb next most::ig mb []::F)->K (.slice a rows.length c) f) :
  CF 123 #[PA hb 0] H K:=by
 refine cN 123 0x11215612399251441c [[(3,sS),(9,sI)]] ?_;refine Iv h t v y λw rc B h=>⟨_,_,_,rfl,?_⟩
 refine⟨λla s lc i f=>∃k:Nat,i=k/\k=s/\k<=rows.length/\aA f (slA 99 4 la k lc (flat cw ((rows.take k).map (·.2)))::slA 2 1 w rows.length rc ((aG rows).map aC)::holdC hb mb next most::ig mb rows::F),
  λ_ _ _ i _=>rows.length-i.toNat,⟨0,rfl,rfl,VQ _,h.sl_nil 99 4⟩,?_⟩
 rintro la s lc i E ⟨j,rfl,rfl,C,h⟩;refine⟨λm=>?_,λm=>?_⟩
 .have b:j<rows.length:=by simpa using m
  have e:j<(aG rows).length:=by simpa[aG] using b
  have d:=(h.sl_rd 1 rfl).at (j:=j) e;have e3:i64.wrap ((j:Int)+1)=((j+1:Nat):Int):=aK;have n:aJ (aG rows)[j] rows=some rows[j].2:=mi (Et t) (by
   have:((aG rows)[j],rows[j].2)=rows[j]:=by simp[aG]
   rw[this];exact V7 _)
  have u:=h.mp_get1 qA ko2 3 rfl (x:=(aG rows)[j]);rw[n]at u;refine⟨⟨by omega,by omega⟩,_,_,d.1,_,d.2,_,h.r 2,_,_,_,_,_,_,u,?_⟩;rintro b1 _ rfl rfl;refine h.append1 sl44 0 rfl (by rfl) (by rfl) (by omega) (by omega) λG D A h=>⟨_,_,_,rfl,?_⟩
  conv=>whnf
  rw[e3];refine⟨⟨j+1,rfl,rfl,b,?_⟩,by simp only[V4];omega⟩;rw[Wf b,VJ,dS];exact h
 .have:j=rows.length:=by
   have:¬((j:Int)<rows.length):=by simpa using m
   omega
  subst this;refine⟨_,h.r 2,?_⟩;refine h.mp_clear qA 3 rfl λA h=>?_
  rw[VR (V2 _)]at h;exact k _ _ _ (h.o [0,2,3] 4)
theorem Rn{next most:Int}{rows:cy Ev}(h:aA H (holdC hb mb next most::ig mb rows::F))
  (k:∀c a d,aA d (holdC c a next most::ig a rows::holdC hb mb next most::ig mb rows::F)->K (PA c 0) d) :
  CF 63 #[PA hb 0] H K:=by
 refine cM 63 28 ?_;refine⟨_,h.r 0,_,h.r 0,_,h.r 0,?_⟩;refine Pd h 1 rfl λe h _=>⟨_,rfl,h.r 1,h.r 1,?_⟩
 refine h.al λb _ h=>?_
 exact k _ _ _ h
end
theorem rX(k:IntKind)(f:Nat->Int):∀n i,(bW k f n i).length=n
 | 0,_=>rfl
 | n+1,i=>by simp[bW,rX k f n]
theorem uf(k:IntKind)(f:Nat->Int):∀n i j,j<n->aT (bW k f n i) j=some (.int k (f (i+j)))
 | n+1,i,0,_=>rfl
 | n+1,i,j+1,h=>by
  have:=uf k f n (i+1) j (by omega);simp only[bW,aT];rw[this,show i+1+j=i+(j+1) by omega]
theorem Iw(k:IntKind)(f:Nat->Int):∀n i,cT (bW k f n i)=true
 | 0,_=>rfl
 | n+1,i=>by
  have:=Iw k f n (i+1);simpa[bW,cT] using this
def eZ(f:Nat->Int)(j:Nat)(x:Int):Nat->Int:=λi=>if i=j then x else f i
theorem Ix(k:IntKind){f g:Nat->Int}:∀n i,(∀j,i<=j->j<i+n->f j=g j)->bW k f n i=bW k g n i
 | 0,_,_=>rfl
 | n+1,i,h=>by
  simp only[bW];rw[h i (V2 _) (by omega),Ix k n (i+1) λj a b=>h j (by omega) (by omega)]
theorem Ab(k:IntKind)(f:Nat->Int)(x:Int):∀n i j,j<n->(bW k f n i).set j (.int k x)=bW k (eZ f (i+j) x) n i
 | n+1,i,0,_=>by
  simp only[bW,Yh,W8];rw[show eZ f i x i=x by simp[eZ],Ix k (g:=eZ f i x) n (i+1) λj a b=>by simp[eZ];omega]
 | n+1,i,j+1,h=>by
  simp only[bW,Y0];rw[Ab k f x n (i+1) j (by omega),show i+1+j=i+(j+1) by omega];rw[show eZ f (i+(j+1)) x i=f i by simp[eZ]]
section
variable {H:aD}{L:List aE}
theorem aA.rda{b e:Nat}{cs:Os}(h:aA H L)(i:Nat)(a:aW i L=cellsA b cs e):bE H b 0 cs:=
 tu λf v c=>by rw[h.rd i a,VL];exact c
theorem aA.rdv{b e o:Nat}{l vs r:Os}(h:aA H L)(i:Nat)(c:aW i L=cellsA b (l++vs++r) e)(d:o=l.length):bE H b o vs:=
 tu λf v a=>by
  subst d;rw[h.rd i c,V5,yC,DY (od a)];exact a
theorem aA.rdt{b e o:Nat}{l vs:Os}(h:aA H L)(i:Nat)(a:aW i L=cellsA b (l++vs) e)(c:o=l.length):bE H b o vs:=
 aA.rdv (r:=[]) h i (by rw[a,VT]) c
theorem aA.sta{Q:aD->Prop}{b e:Nat}{vs cs:Os}(h:aA H L)(i:Nat)(c:aW i L=cellsA b cs e)(d:vs.length=cs.length)(k:∀a,aA a (put i (cellsA b vs e) L)->Q a) :
  eU H b 0 vs/\∀a,a=fK H b 0 vs->Q a:=by
 refine⟨h.can i c 0 vs (by omega),?_⟩;rintro a rfl;have:=h.set i c 0 vs;rw[vK _ _ d]at this;exact k _ this
end
theorem Rq{P:Program}{t e:TypeId}{n:Nat}{f:Nat->Int}{i:Int}(d:P.underlying t=some (.array n e))(h:∀w,(Go.sizeOf e).run P w=.ok 1 w)(c:∀w,(Go.isAgg e).run P w=.ok false w)(h0:0<=i)(b:i<n) :
  lZ P (Instr.index t (.agg ⟨bW .i64 f n 0⟩) (aB i)) (aB (f i.toNat)):=by
 intro w;have a:=uf .i64 f n 0 i.toNat (by omega);rw[fM]at a;simp only[Instr.index,asIntOf,Sem.run_bind,Sem.run_pure,Result.andThen_ok,fq d];rw[Vt ⟨h0,b⟩];simp only[Sem.run_bind,h,Result.andThen_ok,Wr,part,c];simp[a]
abbrev B64:Int:=18446744073709551616
abbrev cx(z:Int):Int:=z/B64
abbrev wlo(z:Int):Int:=z%B64
abbrev kU(z:Int):Value:=.agg #[aB (cx z),.int .u64 (wlo z)]
abbrev fZ(z:Int):Prop:=-170141183460469231731687303715884105728<=z/\z<170141183460469231731687303715884105728
def gO(a b:Int):Int×Int:=if fZ (a+b) then (a+b,0) else (0,12)
theorem pj(z:Int):0<=wlo z/\wlo z<B64:=by unfold wlo B64;omega
theorem wz(z:Int):cx z*B64+wlo z=z:=by unfold cx wlo B64;omega
theorem weq{z y:Int}:(cx z=cx y/\wlo z=wlo y)↔z=y:=by
 constructor
 .rintro⟨h1,h2⟩;rw[<-wz z,<-wz y,h1,h2]
 .rintro rfl;exact⟨rfl,rfl⟩
def bZ(v:Int):Int:=if v<0 then 0 else if v=0 then 1 else 1+(bitLen v.toNat:Nat)
theorem pm{v:Int}(h:aF v):0<=bZ v/\bZ v<65:=by
 unfold bZ aF at *
 split
 .omega
 .split
  .omega
  .have:bitLen v.toNat<=63:=by
    unfold bitLen
    split
    .omega
    .rename_i h0;have:=(Nat.log2_lt h0).2 (show v.toNat<2^63 by omega);omega
   omega
def ot(h:Nat->Int):Bool:=(List.range 65).all λi=>decide (0<=h i)
theorem qB{h:Nat->Int}:ot h=true↔∀i,i<65->0<=h i:=by
 simp[ot,Wg]
def jm(h:Nat->Int)(v:Int):(Nat->Int)×Int:=
 if ot h=false then (Z0,10) else if h (bZ v).toNat=9223372036854775807 then (Z0,12) else (eZ h (bZ v).toNat (h (bZ v).toNat+1),0)
def wfH(h:Nat->Int):Prop:=∀i,i<65->aF (h i)
theorem ug:wfH Z0:=λ_ _=>by unfold aF;simp
section
variable {F L:List aE}{H:aD}{K:KE}
theorem Iy{x y:Int}(a:0<=x)(b:0<=y):pK Tryz.prog 361 #[.int .u64 x,.int .u64 y,.int .u64 0] (.tuple #[.int .u64 ((x+y)%B64),.int .u64 ((x+y)/B64)]):=by
 have e:(callFunc 361 #[.int .u64 x,.int .u64 y,.int .u64 0])=(callFunc 361 #[.int .u64 x,.int .u64 y,.int .u64 0]):=rfl;intro w;have h:(callFunc 361 #[.int .u64 x,.int .u64 y,.int .u64 0]).run Tryz.prog w=.ok (.value (.tuple #[.int .u64 (Int.ofNat ((x.toNat+y.toNat+0)%18446744073709551616)),.int .u64 (Int.ofNat ((x.toNat+y.toNat+0)/18446744073709551616))])) w:=by kernel_rfl
 rw[h];have e1:Int.ofNat ((x.toNat+y.toNat+0)%18446744073709551616)=(x+y)%B64:=by unfold B64;simp only[Int.ofNat_eq_natCast];omega
 have e2:Int.ofNat ((x.toNat+y.toNat+0)/18446744073709551616)=(x+y)/B64:=by unfold B64;simp only[Int.ofNat_eq_natCast];omega
 rw[e1,e2]
theorem idx60{f:Nat->Int}{i:Int}(h0:0<=i)(a:i<65):lZ Tryz.prog (Instr.index 159 (.agg ⟨bW .i64 f 65 0⟩) (aC i)) (aC (f i.toNat)):=
 Rq (n:=65) Tryz.underlying159 Tryz.sizeOf2 Tryz.isAgg2 h0 (by omega)
theorem Rr{f:Nat->Int}(h:aA H F)(k:∀d,aA d F->K (.bool (ot f)) d):CF 367 #[.agg ⟨bW .i64 f 65 0⟩] H K:=by
 refine cN 367 0x1215612399251b4c [[(6,sI)]] ?_;refine h.al λb _ h=>?_
 refine⟨f,h.rda 0 rfl,?_⟩;refine⟨λi d=>∃j:Nat,i=j/\j<=65/\(∀q,q<j->0<=f q)/\aA d F,λi _=>65-i.toNat,⟨0,rfl,by omega,λ_ h=>by omega,h.tl⟩,?_⟩
 rintro i t ⟨j,rfl,u,n,h⟩;refine⟨λe=>?_,λe=>?_⟩
 .have a:j<65:=by have:=Vw e;omega
  refine⟨_,idx60 (by omega) (by omega),?_⟩;rw[V4];refine⟨λc=>?_,λc=>?_⟩
  .have c:=Vw c;have:ot f=false:=by
    rw[Yt];intro s;have:=qB.1 s j a;omega
   rw[this]at k;exact k _ h
  .have c:=Vx c
   conv=>whnf
   rw[show i64.wrap ((j:Int)+1)=((j+1:Nat):Int) by rw[aK];omega];refine⟨⟨j+1,rfl,a,λq v=>?_,h⟩,by simp only[V4];omega⟩
   rcases VO q j with m|m
   .exact n q m
   .obtain rfl:q=j:=by omega
    omega
 .have:j=65:=by have:=Vx e;omega
  subst this;have:ot f=true:=qB.2 n;rw[this]at k;exact k _ h
theorem mG{v:Int}(c:aF v):bX Tryz.prog 277 #[aC v] H (aC (bZ v)):=by
 refine Oo ?_;have hb:=pm c;unfold bZ at hb ⊢;refine⟨λb=>?_,λb=>⟨λa=>?_,λa=>?_⟩⟩
 .rw [Vt (Vw b)];exact⟨rfl,rfl⟩
 .rw [Vs (Vx b),Vt (Vw a)];exact⟨rfl,rfl⟩
 .have d:=Vx b;have f:=Vx a;rw[Vs d,Vs f]at hb ⊢;unfold aF at c;have e:u64.wrap v=((v.toNat:Nat):Int):=by rw[de];omega
  rw[e];refine⟨_,Gr (by omega),?_,rfl⟩;rw[aK (x:=2+_),aK];congr 1;omega
theorem whi_w{z:Int}(h:fZ z):aF (cx z):=by unfold fZ at h;unfold aF cx B64;omega
theorem fdiv63{v:Int}(h:aF v):Int.fdiv v (2^(min (Int.toNat 63) (i64.bits)))=cx v:=by
 show Int.fdiv v 9223372036854775808=cx v;rw[WM _ (by decide)];unfold aF at h;unfold cx B64;omega
theorem Ac{v:Int}(c:aF v)(h:aA H F)(k:∀a,aA a F->K (kU v) a):CF 276 #[aC v] H K:=by
 refine cM 276 28 ?_;refine h.al λb _ h=>⟨by decide,?_⟩
 rw[fdiv63 c];have e:u64.wrap v=wlo v:=by rw[de]
 conv=>whnf
 rw[e];refine St1 h λ_ h=>?_;refine⟨_,_,Rs1,?_⟩
 exact k _ h.tl
theorem Ad{x y:Int}(j:fZ x)(m:fZ y)(h:aA H F)(k:∀i,aA i F->K (.tuple #[kU (gO x y).1,aC (gO x y).2]) i) :
  CF 336 #[kU x,kU y] H K:=by
 refine Oa ?_;have u:=pj x;have n:=pj y;have f:=whi_w j;have c:=whi_w m;have w:=wz x;have v:=wz y;have t:(wlo x+wlo y)%B64=wlo (x+y):=by unfold wlo B64;omega
 have eq:i64.wrap ((wlo x+wlo y)/B64)=(wlo x+wlo y)/B64:=by unfold B64 at *;exact aK
 have s:i64.wrap (i64.wrap (cx x+cx y)+(wlo x+wlo y)/B64)=i64.wrap (cx (x+y)):=by
  rw[jN,jN,jN];unfold cx wlo B64;omega
 refine h.al λb _ h=>?_
 refine h.al λb1 _ h=>?_
 refine h.al λb2 _ h=>?_
 refine⟨_,h.r 2,_,h.r 1,_,_,Iy u.1 n.1,_,h.r 2,_,h.r 1,_,h.r 2,_,h.r 1,?_⟩;rw[eq,s,t];have a:decide (aY .and .i64 (aY .xor .i64 (cx x) (i64.wrap (cx (x+y)))) (aY .xor .i64 (cx y) (i64.wrap (cx (x+y))))<0)=!decide (fZ (x+y)):=by
  rw[Wb,Vy,Ez (vZ _ _ _) (vZ _ _ _),Vz,Vy,Vy,vY f (qo _),vY c (qo _),vV,vV,VP,V0];unfold fZ at j m ⊢;rw[jN];unfold cx B64;omega
 dsimp only[ID];rw[a];unfold gO at k;refine⟨λd=>?_,λd=>?_⟩
 .have:¬fZ (x+y):=Vx (by simpa only[VP] using d);rw[Vs this]at k;refine St3 h λ_ h=>?_;refine⟨_,_,Rs3,?_⟩
  exact k _ h.tl.tl.tl
 .have:fZ (x+y):=Vw (by simpa only[Wd] using d);rw[Vt this]at k;have e:i64.wrap (cx (x+y))=cx (x+y):=by have:=whi_w this;unfold aF at this;exact aK
  rw[e];refine St3 h λ_ h=>?_;refine⟨_,_,Rs3,?_⟩
  exact k _ h.tl.tl.tl
end
theorem sum_append(l r:List Int):(l++r).sum=l.sum+r.sum:=by
 induction l with
 | nil=>simp
 | cons a l ih=>simp only[W0,WP,ih];omega
theorem Iz{l:List Int}{j:Nat}(h:j<l.length):(l.take (j+1)).sum=(l.take j).sum+l[j]:=by
 rw[Wf h,sum_append];simp
theorem I1:∀{l:List Int},(∀x∈l,aF x)->-(9223372036854775808*(l.length:Int))<=l.sum/\l.sum<=9223372036854775808*(l.length:Int)
 | [],_=>by simp
 | a::l,h=>by
  have b:=h a VA;have d:=I1 (l:=l) λx c=>h x (VD _ c)
  unfold aF at b;simp only[WP,V1];omega
theorem wstep{s v:Int}(hs:fZ s)(e:aF v)(b:fZ (s+v)) :
  i64.wrap (i64.wrap (cx s+cx v)+i64.wrap ((wlo s+wlo v)/B64))=cx (s+v)/\(wlo s+wlo v)%B64=wlo (s+v):=by
 have d:=pj s;have i:=pj v;have f:=wz s;have h:=wz v;refine⟨?_,by unfold wlo B64;omega⟩;have eq:i64.wrap ((wlo s+wlo v)/B64)=(wlo s+wlo v)/B64:=by unfold B64 at *;exact aK
 rw[eq];have a:aF (cx (s+v)):=by unfold fZ at b;unfold aF cx B64;omega
 have c:i64.wrap (i64.wrap (cx s+cx v)+(wlo s+wlo v)/B64)=i64.wrap (cx (s+v)):=by
  rw[jN,jN,jN];unfold cx wlo B64;omega
 rw[c];unfold aF at a;exact aK
def rowH(h:Nat->Int):List Int:=(List.range 65).map h
def sumC(h:Nat->Int):Int:=(rowH h).sum
theorem vecL_map(f:Nat->Int)(n i:Nat):bW .i64 f n i=((List.range n).map λj=>f (i+j)).map aB:=by
 induction n generalizing i with
 | zero=>rfl
 | succ n ih=>
  rw[bW,ih,List.range_succ_eq_map];simp only[VS,Wh,W8];congr 1;apply WB;intro j _;show aB (f (i+1+j))=aB (f (i+(j+1)));rw[show i+1+j=i+(j+1) by omega]
theorem vecL_row(f:Nat->Int):bW .i64 f 65 0=(rowH f).map aB:=by
 rw[vecL_map];simp[rowH]
theorem rowH_len(f:Nat->Int):(rowH f).length=65:=by simp[rowH]
theorem rowH_mem{f:Nat->Int}{x:Int}(h:x∈rowH f):∃i,i<65/\x=f i:=by
 obtain⟨i,hi,rfl⟩:=V3.1 h;exact⟨i,W2.1 hi,rfl⟩
structure Cl where
 n:Int
 sum:Int
 mn:Int
 mx:Int
 cer:Int
 pos:Int
 h:Nat->Int
def Cl.z:Cl:=⟨0,0,0,0,0,0,Z0⟩
abbrev dx(c:Cl):Os:=[aB c.n,aB (cx c.sum),.int .u64 (wlo c.sum),aB c.mn,aB c.mx,aB c.cer,aB c.pos]++bW .i64 c.h 65 0
abbrev aggC(c:Cl):Value:=.agg ⟨dx c⟩
theorem kV(c:Cl):(dx c).length=72:=by simp[dx,rX]
structure WC(c:Cl):Prop where
 n:aF c.n
 sum:fZ c.sum
 mn:aF c.mn
 mx:aF c.mx
 cer:aF c.cer
 pos:aF c.pos
 h:wfH c.h
theorem WC.z:WC Cl.z:=⟨by decide,by decide,by decide,by decide,by decide,by decide,ug⟩
def inB(c:Cl):Bool:=(List.range 65).all λi=>decide (c.h i=0)||decide (bZ c.mn<=i/\(i:Int)<=bZ c.mx)
def ge(c:Cl):Bool:=
 !(decide (c.n<0)||decide (c.cer<0)||decide (c.pos<0)||decide (c.mx<c.mn))&&ot c.h&&decide (sumC c.h=c.n) &&
 (if c.n=0 then decide (c.sum=0)&&decide (c.mn=0)&&decide (c.mx=0)
  else !(decide (c.h (bZ c.mn).toNat=0)||decide (c.h (bZ c.mx).toNat=0))&&inB c)
def gP(c:Cl)(certain:Bool):Cl×Int:=
 if ge c=false then (Cl.z,10) else
 if certain then (if c.cer=9223372036854775807 then (Cl.z,12) else ({ c with cer:=c.cer+1 },0))
 else (if c.pos=9223372036854775807 then (Cl.z,12) else ({ c with pos:=c.pos+1 },0))
def jW(c:Cl)(v:Int):Cl×Int:=
 if ge c=false then (Cl.z,10) else
 if (j5 c.n 1).2≠0 then (Cl.z,12) else
 if (gO c.sum v).2≠0 then (Cl.z,12) else
 if (jm c.h v).2≠0 then (Cl.z,12) else
 let mn:=if c.n=0 then v else c.mn
 let mx:=if c.n=0 then v else c.mx
 ({ c with n:=(j5 c.n 1).1,sum:=(gO c.sum v).1,h:=(jm c.h v).1,mn:=if v<mn then v else mn,mx:=if v>mx then v else mx },0)
theorem I4{c:Cl}(h:WC c)(b:Bool):WC (gP c b).1:=by
 unfold gP;have a:=h.cer;have d:=h.pos;unfold aF at a d
 split
 .exact WC.z
 .split
  .split
   .exact WC.z
   .exact⟨h.n,h.sum,h.mn,h.mx,by unfold aF;dsimp only;omega,h.pos,h.h⟩
  .split
   .exact WC.z
   .exact⟨h.n,h.sum,h.mn,h.mx,h.cer,by unfold aF;dsimp only;omega,h.h⟩
theorem addS_wf(a b:Int):aF (j5 a b).1:=by
 unfold j5
 split
 .assumption
 .decide
theorem wadd_wf(a b:Int):fZ (gO a b).1:=by
 unfold gO
 split
 .assumption
 .decide
theorem addH_wf{h:Nat->Int}(a:wfH h){v:Int}(d:aF v):wfH (jm h v).1:=by
 unfold jm
 split
 .exact ug
 .split
  .exact ug
  .intro i hi;dsimp only[eZ]
   split
   .rename_i c e b;subst b;have:=a _ hi;unfold aF at *;omega
   .exact a i hi
theorem addC_wf{c:Cl}(h:WC c){v:Int}(a:aF v):WC (jW c v).1:=by
 unfold jW
 split
 .exact WC.z
 .split
  .exact WC.z
  .split
   .exact WC.z
   .split
    .exact WC.z
    .refine⟨addS_wf _ _,wadd_wf _ _,?_,?_,h.cer,h.pos,addH_wf h.h a⟩
     .dsimp only;have:=h.mn
      split <;> split <;> assumption
     .dsimp only;have:=h.mx
      split <;> split <;> assumption
section
variable {F L:List aE}{H:aD}{K:KE}
theorem Rs{a:KQ}{n c:Nat}{vs:List Int}(B:vs.length=n)(h:aA H F)(A:∀H,aA H F->aP H a (vs.map aC))(w:∀x∈vs,aF x)(E:n<=1000000)
  (k:∀t,aA t F->K (kU vs.sum) t):CF 324 #[.slice a n c] H K:=by
 subst B;refine Oe ?_;refine h.al λb _ h=>?_
 refine h.al λb1 _ h=>?_
 refine⟨λi t=>∃j:Nat,i=j/\j<=vs.length/\aA t (cellsA b1 [aC (cx (vs.take j).sum),.int .u64 (wlo (vs.take j).sum)] 157::cellsA b [aC 0,.int .u64 0] 157::F),λi _=>vs.length-i.toNat,⟨0,rfl,VQ _,h⟩,?_⟩
 rintro i G ⟨j,rfl,I,h⟩;have f:∀q,fZ (vs.take q).sum:=λq=>by
  have:=I1 (l:=vs.take q) λx C=>w x (Wo C)
  rw[VM]at this;unfold fZ;omega
 refine⟨λu=>?_,λu=>?_⟩
 .have d:j<vs.length:=by have:=Vw u;omega
  have v:=(A _ h.tl.tl).at d;have s:=w _ (V7 d);have m:=f (j+1);rw[Iz d]at m;have e:=wstep (f j) s m;rw[<-Iz d]at e;have y:u64.wrap vs[j]=wlo vs[j]:=by rw[de]
  refine⟨⟨by omega,by omega⟩,_,_,v.1,_,v.2,_,h.r 0,?_⟩;rw[y];refine⟨_,_,Iy (pj _).1 (pj _).1,_,h.r 0,by decide,?_⟩;rw[fdiv63 s,e.1,e.2];refine h.sta 0 rfl rfl λD h=>?_
  rw[show i64.wrap ((j:Int)+1)=((j+1:Nat):Int) by rw[aK];omega];exact⟨⟨j+1,rfl,d,h⟩,by simp only[V4];omega⟩
 .have:j=vs.length:=by have:=Vx u;omega
  subst this;rw[VR (V2 _)]at h
  repeat (first|refine St2 h λ_ h=>?_|refine⟨_,_,Rs2,?_⟩)
  exact k _ h.tl.tl
theorem Rt{f:Nat->Int}(c:wfH f)(h:aA H F)(k:∀a,aA a F->K (kU (sumC f)) a):CF 275 #[.agg ⟨bW .i64 f 65 0⟩] H K:=by
 refine Oq ?_;refine h.al λb _ h=>?_
 refine h.al λb1 _ h=>⟨by decide,?_⟩
 have e0:cq (some ⟨b,0,none⟩) 0 65 1=some ⟨b,0,none⟩:=rfl;rw[e0];refine Rs (vs:=rowH f) (rowH_len f) h (λH h=>?_) (λx d=>?_) (by decide) λj h=>⟨_,_,rfl,?_⟩
 .have:=h.ce_rd 1 rfl;rw[vecL_row]at this;exact this
 .obtain⟨i,hi,rfl⟩:=rowH_mem d;exact c i hi
 .refine h.sta 0 rfl rfl λe h=>⟨_,_,h.rda 0 rfl,?_⟩
  exact k _ h.tl.tl
theorem I5{f:Nat->Int}(h:aA H F)(k:∀b a,aA a (cellsA b (bW .i64 f 65 0) 159::F)->K (.func (.func 278) #[] #[PA b 0]) a):CF 224 #[.agg ⟨bW .i64 f 65 0⟩] H K:=by
 refine cM 224 28 ?_;exact h.al λb _ h=>k _ _ h
theorem I6{l b:Nat}{f:Nat->Int}(A:Nat->aE)(y:aE)(h:aA H (A 0::cellsA b (bW .i64 f 65 0) 159::F))
  (B:∀j,j<65->f j=0->A j=A (j+1))
  (E:∀j,j<65->f j≠0->∀(G:List aE) (n:aD) (u:KE),aA n (A j::G)->(∀a,aA a (A (j+1)::G)->u (.bool true) a)->(∀a,aA a (y::G)->u (.bool false) a)->
   fJ Tryz.prog l [aC (j:Nat),aC (f j)] n u)
  (k:∀d,aA d (A 65::cellsA b (bW .i64 f 65 0) 159::F)->K (.tuple #[]) d)
  (D:∀d,aA d (y::cellsA b (bW .i64 f 65 0) 159::F)->K (.tuple #[]) d) :
  CF 278 #[.func (.yield l) #[] #[],PA b 0] H K:=by
 refine cN 278 0x15612399251283994 [[(18,sB)],[(6,sI)]] ?_;refine⟨f,h.rda 1 rfl,?_⟩;refine⟨λi d=>∃j:Nat,i=j/\j<=65/\aA d (A j::cellsA b (bW .i64 f 65 0) 159::F),λi _=>65-i.toNat,⟨0,rfl,by omega,h⟩,?_⟩
 rintro i n ⟨j,rfl,I,h⟩;refine⟨λv=>?_,λv=>?_⟩
 .have c:j<65:=by have:=Vw v;omega
  refine⟨_,idx60 (by omega) (by omega),?_⟩;rw[V4];have e:∀a,aA a (A (j+1)::cellsA b (bW .i64 f 65 0) 159::F)->(∃t:Nat,i64.wrap ((j:Int)+1)=t/\t<=65/\aA a (A t::cellsA b (bW .i64 f 65 0) 159::F))/\65-(i64.wrap ((j:Int)+1)).toNat<65-((j:Int)).toNat:=by
   intro a h;rw[show i64.wrap ((j:Int)+1)=((j+1:Nat):Int) by rw[aK];omega];exact⟨⟨j+1,rfl,c,h⟩,by simp only[V4];omega⟩
  refine λJ s=>⟨λw=>?_,λw=>?_⟩
  .have x:f j≠0:=by simpa using w
   refine E j c x _ _ _ h (λa h=>⟨true,rfl,s _ _ ?_⟩) (λa h=>⟨false,rfl,s _ _ ?_⟩)
   .skip
    exact⟨λm=>by simp at m,λ_=>e _ h⟩
   .skip
    exact⟨λ_=>D _ h,λm=>by simp at m⟩
  .have C:f j=0:=by simpa using w
   refine s _ _ ?_;rw[B j c C]at h;exact⟨λm=>by simp at m,λ_=>e _ h⟩
 .have:j=65:=by have:=Vx v;omega
  subst this;exact k _ h
end
theorem I7(c:Cl){j:Nat}(a:j<65):aT (dx c) (7+j)=some (aB (c.h j)):=by
 refine (yC (l:=[aB c.n,aB (cx c.sum),.int .u64 (wlo c.sum),aB c.mn,aB c.mx,aB c.cer,aB c.pos]) j).trans ?_;rw[uf _ _ _ _ _ a,VL]
section
variable {F L:List aE}{H:aD}{K:KE}
theorem eqW(x y:Int):gY Tryz.prog .neq 157 (kU x) (kU y) (!decide (x=y))/\gY Tryz.prog .eql 157 (kU x) (kU y) (decide (x=y)):=by
 have h:=qn (P:=Tryz.prog) (t:=157) (xs:=[aC (cx x),.int .u64 (wlo x)]) (ys:=[aC (cx y),.int .u64 (wlo y)]) (r:=(cx x == cx y&&(wlo x == wlo y&&true))) (by kernel_rfl);have e:(cx x == cx y&&(wlo x == wlo y&&true))=decide (x=y):=by
  rw[Wb];simp only[Bool.and_true,Vz,beq_iff_eq,Vy];exact weq
 rw[e]at h;exact⟨h.2,h.1⟩
theorem uh{c:Cl}(wc:WC c)(h:aA H F)(k:∀J,aA J F->K (.bool (ge c)) J):CF 222 #[aggC c] H K:=by
 refine cL 222 (.r (.seq (.r (.cond (.r .no) .no)) (.seq (.r (.blk (.loop [(30,sI)] (.r (.seq (.cond .no .no) (.seq (.blk (.r (.r (.cond (.r .no) .no)))) .reg)))))) (.seq (.r (.cond (.r .no) .no)) (.seq (.r (.cond (.r .no) .no)) (.seq (.regJ [(5,sA),(6,sA)]) (.seq (.r (.cond (.r .no) .no)) (.seq (.r (.blk (.rng [sI,sI] [none,(some .ret)] .reg (.blk (.r (.cond (.r .no) .no)))))) (.r .no))))))))) ?_;unfold ge at k;refine h.al λb _ h=>?_
 refine h.al λb1 _ h=>?_
 refine⟨_,h.r 1,_,λ_=>h.r 1,_,λ_=>h.r 1,_,λ_=>h.r 1,_,λ_=>h.r 1,λM=>?_,λM=>?_⟩
 .rw [M]at k;refine h.sta 0 rfl rfl λB h=>⟨_,h.r 0,?_⟩
  exact k _ h.tl.tl
 rw[M]at k;refine⟨c.h,h.rdt (l:=[_,_,_,_,_,_,_]) 1 rfl rfl,?_⟩;refine⟨λi J=>∃j:Nat,i=j/\j<=65/\(∀q,q<j->0<=c.h q)/\aA J (cellsA b1 [.bool false] 4::cellsA b (dx c) 161::F),λi _=>65-i.toNat,⟨0,rfl,by omega,λ_ h=>by omega,h⟩,?_⟩
 rintro i H1 ⟨j,rfl,L,T,h⟩;refine⟨λw=>?_,λw=>?_⟩
 .have E:j<65:=by have:=Vw w;omega
  refine⟨_,idx60 (by omega) (by omega),?_⟩;rw[V4];refine⟨λI=>?_,λI=>?_⟩
  .have I:=Vw I;have:ot c.h=false:=by
    rw[Yt];intro D;have:=qB.1 D j E;omega
   rw[this]at k;refine h.sta 0 rfl rfl λB h=>⟨_,h.r 0,?_⟩
   exact k _ h.tl.tl
  .have I:=Vx I
   conv=>whnf
   rw[show i64.wrap ((j:Int)+1)=((j+1:Nat):Int) by rw[aK];omega];refine⟨⟨j+1,rfl,E,λq m=>?_,h⟩,by simp only[V4];omega⟩
   rcases VO q j with d|d
   .exact T q d
   .obtain rfl:q=j:=by omega
    omega
 .have y:j=65:=by have:=Vx w;omega
  subst y;have W:ot c.h=true:=qB.2 T;rw[W]at k;refine⟨c.h,h.rdt (l:=[_,_,_,_,_,_,_]) 1 rfl rfl,_,h.r 1,?_⟩;refine Rt wc.h h λB h=>⟨_,_,rfl,h.r 1,?_⟩
  refine Ac wc.n h λH3 h=>⟨_,_,rfl,_,(eqW _ _).1,λe=>?_,λe=>?_⟩
  .have:decide (sumC c.h=c.n)=false:=by simpa using e
   rw[this]at k;refine h.sta 0 rfl rfl λB h=>⟨_,h.r 0,?_⟩
   exact k _ h.tl.tl
  have hs:decide (sumC c.h=c.n)=true:=by simpa using e
  rw[hs]at k;simp only[Bool.not_false,Yc]at k;refine⟨_,h.r 1,λv=>?_,λv=>?_⟩
  .rw [Vt (Vw v)]at k;have e0:=(eqW c.sum 0).2;refine⟨_,_,h.rdv (l:=[_]) (vs:=[_,_]) 1 rfl rfl,_,e0,_,λ_=>h.r 1,_,λ_=>h.r 1,?_⟩
   refine h.sta 0 rfl rfl λB h=>⟨_,h.r 0,?_⟩
   exact k _ h.tl.tl
  .rw [Vs (Vx v)]at k;have bl:=pm wc.mn;have Z:=pm wc.mx;intro Jn hJ;have fin:∀u hb C,aA C (cellsA u [aC (bZ c.mn)] 3::cellsA hb [aC (bZ c.mx)] 3::cellsA b1 [.bool false] 4::cellsA b (dx c) 161::F)->Jn u 0 hb 0 C:=by
    intro u hb C h;refine hJ _ _ _ _ _ ?_;have g1:aL C b (7+(bZ c.mn).toNat)=some (aC (c.h (bZ c.mn).toNat)):=by rw[h.rd 3 rfl];exact I7 c (by omega)
    have g2:aL C b (7+(bZ c.mx).toNat)=some (aC (c.h (bZ c.mx).toNat)):=by rw[h.rd 3 rfl];exact I7 c (by omega)
    refine⟨_,h.r 0,bl,_,g1,_,λ_=>h.r 1,λ_=>Z,_,λ_=>g2,λx=>?_,λx=>?_⟩
    .rw [x]at k;refine h.sta 2 rfl rfl λB h=>⟨_,h.r 2,?_⟩
     exact k _ h.tl.tl.tl.tl
    rw[x]at k;simp only[Bool.not_false,Yc]at k;refine⟨c.h,h.rdt (l:=[_,_,_,_,_,_,_]) 3 rfl rfl,?_⟩;refine I5 h λfb O h=>⟨_,_,rfl,rfl,λR N P hy=>?_⟩
    have h:=h.rng R;refine I6 (f:=c.h) (λj=>star [cellsA u [aC (bZ c.mn)] 3,cellsA hb [aC (bZ c.mx)] 3,cellsA b1 [.bool false] 4,pt (O.size+1) (.loop R),pur (∀q,q<j->c.h q=0\/bZ c.mn<=q/\(q:Int)<=bZ c.mx)])
     (star [cellsA u [aC (bZ c.mn)] 3,cellsA hb [aC (bZ c.mx)] 3,cellsA b1 [.bool false] 4,pt (O.size+1) (.loop { R with state:=.done,pending:=some .ret }),pur (inB c=false)])
     (F:=pt O.size (.deferred (some []))::cellsA b (dx c) 161::F) ?_ ?_ ?_ ?_ ?_
    .refine aA.shut [_,_,_,_,_] ?_;have V:=((h.o [3,4,5,0,2,1,6] 7).pur (p:=∀q:Nat,q<0->c.h q=0\/bZ c.mn<=q/\(q:Int)<=bZ c.mx) (λq m=>Vu m (Nat.not_lt_zero q)))
     exact V.o [1,2,3,4,0] 5
    .intro j L hz;have:(∀q,q<j->c.h q=0\/bZ c.mn<=q/\(q:Int)<=bZ c.mx)=(∀q,q<j+1->c.h q=0\/bZ c.mn<=q/\(q:Int)<=bZ c.mx):=propext ⟨λD q m=>by
      rcases VO q j with d|d
      .exact D q d
      .obtain rfl:q=j:=by omega
       exact .inl hz,λD q m=>D q (by omega)⟩
     simp only[this]
    .intro j L Y G S K1 h kt kf;have h:=aA.open (A:=[_,_,_,_,_]) h;have s:=(aA.consP (h.o [4,0,1,2,3] 5)).1;refine hy _ _ _ ?_;refine⟨_,_,rfl,h.getO 3 rfl,h.getO 3 rfl,h.stl 3 rfl λH7 h=>⟨_,h.r 0,_,λ_=>h.r 1,λt=>?_,λt=>?_⟩⟩
     .refine h.sta 2 rfl rfl λH8 h=>⟨h.getO 3 rfl,kf _ ?_⟩
      have h:=h.setO 3 rfl (.loop { R with state:=.done,pending:=some .ret });have a:inB c=false:=by
       rw[Yt];intro a;unfold inB at a;rw[Wg]at a;have:=a j (W2.2 L);simp only[VE,Vy]at this t;omega
      refine aA.shut [_,_,_,_,_] ?_;exact ((h.pur a).o [1,2,3,4,0] 6)
     .refine⟨h.getO 3 rfl,kt _ ?_⟩;have h:=h.setO 3 rfl (.loop R);refine aA.shut [_,_,_,_,_] ?_;have Q:∀q,q<j+1->c.h q=0\/bZ c.mn<=q/\(q:Int)<=bZ c.mx:=λq m=>by
       rcases VO q j with d|d
       .exact s q d
       .obtain rfl:q=j:=by omega
        simp only[VB,V0]at t;exact .inr (by omega)
      exact ((h.pur Q).o [1,2,3,4,0] 6)
    .intro S h;have h:=aA.open (A:=[_,_,_,_,_]) h;have s:=(aA.consP (h.o [4,0,1,2,3] 5)).1;have a:inB c=true:=by
      unfold inB;rw[Wg];intro q m;have:=s q (W2.1 m);simp only[VE,Vy];exact this
     rw[a]at k;refine⟨.ready,none,by decide,by rw[nD N P];exact h.getO 3 rfl,h.stl 3 rfl λU h=>.inl ⟨rfl,?_⟩⟩
     refine h.sta 2 rfl rfl λh0 h=>⟨h.getO 6 rfl,?_⟩
     have h:=h.setO 6 rfl (.deferred none);exact⟨_,h.r 2,k _ (h.o [7] 8).tl⟩
    .intro S h;have h:=aA.open (A:=[_,_,_,_,_]) h;have a:=(aA.consP (h.o [4,0,1,2,3] 5)).1;rw[a]at k;refine⟨.done,some .ret,by decide,h.getO 3 rfl,h.stl 3 rfl λU h=>.inr ⟨rfl,h.getO 6 rfl,?_⟩⟩
     have h:=h.setO 6 rfl (.deferred none);exact⟨_,h.r 2,k _ (h.o [7] 8).tl⟩
   refine⟨_,h.r 1,_,mG wc.mn,_,h.r 1,_,mG wc.mx,?_,?_⟩
   .refine h.al λu _ h=>⟨mG wc.mx,h.r 2,mG wc.mn,h.r 2,?_⟩
    refine h.al λhb _ h=>⟨mG wc.mx,h.r 3,mG wc.mn,h.r 3,?_⟩
    refine h.sta 1 rfl rfl λ_ h=>h.sta 0 rfl rfl λ_ h=>?_
    exact fin _ _ _ (h.o [1,0] 2)
   .refine h.al λu _ h=>⟨mG wc.mx,h.r 2,mG wc.mn,h.r 2,?_⟩
    refine h.al λhb _ h=>⟨mG wc.mx,h.r 3,mG wc.mn,h.r 3,?_⟩
    refine h.sta 0 rfl rfl λ_ h=>h.sta 1 rfl rfl λ_ h=>?_
    exact fin _ _ _ h
end
section
variable {H:aD}{L:List aE}
theorem aA.stv{Q:aD->Prop}{b e n o:Nat}{f:Nat->Int}{j:Nat}{x:Int}(h:aA H L)(i:Nat)(c:aW i L=cellsA b (bW .i64 f n 0) e)(d:j<n)(m:o=0+j)(k:∀a,aA a (put i (cellsA b (bW .i64 (eZ f j x) n 0) e) L)->Q a) :
  eU H b o [aB x]/\∀a,a=fK H b o [aB x]->Q a:=by
 subst m;rw[VL];refine⟨h.can i c j _ (by rw[rX];simp;omega),?_⟩;rintro a rfl;have:=h.set i c j [aB x];have e2:cv (bW .i64 f n 0) j [aB x]=bW .i64 (eZ f j x) n 0:=by
  show (bW .i64 f n 0).set j (aB x)=_;rw[Ab _ _ _ _ _ _ d,VL]
 rw[e2]at this;exact k _ this
theorem aA.stt{Q:aD->Prop}{b e o:Nat}{l r vs:Os}(h:aA H L)(i:Nat)(c:aW i L=cellsA b (l++r) e)(f:o=l.length)(d:vs.length=r.length)(k:∀a,aA a (put i (cellsA b (l++vs) e) L)->Q a) :
  eU H b o vs/\∀a,a=fK H b o vs->Q a:=by
 subst f;refine⟨h.can i c _ _ (by rw[Vv];omega),?_⟩;rintro a rfl;have:=h.set i c l.length vs;have e2:cv (l++r) l.length vs=l++vs:=by
  have:=tv vs l r 0;rw[W8]at this;rw[this,vK _ _ d]
 rw[e2]at this;exact k _ this
end
section
variable {F L:List aE}{H:aD}{K:KE}
theorem Ru{f:Nat->Int}{v:Int}(u:wfH f)(n:aF v)(h:aA H F)(k:∀s,aA s F->K (.tuple #[.agg ⟨bW .i64 (jm f v).1 65 0⟩,aC (jm f v).2]) s) :
  CF 337 #[.agg ⟨bW .i64 f 65 0⟩,aC v] H K:=by
 refine cM 337 1907996 ?_;unfold jm at k;refine h.al λb _ h=>?_
 refine h.al λb1 _ h=>⟨f,h.rda 1 rfl,?_⟩
 refine Rr h λt h=>⟨_,rfl,λi=>?_,λi=>?_⟩
 .rw [Vt (by simpa using i)]at k;refine h.sta 0 rfl rfl λe h=>⟨_,h.rda 0 rfl,k _ h.tl.tl⟩
 rw[Vs (by simpa using i)]at k;have hb:=pm n;have d:(bZ v).toNat<65:=by omega
 have a:aL t b (0+(bZ v).toNat)=some (aC (f (bZ v).toNat)):=by
  rw[h.rd 1 rfl,VL,uf _ _ _ _ _ d,VL]
 refine⟨_,mG n,hb,_,a,λc=>?_,λc=>?_⟩
 .rw [Vt (Vw c)]at k;refine h.sta 0 rfl rfl λe h=>⟨_,h.rda 0 rfl,k _ h.tl.tl⟩
 have j:=Vx c;rw[Vs j]at k;have m:=u _ d;unfold aF at m;refine⟨hb,_,a,hb,?_⟩;rw[aK (x:=f (bZ v).toNat+1)];refine h.stv 1 rfl d rfl λe h=>⟨_,h.rda 1 rfl,?_⟩
 refine h.sta 0 rfl rfl λe h=>⟨_,h.rda 0 rfl,k _ h.tl.tl⟩
theorem I8{c:Cl}{a:Bool}(wc:WC c)(h:aA H F)(k:∀f,aA f F->K (.tuple #[aggC (gP c a).1,aC (gP c a).2]) f) :
  CF 291 #[aggC c,.bool a] H K:=by
 refine cN 291 1997721083164 [[(6,sP)]] ?_;unfold gP at k;have wn:=I4 wc;refine h.al λb _ h=>?_
 refine h.al λb1 _ h=>⟨_,_,_,_,_,_,_,_,h.rda 1 rfl,?_⟩
 refine uh wc h λj h=>⟨_,rfl,λe=>?_,λe=>?_⟩
 .rw [Vt (by simpa using e)]at k;refine h.sta 0 rfl rfl λd h=>⟨_,_,_,_,_,_,_,_,h.rda 0 rfl,k _ h.tl.tl⟩
 rw[Vs (by simpa using e)]at k;refine λm i=>⟨λhb=>i _ _ ?_,λhb=>i _ _ ?_⟩
 .rw [Vt hb]at k;refine⟨_,h.r 1,λhm=>?_,λhm=>?_⟩
  .rw [Vt (Vw hm)]at k;refine h.sta 0 rfl rfl λd h=>⟨_,_,_,_,_,_,_,_,h.rda 0 rfl,k _ h.tl.tl⟩
  .have hm:=Vx hm;rw[Vs hm]at k;have:=wc.cer;unfold aF at this;refine⟨_,h.r 1,?_⟩
   conv=>whnf
   rw[aK (x:=c.cer+1)];refine h.st 1 rfl rfl λd h=>?_
   have h:aA d (cellsA b1 (dx Cl.z) 161::cellsA b (dx { c with cer:=c.cer+1 }) 161::F):=h;refine⟨_,_,_,_,_,_,_,_,h.rda 1 rfl,?_⟩;refine h.sta 0 rfl rfl λd h=>⟨_,_,_,_,_,_,_,_,h.rda 0 rfl,k _ h.tl.tl⟩
 .rw [Vs (by rw[hb];decide)]at k;refine⟨_,h.r 1,λhm=>?_,λhm=>?_⟩
  .rw [Vt (Vw hm)]at k;refine h.sta 0 rfl rfl λd h=>⟨_,_,_,_,_,_,_,_,h.rda 0 rfl,k _ h.tl.tl⟩
  .have hm:=Vx hm;rw[Vs hm]at k;have:=wc.pos;unfold aF at this;refine⟨_,h.r 1,?_⟩
   conv=>whnf
   rw[aK (x:=c.pos+1)];refine h.st 1 rfl rfl λd h=>?_
   have h:aA d (cellsA b1 (dx Cl.z) 161::cellsA b (dx { c with pos:=c.pos+1 }) 161::F):=h;refine⟨_,_,_,_,_,_,_,_,h.rda 1 rfl,?_⟩;refine h.sta 0 rfl rfl λd h=>⟨_,_,_,_,_,_,_,_,h.rda 0 rfl,k _ h.tl.tl⟩
theorem Rv{c:Cl}{v:Int}(wc:WC c)(j:aF v)(h:aA H F)(k:∀E,aA E F->K (.tuple #[aggC (jW c v).1,aC (jW c v).2]) E) :
  CF 294 #[aggC c,aC v] H K:=by
 refine cN 294 0x1d1d28d1d2174911c [[],[(7,sI),(8,sA)]] ?_;unfold jW at k;refine h.al λb _ h=>?_
 refine h.al λb1 _ h=>⟨_,_,_,_,_,_,_,_,h.rda 1 rfl,?_⟩
 refine uh wc h λN h=>⟨_,rfl,λu=>?_,λu=>?_⟩
 .rw [Vt (by simpa using u)]at k;refine h.sta 0 rfl rfl λi h=>⟨_,_,_,_,_,_,_,_,h.rda 0 rfl,k _ h.tl.tl⟩
 rw[Vs (by simpa using u)]at k;refine⟨_,h.r 1,_,_,Gm wc.n (by decide),λC=>?_,λC=>?_⟩
 .rw [Vt (by simpa using C)]at k;refine h.sta 0 rfl rfl λi h=>⟨_,_,_,_,_,_,_,_,h.rda 0 rfl,k _ h.tl.tl⟩
 rw[Vs (by simpa using C)]at k;intro L J;have a:fZ v:=by unfold aF at j;unfold fZ;omega
 have fin:∀sb f,aA f (cellsA sb [aC (cx (gO c.sum v).1),.int .u64 (wlo (gO c.sum v).1)] 157::cellsA b1 (dx Cl.z) 161::cellsA b (dx c) 161::F)->L (gO c.sum v).2 sb 0 f:=by
  intro sb f h;refine J _ _ _ _ ?_;refine⟨λm=>?_,λm=>?_⟩
  .rw [Vt (by simpa using m)]at k;refine h.sta 1 rfl rfl λi h=>⟨_,_,_,_,_,_,_,_,h.rda 1 rfl,k _ h.tl.tl.tl⟩
  rw[Vs (by simpa using m)]at k;refine⟨c.h,h.rdt (l:=[_,_,_,_,_,_,_]) 2 rfl rfl,?_⟩;refine Ru wc.h j h λw h=>⟨_,_,rfl,?_⟩
  refine h.al λb2 _ h=>?_
  refine h.sta 0 rfl rfl λM h=>⟨λA=>?_,λA=>?_⟩
  .rw [Vt (by simpa using A)]at k;refine h.sta 2 rfl rfl λi h=>⟨_,_,_,_,_,_,_,_,h.rda 2 rfl,k _ h.tl.tl.tl.tl⟩
  rw[Vs (by simpa using A)]at k;refine⟨_,h.r 3,λy s=>?_⟩
  dsimp only at k;have e:∀(mn mx:Int) t,mn=(if c.n=0 then v else c.mn)->mx=(if c.n=0 then v else c.mx)->aA t (cellsA b2 (bW .i64 (jm c.h v).1 65 0) 159::cellsA sb [aC (cx (gO c.sum v).1),.int .u64 (wlo (gO c.sum v).1)] 157::cellsA b1 (dx Cl.z) 161::cellsA b (dx { c with mn:=mn,mx:=mx }) 161::F)->y t:=by
   intro mn mx t e1 e2 h;refine s _ ?_;rw[<-e1,<-e2]at k;refine⟨_,_,h.rda 1 rfl,_,h.rda 0 rfl,?_⟩;refine h.st 3 rfl rfl λI h=>⟨h.rda 0 rfl,h.rda 1 rfl,?_⟩
   refine h.st 3 rfl rfl λD h=>⟨h.rda 0 rfl,?_⟩
   have h:aA D (cellsA b2 (bW .i64 (jm c.h v).1 65 0) 159::cellsA sb [aC (cx (gO c.sum v).1),.int .u64 (wlo (gO c.sum v).1)] 157::cellsA b1 (dx Cl.z) 161::cellsA b (dx { c with n:=(j5 c.n 1).1,sum:=(gO c.sum v).1,mn:=mn,mx:=mx }) 161::F):=h;refine h.stt (l:=[_,_,_,_,_,_,_]) 3 rfl rfl rfl λB h=>?_
   have h:aA B (cellsA b2 (bW .i64 (jm c.h v).1 65 0) 159::cellsA sb [aC (cx (gO c.sum v).1),.int .u64 (wlo (gO c.sum v).1)] 157::cellsA b1 (dx Cl.z) 161::cellsA b (dx { c with n:=(j5 c.n 1).1,sum:=(gO c.sum v).1,mn:=mn,mx:=mx,h:=(jm c.h v).1 }) 161::F):=h;refine⟨_,h.r 3,_,h.r 3,?_⟩;refine h.st 3 rfl rfl λG h=>?_
   refine h.st 3 rfl rfl λx h=>?_
   have h:aA x (cellsA b2 (bW .i64 (jm c.h v).1 65 0) 159::cellsA sb [aC (cx (gO c.sum v).1),.int .u64 (wlo (gO c.sum v).1)] 157::cellsA b1 (dx Cl.z) 161::
    cellsA b (dx { c with n:=(j5 c.n 1).1,sum:=(gO c.sum v).1,mn:=if v<mn then v else mn,mx:=if v>mx then v else mx,h:=(jm c.h v).1 }) 161::F):=h
   refine⟨_,_,_,_,_,_,_,_,h.rda 3 rfl,?_⟩;refine h.sta 2 rfl rfl λi h=>⟨_,_,_,_,_,_,_,_,h.rda 2 rfl,k _ h.tl.tl.tl.tl⟩
  refine⟨λd=>?_,λd=>?_⟩
  .have d:=Vw d;refine h.st 3 rfl rfl λI h=>?_
   refine h.st 3 rfl rfl λD h=>?_
   exact e v v _ (by rw[Vt d]) (by rw[Vt d]) h
  .have d:=Vx d;exact e c.mn c.mx _ (by rw[Vs d]) (by rw[Vs d]) h
 refine⟨_,_,h.rdv (l:=[_]) (vs:=[_,_]) 1 rfl rfl,?_,?_⟩
 .refine Ac j h λi h=>⟨_,_,rfl,h.rdv (l:=[_]) (vs:=[_,_]) 1 rfl rfl,?_,?_⟩
  .refine Ad wc.sum a h λf h=>⟨_,_,_,rfl,?_⟩
   refine h.al λb3 _ h=>?_
   refine h.sta 0 rfl rfl λw h=>fin _ _ h
  .refine h.al λb3 _ h=>⟨h.rdv (l:=[_]) (vs:=[_,_]) 2 rfl rfl,?_⟩
   refine Ad wc.sum a h λf h=>⟨_,_,_,rfl,?_⟩
   refine h.sta 0 rfl rfl λw h=>fin _ _ h
 .refine h.al λb3 _ h=>⟨h.rdv (l:=[_]) (vs:=[_,_]) 2 rfl rfl,?_⟩
  refine Ac j h λi h=>⟨_,_,rfl,h.rdv (l:=[_]) (vs:=[_,_]) 2 rfl rfl,?_⟩
  refine Ad wc.sum a h λf h=>⟨_,_,_,rfl,?_⟩
  refine h.sta 0 rfl rfl λw h=>fin _ _ h
end
structure Ky where
 win:Int
 ser:Fa
deriving DecidableEq
abbrev eL(k:Ky):Os:=[aB k.win,.string k.ser]
abbrev aggK(k:Ky):Value:=.agg ⟨eL k⟩
theorem qC(k:Ky):(eL k).length=2:=rfl
abbrev Ot:=Ky×Cl
abbrev cJ(o:Ot):Os:=[aB o.1.win,.string o.1.ser,aB o.2.n,aB (cx o.2.sum),.int .u64 (wlo o.2.sum),aB o.2.mn,aB o.2.mx,aB o.2.cer,aB o.2.pos]++bW .i64 o.2.h 65 0
theorem iV(o:Ot):(cJ o).length=74:=by simp[cJ,rX]
theorem rY(o:Ot):cT (cJ o)=true:=vL rfl (Iw _ _ _ _)
theorem ba_beq(x y:Fa):(x.toList == y.toList)=decide (x=y):=by
 rw[Wb,beq_iff_eq,Vy,ByteArray.toList_eq,ByteArray.toList_eq]
 constructor
 .intro h
  cases x with|mk a=>cases y with|mk b=>
   cases a;cases b
   simp only at h;rw[h]
 .intro h;rw[h]
def cr(first last:Int):List Int:=(List.range (last-first+1).toNat).map λi:Nat=>first+i
abbrev CM:=List (Ky×Cl)
def fP(m:CM)(k:Ky):Cl:=(aJ k m).getD Cl.z
def jX(m:CM)(ser:Fa)(ws:List Int):Int:=((ws.filter λw=>(aJ ⟨w,ser⟩ m).isNone).length:Nat)
def qD(most:Int)(m:CM)(first last:Int)(ser:Fa):Bool:=
 if last<first then false else if most<=last-first then false else decide ((m.length:Int)+jX m ser (cr first last)<=most)
def ii(m:CM)(ser:Fa)(certain:Bool):List Int->CM×Int
 | []=>([],0)
 | w::r=>if (gP (fP m ⟨w,ser⟩) certain).2≠0 then ([],(gP (fP m ⟨w,ser⟩) certain).2)
  else ((⟨w,ser⟩,(gP (fP m ⟨w,ser⟩) certain).1)::(ii m ser certain r).1,(ii m ser certain r).2)
def lL(l:CM)(m:CM):CM:=l.foldl (λm p=>mset p.1 p.2 m) m
def jY(most:Int)(m:CM)(first last:Int)(ser:Fa):CM×Int:=
 if last<first then (m,10) else if qD most m first last ser=false then (m,20) else
 if (ii m ser (decide (first=last)) (cr first last)).2≠0 then (m,(ii m ser (decide (first=last)) (cr first last)).2)
 else (lL (ii m ser (decide (first=last)) (cr first last)).1 m,0)
def mH(m:CM)(k:Ky)(v:Int):CM×Int:=
 match aJ k m with
 | none=>(m,19)
 | some c=>if (jW c v).2≠0 then (m,(jW c v).2) else (mset k (jW c v).1 m,0)
def jZ(most:Int)(m:CM)(k:Ky)(c:Cl):CM×Int:=
 if (aJ k m).isSome then (m,18) else if ge c=false then (m,10) else if most<=(m.length:Int) then (m,20) else (mset k c m,0)
structure dZ(most:Int)(m:CM):Prop where
 m1:1<=most
 m2:most<=1024
 nd:(aG m).Nodup
 wc:∀p∈m,WC p.2
 rt:∀p∈m,ge p.2=true
 wn:∀p∈m,aF p.1.win
 len:(m.length:Int)<=most
theorem dZ.cell{most:Int}{m:CM}(h:dZ most m)(k:Ky):WC (fP m k):=by
 unfold fP
 cases hm:aJ k m with
 | none=>exact WC.z
 | some c=>exact h.wc _ (hZ hm)
theorem koK:mj Tryz.prog 154 aggK:=EK Tryz.underlying154 (λx y h=>by
  cases x;cases y;simp only[List.cons.injEq,Value.int.injEq,Value.string.injEq,and_true,true_and]at h;rw[h.1,h.2])
 (λx y=>by
  have h:qm Tryz.prog 154 (eL x) (eL y)=some (x.win == y.win&&(x.ser == y.ser&&true)):=by kernel_rfl
  rw[h];congr 1;rw[Wb];simp only[Bool.and_true,Vz,beq_iff_eq,Vy,Go.MapKept.bytes_beq]
  cases x;cases y
  simp)
 (λx=>by kernel_rfl) (λx n=>by
  have hb:(x.ser == x.ser)=true:=(Go.MapKept.bytes_beq _ _).2 rfl;unfold Instr.sameBits;simp[Instr.sameBits,hb])
theorem mtC:kA Tryz.prog 272 154 161 aggC Cl.z:=og Tryz.underlying272 (by kernel_rfl)
theorem sl86:SlT Tryz.prog 143 164 74 600:=iO (by kernel_rfl)
abbrev shC(sb mb:Nat)(most:Int):aE:=cellsA sb [aC most,.map (some mb)] 274
abbrev cz(mb:Nat)(m:CM):aE:=mapA aggK aggC mb m
section
variable {sb mb:Nat}{most:Int}{m:CM}{F L:List aE}{H:aD}{K:KE}
theorem I9(h:aA H F)(k1:most<1\/1024<most->K (.tuple #[.pointer none,aC 11]) H)
  (k2:∀sb mb b,dZ most []->aA b (shC sb mb most::cz mb []::F)->K (.tuple #[PA sb 0,aC 0]) b):CF 184 #[aC most] H K:=by
 refine cM 184 476 ⟨λa=>k1 (by simpa using a),λa=>?_⟩
 simp only[VB,V0]at a;refine h.alm aggK aggC λmb _ h=>?_
 refine h.al λsb _ h=>?_
 exact k2 _ _ _ ⟨by omega,by omega,List.nodup_nil,by simp,by simp,by simp,by simp;omega⟩ h
theorem Rw(h:aA H F)(i j:Nat)(a:aW i F=shC sb mb most)(b:aW j F=cz mb m):bX Tryz.prog 55 #[PA sb 0] H (aC (m.length:Nat)):=
 cM 55 28 ⟨_,h.rd i a _,_,h.mp_len mtC j b,rfl,rfl⟩
theorem u64sub{a b:Int}(c:aF a)(hb:aF b)(h:b<=a):u64.wrap (u64.wrap a-u64.wrap b)=a-b:=by
 unfold aF at c hb;rw[de,de,de];omega
theorem IB{first last:Int}(h:first<=last):((cr first last).length:Int)=last-first+1:=by
 simp only[cr,V8,List.length_range];omega
theorem IC{first last:Int}{j:Nat}(a:j<(cr first last).length):(cr first last)[j]=first+(j:Nat):=by simp[cr]
theorem Rz(ok:dZ most m){first last:Int}{ser:Fa}(G:aF first)(J:aF last)(h:aA H (shC sb mb most::cz mb m::F))
  (k:∀t,aA t (shC sb mb most::cz mb m::F)->K (.bool (qD most m first last ser)) t) :
  CF 290 #[PA sb 0,aC first,aC last,.string ser] H K:=by
 refine Oj ?_;unfold qD at k;have Q:=ok.m1;have S:=ok.m2;have I:=ok.len;refine⟨λv=>?_,λv=>?_⟩
 .rw [Vt (Vw v)]at k;exact k _ h
 have C:=Vx v;rw[Vs C]at k;have em:u64.wrap most=most:=by rw[de];omega
 have R:=u64sub J G (by omega);rw[R];refine⟨_,h.r 0,?_⟩;dsimp only;rw[em];refine⟨λf=>?_,λf=>?_⟩
 .rw [Vt (Vw f)]at k;exact k _ h
 have E:=Vx f;rw[Vs E]at k;have A:=IB (first:=first) (last:=last) (by omega);refine⟨_,h.r 0,_,h.mp_len mtC 1 rfl,?_⟩;refine⟨λn i t=>∃j:Nat,i=j/\j<=(cr first last).length/\n=(m.length:Int)+jX m ser ((cr first last).take j)/\aA t (shC sb mb most::cz mb m::F),λ_ i _=>(cr first last).length-i.toNat,
  ⟨0,rfl,VQ _,by simp[jX],h⟩,?_⟩
 rintro n i N ⟨j,rfl,T,rfl,h⟩;have e1:i64.wrap (i64.wrap (last-first)+1)=((cr first last).length:Int):=by rw[aK (x:=last-first),aK,A]
 rw[e1];refine⟨λd=>?_,λd=>?_⟩
 .have s:j<(cr first last).length:=by have:=Vw d;omega
  unfold aF at G J;have M:i64.wrap (first+(j:Nat))=(cr first last)[j]:=by rw[IC s,aK]
  have u:∀q,jX m ser ((cr first last).take q)<=q:=λq=>by
   unfold jX;have V:=Ys (λw=>(aJ (⟨w,ser⟩:Ky) m).isNone) ((cr first last).take q)
   have U:((cr first last).take q).length<=q:=by rw[VM];omega
   omega
  have P:=u j;have O:0<=jX m ser ((cr first last).take j):=by unfold jX;omega
  rw[M];refine⟨_,h.r 0,_,_,_,_,_,_,_,_,_,h.mp_get mtC koK 1 rfl (x:=⟨(cr first last)[j],ser⟩),?_⟩;refine h.al λb _ h=>?_
  refine h.sta 0 rfl (by rw[kV];exact (kV Cl.z).symm) λW h=>?_
  have e3:i64.wrap ((j:Int)+1)=((j+1:Nat):Int):=by rw[aK];omega
  have c:jX m ser ((cr first last).take (j+1))=jX m ser ((cr first last).take j)+(if (aJ (⟨(cr first last)[j],ser⟩:Ky) m).isNone then 1 else 0):=by
   unfold jX;rw[Wf s,List.filter_append,Vv]
   by_cases hn:(aJ (⟨(cr first last)[j],ser⟩:Ky) m).isNone=true
   .simp [hn]
   .simp [hn]
  have a:∀n2:Int,n2=(m.length:Int)+jX m ser ((cr first last).take (j+1))->∀D,aA D (shC sb mb most::cz mb m::F)->yY.r1 (λn i t=>∃j:Nat,i=j/\j<=(cr first last).length/\n=(m.length:Int)+jX m ser ((cr first last).take j)/\aA t (shC sb mb most::cz mb m::F)) (λ_ i _=>(cr first last).length-i.toNat) ((m.length:Int)+jX m ser ((cr first last).take j)) (j:Int) N n2 D:=by
   intro n2 e D h;unfold yY.r1;rw[e3];exact⟨⟨j+1,rfl,s,e,h⟩,by simp only[V4];omega⟩
  refine λY L=>⟨λB=>L _ _ (a _ ?_ _ h.tl),λB=>L _ _ (a _ ?_ _ h.tl)⟩
  .have:(aJ (⟨(cr first last)[j],ser⟩:Ky) m).isNone=true:=by simpa using B
   rw[c,this,aK];simp only[if_true];omega
  .have:(aJ (⟨(cr first last)[j],ser⟩:Ky) m).isNone=false:=by simpa using B
   rw[c,this];simp
 .have y:j=(cr first last).length:=by have:=Vx d;omega
  subst y;rw[VR (V2 _)];refine⟨_,h.r 0,?_⟩;exact k _ h
theorem R2(ok:dZ most m){key:Ky}{v:Int}(j:aF v)(h:aA H (shC sb mb most::cz mb m::F))
  (k:∀e,aA e (shC sb mb most::cz mb (mH m key v).1::F)->K (aC (mH m key v).2) e) :
  CF 243 #[PA sb 0,aggK key,aC v] H K:=by
 refine cM 243 18685212 ?_;unfold mH at k;refine h.al λb _ h=>?_
 have i:=h.mp_get mtC koK 2 rfl (x:=key);refine⟨_,h.r 1,_,_,h.rda 0 rfl,_,_,_,_,_,_,_,_,_,i,?_⟩;refine h.al λb1 _ h=>⟨h.mp_get mtC koK 3 rfl (x:=key),h.rda 1 rfl,h.r 2,?_⟩
 refine h.sta 0 rfl rfl λf h=>?_
 cases hm:aJ key m with
 | none=>
  rw[hm]at k;exact⟨λ_=>k _ h.tl.tl,λd=>by simp at d⟩
 | some c=>
  rw[hm]at k h;refine⟨λd=>by simp at d,λ_=>?_⟩
  have wc:WC c:=ok.wc _ (hZ hm);have h:aA f (cellsA b1 (dx c) 161::cellsA b (eL key) 154::shC sb mb most::cz mb m::F):=h;refine⟨_,_,_,_,_,_,_,_,h.rda 0 rfl,?_⟩;refine Rv wc j h λs h=>⟨_,_,_,_,_,_,_,_,_,rfl,?_⟩
  refine h.sta 0 rfl (by rw[kV];exact (kV c).symm) λn h=>?_
  dsimp only at k;refine⟨λa=>?_,λa=>?_⟩
  .rw [Vt (by simpa using a)]at k;exact k _ h.tl.tl
  .rw [Vs (by simpa using a)]at k;refine⟨_,h.r 2,_,_,h.rda 1 rfl,_,_,_,_,_,_,_,_,h.rda 0 rfl,?_⟩;refine h.mp_update (x:=key) (v:=(jW c v).1) mtC koK 3 rfl λt h=>?_
   exact k _ h.tl.tl
theorem R3(ok:dZ most m){key:Ky}{c:Cl}(wc:WC c)(h:aA H (shC sb mb most::cz mb m::F))
  (k:∀f,aA f (shC sb mb most::cz mb (jZ most m key c).1::F)->K (aC (jZ most m key c).2) f) :
  CF 206 #[PA sb 0,aggK key,aggC c] H K:=by
 refine cM 206 303815964 ?_;unfold jZ at k;refine h.al λb _ h=>?_
 refine h.al λb1 _ h=>?_
 have j:=h.mp_get mtC koK 3 rfl (x:=key);refine⟨_,h.r 2,_,_,h.rda 1 rfl,_,_,_,_,_,_,_,_,_,j,?_⟩;refine h.al λb2 _ h=>⟨h.mp_get mtC koK 4 rfl (x:=key),h.rda 2 rfl,h.r 3,?_⟩
 refine h.sta 0 rfl rfl λi h=>⟨λd=>?_,λd=>?_⟩
 .rw [Vt d]at k;exact k _ h.tl.tl.tl
 rw[Vs (by rw[d];decide)]at k;have h:aA i (cellsA b2 _ 161::cellsA b1 (dx c) 161::cellsA b (eL key) 154::shC sb mb most::cz mb m::F):=h;refine⟨_,_,_,_,_,_,_,_,h.rda 1 rfl,?_⟩;refine uh wc h λn h=>⟨_,rfl,λa=>?_,λa=>?_⟩
 .rw [Vt (by simpa using a)]at k;exact k _ h.tl.tl.tl
 rw[Vs (by simpa using a)]at k;refine⟨_,h.r 3,_,h.mp_len mtC 4 rfl,_,h.r 3,λe=>?_,λe=>?_⟩
 .rw [Vt (Vw e)]at k;exact k _ h.tl.tl.tl
 rw[Vs (Vx e)]at k;refine⟨_,h.r 3,_,_,h.rda 2 rfl,_,_,_,_,_,_,_,_,h.rda 1 rfl,?_⟩;refine h.mp_update (x:=key) (v:=c) mtC koK 4 rfl λs h=>?_
 exact k _ h.tl.tl.tl
end
theorem R4(l r:CM)(m:CM):lL (l++r) m=lL r (lL l m):=by unfold lL;rw[WF]
section
variable {sb mb:Nat}{most:Int}{m:CM}{F L:List aE}{H:aD}{K:KE}
theorem R5(ok:dZ most m){first last:Int}{ser:Fa}(M:aF first)(N:aF last)(h:aA H (shC sb mb most::cz mb m::F))
  (k:∀t,aA t (shC sb mb most::cz mb (jY most m first last ser).1::F)->K (aC (jY most m first last ser).2) t) :
  CF 241 #[PA sb 0,aC first,aC last,.string ser] H K:=by
 refine O4 ?_;unfold jY at k;have T:=ok.m2;refine⟨λC=>?_,λC=>?_⟩
 .rw [Vt (Vw C)]at k;exact k _ h
 have y:=Vx C;rw[Vs y]at k;refine Rz ok M N h λV h=>⟨_,rfl,λu=>?_,λu=>?_⟩
 .rw [Vt (by simpa using u)]at k;exact k _ h
 have a:qD most m first last ser=true:=by simpa using u
 rw[Vs (by rw[a];decide)]at k;have U:last-first<most:=by
  unfold qD at a;rw[Vs y]at a
  by_cases h2:most<=last-first
  .rw [Vt h2]at a;cases a
  .omega
 have G:=IB (first:=first) (last:=last) (by omega);have I:=M;unfold aF at I;refine⟨λA J w i t=>∃(j:Nat) (done:CM),i=j/\j<=(cr first last).length/\J=done.length/\done.length=j/\
   ii m ser (decide (first=last)) (cr first last)=(done++(ii m ser (decide (first=last)) ((cr first last).drop j)).1,(ii m ser (decide (first=last)) ((cr first last).drop j)).2)/\
   aA t (slA 164 74 A done.length w (flat cJ done)::shC sb mb most::cz mb m::F),
  λ_ _ _ i _=>(cr first last).length-i.toNat,⟨0,[],rfl,VQ _,rfl,rfl,rfl,h.sl_nil 164 74⟩,?_⟩
 rintro A J w i H2 ⟨j,done,rfl,W,rfl,E,e,h⟩;have e1:i64.wrap (i64.wrap (last-first)+1)=((cr first last).length:Int):=by rw[aK (x:=last-first),aK,G]
 rw[e1];refine⟨λf=>?_,λf=>?_⟩
 .have c:j<(cr first last).length:=by have:=Vw f;omega
  unfold aF at N;have O:i64.wrap (first+(j:Nat))=(cr first last)[j]:=by rw[IC c,aK]
  rw[O];rw[Wm c,ii]at e;have wc:=ok.cell ⟨(cr first last)[j],ser⟩;refine h.al λb _ h=>?_
  refine h.sta 0 rfl rfl λR h=>λS Q=>?_
  refine⟨_,h.r 2,_,_,h.rda 0 rfl,_,_,_,_,_,_,_,_,h.mp_get1 mtC koK 3 rfl (x:=⟨(cr first last)[j],ser⟩),?_⟩;have fin:∀cb s,aA s (cellsA cb (dx (gP (fP m ⟨(cr first last)[j],ser⟩) (decide (first=last))).1) 161::cellsA b (eL ⟨(cr first last)[j],ser⟩) 154::slA 164 74 A done.length w (flat cJ done)::shC sb mb most::cz mb m::F)->
    S cb 0 (gP (fP m ⟨(cr first last)[j],ser⟩) (decide (first=last))).2 s:=by
   intro cb s h;refine Q _ _ _ _ ?_;refine⟨λd=>?_,λd=>?_⟩
   .have d:(gP (fP m ⟨(cr first last)[j],ser⟩) (decide (first=last))).2≠0:=by simpa using d
    rw[Vt d]at e;rw[e,Vt d]at k;exact k _ h.tl.tl.tl
   .have d:¬(gP (fP m ⟨(cr first last)[j],ser⟩) (decide (first=last))).2≠0:=by simpa using d
    rw[Vs d]at e;refine⟨_,_,h.rda 1 rfl,_,_,_,_,_,_,_,_,h.rda 0 rfl,?_⟩;rintro b1 _ rfl rfl;refine h.append1 (ws:=cJ (⟨(cr first last)[j],ser⟩,(gP (fP m ⟨(cr first last)[j],ser⟩) (decide (first=last))).1)) sl86 2 rfl (iV _) (rY _) (by omega) (by omega) λa' Z t h=>⟨_,_,_,rfl,?_⟩
    rw[show i64.wrap ((j:Int)+1)=((j+1:Nat):Int) by rw[aK];omega];have h:=h.tl.tl;refine⟨⟨j+1,done++[(⟨(cr first last)[j],ser⟩,(gP (fP m ⟨(cr first last)[j],ser⟩) (decide (first=last))).1)],rfl,c,by simp,by simp[E],?_,?_⟩,by simp only[V4];omega⟩
    .rw [e,V5];rfl
    .rw [dS,nB,Vv];exact h
  refine⟨?_,?_⟩
  .refine I8 wc h λs h=>⟨_,_,_,_,_,_,_,_,_,rfl,?_⟩
   refine h.al λb2 _ h=>?_
   refine h.sta 0 rfl (by rw[kV];exact (kV Cl.z).symm) λL h=>fin _ _ h
  .refine h.al λb2 _ h=>⟨h.mp_get1 mtC koK 4 rfl (x:=⟨(cr first last)[j],ser⟩),h.rda 1 rfl,h.r 3,?_⟩
   refine I8 wc h λs h=>⟨_,_,_,_,_,_,_,_,_,rfl,?_⟩
   refine h.sta 0 rfl (by rw[kV];exact (kV Cl.z).symm) λL h=>fin _ _ h
 .have D:j=(cr first last).length:=by have:=Vx f;omega
  subst D;rw[Wu,ii,VT]at e;rw[e,Vs (λP=>P rfl)]at k
  refine⟨λi t=>∃q:Nat,i=q/\q<=done.length/\aA t (slA 164 74 A done.length w (flat cJ done)::shC sb mb most::cz mb (lL (done.take q) m)::F),λi _=>done.length-i.toNat,⟨0,rfl,VQ _,h⟩,?_⟩
  rintro i R ⟨q,rfl,Y,h⟩;refine⟨λn=>?_,λn=>?_⟩
  .have c:q<done.length:=by have:=Vw n;omega
   have u:=h.sl_rd 0 rfl;have B:=u.els iV c;refine⟨⟨by omega,by omega⟩,_,_,u.some iV (by omega) c,_,_,_,_,_,_,_,_,_,_,B,?_⟩;refine h.al λb5 _ h=>?_
   refine h.sta 0 rfl (by rw[iV];exact (iV (⟨0,⟨#[]⟩⟩,Cl.z)).symm) λs h=>?_
   have h:aA s (cellsA b5 (eL done[q].1++dx done[q].2) 164::slA 164 74 A done.length w (flat cJ done)::shC sb mb most::cz mb (lL (done.take q) m)::F):=h;refine⟨_,h.r 2,_,_,h.rdv (l:=[]) 0 rfl rfl,_,_,_,_,_,_,_,_,h.rdt 0 rfl rfl,?_⟩;refine h.mp_update (x:=done[q].1) (v:=done[q].2) mtC koK 3 rfl λL h=>?_
   rw[show i64.wrap ((q:Int)+1)=((q+1:Nat):Int) by rw[aK];omega];refine⟨⟨q+1,rfl,c,?_⟩,by simp only[V4];omega⟩;rw[Wf c,R4];exact h.tl
  .have:q=done.length:=by have:=Vx n;omega
   subst this;rw[VR (V2 _)]at h;exact k _ h.tl
end
open  Go.Shelf Go.RowKit Go.Lib Go.Sort
def qE(a b:Int):Int:=if a<b then -1 else if b<a then 1 else 0
def ou(x y:Fa):Int:=if Op.bytesLess x.toList y.toList then -1 else if !(Op.bytesLess x.toList y.toList||x.toList == y.toList) then 1 else 0
theorem cmp182(a b:Int)(W:World):Calls Tryz.prog 220 #[.int .i64 a,.int .i64 b] W λe i=>e=.returned (.int .i64 (qE a b))/\i=W:=by
 obtain⟨r,c⟩:∃r,r=qE a b:=⟨_,rfl⟩;rw[<-c];unfold qE at c
 go_enter Tryz.func220,Tryz.ntmps220
 go_wp2
 .rename_i h;have e:r=-1:=by rw[c,Vt h]
  go_ret
  exact⟨by clear c;subst e;rfl,rfl⟩
 .rename_i f _ _ d;have e:r=1:=by rw[c,nO,Vt d]
  go_ret
  exact⟨by clear c;subst e;rfl,rfl⟩
 .rename_i f _ _ d;have e:r=0:=by rw[c,nO,nO]
  go_ret
  exact⟨by clear c;subst e;rfl,rfl⟩
theorem cmp183(x y:Fa)(W:World):Calls Tryz.prog 221 #[.string x,.string y] W λe d=>e=.returned (.int .i64 (ou x y))/\d=W:=by
 obtain⟨r,a⟩:∃r,r=ou x y:=⟨_,rfl⟩;rw[<-a];unfold ou at a
 go_enter Tryz.func221,Tryz.ntmps221
 go_wp2
 .rename_i h;have e:r=-1:=by rw[a,Vt h]
  go_ret
  exact⟨by clear a;subst e;rfl,rfl⟩
 .have b:=‹Op.bytesLess x.toList y.toList=false›;have c:=‹(!x.toList == y.toList)=true›;have e:r=1:=by rw[a,b];simp only[WQ,c,if_true,WR,if_false]
  go_ret
  exact⟨by clear a;subst e;rfl,rfl⟩
 .have b:=‹Op.bytesLess x.toList y.toList=false›;have c:=‹(!x.toList == y.toList)=false›;have e:r=0:=by rw[a,b];simp only[WQ,c,if_true,WR,if_false]
  go_ret
  exact⟨by clear a;subst e;rfl,rfl⟩
def j7(x y:Ky):Int:=if qE x.win y.win≠0 then qE x.win y.win else ou x.ser y.ser
theorem cmp131(x y:Ky)(W:World):Calls Tryz.prog 130 #[.agg #[.int .i64 x.win,.string x.ser],.agg #[.int .i64 y.win,.string y.ser]] W λe d=>e=.returned (.int .i64 (j7 x y))/\∃q c,d=grow (W.drewN q) c:=by
 obtain⟨r,a⟩:∃r,r=j7 x y:=⟨_,rfl⟩;rw[<-a];unfold j7 at a;have f:=λb=>cmp182 x.win y.win b
 have i:=λb=>cmp183 x.ser y.ser b
 generalize qE x.win y.win=ri at *;generalize ou x.ser y.ser=rs at *
 go_enter Tryz.func130,Tryz.ntmps130
 go_wp2_with (first|(go_at_call 220;refine (f _).mono ?_;rintro e d ⟨rfl,rfl⟩)|(go_at_call 221;refine (i _).mono ?_;rintro e d ⟨rfl,rfl⟩))
 .rename_i h;have e:r=ri:=by rw[a,Vt (by simpa using h)]
  go_ret
  exact⟨by clear a;subst e;rfl,0,_,by rw[alloc_eq_grow,alloc_eq_grow,grow_grow];rfl⟩
 .rename_i h;have e:r=rs:=by rw[a,Vs (by simpa using h)]
  go_ret
  exact⟨by clear a;subst e;rfl,0,_,by rw[alloc_eq_grow,alloc_eq_grow,grow_grow];rfl⟩
theorem ltKy(x y:Ky):ltOf j7 x y=(decide (x.win<y.win)||(decide (x.win=y.win)&&Op.bytesLess x.ser.toList y.ser.toList)):=by
 unfold ltOf j7 qE ou
 by_cases h1:x.win<y.win
 .simp [h1]
 .by_cases h2:y.win<x.win
  .have:¬x.win=y.win:=by omega
   simp[h1,h2,this]
  .have:x.win=y.win:=by omega
   rw[Vs h1,Vs h2];simp only[ne_eq,not_true_eq_false,if_false]
   by_cases h3:Op.bytesLess x.ser.toList y.ser.toList=true
   .simp [h1,this,h3]
   .by_cases h4:(!(Op.bytesLess x.ser.toList y.ser.toList||x.ser.toList == y.ser.toList))=true
    .rw [Vs h3,Vt h4];simp[h1,h3]
    .rw [Vs h3,Vs h4];simp[h1,h3]
theorem rZ(x y:Ky):ltOf j7 x y=true↔x.win<y.win\/x.win=y.win/\x.ser.toList<y.ser.toList:=by
 rw[ltKy,bytesLess_eq];simp
theorem swoKy:SWO (ltOf j7) where
 irrefl x:=by
  rw[Yt];intro h
  rcases (rZ _ _).1 h with h|h
  .omega
  .exact List.lt_irrefl _ h.2
 trans x y z a b:=by
  rw[rZ]at *
  rcases a with a|a <;> rcases b with b|b
  .exact .inl (by omega)
  .exact .inl (by omega)
  .exact .inl (by omega)
  .exact .inr ⟨by omega,List.lt_trans a.2 b.2⟩
 ntrans x y z a b:=by
  rw[Yt]at *;intro c;rw[Ne,rZ,not_or]at a b;rw[rZ]at c;have a1:¬(x.win=y.win/\x.ser.toList<y.ser.toList):=a.2;have a2:¬(y.win=z.win/\y.ser.toList<z.ser.toList):=b.2
  rcases c with c|c
  .omega
  .have e1:x.win=y.win:=by omega
   have e2:y.win=z.win:=by omega
   have b1:¬x.ser.toList<y.ser.toList:=λh=>a1 ⟨e1,h⟩
   have b2:¬y.ser.toList<z.ser.toList:=λh=>a2 ⟨e2,h⟩
   exact List.not_lt.2 (List.le_trans (List.not_lt.1 b2) (List.not_lt.1 b1)) c.2
theorem totKy(x y:Ky)(a:(ltOf j7) x y=false)(c:(ltOf j7) y x=false):x=y:=by
 rw[Yt,Ne,rZ,not_or]at a c;have e:x.win=y.win:=by omega
 have b1:¬x.ser.toList<y.ser.toList:=λh=>a.2 ⟨e,h⟩
 have b2:¬y.ser.toList<x.ser.toList:=λh=>c.2 ⟨e.symm,h⟩
 have e2:x.ser.toList=y.ser.toList:=List.le_antisymm (List.not_lt.1 b2) (List.not_lt.1 b1);have:=ba_beq x.ser y.ser;rw[e2]at this;have b:x.ser=y.ser:=by simpa using this
 cases x;cases y
 simp only at e b;rw[e,b]
instance:Inhabited Ky:=⟨⟨0,⟨#[]⟩⟩⟩
theorem R6(pre cs post ys:Os)(c:ys.length=cs.length) :
  Sort.putCells id pre.length ys.toArray (pre++cs++post).toArray=(pre++ys++post).toArray:=by
 apply Array.ext';apply WI;intro j;simp only[Sort.putCells,List.size_toArray];rw[Array.getElem?_toList,Array.getElem?_mapIdx,List.getElem?_toArray];rw[V5,V5]
 by_cases h1:j<pre.length
 .have e1:(pre++(cs++post))[j]?=some pre[j]:=by rw[List.getElem?_append_left h1,List.getElem?_eq_getElem h1]
  have e2:(pre++(ys++post))[j]?=some pre[j]:=by rw[List.getElem?_append_left h1,List.getElem?_eq_getElem h1]
  rw[e1,e2];simp only[VX];rw[nO]
 .have e1:(pre++(cs++post))[j]?=(cs++post)[j-pre.length]?:=List.getElem?_append_right (by omega);have e2:(pre++(ys++post))[j]?=(ys++post)[j-pre.length]?:=List.getElem?_append_right (by omega);rw[e1,e2]
  by_cases h2:j<pre.length+ys.length
  .have b:j-pre.length<cs.length:=by omega
   have a:j-pre.length<ys.length:=by omega
   have e3:(cs++post)[j-pre.length]?=some cs[j-pre.length]:=by rw[List.getElem?_append_left b,List.getElem?_eq_getElem b]
   have e4:(ys++post)[j-pre.length]?=some ys[j-pre.length]:=by rw[List.getElem?_append_left a,List.getElem?_eq_getElem a]
   rw[e3,e4];simp only[VX];rw[Vt ⟨by omega,h2⟩];simp[a]
  .have e3:(cs++post)[j-pre.length]?=post[j-pre.length-cs.length]?:=List.getElem?_append_right (by omega);have e4:(ys++post)[j-pre.length]?=post[j-pre.length-cs.length]?:=by rw[List.getElem?_append_right (by omega),c]
   rw[e3,e4]
   cases hp:post[j-pre.length-cs.length]? with
   | none=>rfl
   | some v=>
    simp only[VX];rw[nO]
theorem IE{α:Type}[Inhabited α](enc:α->Os)(k:Nat)(c:∀x,(enc x).length=k)(xs:List α):Go.Sort.flatK enc k xs.toArray=(flat enc xs).toArray:=by
 apply Array.ext';apply Wx
 .simp [fh c]
 .intro t f i;have a:t<xs.length*k:=by simpa using f
  have k0:0<k:=by
   rcases Yp k with h|h
   .subst h;simp at a
   .exact h
  have e:t/k<xs.length:=by rw[WT k0];exact a
  have hm:t%k<k:=Wz _ k0;have b:=vJ c e (t%k) hm;have j:t/k*k+t%k=t:=Yi t k;rw[j,fM,fM]at b;have d:t%k<(enc xs[t/k]).length:=by rw[c];exact hm
  rw[List.getElem?_eq_getElem (by simpa using i),List.getElem?_eq_getElem d]at b;have b:=Option.some.inj b;simp only[Array.getElem_toList];rw[b];simp[Go.Sort.flatK,e,d]
def ij(x y:Ky):Bool:=!(decide (y.win<x.win)||(decide (y.win=x.win)&&Op.bytesLess y.ser.toList x.ser.toList))
def ee(ks:List Ky):List Ky:=ks.mergeSort ij
theorem kW(ks:List Ky):(ee ks).Perm ks:=List.mergeSort_perm _ _
theorem ui(ks:List Ky):(ee ks).length=ks.length:=(kW ks).length_eq
open  Go.RowKit Go.Sort
section
variable {L:List aE}{H:aD}{K:KE}
theorem R7:∀args w,(callFunc 130 args).run Tryz.prog w=.ok (.enter 130 args) w:=λargs w=>by kernel_rfl
theorem sortK_eq(ks:List Ky):ks.mergeSort (λx y=>!(ltOf j7) y x)=ee ks:=by
 unfold ee;congr 1;funext x y;rw[ltKy];rfl
theorem R8{a:KQ}{c:Nat}{xs:List Ky}(h:aA H L)(i:Nat)(Y:aW i L=slA 154 2 a xs.length c (flat eL xs))(G:xs.length<4611686018427387904)
  (k:∀R,aA R (put i (slA 154 2 a xs.length c (flat eL (ee xs))) L)->K (.tuple #[]) R) :
  CF 218 #[.slice a xs.length c,.func (.func 130) #[] #[]] H K:=by
 refine .mk λw S=>?_
 subst S;have O:=h.foc i;rw[Y]at O;obtain⟨hl,⟨rfl,hn,rfl,A⟩|⟨b,pre,post,M,fr,rfl,E,D,C,A⟩⟩:=kz O
 .have W:xs=[]:=W6.1 hn;subst W;refine jh (AnyF.slices_SortFunc_none Tryz.sortKA none 0 _ w) ?_;rintro e T ⟨rfl,rfl⟩;refine⟨_,rfl,⟨rfl,rfl,rfl⟩,k _ (aA.back ?_)⟩;rw[show ee []=[] from by simp[ee]];exact ry A
 .have hb:=aQ.get A;have N:b<w.heap.size:=aQ.lt A;have I:(flat eL xs).length=xs.length*2:=fh qC xs;have F:=List.Perm.length_eq (kW xs);have d:(flat eL (ee xs)).length=xs.length*2:=by rw[fh qC,F]
  have Q:xs.length*2<=c*2:=Wq _ E;have U:HoldsK eL 2 w b pre.length xs.toArray:=by
   unfold HoldsK;rw[IE eL 2 qC];intro j u;have f:j<(flat eL xs).length:=by simpa using u
   refine⟨?_,?_⟩
   case refine_2=>
    have:=C (pre.length+j) (by omega) (by omega);simp only[World.frozen?,hb,Wc,V0];omega
   simp only[World.cell?,hb,Option.isSome_none,WR,if_false,List.getElem?_toArray];rw[V5,List.getElem?_append_right (by omega),WS,List.getElem?_append_left f,List.getElem?_eq_getElem f];simp[f]
  have t:CmpLays Tryz.prog 130 #[] eL 2 j7 b pre.length xs.toArray.size w:=λm os dk hs x y=>cmp131 x y _
  refine jh (AnyQ.slices_SortFunc_total Tryz.sortKA 2 Tryz.isAgg154 Tryz.sizeOf154 eL qC (λx v P=>by simp[eL]at P;rcases P with rfl|rfl <;> rfl) j7 swoKy 130 #[] b pre.length c xs.toArray w R7 t U N (by simpa using G) totKy) ?_
  rintro e T ⟨rfl,n,os,rfl⟩;refine⟨_,rfl,⟨rfl,rfl,rfl⟩,k _ (aA.back ?_)⟩;have es:(xs.toArray.toList.mergeSort λx y=>!(ltOf j7) y x).toArray=(ee xs).toArray:=by rw[<-sortK_eq]
  rw[es];have J:aQ (w.heap.modify b (onCells (putCells id pre.length (flat eL (ee xs)).toArray))) (pt b (.cells (pre++flat eL (ee xs)++post).toArray M fr)*star (del i L)):=by
   refine aQ.upd A ?_ λj u=>?_
   .rw [Array.getElem?_modify,Vt rfl,hb];simp only[VX,onCells];rw[R6 _ _ _ _ (by rw[I,d])]
   .rw [Array.getElem?_modify,Vs (Ne.symm u)]
  have Z:aQ (w.heap.modify b (onCells (putCells id pre.length (flat eL (ee xs)).toArray))++os.toList.toArray) (pt b (.cells (pre++flat eL (ee xs)++post).toArray M fr)*star (del i L)):=
   J.grow λj u=>by rw[Array.getElem?_append_left u]
  have s:=Z.frame (B:=slA 154 2 (some ⟨b,pre.length,none⟩) xs.length c (flat eL (ee xs))) λp V=>⟨d,.inr ⟨b,pre,post,M,fr,rfl,E,D,λ_=>C,V⟩⟩
  simpa[sortWorldK,grow,putRowK,putRow,mapBlock,Sort.ahead,IE eL 2 qC] using s
theorem IG{r:Nat}{m:CM}(h:aA H L)(i:Nat)(s:aW i L=mapA aggK aggC r m)
  (k:∀c f,aA f (mapA aggK aggC c m::L)->K (.map (some c)) f) :
  CF 127 #[.map (some r)] H K:=by
 refine .mk λw j=>?_
 subst j;have d:=h.foc i;rw[s]at d;obtain⟨v,b,a,x,n,t,y⟩:=mo d;have u:=AnyW.maps_Clone Tryz.cloneA4 r b a w y.get;refine jh u ?_;rintro e B ⟨rfl,rfl⟩;refine⟨_,rfl,⟨rfl,rfl,rfl⟩,k _ _ ?_⟩;exact (h.push (.map b a)).mono λp A=>⟨v,b,a,x,n,t,A⟩
end
theorem wI(x y:Ky):ij x y=true↔x.win<y.win\/x.win=y.win/\x.ser.toList<=y.ser.toList:=by
 unfold ij;rw[Go.Proofs.bytesLess_eq];simp only[VP,VB,V0,Wc,List.not_lt]
 constructor
 .rintro⟨h1,a⟩
  by_cases h:x.win<y.win
  .exact .inl h
  .rcases a with a|a
   .omega
   .exact .inr ⟨by omega,a⟩
 .rintro (h|h)
  .exact⟨by omega,.inl (by omega)⟩
  .exact⟨by omega,.inr h.2⟩
theorem R9{x y z:Ky}(a:ij x y=true)(b:ij y z=true):ij x z=true:=by
 rw[wI]at *
 rcases a with a|a <;> rcases b with b|b
 .exact .inl (by omega)
 .exact .inl (by omega)
 .exact .inl (by omega)
 .exact .inr ⟨by omega,List.le_trans a.2 b.2⟩
theorem RA(x y:Ky):(ij x y||ij y x)=true:=by
 rw[VE,wI,wI]
 by_cases h1:x.win<y.win
 .exact .inl (.inl h1)
 .by_cases h2:y.win<x.win
  .exact .inr (.inl h2)
  .rcases List.le_total x.ser.toList y.ser.toList with h|h
   .exact .inl (.inr ⟨by omega,h⟩)
   .exact .inr (.inr ⟨by omega,h⟩)
theorem ba_ext{x y:Fa}(h:x.toList=y.toList):x=y:=by
 have:=ba_beq x y;rw[h]at this;simpa using this
theorem RG{x y:Ky}(a:ij x y=true)(b:ij y x=true):x=y:=by
 rw[wI]at *
 rcases a with a|a <;> rcases b with b|b
 .omega
 .omega
 .omega
 .have:=ba_ext (List.le_antisymm a.2 b.2)
  cases x;cases y
  simp only at this a;rw[this,a.1]
theorem wJ(l:List Ky):(ee l).Pairwise λa b=>ij a b=true:=
 List.pairwise_mergeSort (le:=ij) (λa b c d e=>R9 d e) RA l
theorem RH{l c:List Ky}(h:l.Perm c):ee l=ee c:=
 List.Perm.eq_of_pairwise (le:=λa b=>ij a b=true) (λa b _ _ d e=>RG d e) (wJ l) (wJ c) (((kW l).trans h).trans (kW c).symm)
def bA(m:CM):List Ot:=(ee (aG m)).map λk=>(k,fP m k)
theorem uj(m:CM):(bA m).length=m.length:=by simp[bA,ui,aG]
def iC(m:CM)(before:Int):List Ot:=(bA m).takeWhile λo=>decide (o.1.win<before)
def lM(m:CM)(l:List Ot):CM:=l.foldl (λm o=>bT o.1 m) m
def nP(m:CM)(before:Int):CM:=lM m (iC m before)
section
variable {sb mb:Nat}{most:Int}{m:CM}{F L:List aE}{H:aD}{K:KE}
theorem RI(h:aA H F)(k:∀c0 a,aA a (cellsA c0 [.map (some mb)] 272::F)->K (.func (.func 219) #[] #[PA c0 0]) a):CF 129 #[.map (some mb)] H K:=by
 refine cM 129 28 ?_;exact h.al λc0 _ h=>k _ _ h
theorem RJ{l c0:Nat}(A:List Ky->aE)(h:aA H (A []::cellsA c0 [.map (some mb)] 272::cz mb m::F))
  (x:∀dn key (G:List aE) (j:aD) (s:KE),dn.length<m.length->aA j (A dn::G)->(∀i,aA i (A (dn++[key])::G)->s (.bool true) i)->fJ Tryz.prog l [aggK key] j s)
  (k:∀dn b,dn.Perm (aG m)->aA b (A dn::cellsA c0 [.map (some mb)] 272::cz mb m::F)->K (.tuple #[]) b) :
  CF 219 #[.func (.yield l) #[] #[],PA c0 0] H K:=by
 refine cN 219 6017780034900889 [[]] ?_;refine⟨_,h.r 1,?_⟩
 conv=>whnf
 refine h.rg_new mtC 2 rfl λc j h=>⟨c,rfl,?_⟩
 refine⟨λb=>∃dn:CM,aA b (A (aG dn)::cellsA c0 [.map (some mb)] 272::kP aggK aggC c mb m dn::F),λb=>m.length-oP b c,⟨[],h⟩,?_⟩
 rintro i ⟨dn,h⟩;have u:=h.rg_count 2 rfl;refine h.rg_next 2 rfl (λy=>.inl ⟨rfl,(λf=>by cases f),λ_=>?_⟩) λp w v C h=>.inr ⟨_,_,rfl,(λ_=>?_),λf=>by cases f⟩
 .exact k (aG dn) _ (y.map Prod.fst) (h.rg_map 2 rfl)
 .have a:=h.rg_count 2 rfl;have d:=aA.rg_entry (P:=Tryz.prog) h 2 rfl;refine⟨_,_,_,d,?_⟩;refine h.al λb1 _ h=>?_
  refine h.sta 0 rfl rfl λB h=>⟨_,_,h.rda 0 rfl,?_⟩
  rw[Vv]at a;have n:(aG dn).length<m.length:=by simp only[aG,V8];simp at a;omega
  refine x (aG dn) p.1 _ _ _ n (h.o [1,0,2,3] 4) λt h=>⟨true,rfl,(λf=>by cases f),λ_=>?_⟩
  have h:aA t (A (aG dn++[p.1])::cellsA c0 [.map (some mb)] 272::kP aggK aggC c mb m (dn++[p])::F):=h.o [0,2,3] 4;refine⟨⟨dn++[p],?_⟩,?_⟩
  .have e:aG (dn++[p])=aG dn++[p.1]:=by simp[aG]
   rw[e];exact h
  .have:=h.rg_count 2 rfl;rw[Vv]at this;simp only[Wi]at this;show m.length-oP t c<m.length-oP i c;omega
theorem sl225:SlT Tryz.prog 277 154 2 24:=iO (by kernel_rfl)
theorem RK{c0:Nat}(x:m.length<=1000000)(h:aA H (cellsA c0 [.map (some mb)] 272::cz mb m::F))
  (k:∀dn a c f,dn.Perm (aG m)->aA f (slA 154 2 a dn.length c (flat eL dn)::cz mb m::F)->K (.slice a dn.length c) f) :
  CF 271 #[.slice none 0 0,.func (.func 219) #[] #[PA c0 0]] H K:=by
 refine cL 271 (.r (.seq (.r (.blk (.rng [.agg [.int .i64,.str]] [none] .reg (.blk .reg)))) (.r .no))) ?_;refine h.al λb _ h=>⟨rfl,λR e d u=>?_⟩
 rename_i H0;have h:=h.rng R;have h:=h.sl_nil 154 2;refine RJ (m:=m) (mb:=mb) (λdn=>exS λp:KQ×Nat=>star [cellsA b [.slice p.1 dn.length p.2] 277,slA 154 2 p.1 dn.length p.2 (flat eL dn),pt (H0.size+1) (.loop R)])
  (F:=pt H0.size (.deferred (some []))::F) ?_ ?_ ?_
 .have h:=h.o [3,0,1,4,5,2] 6;exact cK.2 ⟨(none,0),aA.shut [_,_,_] h⟩
 .intro dn key G i B n h j;obtain⟨⟨a,c⟩,h⟩:=cK.1 h;have h:=aA.open (A:=[_,_,_]) h;refine u _ _ _ ?_;refine⟨_,_,rfl,h.getO 2 rfl,?_⟩;refine h.al λb1 _ h=>?_
  refine h.sta 0 rfl rfl λC h=>⟨h.getO 3 rfl,h.stl 3 rfl λy h=>?_⟩
  refine⟨_,_,_,h.r 1,_,_,h.rda 0 rfl,?_⟩;rintro b2 _ rfl rfl
  conv=>whnf
  refine h.append1 (ws:=eL key) sl225 2 rfl rfl rfl (by omega) (by omega) λs t D h=>⟨_,_,_,rfl,?_⟩
  refine h.sta 1 rfl rfl λE h=>⟨h.getO 3 rfl,j _ ?_⟩
  have h:=h.setO 3 rfl (.loop R);refine cK.2 ⟨(s,t),aA.shut [_,_,_] ?_⟩;rw[dS,nB,Vv];exact h.o [1,2,3] 4
 .intro dn i v h;obtain⟨⟨a,c⟩,h⟩:=cK.1 h;have h:=aA.open (A:=[_,_,_]) h;refine⟨.ready,none,by decide,by rw[nD e d];exact h.getO 2 rfl,h.stl 2 rfl λw h=>⟨rfl,?_⟩⟩
  refine⟨_,_,_,h.r 0,h.getO 5 rfl,?_⟩;have h:=h.setO 5 rfl (.deferred none);exact k dn a c _ v (h.o [1,4] 6)
theorem RM{c0:Nat}(f:m.length<=1000000)(h:aA H (cellsA c0 [.map (some mb)] 272::cz mb m::F))
  (k:∀a c d,aA d (slA 154 2 a m.length c (flat eL (ee (aG m)))::cz mb m::F)->K (.slice a m.length c) d) :
  CF 128 #[.func (.func 219) #[] #[PA c0 0],.func (.func 130) #[] #[]] H K:=by
 refine cM 128 4380 ?_;refine cM 217 28 ?_;refine RK f h λdn a c j e h=>⟨_,_,_,rfl,_,_,_,rfl,?_⟩
 have b:dn.length=m.length:=by rw[e.length_eq];simp[aG]
 refine R8 h 0 rfl (by omega) λi h=>⟨rfl,?_⟩
 rw[b,RH e]at h;rw[b];exact k _ _ _ h
theorem IH(h:aA H F)(k:∀c0 a,aA a (cellsA c0 [PA sb 0] 141::F)->K (.func (.func 126) #[] #[PA c0 0]) a):CF 56 #[PA sb 0] H K:=by
 refine cM 56 28 ?_
 conv=>whnf
 exact h.al λc0 _ h=>k _ _ h
theorem II{l c0:Nat}(O:m.length<=1000000)(A:Nat->aE)(D:Nat->aE)(B:aE)(h:aA H (cellsA c0 [PA sb 0] 141::shC sb mb most::cz mb m::B::F))
  (w:∀G b,aA b (shC sb mb most::cz mb m::B::G)->aA b (A 0::G))
  (N:∀j (I:j<(bA m).length) (G:List aE) (n:aD) (s:KE),aA n (A j::G)->(∀f,aA f (A (j+1)::G)->s (.bool true) f)->(∀f,aA f (D j::G)->s (.bool false) f)->
   fJ Tryz.prog l [aggK (bA m)[j].1,aggC (bA m)[j].2] n s)
  (k:∀b,aA b (A (bA m).length::F)->K (.tuple #[]) b)
  (Q:∀j b,j<(bA m).length->aA b (D j::F)->K (.tuple #[]) b) :
  CF 126 #[.func (.yield l) #[] #[],PA c0 0] H K:=by
 refine cN 126 0x11561239925113994 [[(15,sI)]] ?_
 conv=>whnf
 refine⟨_,h.rd 0 rfl _,⟨_,h.r 1,?_⟩⟩;refine IG h 2 rfl λr n h=>⟨_,rfl,?_⟩
 refine RI h λkc f h=>⟨_,_,rfl,?_⟩
 refine RM O h λa c R h=>⟨_,_,_,rfl,?_⟩
 have C:(bA m).length=m.length:=uj m;have J:(ee (aG m)).length=m.length:=by rw[ui];simp[aG]
 have h:=w _ _ (h.o [3,4,5,0,1] 6);refine⟨λt b=>∃j:Nat,t=j/\j<=m.length/\aA b (A j::slA 154 2 a m.length c (flat eL (ee (aG m)))::cz r m::F),λt _=>m.length-t.toNat,⟨0,rfl,VQ _,h⟩,?_⟩
 rintro t P ⟨j,rfl,I,h⟩;refine⟨λu=>?_,λu=>?_⟩
 .have y:j<m.length:=by have:=Vw u;omega
  have d:j<(ee (aG m)).length:=by omega
  have E:=h.sl_rd 1 rfl;refine⟨⟨by omega,by omega⟩,_,_,E.some qC (by omega) d,_,_,E.els qC d,?_⟩;refine h.al λb1 _ h=>?_
  refine h.sta 0 rfl rfl λL h=>⟨_,_,h.rda 0 rfl,_,_,h.rda 0 rfl,?_⟩
  refine⟨_,_,_,_,_,_,_,_,h.mp_get1 mtC koK 3 rfl (x:=(ee (aG m))[j]),?_⟩;have e:(bA m)[j]'(by omega)=((ee (aG m))[j],fP m (ee (aG m))[j]):=by simp[bA]
  have i:=N j (by omega);rw[e]at i;refine i _ L _ (h.o [1,0,2,3] 4) (λM h=>⟨true,rfl,(λv=>by cases v),λ_=>?_⟩) λM h=>⟨false,rfl,(λ_=>?_),λv=>by cases v⟩
  .conv=>whnf
   rw[show i64.wrap ((j:Int)+1)=((j+1:Nat):Int) by rw[aK];omega];exact⟨⟨j+1,rfl,y,h.o [0,2,3] 4⟩,by simp only[V4];omega⟩
  .exact Q j _ (by omega) (h.o [0] 4)
 .have:j=m.length:=by have:=Vx u;omega
  subst this;have:=k P;rw[C]at this;exact this (h.o [0] 3)
theorem RP(h:aA H (shC sb mb most::cz mb m::F))
  (k:∀a c d,aA d (shC a c most::cz c m::shC sb mb most::cz mb m::F)->K (PA a 0) d) :
  CF 60 #[PA sb 0] H K:=by
 refine cM 60 28 ?_;refine⟨_,h.r 0,_,h.r 0,?_⟩;refine IG h 1 rfl λr e h=>⟨_,rfl,h.r 1,?_⟩
 exact h.al λb _ h=>k _ _ _ h
end
abbrev aX(s:Fa):List UInt8:=s.data.toList
theorem kX(s:Fa):(aX s).length=s.size:=Wy
theorem wK{s:Fa}{i:Nat}(h:i<(aX s).length):bAt s i=((aX s)[i].toNat:Int):=by
 have a:i<s.data.size:=by simpa using h
 unfold bAt;rw[Array.getElem?_eq_getElem a];simp
def lowC(c:UInt8):Bool:=decide (97<=c.toNat)&&decide (c.toNat<=122)
def pp(c:UInt8):Bool:=lowC c||(decide (48<=c.toNat)&&decide (c.toNat<=57))||decide (c.toNat=95)
def valC(c:UInt8):Bool:=decide (33<=c.toNat)&&decide (c.toNat<=126)&&decide (c∉[(44:UInt8),61,123,125])
def kg(s:Fa):Bool:=decide (1<=s.size)&&decide (s.size<=64)&&lowC ((aX s).headD 0)&&(aX s).all pp
def bS.z:bS:=⟨⟨#[]⟩,⟨#[]⟩⟩
def ik(l:bS):Bool:=decide (l.value.size<=64)&&(aX l.value).all valC&&kg l.name
def pq(labs:List bS)(i:Nat):Bool:=ik (labs.getD i bS.z)&&(decide (i=0)||Op.bytesLess (labs.getD (i-1) bS.z).name.toList (labs.getD i bS.z).name.toList)
def fx(name:Fa)(labs:List bS):Bool:=kg name&&decide (labs.length<=8)&&(List.range labs.length).all (pq labs)
theorem Ae{p:Nat->Bool}{n:Nat}:(List.range n).all p=true↔∀i,i<n->p i=true:=by
 rw[Wg];exact⟨λh i hi=>h i (W2.2 hi),λh i hi=>h i (W2.1 hi)⟩
theorem Af{α:Type}{p:α->Bool}{l:List α}(h:∀i (hi:i<l.length),p l[i]=true):l.all p=true:=by
 rw[Wg];intro x a;obtain⟨i,hi,rfl⟩:=Wn a;exact h i hi
theorem wL{α:Type}{p:α->Bool}{l:List α}{i:Nat}(hi:i<l.length)(h:p l[i]=false):l.all p=false:=by
 cases e:l.all p
 .rfl
 .rw [Wg]at e;rw[e _ (V7 hi)]at h
  cases h
theorem ov{α:Type}{l:List α}{i:Nat}(d:α)(h:i<l.length):l.getD i d=l[i]:=by
 rw[Yd,List.getElem?_eq_getElem h];rfl
theorem IJ{l:List UInt8}(h:0<l.length):l.headD 0=l[0]:=by
 cases l with
 | nil=>simp at h
 | cons a l=>rfl
def cV(c:UInt8)(l:List UInt8):Int:=if l.idxOf c<l.length then (l.idxOf c:Int) else -1
theorem IK(c:UInt8):∀l:List UInt8,Go.Lib.indexByte l c=cV c l
 | []=>rfl
 | b::l=>by
  unfold Go.Lib.indexByte;rw[IK c l];unfold cV;rw[List.idxOf_cons,V1]
  cases e:(b == c) with
  | true=>simp
  | false=>
   simp only[cond_false,WR,if_false,Nat.add_lt_add_iff_right]
   split
   .rename_i h;rw[Vs (by rw[beq_iff_eq];omega)];omega
   .rfl
theorem idxU_ge(c:UInt8)(l:List UInt8):-1<=cV c l/\cV c l<l.length:=by
 unfold cV;split <;> omega
theorem idxU_mem(c:UInt8)(l:List UInt8):0<=cV c l↔c∈l:=by
 unfold cV;rw[<-List.idxOf_lt_length_iff]
 split <;> rename_i h
 .exact⟨λ_=>h,λ_=>by omega⟩
 .exact⟨λh=>by omega,λa=>Vu a h⟩
section
variable {F L:List aE}{H:aD}{K:KE}
theorem natIdx{s:Fa}{c:Int}:pK Tryz.prog 378 #[.string s,.int .u8 c] (aC (cV c.toNat.toUInt8 (aX s))):=by
 intro w;have h:(callFunc 378 #[.string s,.int .u8 c]).run Tryz.prog w=(do let v <-Extern.BytealgIndexByte.indexByte #[.string s,.int .u8 c];pure (Next.value v)).run Tryz.prog w:=by kernel_rfl
 rw[h];have a:=Go.Lib.run_indexByteString (P:=Tryz.prog) s c w;simp only[Sem.run_bind,a,IK];rfl
theorem RQ{s:Fa}{c:Int}(k:K (aC (cV c.toNat.toUInt8 (aX s))) H):CF 325 #[.string s,.int .u8 c] H K:=
 cM 325 28 (cM 362 28 ⟨_,natIdx,_,rfl,k⟩)
theorem IL{s:Fa}:bX Tryz.prog 279 #[.string s] H (.bool (kg s)):=by
 refine On ?_;refine⟨λa=>?_,λa=>?_,λa=>?_,λa=>?_⟩
 .simp only[VB,V0]at a;omega
 .simp only[VB,V0]at a;omega
 .have:kg s=false:=by
   cases e:kg s
   .rfl
   .unfold kg lowC at e;simp only[Vz,Vy]at e;simp only[VE,Vy]at a;obtain⟨⟨⟨e1,e2⟩,e3,e4⟩,-⟩:=e;have t:=kX s;have hb:bAt s 0=((aX s)[0]'(by omega)).toNat:=wK (by omega);have d:(aX s).headD 0=(aX s)[0]'(by omega):=IJ (by omega);rw[d]at e3 e4;omega
  rw[this];exact⟨rfl,rfl⟩
 .simp only[VB,V0]at a;obtain⟨⟨⟨c1,c2⟩,c3⟩,c4⟩:=a;have t:=kX s;have hb:bAt s 0=((aX s)[0]'(by omega)).toNat:=wK (by omega);have d:(aX s).headD 0=(aX s)[0]'(by omega):=IJ (by omega);have v:kg s=(aX s).all pp:=by
   unfold kg;rw[d];unfold lowC;rw[VF (by omega),VF (by omega),VF (by omega),VF (by omega)];simp
  rw[v];refine⟨λi w=>w=H/\∃j:Nat,i=j/\j<=s.size/\∀q (c:q<(aX s).length),q<j->pp (aX s)[q]=true,λi _=>s.size-i.toNat,⟨rfl,0,rfl,by omega,λq _ h=>by omega⟩,?_⟩
  rintro i y ⟨rfl,j,rfl,A,m⟩;refine⟨λa=>?_,λa=>?_⟩
  .have k:j<s.size:=by have:=Vw a;omega
   have b:j<(aX s).length:=by omega
   refine⟨by omega,?_⟩;rw[V4,wK b];refine⟨λf=>?_,λf=>?_⟩
   .simp only[Vz,VE,Vy,VP,V0]at f;rw[wL b (by unfold pp lowC;simp only[VB,Wc,V0];omega)];exact⟨rfl,rfl⟩
   .rw [aK (x:=(j:Int)+1)];refine⟨⟨rfl,j+1,by omega,k,λq c n=>?_⟩,by dsimp only;omega⟩
    by_cases hqj:q=j
    .subst hqj;unfold pp lowC;simp only[Wc,VB,V0,Wd,Vy]at f;simp only[VE,Vz,Vy];omega
    .exact m q c (by omega)
  .have u:s.size<=j:=by have:=Vx a;omega
   rw[Af λq c=>m q c (by omega)]
   exact⟨rfl,rfl⟩
theorem RR{l:bS}(h:aA H F)(k:∀m,aA m F->K (.bool (ik l)) m):CF 280 #[.agg #[.string l.name,.string l.value]] H K:=by
 refine Om ?_;refine h.al λb _ h=>?_
 refine⟨_,h.r 0,λf=>?_,λf=>?_⟩
 .have:ik l=false:=by
   unfold ik;rw[Wj (by have:=Vw f;omega)];rfl
  rw[<-this];exact k _ h.tl
 .have hs:l.value.size<=64:=by have:=Vx f;omega
  have B:=kX l.value;refine⟨λi m=>∃j:Nat,i=j/\j<=l.value.size/\(∀q (n:q<(aX l.value).length),q<j->valC (aX l.value)[q]=true)/\aA m (cellsA b [.string l.name,.string l.value] 421::F),λi _=>l.value.size-i.toNat,⟨0,rfl,by omega,λq _ h=>by omega,h⟩,?_⟩
  rintro i v ⟨j,rfl,C,t,h⟩;refine⟨_,h.r 0,λf=>?_,λf=>?_⟩
  .have s:j<l.value.size:=by have:=Vw f;omega
   have a:j<(aX l.value).length:=by omega
   refine⟨_,h.r 0,by omega,?_⟩;intro A w;rw[V4,wK a];have c:A (!valC (aX l.value)[j]) v:=by
    refine w _ _ ?_;refine⟨λd=>?_,λd=>?_⟩
    .have:ik l=false:=by
      unfold ik;rw[wL a (by simpa using d)];simp
     rw[<-this];exact k _ h.tl
    .rw [aK (x:=(j:Int)+1)];refine⟨⟨j+1,by omega,s,λq n u=>?_,h⟩,by dsimp only;omega⟩
     by_cases hqj:q=j
     .subst hqj;simpa using d
     .exact t q n (by omega)
   refine⟨λd=>?_,λd=>?_⟩
   .simp only[VB,V0]at d;refine RQ ⟨_,rfl,?_⟩;have:decide (0<=cV (((aX l.value)[j].toNat:Int).toNat.toUInt8) (aX ⟨#[44,61,123,125]⟩))=!valC (aX l.value)[j]:=by
     rw[Wb,Vy,idxU_mem];have e:((aX l.value)[j].toNat:Int).toNat.toUInt8=(aX l.value)[j]:=by simp
     rw[e];unfold valC;rw[VF (by omega),VF (by omega)];simp
    dsimp only;rw[this];exact c
   .have:valC (aX l.value)[j]=false:=by
     unfold valC;simp only[VB,V0]at d;simp only[Wc,V0];omega
    rw[this]at c;exact c
  .have y:l.value.size<=j:=by have:=Vx f;omega
   refine⟨_,h.r 0,_,IL,?_⟩;have:ik l=kg l.name:=by
    unfold ik;rw[VF hs,Af λq n=>t q n (by omega)]
    simp
   rw[<-this];exact k _ h.tl
theorem qF{name:Fa}{a:KQ}{c:Nat}{labs:List bS}(h:aA H F)(u:∀H,aA H F->aP H a (flat df labs))
  (k:∀s,aA s F->K (.bool (fx name labs)) s):CF 226 #[.agg #[.string name,.slice a labs.length c]] H K:=by
 refine O7 ?_;refine h.al λb _ h=>?_
 refine⟨_,h.r 0,_,IL,_,_,_,λ_=>h.r 0,λd=>?_,λd=>?_⟩
 .have:fx name labs=false:=by
   unfold fx;simp only[VE,VP,Vy]at d
   rcases d with d|d
   .rw [d];rfl
   .rw [Wj (p:=labs.length<=8) (by omega)];simp
  rw[<-this];exact k _ h.tl
 .simp only[VB,Wd,V0]at d;obtain⟨c1,c2⟩:=d;have v:fx name labs=(List.range labs.length).all (pq labs):=by
   unfold fx;rw[c1,VF (by omega)];simp
  refine⟨_,_,_,h.r 0,?_⟩;refine⟨λi s=>∃j:Nat,i=j/\j<=labs.length/\(∀q,q<j->pq labs q=true)/\aA s (cellsA b [.string name,.slice a labs.length c] 79::F),λi _=>labs.length-i.toNat,⟨0,rfl,by omega,λq h=>by omega,h⟩,?_⟩
  rintro i B ⟨j,rfl,D,w,h⟩;refine⟨λd=>?_,λd=>?_⟩
  .have f:j<labs.length:=by have:=Vw d;omega
   have m:=u _ h.tl;refine⟨by omega,_,_,m.some iU (by omega) f,_,_,m.els iU f,?_⟩;refine h.al λb2 _ h=>?_
   refine h.st 0 rfl rfl ?_;intro G h;refine⟨_,_,h.q 0,?_⟩;refine RR (l:=labs[j]) h λE h=>⟨_,rfl,?_⟩
   have m:=u _ h.tl.tl;have t:0<j->i64.wrap ((j:Int)-1)=((j-1:Nat):Int):=λh=>by rw[aK];omega
   have hs:pq labs j=(ik labs[j]&&(decide (j=0)||Op.bytesLess (labs.getD (j-1) bS.z).name.toList labs[j].name.toList)):=by
    unfold pq;rw[ov bS.z f]
   refine⟨a,labs.length,c,λ_=>h.r 1,λn=>?_,_,_,λn=>m.some iU (by omega) f,(labs.getD (j-1) bS.z).name,λn=>?_,labs[j].name,λ_=>h.r 0,λd=>?_,λd=>?_⟩
   .have h0:=Vw n.2;rw[t (by omega)];omega
   .have h0:=Vw n.2;rw[t (by omega),V4];exact m.el0 iU (k:=j-1) (by omega) (by rw[ov bS.z (by omega)];rfl)
   .have:fx name labs=false:=by
     rw[v]
     cases e:(List.range labs.length).all (pq labs)
     .rfl
     .rw [Ae]at e;have e:=e j f;rw[hs]at e;simp only[VE,Vz,VP,Vy]at e d
      rcases d with d|d
      .rw [d]at e;simp at e
      .rcases e.2 with e2|e2
       .omega
       .rw [d.2]at e2;simp at e2
    rw[<-this];exact k _ h.tl.tl
   .rw [aK (x:=(j:Int)+1)];refine⟨⟨j+1,by omega,f,λq y=>?_,h.tl⟩,by dsimp only;omega⟩
    by_cases hqj:q=j
    .subst hqj;rw[hs];simp only[VB,Wc,Wd,V0]at d;simp only[VE,Vz,Vy];refine⟨d.1,?_⟩
     rcases d.2 with e|e
     .left;omega
     .right;exact e
    .exact w q (by omega)
  .have A:labs.length<=j:=by have:=Vx d;omega
   have:fx name labs=true:=by rw[v,Ae];exact λq C=>w q (by omega)
   rw[<-this];exact k _ h.tl
end
def fA(l:bS):Fa:=(l.name++(⟨#[61]⟩:Fa))++l.value
def kh(labs:List bS):Fa:=⟨(Go.Lib.join ((labs.map fA).map aX) [44]).toArray⟩
def gh(name:Fa)(labs:List bS):Fa:=
 if fx name labs then (if labs=[] then name else ((name++(⟨#[123]⟩:Fa))++kh labs)++(⟨#[125]⟩:Fa)) else ⟨#[]⟩
theorem RT{α:Type}(f:α->Value)(z:Value)(l:List α)(j:Nat)(h:j<l.length) :
  cv ((l.take j).map f++List.replicate (l.length-j) z) j [f l[j]]=(l.take (j+1)).map f++List.replicate (l.length-(j+1)) z:=by
 have e:l.length-j=(l.length-(j+1))+1:=by omega
 rw[e,Y5];have a:((l.take j).map f).length=j:=by rw[V8,VM];omega
 have:=tv [f l[j]] ((l.take j).map f) (z::List.replicate (l.length-(j+1)) z) 0;simp only[a,W8]at this;rw[this,Wf h,VJ];simp[cv]
theorem join_le{n:Nat}:∀{xs:List (List UInt8)},(∀x∈xs,x.length<=n)->(Go.Lib.join xs [44]).length<=(n+1)*xs.length
 | [],_=>by simp[Go.Lib.join,List.intercalate]
 | x::r,h=>by
  rw[Go.Lib.join_length];have:∀{l:List (List UInt8)},(∀x∈l,x.length<=n)->Go.Lib.lens l<=n*l.length:=by
   intro l
   induction l with
   | nil=>intro _;simp[Go.Lib.lens]
   | cons y l ih=>
    intro h;have a:=ih λx b=>h x (VD _ b)
    have c:=h y (VA ..);simp only[Go.Lib.lens,VS,WP,V1,Nat.mul_succ]at a ⊢;omega
  have a:=this h;simp only[V1,VN,VL,Nat.one_mul,Nat.mul_succ,We]at a ⊢;omega
theorem sd(x y:Fa):(x++y).size=x.size+y.size:=ByteArray.size_append
theorem se{s:Fa}(h:kg s=true):s.size<=64/\1<=s.size:=by
 unfold kg at h;simp only[Vz,Vy]at h;omega
theorem sf{l:bS}(h:ik l=true):l.name.size<=64/\l.value.size<=64:=by
 unfold ik at h;simp only[Vz,Vy]at h;exact⟨(se h.2).1,h.1.1⟩
theorem RU(l:bS):(fA l).size=l.name.size+1+l.value.size:=by
 unfold fA;rw[sd,sd];rfl
structure RightP(name:Fa)(labs:List bS):Prop where
 named:kg name=true
 len:labs.length<=8
 val:∀l∈labs,ik l=true
 step:∀i,i<labs.length->pq labs i=true
theorem mI{name:Fa}{labs:List bS}(h:fx name labs=true):RightP name labs:=by
 unfold fx at h;simp only[Vz,Vy,Ae]at h;refine⟨h.1.1,h.1.2,λl a=>?_,h.2⟩
 obtain⟨i,hi,rfl⟩:=Wn a;have:=h.2 i hi;unfold pq at this;rw[ov bS.z hi]at this;simp only[Vz]at this;exact this.1
theorem joinL_le{labs:List bS}(h:∀l∈labs,ik l=true):(Go.Lib.join ((labs.map fA).map aX) [44]).length<=130*labs.length:=by
 have:=join_le (n:=129) (xs:=(labs.map fA).map aX) (by
  intro x a;rw[Wh,V3]at a;obtain⟨l,b,rfl⟩:=a;have:=sf (h l b);show (aX (fA l)).length<=129;rw[kX,RU];omega)
 simpa using this
theorem RV{labs:List bS}:(kh labs).size=(Go.Lib.join ((labs.map fA).map aX) [44]).length:=by
 unfold kh;show Array.size _=_;simp
theorem rdS_some{H:aD}{a:KQ}{cs:Os}(h:aP H a cs)(b:0<cs.length):a=some ⟨aU a,aS a,none⟩:=(h 0 _ (vI b)).1
theorem Tryz.joinX:Builder.Extra Tryz.prog Tryz.joinA_ren where
 sizeBuilder:=by kernel_rfl
 liesBuilder:=by kernel_rfl
 t5:=Tryz.underlying5
 a5:=Tryz.isAgg5
 z5:=Tryz.sizeOf5
 v5:=Tryz.zeroValue5
 infoByte:=by kernel_rfl
 cellsByte:=by kernel_rfl
 sizeByte:=by kernel_rfl
 neB5:=by decide
section
variable {F L:List aE}{H:aD}{K:KE}
theorem Join_spec{a:KQ}{c:Nat}{xs:List Fa}(h:aA H L)(f:aP H a (xs.map λs=>.string s))(h0:0<xs.length)(y:xs.length<=1000000)(u:xs.length<=c)
  (i:(Go.Lib.join (xs.map aX) [44]).length<=1000000000)
  (k:∀m,aA m L->K (.string ⟨(Go.Lib.join (xs.map aX) [44]).toArray⟩) m):CF 289 #[.slice a xs.length c,.string ⟨#[44]⟩] H K:=by
 refine .mk λw n=>?_
 subst n;have hs:=rdS_some f (by simpa using h0);rw[hs]at f ⊢;have b:∀(j:Nat) x,xs[j]?=some x->w.cell? ⟨aU a,aS a+j,none⟩=some (.string x):=by
  intro j x t;rw[cell?_cellAt];exact (f j (.string x) (by rw[fM,List.getElem?_map,t];rfl)).2
 have d:aU a<w.heap.size:=by
  have:=b 0 xs[0] (List.getElem?_eq_getElem h0);rw[cell?_cellAt]at this;unfold aL at this
  cases e:w.heap[aU a]? with
  | none=>rw[e]at this;cases this
  | some o=>exact (Array.getElem?_eq_some_iff.1 e).1
 refine jh (Any.strings_Join Tryz.joinA Tryz.joinX (aU a) (aS a) c xs ⟨#[44]⟩ w b d (by omega) u (by show (Go.Lib.join (xs.map aX) [44]).length<=_;omega)) ?_;rintro e v ⟨rfl,hb⟩;exact⟨_,rfl,tz hb,k _ (h.grow (rC hb))⟩
theorem sl294:SlT Tryz.prog 408 9 1 16:=iO (by kernel_rfl)
theorem RY{name:Fa}{a:KQ}{c:Nat}{labs:List bS}(h:aA H F)(C:∀H,aA H F->aP H a (flat df labs))
  (k:∀s,aA s F->K (.string (gh name labs)) s):CF 239 #[.agg #[.string name,.slice a labs.length c]] H K:=by
 refine O5 ?_;refine h.al λb _ h=>?_
 refine⟨_,_,_,_,h.q 0,?_⟩;refine qF h (λH h=>C H h.tl) λD h=>⟨_,rfl,λf=>?_,λf=>?_⟩
 .have:gh name labs=⟨#[]⟩:=by unfold gh;rw[Vs (by simpa using f)]
  rw[<-this];exact k _ h.tl
 .simp only[Wd]at f;have n:=mI f;refine⟨_,_,_,h.r 0,λm=>?_,λm=>?_⟩
  .have m:=Vw m;have O:labs=[]:=W6.1 (by omega);refine⟨_,h.r 0,?_⟩;have:gh name labs=name:=by unfold gh;rw[Vt f,Vt O]
   rw[<-this];exact k _ h.tl
  .have m:=Vx m;have J:=n.len;refine⟨_,_,_,h.r 0,?_⟩;refine h.mk1 sl294 (z0:=.string ⟨#[]⟩) (by kernel_rfl) (by kernel_rfl) (by omega) (by omega) λpa R h=>?_
   refine⟨_,_,_,rfl,_,_,_,h.r 1,?_⟩;refine⟨λi s=>∃j:Nat,i=j/\j<=labs.length/\aA s (slA 9 1 pa labs.length labs.length ((labs.take j).map (λl=>.string (fA l))++List.replicate (labs.length-j) (Value.string ⟨#[]⟩))::cellsA b [.string name,.slice a labs.length c] 79::F),
    λi _=>labs.length-i.toNat,⟨0,rfl,by omega,by simpa using h⟩,?_⟩
   rintro i D ⟨j,rfl,E,h⟩;refine⟨λf=>?_,λf=>?_⟩
   .have d:j<labs.length:=by have:=Vw f;omega
    have B:=C _ h.tl.tl;have P:=sf (n.val _ (V7 d));refine⟨by omega,_,_,B.some iU (by omega) d,_,_,B.els iU d,?_⟩;refine h.al λb2 _ h=>?_
    refine h.st 0 rfl rfl ?_;intro T h;refine⟨_,h.r 0,?_,_,h.r 0,?_,by omega,?_⟩
    .show (((labs[j].name.size+1:Nat)):Int)<=9223372036854775807;omega
    .show ((((labs[j].name++(⟨#[61]⟩:Fa)).size+labs[j].value.size:Nat)):Int)<=9223372036854775807;rw[sd];show ((labs[j].name.size+1+labs[j].value.size:Nat):Int)<=9223372036854775807;omega
    .have t:((labs.take j).map (λl=>Value.string (fA l))++List.replicate (labs.length-j) (Value.string ⟨#[]⟩)).length=labs.length:=by
      rw[Vv,V8,VM,List.length_replicate];omega
     obtain⟨I,G,y⟩:=h.sl_set 1 rfl j [.string (fA labs[j])] (by rw[t];simp;omega) (by simp);rw[RT (λl=>Value.string (fA l)) _ labs j d]at y
     rw[V4];refine⟨_,_,I,G,?_⟩;intro S L;rw[aK (x:=(j:Int)+1)];refine⟨⟨j+1,by omega,d,?_⟩,by dsimp only;omega⟩;rw[L];exact y.tl
   .have u:labs.length<=j:=by have:=Vx f;omega
    have e1:labs.take j=labs:=VR u;have e2:labs.length-j=0:=by omega
    rw[e1,e2,List.replicate_zero,VT]at h;have E:=joinL_le n.val;have M:=RV (labs:=labs);have N:=se n.named;refine⟨_,h.r 1,?_,?_⟩
    .show (((name.size+1:Nat)):Int)<=9223372036854775807;omega
    have w:=h.sl_rd 0 rfl;have v:(labs.map fA).length=labs.length:=V8 ..;rw[<-v];refine Join_spec (xs:=labs.map fA) h (by rw[Wh];exact w) (by omega) (by omega) (by omega) (by omega) λQ h=>⟨_,rfl,h.r 1,?_,?_,?_⟩
    .show (((name++(⟨#[123]⟩:Fa)).size+(kh labs).size:Nat):Int)<=9223372036854775807;rw[sd];show (((name.size+1)+(kh labs).size:Nat):Int)<=9223372036854775807;omega
    .show ((((name++(⟨#[123]⟩:Fa))++kh labs).size+1:Nat):Int)<=9223372036854775807;rw[sd,sd];show (((name.size+1)+(kh labs).size+1:Nat):Int)<=9223372036854775807;omega
    .have:gh name labs=((name++(⟨#[123]⟩:Fa))++kh labs)++(⟨#[125]⟩:Fa):=by
      unfold gh;rw[Vt ‹_›,Vs (by intro e;rw[e]at m;simp at m)]
     have A:=k _ h.tl.tl;rw[this]at A;exact A
end
theorem Ah{α:Type}{p:α->Bool}:∀{l:List α} {j:Nat},(∀i (h:i<l.length),i<j->p l[i]=true)->(∀h:j<l.length,p l[j]=false)->l.takeWhile p=l.take j
 | [],j,_,_=>by simp
 | a::r,0,_,h2=>by
  have:p a=false:=h2 (by simp);simp[List.takeWhile,this]
 | a::r,j+1,h1,h2=>by
  have e:p a=true:=h1 0 (by simp) (by omega);simp only[List.takeWhile,e,WA];rw[Ah (λi h hi=>h1 (i+1) (by simpa using h) (by omega)) λh=>h2 (by simpa using h)]
theorem RZ(m:CM)(l r:List Ot):lM m (l++r)=lM (lM m l) r:=by unfold lM;rw[WF]
section
variable {sb mb:Nat}{most:Int}{m:CM}{F L:List aE}{H:aD}{K:KE}
def clA(sb mb b b1 b2 l:Nat)(most:Int)(m:CM)(before:Int)(R:Loop)(j:Nat)(p:Prop):aE:=exS λq:KQ×Nat=>
 star [cellsA b [PA sb 0] 141,cellsA b1 [aC before] 2,cellsA b2 [.slice q.1 ((bA m).take j).length q.2] 143,slA 164 74 q.1 ((bA m).take j).length q.2 (flat cJ ((bA m).take j)),
  shC sb mb most,cz mb (lM m ((bA m).take j)),pt l (.loop R),pur p]
abbrev uk(m:CM)(before:Int)(j:Nat):Prop:=∀i (h:i<(bA m).length),i<j->(bA m)[i].1.win<before
theorem Sa(L:m.length<=1000000){d:Int}(h:aA H (shC sb mb most::cz mb m::F))
  (k:∀a c v,aA v (slA 164 74 a (iC m d).length c (flat cJ (iC m d))::shC sb mb most::cz mb (nP m d)::F)->K (.slice a (iC m d).length c) v) :
  CF 159 #[PA sb 0,aC d] H K:=by
 refine OB ?_;have Q:(bA m).length=m.length:=uj m;refine h.al λb _ h=>h.al λb1 _ h=>h.al λb2 _ h=>⟨_,h.r 2,?_⟩
 refine IH h λc0 n h=>⟨_,_,rfl,rfl,λR t u J=>?_⟩
 have h:=h.rng R;have h:=h.sl_nil 164 74;refine II (m:=m) (sb:=sb) (mb:=mb) (most:=most) L (λj=>clA sb mb b b1 b2 (n.size+1) most m d R j (uk m d j))
  (λj=>clA sb mb b b1 b2 (n.size+1) most m d { R with state:=.done,pending:=some (.exit 0) } j (uk m d j/\∀h:j<(bA m).length,¬(bA m)[j].1.win<d))
  (star [slA 164 74 none 0 0 [],cellsA b2 [.slice none 0 0] 143,cellsA b1 [aC d] 2,cellsA b [PA sb 0] 141,pt (n.size+1) (.loop R)]) (F:=pt n.size (.deferred (some []))::F) ?_ ?_ ?_ ?_ ?_
 .have h:=aA.shut [_,_,_,_,_] (h.o [0,4,5,6,1,3,7,8,2] 9);exact h.o [1,2,3,0,4] 5
 .intro G v h;have h:=(aA.open (A:=[_,_,_,_,_]) (h.o [2,0,1] 3)).pur (p:=uk m d 0) (λi _ hi=>Vu hi (Nat.not_lt_zero i))
  exact cK.2 ⟨(none,0),aA.shut [_,_,_,_,_,_,_,_] (h.o [4,3,2,1,6,7,5,0] 8)⟩
 .intro j y G w T h N S;obtain⟨⟨a,c⟩,h⟩:=cK.1 h;have h:=aA.open (A:=[_,_,_,_,_,_,_,_]) h;have f:=(aA.consP (h.o [7] 8)).1;refine J _ _ _ ?_;refine⟨_,_,_,_,_,_,_,_,_,_,rfl,h.getO 6 rfl,?_⟩;refine h.al λb3 _ h=>?_
  refine h.sta 0 rfl rfl λZ h=>?_
  refine h.al λb4 _ h=>?_
  refine h.sta 0 rfl (by rw[kV];exact (kV Cl.z).symm) λH4 h=>⟨h.getO 8 rfl,h.stl 8 rfl λW h=>?_⟩
  refine⟨_,h.r 1,_,h.r 3,λs=>?_,λs=>?_⟩
  .have E:=Vw s;refine⟨h.getO 8 rfl,S _ ?_⟩;have h:=h.setO 8 rfl (.loop { R with state:=.done,pending:=some (.exit 0) });have e:uk m d j/\∀h:j<(bA m).length,¬(bA m)[j].1.win<d:=⟨f,λ_=>by omega⟩
   have h:=(h.o [2,3,4,5,6,7,8] 10).pur e;exact cK.2 ⟨(a,c),aA.shut [_,_,_,_,_,_,_,_] (h.o [1,2,3,4,5,6,7,0] 8)⟩
  .have O:=Vx s;refine⟨_,_,_,h.r 4,_,_,h.rda 1 rfl,_,_,_,_,_,_,_,_,h.rda 0 rfl,?_⟩;rintro b5 _ rfl rfl;have M:((bA m).take j).length<=1000000:=by rw[VM];omega
   refine h.append1 (ws:=cJ (bA m)[j]) sl86 5 rfl (iV _) (rY _) (by omega) (by omega) λP I Y h=>⟨_,_,_,rfl,?_⟩
   refine h.sta 4 rfl rfl λU h=>⟨_,h.r 2,cZ ⟨_,h.r 6,_,_,h.rda 1 rfl,?_⟩⟩
   refine h.mp_delete (x:=(bA m)[j].1) mtC koK 7 rfl λV h=>⟨h.getO 8 rfl,N _ ?_⟩
   have h:=h.setO 8 rfl (.loop R);have e:uk m d (j+1):=λi hi D=>by
    rcases VO i j with B|B
    .exact f i hi B
    .obtain rfl:i=j:=by omega
     omega
   have h:=(h.o [2,3,4,5,6,7,8] 10).pur e;refine cK.2 ⟨(P,I),aA.shut [_,_,_,_,_,_,_,_] ?_⟩;rw[Wf y,dS,nB,RZ,Vv];exact h.o [1,2,3,4,5,6,7,0] 8
 .intro w h;obtain⟨⟨a,c⟩,h⟩:=cK.1 h;have h:=aA.open (A:=[_,_,_,_,_,_,_,_]) h;have f:=(aA.consP (h.o [7] 8)).1;have ec:iC m d=(bA m).take (bA m).length:=Ah (λi h hi=>VF (f i h hi)) λh=>Vu h (Nat.lt_irrefl _)
  unfold nP at k;rw[ec]at k;refine⟨.ready,none,by decide,by rw[nD t u];exact h.getO 6 rfl,h.stl 6 rfl λC h=>.inl ⟨rfl,?_⟩⟩
  refine⟨_,_,_,h.r 2,h.getO 8 rfl,?_⟩;have h:=h.setO 8 rfl (.deferred none);exact k a c _ (h.o [3,4,5] 9)
 .intro j w y h;obtain⟨⟨a,c⟩,h⟩:=cK.1 h;have h:=aA.open (A:=[_,_,_,_,_,_,_,_]) h;have f:=(aA.consP (h.o [7] 8)).1;have ec:iC m d=(bA m).take j:=Ah (λi h hi=>VF (f.1 i h hi)) λh=>Wj (f.2 h)
  unfold nP at k;rw[ec]at k;refine⟨.done,some (.exit 0),by decide,h.getO 6 rfl,h.stl 6 rfl λC h=>.inr ⟨rfl,?_⟩⟩
  refine⟨_,_,_,h.r 2,h.getO 8 rfl,?_⟩;have h:=h.setO 8 rfl (.deferred none);exact k a c _ (h.o [3,4,5] 9)
end
def wNat(z:Int)(p:Nat):Nat:=if p<8 then (cx z%B64).toNat/2^(8*(7-p))%256 else (wlo z).toNat/2^(8*(15-p))%256
def dN(z:Int):List Int:=(List.range 16).map λp=>(wNat z p:Int)
def il(z:Int)(t:Nat):List Int:=(List.range 16).map λp=>if (p<=7/\7<p+t)\/(8<=p/\15<p+t) then (wNat z p:Int) else 0
theorem Sb(z:Int)(t:Nat):(il z t).length=16:=by simp[il]
theorem sg(z:Int):(dN z).length=16:=by simp[dN]
theorem Sc(z:Int):aH (dN z):=by
 intro x a;obtain⟨p,_,rfl⟩:=V3.1 a;unfold wNat
 split <;> omega
theorem Sd(z:Int):il z 0=List.replicate 16 0:=by
 refine Wx (by simp[il]) λi a b=>?_
 have:i<16:=by simpa[il] using a
 simp only[il,Wp,Y8,List.getElem_replicate];rw[nO]
theorem Se(z:Int):il z 8=dN z:=by
 refine Wx (by simp[il,dN]) λi a b=>?_
 have:i<16:=by simpa[il] using a
 simp only[il,dN,Wp,Y8];rw[pO]
theorem Sf(z:Int){t:Nat}(b:t<8):((il z t).set (7-t) (wNat z (7-t):Int)).set (15-t) (wNat z (15-t):Int)=il z (t+1):=by
 refine Wx (by simp[il]) λi a c=>?_
 have hi:i<16:=by simpa[il] using a
 simp only[List.getElem_set,il,Wp,Y8]
 by_cases e1:15-t=i
 .rw [Vt e1,pO,e1]
 .rw [Vs e1]
  by_cases e2:7-t=i
  .rw [Vt e2,pO,e2]
  .rw [Vs e2]
   by_cases e3:(i<=7/\7<i+t)\/(8<=i/\15<i+t)
   .rw [Vt e3,pO]
   .rw [Vs e3,nO]
def kj(l:List Int):Nat:=l.foldl (λa b=>a*256%18446744073709551616+b.toNat) 0
theorem wM(l:List Int)(b:Int):kj (l++[b])=kj l*256%18446744073709551616+b.toNat:=by unfold kj;rw[WF];rfl
theorem IM{l:List Int}(h:aH l):kj l<18446744073709551616:=by
 rcases Y1 l with rfl|⟨r,b,rfl⟩
 .exact Yg rfl
 .rw [Y2]at h ⊢;rw[wM];have:=h b (by simp);omega
def jn(bs:List Int):Int:=i64.wrap (kj (bs.take 8):Nat)*B64+(kj (bs.drop 8):Nat)
theorem IP{a:Nat}{b:Int}(h0:0<=b)(d:b<256):aY .or .u64 (u64.wrap ((a:Int)*2^(min (Int.toNat 8) (u64.bits)))) (u64.wrap b)=((a*256%18446744073709551616+b.toNat:Nat):Int):=by
 have e1:u64.wrap ((a:Int)*2^(min (Int.toNat 8) (u64.bits)))=((a*256%18446744073709551616:Nat):Int):=by
  show u64.wrap ((a:Int)*256)=_;rw[de];omega
 have e2:u64.wrap b=((b.toNat:Nat):Int):=by rw[de];omega
 rw[e1,e2,or64 (by omega) (by omega)];congr 1;have c:a*256%18446744073709551616=2^8*(a%72057594037927936):=by omega
 rw[c];exact (YA (by show b.toNat<256;omega) _).symm
theorem Sg{bs:List Int}(h:aH bs):cx (jn bs)=i64.wrap (kj (bs.take 8):Nat)/\wlo (jn bs)=(kj (bs.drop 8):Nat):=by
 have b:=IM (l:=bs.drop 8) λx a=>h x (W3 a)
 unfold jn cx wlo B64;generalize i64.wrap _=q;omega
theorem IQ(bs:List Int)(h:aH bs):fZ (jn bs):=by
 have c:=IM (l:=bs.drop 8) λx b=>h x (W3 b)
 have a:aF (i64.wrap (kj (bs.take 8):Nat)):=qo _;unfold aF at a;unfold jn fZ B64;omega
section
variable {F L:List aE}{H:aD}{K:KE}
theorem IR{x:Int}(h0:0<=x){t:Nat}(a:t<8):u8.wrap (Int.fdiv x (2^(min (Int.toNat (i64.wrap (8*(t:Int)))) (u64.bits))))=((x.toNat/2^(8*t)%256:Nat):Int):=by
 rw[aK (x:=8*(t:Int))];have e1:min (Int.toNat (8*(t:Int))) u64.bits=8*t:=by show min _ 64=_;omega
 obtain⟨n,rfl⟩:∃n:Nat,x=n:=⟨x.toNat,by omega⟩;rw[e1,rD,oT,V4]
theorem Si{z:Int}(w:fZ z)(h:aA H F)(k:∀a c f,aA f (slA 5 1 a 16 c ((dN z).map U8)::F)->K (.slice a 16 c) f) :
  CF 223 #[kU z] H K:=by
 refine O8 ?_;refine h.al λb _ h=>?_
 refine aA.mk1 (c:=16) sl32 (z0:=U8 0) (by kernel_rfl) rfl h (by decide) (by decide) λa u h=>⟨_,_,_,rfl,?_⟩
 have e0:List.replicate 16 (U8 0)=(il z 0).map U8:=by rw[Sd];rfl
 rw[e0]at h;refine⟨λi f=>∃t:Nat,i=t/\t<=8/\aA f (slA 5 1 a 16 16 ((il z t).map U8)::cellsA b [aC (cx z),.int .u64 (wlo z)] 157::F),λi _=>8-i.toNat,⟨0,rfl,by omega,h⟩,?_⟩
 rintro i s ⟨t,rfl,v,h⟩;refine⟨λj=>?_,λj=>?_⟩
 .have d:t<8:=by have:=Vw j;omega
  have e:((il z t).map U8).length=16:=by rw[V8,Sb]
  have e7:i64.wrap (7-(t:Int))=((7-t:Nat):Int):=by rw[aK];omega
  have e15:i64.wrap (15-(t:Int))=((15-t:Nat):Int):=by rw[aK];omega
  have e8:i64.wrap (8*(t:Int))=8*(t:Int):=aK;have m:u64.wrap (cx z)=cx z%B64:=de _;have hm:0<=cx z%B64:=by unfold B64;omega
  have q1:(cx z%B64).toNat/2^(8*t)%256=wNat z (7-t):=by unfold wNat;rw[pO,show 7-(7-t)=t by omega]
  have q2:(wlo z).toNat/2^(8*t)%256=wNat z (15-t):=by unfold wNat;rw[nO,show 15-(15-t)=t by omega]
  refine⟨_,h.r 1,by rw[e8];omega,?_⟩;rw[m,IR hm d,q1,e7,e15];obtain⟨s1,s2,s3⟩:=h.sl_set 0 rfl (7-t) [U8 (wNat z (7-t))] (by rw[e];simp;omega) (by simp);refine⟨⟨by omega,by omega⟩,_,_,s1,?_⟩;rw[V4];refine⟨s2,?_⟩;rintro y rfl;have h:=s3;refine⟨_,h.r 1,by rw[e8];omega,⟨by omega,by omega⟩,_,_,s1,?_⟩;rw[V4,IR (pj z).1 d,q2];obtain⟨_,t2,t3⟩:=h.sl_set 0 rfl (15-t) [U8 (wNat z (15-t))] (by rw[oe,e];show 15-t+1<=16;omega) (by simp);refine⟨t2,?_⟩;rintro x rfl;rw[show i64.wrap ((t:Int)+1)=((t+1:Nat):Int) by rw[aK];omega];refine⟨⟨t+1,rfl,d,?_⟩,by simp only[V4];omega⟩;have n:cv (cv ((il z t).map U8) (7-t) [U8 (wNat z (7-t))]) (15-t) [U8 (wNat z (15-t))]=(il z (t+1)).map U8:=by
   rw[<-Sf z d,Ye,Ye];rfl
  rw[<-n];exact t3
 .have:t=8:=by have:=Vx j;omega
  subst this;rw[Se]at h;exact k _ _ _ (h.o [0] 2)
theorem Sj{a:KQ}{c n:Nat}{bs:List Int}(x:bs.length=n)(hb:aH bs)(h:aA H F)(u:∀H,aA H F->aP H a (bs.map U8))(A:n<=1000000000)
  (k1:n≠16->∀f,aA f F->K (.tuple #[kU 0,.bool false]) f)
  (k2:n=16->∀f,aA f F->K (.tuple #[kU (jn bs),.bool true]) f):CF 301 #[.slice a n c] H K:=by
 subst x;refine Oi ?_;refine h.al λb _ h=>⟨λk=>?_,λk=>?_⟩
 .have m:bs.length≠16:=by
   intro e;rw[e]at k;simp at k
  refine h.sta 0 rfl rfl λv h=>⟨_,_,h.rda 0 rfl,k1 m _ h.tl⟩
 .have w:bs.length=16:=by simp at k;omega
  refine⟨λhi lo i f=>∃t:Nat,i=t/\t<=8/\hi=(kj (bs.take t):Nat)/\lo=(kj ((bs.drop 8).take t):Nat)/\aA f (cellsA b [aC 0,.int .u64 0] 157::F),λ_ _ i _=>8-i.toNat,⟨0,rfl,by omega,rfl,rfl,h⟩,?_⟩
  rintro hi lo i y ⟨t,rfl,B,rfl,rfl,h⟩;refine⟨λd=>?_,λd=>?_⟩
  .have s:t<8:=by have:=Vw d;omega
   have e8:i64.wrap (8+(t:Int))=((8+t:Nat):Int):=by rw[aK];omega
   have r1:=(u _ h.tl).at (j:=t) (by omega);have r2:=(u _ h.tl).at (j:=8+t) (by omega);have b1:=hb _ (V7 (show t<bs.length by omega));have b2:=hb _ (V7 (show 8+t<bs.length by omega));rw[e8];refine⟨by decide,⟨by omega,by omega⟩,_,_,r1.1,_,r1.2,by decide,⟨by omega,by omega⟩,_,_,r2.1,_,r2.2,?_⟩;dsimp only;rw[IP b1.1 b1.2,IP b2.1 b2.2];rw[show i64.wrap ((t:Int)+1)=((t+1:Nat):Int) by rw[aK];omega];refine⟨⟨t+1,rfl,s,?_,?_,h⟩,by simp only[V4];omega⟩
   .rw [Wf (by omega),wM]
   .have hd:t<(bs.drop 8).length:=by rw[VH];omega
    rw[Wf hd,wM,List.getElem_drop]
  .have:t=8:=by have:=Vx d;omega
   subst this;have e2:(bs.drop 8).take 8=bs.drop 8:=VR (by rw[VH];omega);rw[e2];obtain⟨w1,w2⟩:=Sg hb;rw[<-w1,<-w2];refine h.sta 0 rfl rfl λv h=>⟨_,_,h.rda 0 rfl,k2 w _ h.tl⟩
end
def gQ(h:Nat->Int)(n:Nat):List Nat:=(List.range n).flatMap λi=>if h i=0 then [] else [i,(h i).toNat]
theorem Ai(h:Nat->Int)(n:Nat):gQ h (n+1)=gQ h n++(if h n=0 then [] else [n,(h n).toNat]):=by
 unfold gQ;rw[List.range_succ,Ws];simp
theorem wN(h:Nat->Int):∀n,(gQ h n).length<=2*n
 | 0=>by simp[gQ]
 | n+1=>by
  rw[Ai,Vv];have:=wN h n
  split
  .simp only[VN];omega
  .simp only[V1,VN];omega
theorem IS{h:Nat->Int}(b:wfH h)(n:Nat)(c:n<=65):∀u∈gQ h n,u<18446744073709551616:=by
 intro u a;obtain⟨i,hi,a⟩:=Ya.1 a;have hi:=W2.1 hi;have:=b i (by omega);unfold aF at this
 split at a
 .cases a
 .rcases V9.1 a with rfl|a
  .omega
  .rw [V6]at a;omega
def dm(c:Cl):List Int:=if ge c then eJ [c.n.toNat,c.cer.toNat,c.pos.toNat]++cY [c.mn,c.mx]++dd (bF (dN c.sum))++eJ [(gQ c.h 65).length/2]++eJ (gQ c.h 65) else []
theorem Aj{c:Cl}(h:ge c=true):0<=c.n/\0<=c.cer/\0<=c.pos/\(∀i,i<65->0<=c.h i):=by
 unfold ge at h;simp only[Vz,VP,VB,V0]at h;obtain⟨⟨⟨⟨⟨⟨b,j⟩,d⟩,e⟩,a⟩,k⟩,f⟩:=h;exact⟨by omega,by omega,by omega,qB.1 a⟩
theorem Sk(c:Cl):aH (dm c):=by
 unfold dm
 split
 .exact dD (dD (dD (dD (zn _) (tT _)) (qu _)) (zn _)) (zn _)
 .exact kC
theorem nQ(l:List Int):(bF l).size=l.length:=Go.strOfNums_size l
theorem um{c:Cl}(wc:WC c):(dm c).length<=5000:=by
 unfold dm
 split
 .rename_i d;obtain⟨p1,p2,p3,p4⟩:=Aj d;have e:=wc.n;have b:=wc.cer;have i:=wc.pos;unfold aF at e b i;have l1:(eJ [c.n.toNat,c.cer.toNat,c.pos.toNat]).length<=30:=tU (by
   intro u a;simp only[V9,W1,or_false]at a;omega)
  have l2:=mB [c.mn,c.mx];have l3:(dd (bF (dN c.sum))).length<=26:=by
   have:=lI (s:=bF (dN c.sum)) (by rw[nQ,sg];decide);rw[nQ,sg]at this;omega
  have f:=wN c.h 65;have l4:(eJ [(gQ c.h 65).length/2]).length<=10:=tU (by
   intro u a;simp only[V9,W1,or_false]at a;omega)
  have j:=tU (IS wc.h 65 (V2 _));simp only[Vv,V1,VN]at *;omega
 .simp
theorem sl285:SlT Tryz.prog 398 155 1 8:=iO (by kernel_rfl)
abbrev U64(n:Nat):Value:=.int .u64 (n:Int)
section
variable {F L:List aE}{H:aD}{K:KE}
theorem wO{v:Int}(h0:0<=v)(h:aF v):u64.wrap v=((v.toNat:Nat):Int):=by unfold aF at h;rw[de];omega
theorem dq{a a2:KQ}{n c m c2 i:Nat}{x y:List Int}(h:aA H L)(j:aW i L=slA 5 1 a n c (x.map U8))(s:n=x.length)(hm:y.length=m)(f:aP H a2 (y.map U8))(t:x.length+y.length<=1000000000)
  (k:∀b d e,aA e (put i (slA 5 1 b (x++y).length d ((x++y).map U8)) L)->K (.slice b (x++y).length d) e) :
  cB Tryz.prog (Builtin.append_ #[43,43] 43 #[.slice a n c,.slice a2 m c2]) H K:=by
 subst s hm;refine h.append sl32 i j f (by simp) (El _ _) (by omega) (by omega) λb d e h=>?_
 have:=k b d e;rw[Vv,VJ]at this;exact this h
theorem IT{c:Cl}(wc:WC c)(h:aA H F)
  (k:∀a C V,aA V (slA 5 1 a (dm c).length C ((dm c).map U8)::F)->K (.slice a (dm c).length C) V) :
  CF 132 #[aggC c] H K:=by
 refine cL 132 (.r (.seq (.r (.cond (.r .no) .no)) (.r (.r (.r (.r (.seq (.r (.blk (.rng [sI,sI] [none] (.r .reg) (.blk .reg)))) (.r (.r .no))))))))) ?_;have e:=um wc;unfold dm at k e;refine h.al λb _ h=>⟨_,_,_,_,_,_,_,_,h.rda 0 rfl,?_⟩
 refine uh wc h λH1 h=>⟨_,rfl,λI=>?_,λI=>?_⟩
 .rw [Vs (by simpa using I)]at k;exact k none 0 _ (h.tl.sl_nil 5 1)
 have U:ge c=true:=by simpa using I
 rw[Vt U]at k e;obtain⟨p1,p2,p3,p4⟩:=Aj U;simp only[Vv]at e;have W:=wc.n;have v:=wc.cer;have x:=wc.pos;refine⟨_,h.r 0,_,h.r 0,_,h.r 0,?_⟩;dsimp only
 conv=>whnf
 rw[wO p1 W,wO p2 v,wO p3 x];unfold aF at W v x;refine h.al λb1 _ h=>?_
 refine qv (us:=[c.n.toNat,c.cer.toNat,c.pos.toNat]) h (λH h=>h.ce_rd 0 rfl) (by
   intro u L;simp only[V9,W1,or_false]at L;omega) (by simp) λa1 c1 H3 h=>⟨_,_,_,rfl,?_⟩
 refine⟨_,h.r 2,_,h.r 2,?_⟩;refine h.al λb2 _ h=>?_
 refine Gi (vs:=[c.mn,c.mx]) h (λH h=>h.ce_rd 0 rfl) (by simp) λa2 c2 H5 h=>⟨_,_,_,rfl,?_⟩
 refine dq h (i:=2) rfl rfl rfl (h.sl_rd 0 rfl) (by omega) λa3 c3 H6 h=>⟨_,_,_,rfl,?_⟩
 refine⟨_,_,h.rdv (l:=[_]) (vs:=[_,_]) 4 rfl rfl,?_⟩;refine Si wc.sum h λa4 c4 H7 h=>⟨_,_,_,rfl,?_⟩
 have hs:=oV (c:=c4) (bs:=dN c.sum) (slB_is (k:=0) (c:=c4) h |> λhh=>by
  rcases (kz (F:=star _) h).2 with ⟨E,_⟩|⟨b,pre,post,e',fr,E,_⟩
  .exact .inl E
  .exact .inr ⟨_,_,E⟩) (h.sl_rd 0 rfl)
 rw[sg]at hs;refine⟨_,hs,?_⟩;refine h.al λb3 _ h=>?_
 have J:(bF (dN c.sum)).size=16:=by rw[nQ,sg]
 have t:dC [bF (dN c.sum)]=dd (bF (dN c.sum)):=by simp[dC]
 have h4:(dd (bF (dN c.sum))).length<=26:=by have:=lI (s:=bF (dN c.sum)) (by omega);omega
 refine wr (ts:=[bF (dN c.sum)]) h (λH h=>h.ce_rd 0 rfl) (λi=>by
   rcases Yp i with rfl|hi
   .simp [dC]
   .rw [VR (show [bF (dN c.sum)].length<=i from hi),t];omega) (by intro s B;rw[V6]at B;rw[B,J];decide) (by simp) λa5 c5 H9 h=>⟨_,_,_,rfl,?_⟩
 rw[t]at h ⊢;refine dq h (i:=5) rfl rfl rfl (h.sl_rd 0 rfl) (by simp only[Vv];omega) λa6 c6 h5 h=>⟨_,_,_,rfl,?_⟩
 refine h.al λb4 _ h=>⟨c.h,h.rdt (l:=[_,_,_,_,_,_,_]) 8 rfl rfl,?_⟩
 have h:=h.o [0,6] 9;refine I5 h λfb y h=>⟨_,_,rfl,rfl,λR O S hy=>?_⟩
 have h:=h.rng R;have h:=h.sl_nil 155 1;refine I6 (f:=c.h) (λj=>exS λp:KQ×Nat=>star [cellsA b4 [.slice p.1 (gQ c.h j).length p.2] 398,slA 155 1 p.1 (gQ c.h j).length p.2 ((gQ c.h j).map U64),pt (y.size+1) (.loop R)]) (pur False)
  (F:=pt y.size (.deferred (some []))::slA 5 1 a6 (eJ [c.n.toNat,c.cer.toNat,c.pos.toNat]++cY [c.mn,c.mx]++dd (bF (dN c.sum))).length c6 ((eJ [c.n.toNat,c.cer.toNat,c.pos.toNat]++cY [c.mn,c.mx]++dd (bF (dN c.sum))).map U8)::F) ?_ ?_ ?_ ?_ ?_
 .exact cK.2 ⟨(none,0),aA.shut [_,_,_] (h.o [4,0,1,3,2,5] 6)⟩
 .intro j D hz;rw[show gQ c.h (j+1)=gQ c.h j by rw[Ai,Vt hz,VT]]
 .intro j D P G w K1 h kt _;obtain⟨⟨a,C⟩,h⟩:=cK.1 h;have h:=aA.open (A:=[_,_,_]) h;refine hy _ _ _ ?_;have Q:=wN c.h j;have N:=wc.h j D;have T:=p4 j D;refine⟨_,_,rfl,h.getO 2 rfl,h.getO 2 rfl,h.stl 2 rfl λh3 h=>⟨_,_,_,h.r 0,?_⟩⟩
  conv=>whnf
  rw[wO T N,u64n (show j<18446744073709551616 by omega)];refine h.al λb5 _ h=>?_
  refine h.append (m:=2) (ws:=[U64 j,U64 (c.h j).toNat]) sl285 2 rfl (h.ce_rd 0 rfl) rfl rfl (by omega) (by omega) λa' M h9 h=>⟨_,_,_,rfl,?_⟩
  refine h.sta 1 rfl rfl λh7 h=>⟨h.getO 3 rfl,kt _ ?_⟩
  have h:=h.setO 3 rfl (.loop R);refine cK.2 ⟨(a',M),aA.shut [_,_,_] ?_⟩;rw[Ai,Vs P,Vv,VJ];exact h.o [1,2,3] 4
 .intro w h;obtain⟨⟨a,C⟩,h⟩:=cK.1 h;have h:=aA.open (A:=[_,_,_]) h;refine⟨.ready,none,by decide,by rw[nD O S];exact h.getO 2 rfl,h.stl 2 rfl λh0 h=>⟨rfl,?_⟩⟩
  refine⟨_,_,_,h.r 0,by decide,?_⟩;have Q:=wN c.h 65;have d:u64.wrap (i64.wrap (Int.tdiv ((gQ c.h 65).length:Int) 2))=(((gQ c.h 65).length/2:Nat):Int):=by
   rw[show Int.tdiv ((gQ c.h 65).length:Int) 2=(((gQ c.h 65).length/2:Nat):Int) from rfl,aK,u64n (by omega)]
  conv=>whnf
  rw[d];refine h.al λb6 _ h=>?_
  refine qv (us:=[(gQ c.h 65).length/2]) h (λH h=>h.ce_rd 0 rfl) (by
    intro u L;rw[V6]at L;omega) (by simp) λa7 c7 Z h=>⟨_,_,_,rfl,?_⟩
  refine dq h (i:=7) rfl rfl rfl (h.sl_rd 0 rfl) (by simp only[Vv];omega) λa8 c8 h1 h=>⟨_,_,_,rfl,?_⟩
  refine⟨_,_,_,h.r 2,?_⟩;refine qv (us:=gQ c.h 65) h (λH h=>h.sl_rd 3 rfl) (IS wc.h 65 (V2 _)) (by omega) λa9 c9 Y h=>⟨_,_,_,rfl,?_⟩
  refine dq h (i:=8) rfl rfl rfl (h.sl_rd 0 rfl) (by simp only[Vv];omega) λj1 h8 h6 h=>⟨_,_,_,rfl,h.getO 7 rfl,?_⟩
  have h:=h.setO 7 rfl (.deferred none);exact k _ _ _ (h.o [8] 9)
 .intro w h;exact (aA.consP h).1.elim
end
abbrev iW(l:bS):List Int:=dd l.name++dd l.value
def serB(name:Fa)(labs:List bS):List Int:=(dd name++bR labs.length)++labs.flatMap iW
def iX(name:Fa)(labs:List bS):List Int:=if fx name labs then serB name labs else []
theorem Sl(name:Fa)(labs:List bS):aH (serB name labs):=
 dD (dD (qu _) (oS _)) (j0 λ_ _=>dD (qu _) (qu _))
theorem Ak(name:Fa)(labs:List bS):aH (iX name labs):=by
 unfold iX;split
 .exact Sl _ _
 .exact kC
theorem IU(s:Fa):dC [s]=dd s:=by simp[dC]
theorem wP(n:Nat):eJ [n]=bR n:=by simp[eJ]
theorem IV(l:bS):dC [l.name,l.value]=iW l:=by simp[dC,iW]
theorem IW{l:bS}(h:ik l=true):(iW l).length<=148:=by
 have:=sf h;have a:=lI (s:=l.name) (by omega);have b:=lI (s:=l.value) (by omega);rw[Vv];omega
theorem IY{labs:List bS}:(∀l∈labs,ik l=true)->(labs.flatMap iW).length<=148*labs.length:=by
 induction labs with
 | nil=>intro _;simp
 | cons a l ih=>
  intro h;have c:=ih λx b=>h x (VD _ b)
  have d:=IW (h a (VA ..));rw[VU,Vv,V1];omega
def dJ:Nat->RS->List bS×RS
 | 0,s=>([],s)
 | n+1,s=>((dJ n s).1++[⟨bF (aZ 64 (dJ n s).2).1,bF (aZ 64 (aZ 64 (dJ n s).2).2).1⟩],(aZ 64 (aZ 64 (dJ n s).2).2).2)
structure SRes where
 name:Fa
 labs:List bS
 e:Int
 rest:RS
def cO(s:RS):SRes:=
 if (dJ (bY 8 (aZ 64 s).2).1.toNat (bY 8 (aZ 64 s).2).2).2.e≠0 then ⟨⟨#[]⟩,[],(dJ (bY 8 (aZ 64 s).2).1.toNat (bY 8 (aZ 64 s).2).2).2.e,(dJ (bY 8 (aZ 64 s).2).1.toNat (bY 8 (aZ 64 s).2).2).2⟩
 else if fx (bF (aZ 64 s).1) (dJ (bY 8 (aZ 64 s).2).1.toNat (bY 8 (aZ 64 s).2).2).1 then ⟨bF (aZ 64 s).1,(dJ (bY 8 (aZ 64 s).2).1.toNat (bY 8 (aZ 64 s).2).2).1,0,(dJ (bY 8 (aZ 64 s).2).1.toNat (bY 8 (aZ 64 s).2).2).2⟩
 else ⟨⟨#[]⟩,[],10,(dJ (bY 8 (aZ 64 s).2).1.toNat (bY 8 (aZ 64 s).2).2).2⟩
theorem Am{s:RS}(h:aH s.bs):∀n,aH (dJ n s).2.bs
 | 0=>h
 | n+1=>(lJ (lJ (Am h n)).1).1
theorem An(s:RS):∀n,(dJ n s).2.bs.length<=s.bs.length
 | 0=>V2 _
 | n+1=>VI (mC _ _).1 (VI (mC _ _).1 (An s n))
theorem Ao(s:RS):∀n,(dJ n s).1.length=n
 | 0=>rfl
 | n+1=>by unfold dJ;rw[Vv,Ao s n];rfl
theorem IZ(s:RS):0<=(bY 8 s).1/\(bY 8 s).1<=8:=by
 unfold bY
 split
 .dsimp only;omega
 .split
  .split
   .dsimp only;omega
   .dsimp only;omega
  .dsimp only;omega
  .dsimp only;omega
theorem Ap{s:RS}(h:aH s.bs):aH (cO s).rest.bs:=by
 have:=Am (rQ (m:=8) (lJ (m:=64) h).1) (bY 8 (aZ 64 s).2).1.toNat
 unfold cO;split
 .exact this
 .split <;> exact this
theorem Aq(s:RS):(cO s).rest.bs.length<=s.bs.length:=by
 have:=An (bY 8 (aZ 64 s).2).2 (bY 8 (aZ 64 s).2).1.toNat
 have b:=rR (aZ 64 s).2 8;have a:=(mC s 64).1;unfold cO;split
 .dsimp only;omega
 .split <;> dsimp only <;> omega
theorem Ja{s:RS}(h:(cO s).e=0):fx (cO s).name (cO s).labs=true:=by
 unfold cO at h ⊢
 split at h
 .rename_i a;exact Vu h a
 .rename_i a;rw[Vs a]
  split at h
  .rename_i b;rw[Vt b];exact b
  .simp at h
theorem Jb{name:Fa}{labs:List bS}(h:RightP name labs):(serB name labs).length<=1300:=by
 have c:=se h.named;have e:=lI (s:=name) (by omega);have d:=ol (u:=labs.length) (by have:=h.len;omega);have a:=IY h.val;have b:=h.len;unfold serB;rw[Vv,Vv];omega
theorem wQ(name:Fa)(labs:List bS):(iX name labs).length<=1300:=by
 unfold iX;split
 .rename_i h;exact Jb (mI h)
 .simp
section
variable {F L:List aE}{H:aD}{K:KE}
theorem wR{a:KQ}{c:Nat}{s:Fa}(h:aA H F)(j:∀H,aA H F->aP H a [.string s])(hs:s.size<=100000000)
  (k:∀b d e,aA e (slA 5 1 b (dd s).length d ((dd s).map U8)::F)->K (.slice b (dd s).length d) e) :
  CF 131 #[.slice a 1 c] H K:=by
 have m:=lI (s:=s) (by omega);refine wr (ts:=[s]) h j (λi=>?_) (λx f=>by rw[V6]at f;subst f;omega) (by simp) ?_
 .rcases Yp i with rfl|hi
  .simp [dC]
  .rw [VR (show [s].length<=i from hi),IU];omega
 .rw [IU];exact k
theorem Ar{name:Fa}{a:KQ}{c:Nat}{labs:List bS}(h:aA H F)(G:∀H,aA H F->aP H a (flat df labs))
  (k:∀v t w,aA w (slA 5 1 v (iX name labs).length t ((iX name labs).map U8)::F)->K (.slice v (iX name labs).length t) w) :
  CF 178 #[.agg #[.string name,.slice a labs.length c]] H K:=by
 refine cN 178 0x1d2821561239925144c [[(3,sS),(23,sI)],[(3,sS)]] ?_;refine h.al λb _ h=>?_
 refine⟨_,_,_,_,h.q 0,?_⟩;refine qF h (λH h=>G H h.tl) λJ h=>⟨_,rfl,λf=>?_,λf=>?_⟩
 .have e:iX name labs=[]:=by unfold iX;rw[Vs (by simpa using f)]
  rw[e]at k;exact k none 0 _ (h.tl.sl_nil 5 1)
 .simp only[Wd]at f;have n:=mI f;have e:iX name labs=serB name labs:=by unfold iX;rw[Vt f]
  rw[e]at k;have h8:=n.len;have T:=se n.named;have M:=Jb n;have Y:=lI (s:=name) (by omega);have W:=ol (u:=labs.length) (by omega);intro S R;have m:∀(ba:KQ) (bc:Nat) B,aA B (slA 5 1 ba (dd name++bR labs.length).length bc ((dd name++bR labs.length).map U8)::cellsA b [.string name,.slice a labs.length c] 79::F)->S ba (dd name++bR labs.length).length bc B:=by
   intro ba bc B h;refine R _ _ _ _ ?_;refine⟨_,_,_,h.r 1,?_⟩;refine⟨λv L t i w=>∃j:Nat,i=j/\j<=labs.length/\L=((dd name++bR labs.length)++(labs.take j).flatMap iW).length/\
    aA w (slA 5 1 v ((dd name++bR labs.length)++(labs.take j).flatMap iW).length t (((dd name++bR labs.length)++(labs.take j).flatMap iW).map U8)::cellsA b [.string name,.slice a labs.length c] 79::F),
    λ_ _ _ i _=>labs.length-i.toNat,⟨0,rfl,by omega,by simp,by simpa using h⟩,?_⟩
   rintro a1 n1 c1 i J ⟨j,rfl,U,rfl,h⟩;refine⟨λf=>?_,λf=>?_⟩
   .have d:j<labs.length:=by have:=Vw f;omega
    have E:=G _ h.tl.tl;have V:=sf (n.val _ (V7 d));have O:=IW (n.val _ (V7 d));have N:=IY (labs:=labs.take j) λl P=>n.val l (Wo P)
    have Q:(labs.take j).length<=labs.length:=by rw[VM];omega
    refine⟨by omega,_,_,E.some iU (by omega) d,_,_,E.els iU d,?_⟩;refine h.al λb2 _ h=>?_
    refine h.st 0 rfl rfl ?_;intro C h;refine⟨_,h.r 0,_,h.r 0,?_⟩;refine h.al λb3 _ h=>?_
    refine wr (ts:=[labs[j].name,labs[j].value]) h (λH h=>h.ce_rd 0 rfl) (λi=>?_) ?_ (by simp) λv t Z h=>?_
    .have:(dC ([labs[j].name,labs[j].value].take i)).length<=(dC [labs[j].name,labs[j].value]).length:=by
      have:[labs[j].name,labs[j].value]=[labs[j].name,labs[j].value].take i++[labs[j].name,labs[j].value].drop i:=(Wl _ _).symm;rw[show (dC [labs[j].name,labs[j].value]).length=(dC ([labs[j].name,labs[j].value].take i++[labs[j].name,labs[j].value].drop i)).length by rw[<-this]];unfold dC;rw[Ws,Vv];omega
     rw[IV]at this;omega
    .intro s hs;simp only[V9,W1,or_false]at hs
     rcases hs with rfl|rfl <;> omega
    .rw [IV]at h ⊢;refine⟨_,_,_,rfl,?_⟩;refine dq h (i:=3) rfl rfl rfl (h.sl_rd 0 rfl) (by simp only[Vv]at *;omega) λa3 c3 A h=>⟨_,_,_,rfl,?_⟩
     conv=>whnf
     rw[aK (x:=(j:Int)+1)];have e5:((dd name++bR labs.length)++(labs.take (j+1)).flatMap iW)=((dd name++bR labs.length)++(labs.take j).flatMap iW)++iW labs[j]:=by
      rw[jQ d,V5 _ _ (iW labs[j])]
     refine⟨⟨j+1,by omega,d,by rw[e5],?_⟩,by dsimp only;omega⟩;rw[e5];exact h.o [3,4] 5
   .have y:labs.length<=j:=by have:=Vx f;omega
    have e1:labs.take j=labs:=VR y;rw[e1]at h ⊢;exact k _ _ _ (h.o [0] 2)
  have I:u64.wrap ((labs.length:Nat):Int)=((labs.length:Nat):Int):=by rw[de];omega
  refine⟨_,h.r 0,_,_,_,h.r 0,?_⟩;dsimp only
  conv=>whnf
  rw[I];refine⟨?_,?_⟩
  .refine h.al λb4 _ h=>⟨h.r 1,?_,?_⟩
   .refine wR h (λH h=>h.ce_rd 0 rfl) (by omega) λa1 c1 C h=>⟨_,_,_,rfl,h.r 2,?_⟩
    refine h.al λb5 _ h=>?_
    refine qv (us:=[labs.length]) h (λH h=>h.ce_rd 0 rfl) (by simp;omega) (by simp) λa2 c2 D h=>⟨_,_,_,rfl,?_⟩
    rw[wP]at h ⊢;refine dq h (i:=2) rfl rfl rfl (h.sl_rd 0 rfl) (by omega) λa3 c3 A h=>⟨_,_,_,rfl,?_⟩
    exact m _ _ _ (h.o [2,4] 5)
   .refine h.al λb5 _ h=>?_
    refine wR h (λH h=>h.ce_rd 1 rfl) (by omega) λa1 c1 C h=>⟨_,_,_,rfl,?_⟩
    refine qv (us:=[labs.length]) h (λH h=>h.ce_rd 1 rfl) (by simp;omega) (by simp) λa2 c2 D h=>⟨_,_,_,rfl,?_⟩
    rw[wP]at h ⊢;refine dq h (i:=1) rfl rfl rfl (h.sl_rd 0 rfl) (by omega) λa3 c3 A h=>⟨_,_,_,rfl,?_⟩
    exact m _ _ _ (h.o [1,4] 5)
  .refine h.al λb5 _ h=>⟨h.r 1,?_⟩
   refine h.al λb4 _ h=>?_
   refine wR h (λH h=>h.ce_rd 0 rfl) (by omega) λa1 c1 C h=>⟨_,_,_,rfl,?_⟩
   refine qv (us:=[labs.length]) h (λH h=>h.ce_rd 2 rfl) (by simp;omega) (by simp) λa2 c2 D h=>⟨_,_,_,rfl,?_⟩
   rw[wP]at h ⊢;refine dq h (i:=1) rfl rfl rfl (h.sl_rd 0 rfl) (by omega) λa3 c3 A h=>⟨_,_,_,rfl,?_⟩
   exact m _ _ _ (h.o [1,4] 5)
theorem Jc{rb:Nat}{s:RS}(h:aA H (crdA rb s::F))(hb:aH s.bs)(S:s.bs.length<=1099511627776)
  (k:∀a c f,aA f (crdA rb (cO s).rest::slA 421 2 a (cO s).labs.length c (flat df (cO s).labs)::F)->
   K (.tuple #[.agg #[.string (cO s).name,.slice a (cO s).labs.length c],aC (cO s).e]) f):CF 253 #[PA rb 0] H K:=by
 refine cN 253 0x112156123992514421bdc [[(12,sI)]] ?_;refine h.al λb _ h=>?_
 have h:=h.o [1,0] 2;refine nK (most:=64) h hb S (by unfold aF;decide) λL h=>⟨_,rfl,?_⟩
 have v:=(lJ (m:=64) hb).1;have N:=(mC s 64).1;refine h.al λb1 _ h=>?_
 refine h.st 0 rfl rfl ?_;intro T h;have h:=h.o [1,0,2] 3;refine tO (most:=8) h v (by omega) (by unfold aF;decide) λH4 h=>⟨_,rfl,?_⟩
 have J:=rQ (m:=8) v;have Q:=rR (aZ 64 s).2 8;have U:=IZ (aZ 64 s).2;unfold cO at k;generalize hcr:bY 8 (aZ 64 s).2=C at *;obtain⟨cn,s1⟩:=C;dsimp only at *;obtain⟨n,rfl⟩:∃n:Nat,cn=n:=⟨cn.toNat,by omega⟩;rw[V4]at k;refine⟨λi f=>∃j:Nat,i=j/\j<=n/\∃a c,aA f (crdA rb (dJ j s1).2::slA 421 2 a j c (flat df (dJ j s1).1)::cellsA b1 [.string (bF (aZ 64 s).1),.slice a j c] 79::cellsA b [.string ⟨#[]⟩,.slice none 0 0] 79::F),
  λi _=>n-i.toNat,⟨0,rfl,by omega,none,0,((h.sl_nil 421 2).o [1,0,2,3] 4)⟩,?_⟩
 rintro i L ⟨j,rfl,W,a,c,h⟩;have t:=Am J j;have P:=An s1 j;refine⟨λy=>?_,λy=>?_⟩
 .have I:j<n:=by have:=Vw y;omega
  refine nK (most:=64) h t (by omega) (by unfold aF;decide) λH2 h=>⟨_,rfl,_,_,_,h.r 2,?_⟩
  have G:=(lJ (m:=64) t).1;have O:=(mC (dJ j s1).2 64).1;refine nK (most:=64) h G (by omega) (by unfold aF;decide) λT h=>⟨_,rfl,h.r 2,?_⟩
  refine h.al λb2 _ h=>⟨h.r 3,?_⟩
  have w:=Ao s1 j;refine h.append (m:=1) (ws:=df ⟨bF (aZ 64 (dJ j s1).2).1,bF (aZ 64 (aZ 64 (dJ j s1).2).2).1⟩) sl91 2 rfl (h.ce_rd 0 rfl) rfl (zZ _) (by omega) (by omega) λV R Z h=>⟨_,_,_,rfl,?_⟩
  refine h.st 3 rfl rfl ?_;intro B h
  conv=>whnf
  rw[aK (x:=(j:Int)+1)];refine⟨⟨j+1,by omega,I,V,R,?_⟩,by dsimp only;omega⟩;have e:flat df (dJ (j+1) s1).1=flat df (dJ j s1).1++df ⟨bF (aZ 64 (dJ j s1).2).1,bF (aZ 64 (aZ 64 (dJ j s1).2).2).1⟩:=by
   show flat df (_++[_])=_;rw[dS];simp[flat]
  rw[e];exact h.o [1,2,3,4] 5
 .have A:j=n:=by have:=Vx y;omega
  subst A;have w:=Ao s1 j;refine⟨_,mA h,λd=>?_,λd=>?_⟩
  .have d:(dJ j s1).2.e≠0:=by simpa using d
   rw[Vt d]at k;refine h.st 3 rfl rfl ?_;intro B h;refine⟨_,_,_,_,h.q 3,?_⟩;exact k none 0 _ (((h.sl_nil 421 2).o [1,0] 5))
  .have d:¬(dJ j s1).2.e≠0:=by simpa using d
   rw[Vs d]at k;refine⟨_,_,_,_,h.q 2,?_⟩;have M:CF 226 #[.agg #[.string (bF (aZ 64 s).1),.slice a (dJ j s1).1.length c]] L (λu f=>u=.bool (fx (bF (aZ 64 s).1) (dJ j s1).1)/\aA f (crdA rb (dJ j s1).2::slA 421 2 a j c (flat df (dJ j s1).1)::cellsA b1 [.string (bF (aZ 64 s).1),.slice a j c] 79::cellsA b [.string ⟨#[]⟩,.slice none 0 0] 79::F)):=
    qF h (λH h=>h.sl_rd 1 rfl) λf h=>⟨rfl,h⟩
   rw[w]at M;refine M.mono ?_;rintro u Y ⟨rfl,h⟩;refine⟨_,rfl,λE=>?_,λE=>?_⟩
   .rw [Vs (by simpa using E)]at k;refine h.st 3 rfl rfl ?_;intro B h;refine⟨_,_,_,_,h.q 3,?_⟩;exact k none 0 _ (((h.sl_nil 421 2).o [1,0] 5))
   .rw [Vt (by simpa using E)]at k;refine⟨_,_,_,_,h.q 2,?_⟩;refine h.st 3 rfl rfl ?_;intro B h;refine⟨_,_,_,_,h.q 3,?_⟩;have D:=k a c _ (by dsimp only;rw[w];exact h.o [0,1] 4);dsimp only at D;rw[w]at D;exact D
end
def gi(c:UInt8)(s:Fa):Fa×Fa×Bool:=
 if 0<=cV c (aX s) then (s.extract 0 (cV c (aX s)).toNat,s.extract ((cV c (aX s)).toNat+1) s.size,true) else (s,⟨#[]⟩,false)
def mJ(c:UInt8)(s:Fa):Fa×Bool:=
 if decide (1<=s.size)&&((s.extract (s.size-1) s.size).toList == (⟨#[c]⟩:Fa).toList) then (s.extract 0 (s.size-1),true) else (s,false)
def iY:Nat->Fa->List Fa
 | 0,s=>[s]
 | n+1,s=>if cV 44 (aX s)<0 then [s] else s.extract 0 (cV 44 (aX s)).toNat::iY n (s.extract ((cV 44 (aX s)).toNat+1) s.size)
def gR(s:Fa):List Fa:=iY s.size s
def si(acc:Option (List bS))(p:Fa):Option (List bS):=match acc with
 | none=>none
 | some labs=>if (gi 61 p).2.2 && !decide (labs.length=8) then some (labs++[⟨(gi 61 p).1,(gi 61 p).2.1⟩]) else none
def kF(ps:List Fa):Option (List bS):=ps.foldl si (some [])
def im(t:Fa):Fa×List bS×Bool:=
 if (gi 123 t).2.2 then
  if (mJ 125 (gi 123 t).2.1).2 then match kF (gR (mJ 125 (gi 123 t).2.1).1) with
   | none=>(⟨#[]⟩,[],false)
   | some labs=>if fx (gi 123 t).1 labs then ((gi 123 t).1,labs,true) else (⟨#[]⟩,[],false)
  else (⟨#[]⟩,[],false)
 else if fx (gi 123 t).1 [] then ((gi 123 t).1,[],true) else (⟨#[]⟩,[],false)
theorem Jd(c:UInt8)(s:Fa):-1<=cV c (aX s)/\cV c (aX s)<s.size:=by
 have:=idxU_ge c (aX s);rw[kX]at this;exact this
theorem Sm(ps:List Fa):ps.foldl si none=none:=by
 induction ps with
 | nil=>rfl
 | cons p r ih=>exact ih
theorem So{ps:List Fa}{j:Nat}(h:j<ps.length):kF (ps.take (j+1))=si (kF (ps.take j)) ps[j]:=by
 unfold kF;rw[Wf h,WF];rfl
theorem Sp{ps:List Fa}{j:Nat}(h:kF (ps.take j)=none):kF ps=none:=by
 have:ps=ps.take j++ps.drop j:=(Wl _ _).symm;rw[this];unfold kF at h ⊢;rw[WF,h,Sm]
theorem Je:∀(n:Nat) (s p:Fa),p∈iY n s->p.size<=s.size
 | 0,s,p,h=>by
  have:p=s:=V6.1 h;subst this;exact V2 _
 | n+1,s,p,h=>by
  unfold iY at h
  split at h
  .have:p=s:=V6.1 h;subst this;exact V2 _
  .rcases V9.1 h with h|h
   .rw [h,ByteArray.size_extract];omega
   .have:=Je n _ p h;rw[ByteArray.size_extract,Nat.min_self]at this;omega
theorem Jf(n:Nat)(s:Fa):iY n s≠[]:=by
 cases n with
 | zero=>simp[iY]
 | succ n=>unfold iY;split <;> simp
section
variable {F L:List aE}{H:aD}{K:KE}
theorem Jg{s:Fa}{c:UInt8}(k:K (aC (cV c (aX s))) H):CF 348 #[.string s,.string ⟨#[c]⟩] H K:=by
 refine NZ ⟨λa=>?_,λa=>⟨λhd=>?_,λhd=>?_⟩⟩
 .simp only[VE,Vy]at a
  rcases a with a|a
  .exact Vu a (by show ¬((1:Int)=0);omega)
  .have e:(⟨#[c]⟩:Fa)=s:=ba_ext (by simpa using a);have:cV c (aX s)=0:=by
    rw[<-e];show cV c [c]=0;unfold cV;simp
   rw[<-this];exact k
 .refine⟨⟨by omega,by show (0:Int)<1;omega⟩,?_⟩;refine NV ⟨_,natIdx,_,rfl,?_⟩;have:(bAt (⟨#[c]⟩:Fa) 0).toNat.toUInt8=c:=by
   show ((c.toNat:Int)).toNat.toUInt8=c;simp
  rw[this];exact k
 .exact Vu (Vx hd) (by show ¬¬((1:Int)=1);omega)
theorem Jh{s:Fa}{c:UInt8}(hs:s.size<=1099511627776)(k:K (.tuple #[.string (gi c s).1,.string (gi c s).2.1,.bool (gi c s).2.2]) H) :
  CF 264 #[.string s,.string ⟨#[c]⟩] H K:=by
 refine Ow (Oh ?_);refine Jg ⟨_,rfl,λa=>?_,λa=>?_⟩
 .have a:=Vw a;have hi:=Jd c s;have b:i64.wrap (cV c (aX s)+(((⟨#[c]⟩:Fa).size:Nat):Int))=cV c (aX s)+1:=by
   show i64.wrap (cV c (aX s)+1)=_;rw[aK]
  rw[b];refine⟨by omega,by omega,_,_,_,rfl,?_⟩;unfold gi at k;rw[Vt a]at k;rw[show (cV c (aX s)+1).toNat=(cV c (aX s)).toNat+1 by omega];exact k
 .have a:=Vx a;unfold gi at k;rw[Vs a]at k;exact⟨_,_,_,rfl,k⟩
theorem Sq{s:Fa}{c:UInt8}(hs:s.size<=1099511627776):bX Tryz.prog 265 #[.string s,.string ⟨#[c]⟩] H (.tuple #[.string (mJ c s).1,.bool (mJ c s).2]):=by
 have e:(((⟨#[c]⟩:Fa).size:Nat):Int)=1:=rfl;have d:∀h:1<=s.size,i64.wrap ((s.size:Int)-1)=((s.size-1:Nat):Int):=λh=>by rw[aK];omega
 refine Ov ⟨_,_,Og ⟨decide (1<=s.size)&&((s.extract (s.size-1) s.size).toList == (⟨#[c]⟩:Fa).toList),NY ⟨λa=>?_,?_,rfl⟩,λa=>?_,λa=>?_⟩,rfl,rfl⟩
 .have a:=Vw a;rw[e]at a ⊢;rw[d (by omega)];omega
 .rw [e]
  by_cases b:1<=s.size
  .rw [d b,V4,VF b,VF (show (1:Int)<=s.size by omega)]
  .rw [Wj b,Wj (show ¬(1:Int)<=s.size by omega),Bool.false_and,Bool.false_and]
 .unfold mJ;rw[Vs (by rw[VP,]at a;rw[a];simp)];exact⟨rfl,rfl⟩
 .have a:(decide (1<=s.size)&&((s.extract (s.size-1) s.size).toList == (⟨#[c]⟩:Fa).toList))=true:=by simpa using a
  have b:1<=s.size:=by
   rw[Vz]at a;exact Vw a.1
  unfold mJ;rw[Vt a,e,d b];exact⟨by omega,rfl,rfl⟩
theorem Sr{l c0 c1 c2:Nat}{s:Fa}(hs:s.size<=1099511627776)(A:Nat->aE)(L:Nat->aE)
  (h:aA H (A 0::cellsA c0 [.string ⟨#[44]⟩] 9::cellsA c1 [.string s] 9::cellsA c2 [aC 0] 3::F))
  (M:∀j (Q:j<(gR s).length) (G:List aE) (i:aD) (x:KE),aA i (A j::G)->(∀d,aA d (A (j+1)::G)->x (.bool true) d)->(∀d,aA d (L j::G)->x (.bool false) d)->
   fJ Tryz.prog l [.string (gR s)[j]] i x)
  (k:∀f,aA f (A (gR s).length::F)->K (.tuple #[]) f)
  (N:∀j f,j<(gR s).length->aA f (L j::F)->K (.tuple #[]) f) :
  CF 350 #[.func (.yield l) #[] #[],PA c0 0,PA c1 0,PA c2 0] H K:=by
 refine NX ?_;refine⟨_,h.r 1,λb=>Vu (Vw b) (by show ¬((1:Int)=0);omega),λb=>?_⟩
 refine⟨λf=>∃(j n:Nat) (r:Fa),j<(gR s).length/\(gR s).drop j=iY n r/\r.size<=n/\n<=s.size/\aA f (A j::cellsA c0 [.string ⟨#[44]⟩] 9::cellsA c1 [.string r] 9::cellsA c2 [aC 0] 3::F),
  λf=>match aL f c1 0 with|some (.string r)=>r.size|_=>0,⟨0,s.size,s,Ym.2 (Jf _ _),rfl,V2 _,V2 _,h⟩,?_⟩
 rintro i ⟨j,n,r,c,hd,R,T,h⟩;have J:=h.rd 2 rfl 0;refine⟨_,h.r 2,_,h.r 1,?_⟩;have hi:=Jd 44 r;have u:(gR s)[j]=(iY n r)[0]'(by rw[<-hd,VH];omega):=by
  simp only[<-hd,List.getElem_drop,W8]
 refine NW (Jg ⟨_,rfl,_,rfl,λb=>?_,λb=>?_⟩)
 .have b:=Vw b;have e:iY n r=[r]:=by
   cases n with
   | zero=>rfl
   | succ n=>unfold iY;rw[Vt b]
  have w:(gR s).length=j+1:=by
   have:=congrArg List.length hd;rw[e,VH]at this;simp at this;omega
  have e0:(gR s)[j]=r:=by rw[u];simp only[e];rfl
  refine⟨_,h.r 2,?_⟩;have a:=M j c (cellsA c0 [.string ⟨#[44]⟩] 9::cellsA c1 [.string r] 9::cellsA c2 [aC 0] 3::F) i (λu3 I=>∃r4,u3=.bool r4/\K (.tuple #[]) I) h
   (λd h=>⟨true,rfl,k _ (by rw[w];exact h.o [0] 4)⟩)
   (λd h=>⟨false,rfl,N j _ c (h.o [0] 4)⟩)
  rw[e0]at a;exact a
 .have b:=Vx b;have y:∃m,n=m+1:=⟨n-1,by omega⟩;obtain⟨m,rfl⟩:=y;have e:iY (m+1) r=r.extract 0 (cV 44 (aX r)).toNat::iY m (r.extract ((cV 44 (aX r)).toNat+1) r.size):=by
   show (if _ then _ else _)=_
   rw[Vs b]
  have O:i64.wrap (cV 44 (aX r)+0)=cV 44 (aX r):=by rw[aK];omega
  have C:i64.wrap (cV 44 (aX r)+(((⟨#[44]⟩:Fa).size:Nat):Int))=cV 44 (aX r)+1:=by
   show i64.wrap (cV 44 (aX r)+1)=_;rw[aK]
  have e0:(gR s)[j]=r.extract 0 (cV 44 (aX r)).toNat:=by rw[u];simp only[e];rfl
  have t:(gR s).drop (j+1)=iY m (r.extract ((cV 44 (aX r)).toNat+1) r.size):=by
   rw[<-Yk,hd,e];rfl
  have D:j+1<(gR s).length:=by
   have P:=Ym.2 (Jf m (r.extract ((cV 44 (aX r)).toNat+1) r.size));rw[<-t,VH]at P;omega
  refine⟨_,h.r 2,_,h.r 3,?_⟩;dsimp only;rw[O];refine⟨by omega,?_⟩;have a:=M j c (cellsA c0 [.string ⟨#[44]⟩] 9::cellsA c1 [.string r] 9::cellsA c2 [aC 0] 3::F) i;rw[e0]at a;refine a _ h (λd h=>⟨true,rfl,λE=>Vu E (by simp),λ_=>?_⟩) (λd h=>⟨false,rfl,λ_=>N j _ c (h.o [0] 4),λE=>Vu E (by simp)⟩)
  refine⟨_,h.r 2,_,h.r 1,?_⟩;dsimp only;rw[C];refine⟨by omega,?_⟩;have B:(r.extract ((cV 44 (aX r)).toNat+1) r.size).size=r.size-((cV 44 (aX r)).toNat+1):=by
   rw[ByteArray.size_extract,Nat.min_self]
  refine h.st 2 rfl rfl ?_;intro S h;rw[show (cV 44 (aX r)+1).toNat=(cV 44 (aX r)).toNat+1 by omega]at h;refine⟨⟨j+1,m,_,D,t,by omega,by omega,h⟩,?_⟩;have v:=h.rd 2 rfl 0;rw[J,v];show ByteArray.size _<ByteArray.size _;rw[B];omega
theorem Ji{t:Fa}(Q:t.size<=1099511627776)(h:aA H F)
  (k:∀a c L,aA L (slA 421 2 a (im t).2.1.length c (flat df (im t).2.1)::F)->K (.tuple #[.agg #[.string (im t).1,.slice a (im t).2.1.length c],.bool (im t).2.2]) L) :
  CF 209 #[.string t] H K:=by
 refine cL 209 (.r (.r (.r (.seq (.r (.cond (.r (.seq (.r (.cond (.r .no) .no)) (.r (.blk (.rng [sT] [none,(some .ret)] .reg (.blk (.r (.seq (.r (.cond (.r .no) .no)) .reg)))))))) .no)) (.seq (.r (.cond (.r .no) .no)) (.r .no)))))) ?_;refine h.al λb _ h=>?_
 refine h.al λb1 _ h=>?_
 refine Jh Q ⟨_,_,_,rfl,?_⟩;refine h.al λb2 _ h=>?_
 refine h.st 0 rfl rfl ?_;intro Z h;have S:(gi 123 t).2.1.size<=t.size:=by
  unfold gi;split
  .dsimp only;rw[ByteArray.size_extract];omega
  .exact VQ _
 unfold im at k;generalize hC:gi 123 t=C at *;obtain⟨nm,rest,ok⟩:=C;dsimp only at *;refine⟨λd=>?_,λd=>?_⟩
 .subst d;rw[Vt rfl]at k;refine⟨_,_,Sq (by omega),λd=>?_,λd=>?_⟩
  .rw [Vs (by simpa using d)]at k;refine h.st 2 rfl rfl ?_;intro H2 h;refine h.st 1 rfl rfl ?_;intro H3 h;refine⟨_,_,_,_,h.q 2,_,h.r 1,?_⟩;exact k none 0 _ ((h.sl_nil 421 2).o [0] 4)
  .rw [Vt (by simpa using d)]at k;have M:(mJ 125 rest).1.size<=rest.size:=by
    unfold mJ;split
    .dsimp only;rw[ByteArray.size_extract];omega
    .exact V2 _
   generalize hf:(mJ 125 rest).1=f at *;refine cM 266 28 (cM 304 28 ?_);refine h.al λc1 _ h=>?_
   refine h.al λc0 _ h=>?_
   refine h.al λc2 y h=>⟨_,_,rfl,_,_,rfl,rfl,λR B E P=>?_⟩
   have h:=h.rng R;refine Sr (s:=f) (by omega)
    (λj=>exS λp:(KQ×Nat)×List bS=>star [cellsA b2 [.string nm,.slice p.1.1 p.2.length p.1.2] 79,slA 421 2 p.1.1 p.2.length p.1.2 (flat df p.2),cellsA b1 [.bool false] 4,cellsA b [.string ⟨#[]⟩,.slice none 0 0] 79,pt (y.size+1) (.loop R),pur (kF ((gR f).take j)=some p.2/\p.2.length<=8)])
    (λj=>star [cellsA b1 [.bool false] 4,cellsA b [.string ⟨#[]⟩,.slice none 0 0] 79,pt (y.size+1) (.loop { R with state:=.done,pending:=some .ret }),pur (kF ((gR f).take (j+1))=none)])
    (F:=pt y.size (.deferred (some []))::F) ?_ ?_ ?_ ?_
   .refine cK.2 ⟨((none,0),[]),aA.shut [_,_,_,_,_,_] ?_⟩;exact ((h.sl_nil 421 2).pur (p:=kF ((gR f).take 0)=some []/\([]:List bS).length<=8) ⟨rfl,by simp⟩).o [7,1,8,9,2,0,5,6,4,3] 10
   .intro j x G J K1 h U T;obtain⟨⟨⟨a,c⟩,labs⟩,h⟩:=cK.1 h;have h:=aA.open (A:=[_,_,_,_,_,_]) h;have u:=(aA.consP (h.o [5,0,1,2,3,4] 6)).1;dsimp only at h;have Y:=Je f.size f _ (V7 (l:=gR f) x);have i:=So x;rw[u.1]at i;dsimp only at u;unfold si at i;dsimp only at i;refine P _ _ _ ?_;refine⟨_,rfl,h.getO 4 rfl,h.getO 4 rfl,h.stl 4 rfl λI h=>?_⟩
    refine Jh (by omega) ?_;generalize gi 61 (gR f)[j]=D at *;obtain⟨d1,d2,d3⟩:=D;dsimp only at i ⊢;refine⟨_,_,_,rfl,a,labs.length,c,λ_=>h.r 0,λd=>?_,λd=>?_⟩
    .rw [Vs (by
      intro e;simp only[Vz,VP,V0]at e;simp only[VE,VP,Vy]at d
      rcases d with d|d
      .rw [d]at e;simp at e
      .omega)]at i
     refine h.st 3 rfl rfl ?_;intro w h;refine h.st 2 rfl rfl ?_;intro n h;refine⟨h.getO 4 rfl,T _ ?_⟩;have h:=h.setO 4 rfl (.loop { R with state:=.done,pending:=some .ret });refine aA.shut [_,_,_,_] ?_;exact (h.pur i).o [3,4,5,0] 7
    .simp only[VB,Wd,V0]at d;rw[Vt (by
      simp only[Vz,VP,V0];exact⟨d.1,by omega⟩)]at i
     refine⟨_,_,_,h.r 0,?_⟩;refine h.al λb3 _ h=>?_
     refine h.append (m:=1) (ws:=df ⟨d1,d2⟩) sl91 2 rfl (h.ce_rd 0 rfl) rfl (zZ _) (by omega) (by omega) λV O N h=>⟨_,_,_,rfl,?_⟩
     refine h.st 1 rfl rfl ?_;intro W h;refine⟨h.getO 5 rfl,U _ ?_⟩;have h:=h.setO 5 rfl (.loop R);refine cK.2 ⟨((V,O),labs++[⟨d1,d2⟩]),aA.shut [_,_,_,_,_,_] ?_⟩;have e:flat df (labs++[⟨d1,d2⟩])=flat df labs++df ⟨d1,d2⟩:=by
      rw[dS];simp[flat]
     dsimp only;rw[e,Vv];exact (h.pur (p:=kF ((gR f).take (j+1))=some (labs++[⟨d1,d2⟩])/\labs.length+[(⟨d1,d2⟩:bS)].length<=8) ⟨i,by simp;omega⟩).o [2,3,4,5,6,0] 8
   .intro J h;obtain⟨⟨⟨a,c⟩,labs⟩,h⟩:=cK.1 h;have h:=aA.open (A:=[_,_,_,_,_,_]) h;have u:=(aA.consP (h.o [5,0,1,2,3,4] 6)).1;rw[VW]at u;rw[u.1]at k;dsimp only at h k;refine⟨.ready,none,by decide,by rw[nD B E];exact h.getO 4 rfl,h.stl 4 rfl λI h=>.inl ⟨rfl,?_⟩⟩
    refine⟨_,_,_,_,h.q 0,?_⟩;refine qF h (λH h=>h.sl_rd 1 rfl) λw h=>⟨_,rfl,λd=>?_,λd=>?_⟩
    .rw [Vs (by simpa using d)]at k;refine h.st 3 rfl rfl ?_;intro n h;refine h.st 2 rfl rfl ?_;intro v h;refine⟨h.getO 6 rfl,?_⟩;have h:=h.setO 6 rfl (.deferred none);refine⟨_,_,_,_,h.q 3,_,h.r 2,?_⟩;exact k none 0 _ ((h.sl_nil 421 2).o [0] 8)
    .rw [Vt (by simpa using d)]at k;refine⟨_,_,_,_,h.q 0,?_⟩;refine h.st 3 rfl rfl ?_;intro n h;refine h.st 2 rfl rfl ?_;intro v h;refine⟨h.getO 6 rfl,?_⟩;have h:=h.setO 6 rfl (.deferred none);refine⟨_,_,_,_,h.q 3,_,h.r 2,?_⟩;exact k a c _ (h.o [1] 7)
   .intro j J x h;have h:=aA.open (A:=[_,_,_,_]) h;have u:=(aA.consP (h.o [3,0,1,2] 4)).1;rw[Sp u]at k;refine⟨.done,some .ret,by decide,h.getO 2 rfl,h.stl 2 rfl λI h=>.inr ⟨rfl,h.getO 4 rfl,?_⟩⟩
    have h:=h.setO 4 rfl (.deferred none);refine⟨_,_,_,_,h.q 1,_,h.r 0,?_⟩;exact k none 0 _ ((h.sl_nil 421 2).o [0] 6)
 .subst d;rw[Vs (by simp)]at k;refine⟨_,_,_,_,h.q 0,?_⟩;refine qF (labs:=[]) h (λH h=>iv H none) λw h=>⟨_,rfl,λd=>?_,λd=>?_⟩
  .rw [Vs (by simpa using d)]at k;refine h.st 2 rfl rfl ?_;intro n h;refine h.st 1 rfl rfl ?_;intro v h;refine⟨_,_,_,_,h.q 2,_,h.r 1,?_⟩;exact k none 0 _ ((h.sl_nil 421 2).o [0] 4)
  .rw [Vt (by simpa using d)]at k;refine⟨_,_,_,_,h.q 0,?_⟩;refine h.st 2 rfl rfl ?_;intro n h;refine h.st 1 rfl rfl ?_;intro v h;refine⟨_,_,_,_,h.q 2,_,h.r 1,?_⟩;exact k none 0 _ ((h.sl_nil 421 2).o [0] 4)
end
end Go.Proofs.YtaaieblnikcndaaGreatDoor
