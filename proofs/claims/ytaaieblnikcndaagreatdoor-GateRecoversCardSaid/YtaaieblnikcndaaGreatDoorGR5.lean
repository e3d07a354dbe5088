/-
  Lemmas for GateRecovers: part 5 of what it rests on. Conditions: none.
-/
import Derived.Test.YtaaieblnikcndaaGreatDoorGR4
set_option linter.unusedVariables false
set_option linter.unusedSimpArgs false
set_option maxRecDepth 100000
set_option maxHeartbeats 16000000
open Go.IntKind (i64 u64 i8 u8 i32 u32 i16 u16)
namespace Go.Proofs.YtaaieblnikcndaaGreatDoor
open Go
structure bS where
 name:Fa
 value:Fa
abbrev dg(l:bS):Os:=[.string l.name,.string l.value]
theorem iV(l:bS):(dg l).length=2:=rfl
theorem Ac(l:bS):cT (dg l)=true:=rfl
structure Ev where
 stamp:Int
 value:Int
 name:Fa
 labs:List bS
 la:KQ
 lc:Nat
def Ev.z:Ev:=⟨0,0,⟨#[]⟩,[],none,0⟩
abbrev cx(e:Ev):Os:=[aB e.stamp,aB e.value,.string e.name,.slice e.la e.labs.length e.lc]
abbrev aggV(e:Ev):Value:=.agg #[aB e.stamp,aB e.value,.string e.name,.slice e.la e.labs.length e.lc]
theorem fG(e:Ev):(cx e).length=4:=rfl
theorem Ad(e:Ev):cT (cx e)=true:=rfl
theorem sl44:SlT Tryz.prog 59 99 4 56:=iu (by kernel_rfl)
theorem sl91:SlT Tryz.prog 77 421 2 32:=iu (by kernel_rfl)
theorem qA:lE Tryz.prog 291 2 99 aggV Ev.z:=qn Tryz.underlying291 (by kernel_rfl)
theorem ko2:nB Tryz.prog 2 aD:=vP Tryz.underlying2
abbrev holdC(hb mb:Nat)(next most:Int):aE:=cellsA hb [aD next,aD most,.map (some mb)] 293
abbrev ie(mb:Nat)(l:cy Ev):aE:=mapA aD aggV mb l
section
variable {hb mb:Nat}{s:HS Ev}{F:List aE}{H:aC}{K:KE}
theorem R2{next most:Int}(h:aA H F)
  (k1:next<0\/1099511627776<next\/most<1\/256<most->K (.tuple #[.pointer none,aD 11]) H)
  (k2:∀hb mb b,0<=next/\next<=1099511627776/\1<=most/\most<=256->aA b (holdC hb mb next most::ie mb []::F)->K (.tuple #[PA hb 0,aD 0]) b) :
  CF 185 #[aD next,aD most] H K:=by
 refine cM 185 476 ⟨λa=>k1 ?_,λa=>?_⟩
 .simp only[VR,VA]at a;omega
 .simp only[VP,VD]at a;refine h.alm aD aggV λmb _ h=>?_
  refine h.al λhb _ h=>?_
  exact k2 _ _ _ (by omega) h
theorem R3{next most:Int}(h:aA H F)(i:Nat)(a:aW i F=holdC hb mb next most):bV Tryz.prog 124 #[PA hb 0] H (aD next):=
 cM 124 28 ⟨_,h.rd i a _,rfl,rfl⟩
theorem R4{first:Int}{ia:KQ}{ic:Nat}{items:List Ev}(h:aA H (holdC hb mb s.next s.most::ie mb s.rows::F))(ok:s.Ok)(hn:s.next<=1125899906842624)
  (hF:∀H,aA H F->aP H ia (flat cx items)) (h6:items.length<=1000000)
  (k:∀a c N,aA N (slA 99 4 a (s.offer first items).2.1.length c (flat cx (s.offer first items).2.1)::holdC hb mb (s.offer first items).1.next s.most::ie mb (s.offer first items).1.rows::F)->
   K (.tuple #[.slice a (s.offer first items).2.1.length c,aD (s.offer first items).2.2]) N) :
  CF 153 #[PA hb 0,aD first,.slice ia items.length ic] H K:=by
 refine OQ ?_;have l0:=ok.most1;have h9:=ok.most2;have j2:=ok.next0;refine⟨λY=>?_,λY=>?_⟩
 .simp only[VR,VA]at Y;have e:s.offer first items=(s,[],(items.length:Int)):=by unfold HS.offer;rw[V5 Y]
  rw[e]at k;exact k none 0 H (h.sl_nil 99 4)
 .simp only[VP,VD]at Y;have e:s.offer first items=({ s with next:=(pop s.next (fi s.next s.most first items (s.rows,0)).1).2.1,rows:=(pop s.next (fi s.next s.most first items (s.rows,0)).1).2.2 },
    (pop s.next (fi s.next s.most first items (s.rows,0)).1).1,(fi s.next s.most first items (s.rows,0)).2):=by
   unfold HS.offer;rw[nO]
  rw[e]at k;refine⟨λb V N=>∃(j:Nat) (rows:cy Ev),V=j/\j<=items.length/\jL s.next s.next s.most rows/\0<=b/\b<=j/\
   fi s.next s.most (first+j) (items.drop j) (rows,b)=fi s.next s.most first items (s.rows,0)/\aA N (holdC hb mb s.next s.most::ie mb rows::F),
   λ_ i _=>items.length-i.toNat,⟨0,s.rows,rfl,Wd _,ok.rows.weaken (by omega) (Wh _),Wh _,by simp,by simp,h⟩,?_⟩
  rintro b V H1 ⟨j,rows,rfl,hj,w,h5,j3,t,h⟩;refine⟨λL=>?_,λL=>?_⟩
  .have G:j<items.length:=by simpa using L
   have O:=hF H1 h.tl.tl;have e1:i64.wrap (first+j)=first+j:=aJ;have e2:i64.wrap (s.next+s.most)=s.next+s.most:=aJ;have e3:i64.wrap ((j:Int)+1)=((j+1:Nat):Int):=aJ;have e4:i64.wrap (b+1)=b+1:=aJ;have J:items.drop j=items[j]::items.drop (j+1):=Wx G;rw[J,fi]at t;have U:=EE (n:=first+j) (v:=items[j]) (s:=(rows,b)) w;have R:=NR (next:=s.next) (most:=s.most) (n:=first+j) (v:=items[j]) (s:=(rows,b)) h5;rw[e1];refine⟨⟨by omega,by omega⟩,_,_,O.some fG (by omega) G,_,_,_,_,_,_,O.els fG G,?_⟩;refine h.al λ_ _ h=>?_;refine St1 h λ_ h=>?_
   have d:∀S (A B M:aE),M=ie mb (ee s.next s.most (first+j) items[j] (rows,b)).1->aA S (A::B::holdC hb mb s.next s.most::M::F)->
     ∃(P:Nat) (rows':cy Ev),((j+1:Nat):Int)=P/\P<=items.length/\jL s.next s.next s.most rows'/\0<=(ee s.next s.most (first+j) items[j] (rows,b)).2/\(ee s.next s.most (first+j) items[j] (rows,b)).2<=P/\
     fi s.next s.most (first+P) (items.drop P) (rows',(ee s.next s.most (first+j) items[j] (rows,b)).2)=fi s.next s.most first items (s.rows,0)/\aA S (holdC hb mb s.next s.most::ie mb rows'::F):=
    λS _ _ _ hM Z=>⟨j+1,_,rfl,G,U,by simp only at R;omega,by simp only at R;omega,by rw[<-t];congr 1;omega,by rw[<-hM];exact Z.tl.tl⟩
   refine⟨_,h.r 1,?_⟩;have h1:=h.mp_get qA ko2 2 rfl (x:=first+j);refine⟨_,_,_,_,_,_,_,h1,?_⟩
   repeat (first|refine h.al λ_ _ h=>?_|refine⟨_,Ra3,?_⟩|refine St3 h λ_ h=>?_)
   refine λJn hJ=>⟨λf=>hJ _ _ ?_,λf=>?_⟩
   .have W:ee s.next s.most (first+j) items[j] (rows,b)=(rows,b):=by
     unfold ee;rw[V5];simp only[VR,VA]at f;exact f
    rw[W]at d;rw[e3];exact⟨d _ _ _ _ rfl h,by simp only[VJ];omega⟩
   .simp only[VP,VD]at f;have hl:aK (first+j) rows=none:=by
     cases hm:aK (first+j) rows with
     | none=>rfl
     | some u=>rw[hm]at f;exact V6 f.2 (by simp)
    refine⟨_,Ra3,?_⟩;refine⟨_,Ra3,?_⟩;dsimp only;rw[e2,e4];refine λj1 Q=>⟨λD=>Q _ _ ?_,λD=>?_⟩
    .simp only[VA]at D;have W:ee s.next s.most (first+j) items[j] (rows,b)=(rows,b+1):=by unfold ee;rw[V4 (by simp[hl];omega),V5 D]
     rw[W]at d;refine hJ _ _ ?_;rw[e3];exact⟨d _ _ _ _ rfl h,by simp only[VJ];omega⟩
    .simp only[VD]at D;have W:ee s.next s.most (first+j) items[j] (rows,b)=(ins (first+j) items[j] rows,b):=by unfold ee;rw[V4 (by simp[hl];omega),V4 D]
     rw[W]at d;refine⟨_,Ra3,?_⟩;refine⟨_,_,_,_,_,_,Rs3,?_⟩;refine h.mp_update (x:=first+j) (v:=items[j]) qA ko2 3 rfl λS Z=>Q _ _ ?_
     refine hJ _ _ ?_;have ep:ie mb (mset (first+j) items[j] rows)=ie mb (ins (first+j) items[j] rows):=nC (by rw[mset,kN hl];exact (yN _ _ _).symm);rw[e3];exact⟨d _ _ _ _ ep Z,by simp only[VJ];omega⟩
  .have I:j=items.length:=by
    have:¬((j:Int)<(items.length:Int)):=by simpa using L
    omega
   subst I;simp only[W6,fi]at t;rw[<-t]at k;simp only at k;have h7:=vV w.rising λp T=>(w.inb p T).1
   have h3:=w.length;refine⟨λra rn rc rf N=>∃(got:List Ev) (next:Int) (rows':cy Ev),rn=got.length/\rf=b/\gJ rows'/\(∀p∈rows',next<=p.1)/\(pop s.next rows).1=got++(pop next rows').1/\(pop s.next rows).2=(pop next rows').2/\
    0<=next/\next+rows'.length<=s.next+rows.length/\got.length+rows'.length=rows.length/\aA N (slA 99 4 ra rn rc (flat cx got)::holdC hb mb next s.most::ie mb rows'::F),
    λ_ n _ _ _=>rows.length-n,⟨[],s.next,rows,rfl,rfl,w.rising,λp T=>(w.inb p T).1,by simp,by simp,by omega,by omega,by simp,h.sl_nil 99 4⟩,?_⟩
   rintro ra rn rc rf S ⟨got,next,rows',rfl,rfl,E,I,C,y,h8,h4,h0,h⟩;refine⟨_,h.r 1,_,h.r 1,?_⟩;have m:=NS (next:=next) E I;have e5:i64.wrap (next+1)=next+1:=aJ;refine⟨_,_,_,_,_,_,_,h.mp_get qA ko2 2 rfl (x:=next),?_⟩;refine h.al λb3 _ h=>?_
   refine⟨h.mp_get qA ko2 3 rfl (x:=next),h.r 2,h.r 2,?_⟩;refine h.st 0 rfl rfl λH3 h=>?_
   cases rows' with
   | nil=>
    simp only at m;refine⟨λ_=>?_,λf=>by simp[m]at f⟩
    simp only[pop,We]at C y;rw[C,y]at k;exact k _ _ _ h.tl
   | cons p r=>
    obtain⟨n,v⟩:=p;simp only at m
    by_cases en:n=next
    .subst en;rw[V5 rfl]at m;rw[m]at h ⊢;refine⟨λf=>by simp at f,λ_=>?_⟩
     refine⟨_,h.r 2,_,h.r 2,?_⟩;refine h.mp_delete (x:=n) qA ko2 3 rfl λH3 h=>?_
     have h:aA H3 (cellsA b3 (cx v) 99::slA 99 4 ra got.length rc (flat cx got)::holdC hb mb n s.most::ie mb (bU n ((n,v)::r))::F):=h;rw[NT E]at h;simp only[VE]at h4 h0;refine⟨_,_,_,_,_,_,h.q 0,?_⟩;rintro b4 _ rfl rfl;refine h.append1 sl44 1 rfl (by rfl) (by rfl) (by omega) (by omega) λa' c' H4 h=>⟨_,_,_,rfl,?_⟩
     refine⟨_,h.r 2,?_⟩;refine h.st 2 rfl rfl λH5 h=>?_
     refine⟨?_,by show rows.length-(got.length+1)<rows.length-got.length;omega⟩;rw[e5]at h;simp only[pop,if_true]at C y;refine⟨got++[v],n+1,r,by simp,rfl,(W5.1 E).2,λp T=>?_,by rw[C];simp,y,by omega,by omega,by simp;omega,?_⟩
     .have:=(W5.1 E).1 p T;simp only at this;omega
     .rw [dS,nA];exact h.tl
    .rw [V4 en]at m;refine⟨λ_=>?_,λf=>by simp[m]at f⟩
     simp only[pop,V4 en,We]at C y;rw[C,y]at k;exact k _ _ _ h.tl
theorem I4{next most:Int}{rows:cy Ev}(h:aA H (holdC hb mb next most::ie mb rows::F))(e:gJ rows)(f:∀p∈rows,aF p.1)(m:rows.length<=1000000)
  (k:∀a c b,aA b (slA 2 1 a rows.length c ((aG rows).map aD)::holdC hb mb next most::ie mb rows::F)->K (.slice a rows.length c) b) :
  CF 122 #[PA hb 0] H K:=by
 refine cM 122 28 ⟨_,h.r 0,?_⟩;refine Po ⟨_,_,rfl,?_⟩;refine Pp h 1 rfl (λx i=>by obtain⟨p,j,rfl⟩:=VH.1 i;exact f p j) (by omega) λa c b d g=>⟨_,_,_,rfl,?_⟩
 rw[NV e]at d;exact k a c b d
theorem R5{next most:Int}{rows:cy Ev}(h:aA H (holdC hb mb next most::ie mb rows::F))(u:gJ rows)(v:∀p∈rows,aF p.1)(y:rows.length<=1000000)
  (k:∀a c f,aA f (slA 99 4 a rows.length c (flat cx (rows.map (·.2)))::holdC hb mb next most::ie mb []::F)->K (.slice a rows.length c) f) :
  CF 123 #[PA hb 0] H K:=by
 refine cN 123 0x11215612399251441c [[(3,sS),(9,sI)]] ?_;refine I4 h u v y λA rc B h=>⟨_,_,_,rfl,?_⟩
 refine⟨λla t lc i f=>∃k:Nat,i=k/\k=t/\k<=rows.length/\aA f (slA 99 4 la k lc (flat cx ((rows.take k).map (·.2)))::slA 2 1 A rows.length rc ((aG rows).map aD)::holdC hb mb next most::ie mb rows::F),
  λ_ _ _ i _=>rows.length-i.toNat,⟨0,rfl,rfl,Wd _,h.sl_nil 99 4⟩,?_⟩
 rintro la t lc i E ⟨j,rfl,rfl,D,h⟩;refine⟨λm=>?_,λm=>?_⟩
 .have b:j<rows.length:=by simpa using m
  have e:j<(aG rows).length:=by simpa[aG] using b
  have d:=(h.sl_rd 1 rfl).at (j:=j) e;have e3:i64.wrap ((j:Int)+1)=((j+1:Nat):Int):=aJ;have n:aK (aG rows)[j] rows=some rows[j].2:=mo (Ez u) (by
   have:((aG rows)[j],rows[j].2)=rows[j]:=by simp[aG]
   rw[this];exact VL _)
  have s:=h.mp_get1 qA ko2 3 rfl (x:=(aG rows)[j]);rw[n]at s;refine⟨⟨by omega,by omega⟩,_,_,d.1,_,d.2,_,h.r 2,_,_,_,_,_,_,s,?_⟩;rintro b1 _ rfl rfl;refine h.append1 sl44 0 rfl (by rfl) (by rfl) (by omega) (by omega) λC G w h=>⟨_,_,_,rfl,?_⟩
  conv=>whnf
  rw[e3];refine⟨⟨j+1,rfl,rfl,b,?_⟩,by simp only[VJ];omega⟩;rw[Wn b,VW,dS];exact h
 .have:j=rows.length:=by
   have:¬((j:Int)<rows.length):=by simpa using m
   omega
  subst this;refine⟨_,h.r 2,?_⟩;refine h.mp_clear qA 3 rfl λw h=>?_
  rw[Wc (VF _)]at h;exact k _ _ _ (h.o [0,2,3] 4)
theorem R6{next most:Int}{rows:cy Ev}(h:aA H (holdC hb mb next most::ie mb rows::F))
  (k:∀a c d,aA d (holdC a c next most::ie c rows::holdC hb mb next most::ie mb rows::F)->K (PA a 0) d) :
  CF 63 #[PA hb 0] H K:=by
 refine cM 63 28 ?_;refine⟨_,h.r 0,_,h.r 0,_,h.r 0,?_⟩;refine Pq h 1 rfl λe h _=>⟨_,rfl,h.r 1,h.r 1,?_⟩
 refine h.al λb _ h=>?_
 exact k _ _ _ h
end
theorem se(k:IntKind)(f:Nat->Int):∀n i,(bX k f n i).length=n
 | 0,_=>rfl
 | n+1,i=>by simp[bX,se k f n]
theorem uh(k:IntKind)(f:Nat->Int):∀n i j,j<n->aT (bX k f n i) j=some (.int k (f (i+j)))
 | n+1,i,0,_=>rfl
 | n+1,i,j+1,h=>by
  have:=uh k f n (i+1) j (by omega);simp only[bX,aT];rw[this,show i+1+j=i+(j+1) by omega]
theorem I5(k:IntKind)(f:Nat->Int):∀n i,cT (bX k f n i)=true
 | 0,_=>rfl
 | n+1,i=>by
  have:=I5 k f n (i+1);simpa[bX,cT] using this
def eX(f:Nat->Int)(j:Nat)(x:Int):Nat->Int:=λi=>if i=j then x else f i
theorem I6(k:IntKind){f g:Nat->Int}:∀n i,(∀j,i<=j->j<i+n->f j=g j)->bX k f n i=bX k g n i
 | 0,_,_=>rfl
 | n+1,i,h=>by
  simp only[bX];rw[h i (VF _) (by omega),I6 k n (i+1) λj b a=>h j (by omega) (by omega)]
theorem Ae(k:IntKind)(f:Nat->Int)(x:Int):∀n i j,j<n->(bX k f n i).set j (.int k x)=bX k (eX f (i+j) x) n i
 | n+1,i,0,_=>by
  simp only[bX,Yt,WM];rw[show eX f i x i=x by simp[eX],I6 k (g:=eX f i x) n (i+1) λj b a=>by simp[eX];omega]
 | n+1,i,j+1,h=>by
  simp only[bX,YB];rw[Ae k f x n (i+1) j (by omega),show i+1+j=i+(j+1) by omega];rw[show eX f (i+(j+1)) x i=f i by simp[eX]]
section
variable {H:aC}{L:List aE}
theorem aA.rda{b e:Nat}{cs:Os}(h:aA H L)(i:Nat)(c:aW i L=cellsA b cs e):bE H b 0 cs:=
 tw λf v a=>by rw[h.rd i c,VX];exact a
theorem aA.rdv{b e o:Nat}{l vs r:Os}(h:aA H L)(i:Nat)(d:aW i L=cellsA b (l++vs++r) e)(c:o=l.length):bE H b o vs:=
 tw λf v a=>by
  subst c;rw[h.rd i d,VK,yF,Ed (og a)];exact a
theorem aA.rdt{b e o:Nat}{l vs:Os}(h:aA H L)(i:Nat)(c:aW i L=cellsA b (l++vs) e)(a:o=l.length):bE H b o vs:=
 aA.rdv (r:=[]) h i (by rw[c,We]) a
theorem aA.sta{Q:aC->Prop}{b e:Nat}{vs cs:Os}(h:aA H L)(i:Nat)(c:aW i L=cellsA b cs e)(d:vs.length=cs.length)(k:∀a,aA a (put i (cellsA b vs e) L)->Q a) :
  eT H b 0 vs/\∀a,a=fJ H b 0 vs->Q a:=by
 refine⟨h.can i c 0 vs (by omega),?_⟩;rintro a rfl;have:=h.set i c 0 vs;rw[vL _ _ d]at this;exact k _ this
end
theorem R7{P:Program}{t e:TypeId}{n:Nat}{f:Nat->Int}{i:Int}(b:P.underlying t=some (.array n e))(d:∀w,(Go.sizeOf e).run P w=.ok 1 w)(c:∀w,(Go.isAgg e).run P w=.ok false w)(h0:0<=i)(h:i<n) :
  me P (Instr.index t (.agg ⟨bX .i64 f n 0⟩) (aB i)) (aB (f i.toNat)):=by
 intro w;have a:=uh .i64 f n 0 i.toNat (by omega);rw[fL]at a;simp only[Instr.index,asIntOf,Sem.run_bind,Sem.run_pure,Result.andThen_ok,fq b];rw[V5 ⟨h0,h⟩];simp only[Sem.run_bind,d,Result.andThen_ok,W2,part,c];simp[a]
abbrev B64:Int:=18446744073709551616
abbrev cw(z:Int):Int:=z/B64
abbrev wlo(z:Int):Int:=z%B64
abbrev kT(z:Int):Value:=.agg #[aB (cw z),.int .u64 (wlo z)]
abbrev fZ(z:Int):Prop:=-170141183460469231731687303715884105728<=z/\z<170141183460469231731687303715884105728
def gO(a b:Int):Int×Int:=if fZ (a+b) then (a+b,0) else (0,12)
theorem pm(z:Int):0<=wlo z/\wlo z<B64:=by unfold wlo B64;omega
theorem wz(z:Int):cw z*B64+wlo z=z:=by unfold cw wlo B64;omega
theorem weq{z y:Int}:(cw z=cw y/\wlo z=wlo y)↔z=y:=by
 constructor
 .rintro⟨h1,h2⟩;rw[<-wz z,<-wz y,h1,h2]
 .rintro rfl;exact⟨rfl,rfl⟩
def bZ(v:Int):Int:=if v<0 then 0 else if v=0 then 1 else 1+(bitLen v.toNat:Nat)
theorem pp{v:Int}(h:aF v):0<=bZ v/\bZ v<65:=by
 unfold bZ aF at *
 split
 .omega
 .split
  .omega
  .have:bitLen v.toNat<=63:=by
    unfold bitLen
    split
    .omega
    .rename_i h0;have:=(Nat.log2_lt h0).2 (show v.toNat<2^63 by omega);omega
   omega
def ou(h:Nat->Int):Bool:=(List.range 65).all λi=>decide (0<=h i)
theorem qB{h:Nat->Int}:ou h=true↔∀i,i<65->0<=h i:=by
 simp[ou,Wt]
def jo(h:Nat->Int)(v:Int):(Nat->Int)×Int:=
 if ou h=false then (Z0,10) else if h (bZ v).toNat=9223372036854775807 then (Z0,12) else (eX h (bZ v).toNat (h (bZ v).toNat+1),0)
def wfH(h:Nat->Int):Prop:=∀i,i<65->aF (h i)
theorem ui:wfH Z0:=λ_ _=>by unfold aF;simp
section
variable {F L:List aE}{H:aC}{K:KE}
theorem I7{x y:Int}(b:0<=x)(a:0<=y):pK Tryz.prog 361 #[.int .u64 x,.int .u64 y,.int .u64 0] (.tuple #[.int .u64 ((x+y)%B64),.int .u64 ((x+y)/B64)]):=by
 have e:(callFunc 361 #[.int .u64 x,.int .u64 y,.int .u64 0])=(callFunc 361 #[.int .u64 x,.int .u64 y,.int .u64 0]):=rfl;intro w;have h:(callFunc 361 #[.int .u64 x,.int .u64 y,.int .u64 0]).run Tryz.prog w=.ok (.value (.tuple #[.int .u64 (Int.ofNat ((x.toNat+y.toNat+0)%18446744073709551616)),.int .u64 (Int.ofNat ((x.toNat+y.toNat+0)/18446744073709551616))])) w:=by kernel_rfl
 rw[h];have e1:Int.ofNat ((x.toNat+y.toNat+0)%18446744073709551616)=(x+y)%B64:=by unfold B64;simp only[Int.ofNat_eq_natCast];omega
 have e2:Int.ofNat ((x.toNat+y.toNat+0)/18446744073709551616)=(x+y)/B64:=by unfold B64;simp only[Int.ofNat_eq_natCast];omega
 rw[e1,e2]
theorem idx60{f:Nat->Int}{i:Int}(h0:0<=i)(a:i<65):me Tryz.prog (Instr.index 159 (.agg ⟨bX .i64 f 65 0⟩) (aD i)) (aD (f i.toNat)):=
 R7 (n:=65) Tryz.underlying159 Tryz.sizeOf2 Tryz.isAgg2 h0 (by omega)
theorem R8{f:Nat->Int}(h:aA H F)(k:∀d,aA d F->K (.bool (ou f)) d):CF 367 #[.agg ⟨bX .i64 f 65 0⟩] H K:=by
 refine cN 367 0x1215612399251b4c [[(6,sI)]] ?_;refine h.al λb _ h=>?_
 refine⟨f,h.rda 0 rfl,?_⟩;refine⟨λi d=>∃j:Nat,i=j/\j<=65/\(∀q,q<j->0<=f q)/\aA d F,λi _=>65-i.toNat,⟨0,rfl,by omega,λ_ h=>by omega,h.tl⟩,?_⟩
 rintro i v ⟨j,rfl,u,n,h⟩;refine⟨λe=>?_,λe=>?_⟩
 .have a:j<65:=by have:=V8 e;omega
  refine⟨_,idx60 (by omega) (by omega),?_⟩;rw[VJ];refine⟨λc=>?_,λc=>?_⟩
  .have c:=V8 c;have:ou f=false:=by
    rw[Y5];intro s;have:=qB.1 s j a;omega
   rw[this]at k;exact k _ h
  .have c:=V9 c
   conv=>whnf
   rw[show i64.wrap ((j:Int)+1)=((j+1:Nat):Int) by rw[aJ];omega];refine⟨⟨j+1,rfl,a,λq t=>?_,h⟩,by simp only[VJ];omega⟩
   rcases Wa q j with m|m
   .exact n q m
   .obtain rfl:q=j:=by omega
    omega
 .have:j=65:=by have:=V9 e;omega
  subst this;have:ou f=true:=qB.2 n;rw[this]at k;exact k _ h
theorem mH{v:Int}(c:aF v):bV Tryz.prog 277 #[aD v] H (aD (bZ v)):=by
 refine O8 ?_;have hb:=pp c;unfold bZ at hb ⊢;refine⟨λb=>?_,λb=>⟨λa=>?_,λa=>?_⟩⟩
 .rw [V5 (V8 b)];exact⟨rfl,rfl⟩
 .rw [V4 (V9 b),V5 (V8 a)];exact⟨rfl,rfl⟩
 .have f:=V9 b;have d:=V9 a;rw[V4 f,V4 d]at hb ⊢;unfold aF at c;have e:u64.wrap v=((v.toNat:Nat):Int):=by rw[df];omega
  rw[e];refine⟨_,Gw (by omega),?_,rfl⟩;rw[aJ (x:=2+_),aJ];congr 1;omega
theorem whi_w{z:Int}(h:fZ z):aF (cw z):=by unfold fZ at h;unfold aF cw B64;omega
theorem fdiv63{v:Int}(h:aF v):Int.fdiv v (2^(min (Int.toNat 63) (i64.bits)))=cw v:=by
 show Int.fdiv v 9223372036854775808=cw v;rw[WY _ (by decide)];unfold aF at h;unfold cw B64;omega
theorem Af{v:Int}(c:aF v)(h:aA H F)(k:∀a,aA a F->K (kT v) a):CF 276 #[aD v] H K:=by
 refine cM 276 28 ?_;refine h.al λb _ h=>⟨by decide,?_⟩
 rw[fdiv63 c];have e:u64.wrap v=wlo v:=by rw[df]
 conv=>whnf
 rw[e];refine St1 h λ_ h=>?_;refine⟨_,_,Rs1,?_⟩
 exact k _ h.tl
theorem Ah{x y:Int}(j:fZ x)(m:fZ y)(h:aA H F)(k:∀i,aA i F->K (.tuple #[kT (gO x y).1,aD (gO x y).2]) i) :
  CF 336 #[kT x,kT y] H K:=by
 refine On ?_;have u:=pm x;have n:=pm y;have f:=whi_w j;have c:=whi_w m;have v:=wz x;have w:=wz y;have t:(wlo x+wlo y)%B64=wlo (x+y):=by unfold wlo B64;omega
 have eq:i64.wrap ((wlo x+wlo y)/B64)=(wlo x+wlo y)/B64:=by unfold B64 at *;exact aJ
 have s:i64.wrap (i64.wrap (cw x+cw y)+(wlo x+wlo y)/B64)=i64.wrap (cw (x+y)):=by
  rw[jM,jM,jM];unfold cw wlo B64;omega
 refine h.al λb _ h=>?_
 refine h.al λb1 _ h=>?_
 refine h.al λb2 _ h=>?_
 refine⟨_,h.r 2,_,h.r 1,_,_,I7 u.1 n.1,_,h.r 2,_,h.r 1,_,h.r 2,_,h.r 1,?_⟩;rw[eq,s,t];have a:decide (aY .and .i64 (aY .xor .i64 (cw x) (i64.wrap (cw (x+y)))) (aY .xor .i64 (cw y) (i64.wrap (cw (x+y))))<0)=!decide (fZ (x+y)):=by
  rw[Wp,VA,EH (wb _ _ _) (wb _ _ _),VB,VA,VA,vZ f (qo _),vZ c (qo _),vW,vW,Wb,VD];unfold fZ at j m ⊢;rw[jM];unfold cw B64;omega
 dsimp only[ID];rw[a];unfold gO at k;refine⟨λd=>?_,λd=>?_⟩
 .have:¬fZ (x+y):=V9 (by simpa only[Wb] using d);rw[V4 this]at k;refine St3 h λ_ h=>?_;refine⟨_,_,Rs3,?_⟩
  exact k _ h.tl.tl.tl
 .have:fZ (x+y):=V8 (by simpa only[Wq] using d);rw[V5 this]at k;have e:i64.wrap (cw (x+y))=cw (x+y):=by have:=whi_w this;unfold aF at this;exact aJ
  rw[e];refine St3 h λ_ h=>?_;refine⟨_,_,Rs3,?_⟩
  exact k _ h.tl.tl.tl
end
theorem sum_append(l r:List Int):(l++r).sum=l.sum+r.sum:=by
 induction l with
 | nil=>simp
 | cons a l ih=>simp only[WE,Yb,ih];omega
theorem I8{l:List Int}{j:Nat}(h:j<l.length):(l.take (j+1)).sum=(l.take j).sum+l[j]:=by
 rw[Wn h,sum_append];simp
theorem I9:∀{l:List Int},(∀x∈l,aF x)->-(9223372036854775808*(l.length:Int))<=l.sum/\l.sum<=9223372036854775808*(l.length:Int)
 | [],_=>by simp
 | a::l,h=>by
  have c:=h a VO;have d:=I9 (l:=l) λx b=>h x (VQ _ b)
  unfold aF at c;simp only[Yb,VE];omega
theorem wstep{s v:Int}(hs:fZ s)(h:aF v)(a:fZ (s+v)) :
  i64.wrap (i64.wrap (cw s+cw v)+i64.wrap ((wlo s+wlo v)/B64))=cw (s+v)/\(wlo s+wlo v)%B64=wlo (s+v):=by
 have i:=pm s;have f:=pm v;have d:=wz s;have e:=wz v;refine⟨?_,by unfold wlo B64;omega⟩;have eq:i64.wrap ((wlo s+wlo v)/B64)=(wlo s+wlo v)/B64:=by unfold B64 at *;exact aJ
 rw[eq];have c:aF (cw (s+v)):=by unfold fZ at a;unfold aF cw B64;omega
 have b:i64.wrap (i64.wrap (cw s+cw v)+(wlo s+wlo v)/B64)=i64.wrap (cw (s+v)):=by
  rw[jM,jM,jM];unfold cw wlo B64;omega
 rw[b];unfold aF at c;exact aJ
def rowH(h:Nat->Int):List Int:=(List.range 65).map h
def sumC(h:Nat->Int):Int:=(rowH h).sum
theorem vecL_map(f:Nat->Int)(n i:Nat):bX .i64 f n i=((List.range n).map λj=>f (i+j)).map aB:=by
 induction n generalizing i with
 | zero=>rfl
 | succ n ih=>
  rw[bX,ih,List.range_succ_eq_map];simp only[Wf,Wu,WM];congr 1;apply WP;intro j _;show aB (f (i+1+j))=aB (f (i+(j+1)));rw[show i+1+j=i+(j+1) by omega]
theorem vecL_row(f:Nat->Int):bX .i64 f 65 0=(rowH f).map aB:=by
 rw[vecL_map];simp[rowH]
theorem rowH_len(f:Nat->Int):(rowH f).length=65:=by simp[rowH]
theorem rowH_mem{f:Nat->Int}{x:Int}(h:x∈rowH f):∃i,i<65/\x=f i:=by
 obtain⟨i,hi,rfl⟩:=VH.1 h;exact⟨i,WG.1 hi,rfl⟩
structure Cl where
 n:Int
 sum:Int
 mn:Int
 mx:Int
 cer:Int
 pos:Int
 h:Nat->Int
def Cl.z:Cl:=⟨0,0,0,0,0,0,Z0⟩
abbrev dx(c:Cl):Os:=[aB c.n,aB (cw c.sum),.int .u64 (wlo c.sum),aB c.mn,aB c.mx,aB c.cer,aB c.pos]++bX .i64 c.h 65 0
abbrev aggC(c:Cl):Value:=.agg ⟨dx c⟩
theorem kU(c:Cl):(dx c).length=72:=by simp[dx,se]
structure WC(c:Cl):Prop where
 n:aF c.n
 sum:fZ c.sum
 mn:aF c.mn
 mx:aF c.mx
 cer:aF c.cer
 pos:aF c.pos
 h:wfH c.h
theorem WC.z:WC Cl.z:=⟨by decide,by decide,by decide,by decide,by decide,by decide,ui⟩
def inB(c:Cl):Bool:=(List.range 65).all λi=>decide (c.h i=0)||decide (bZ c.mn<=i/\(i:Int)<=bZ c.mx)
def ge(c:Cl):Bool:=
 !(decide (c.n<0)||decide (c.cer<0)||decide (c.pos<0)||decide (c.mx<c.mn))&&ou c.h&&decide (sumC c.h=c.n) &&
 (if c.n=0 then decide (c.sum=0)&&decide (c.mn=0)&&decide (c.mx=0)
  else !(decide (c.h (bZ c.mn).toNat=0)||decide (c.h (bZ c.mx).toNat=0))&&inB c)
def gP(c:Cl)(certain:Bool):Cl×Int:=
 if ge c=false then (Cl.z,10) else
 if certain then (if c.cer=9223372036854775807 then (Cl.z,12) else ({ c with cer:=c.cer+1 },0))
 else (if c.pos=9223372036854775807 then (Cl.z,12) else ({ c with pos:=c.pos+1 },0))
def jV(c:Cl)(v:Int):Cl×Int:=
 if ge c=false then (Cl.z,10) else
 if (j4 c.n 1).2≠0 then (Cl.z,12) else
 if (gO c.sum v).2≠0 then (Cl.z,12) else
 if (jo c.h v).2≠0 then (Cl.z,12) else
 let mn:=if c.n=0 then v else c.mn
 let mx:=if c.n=0 then v else c.mx
 ({ c with n:=(j4 c.n 1).1,sum:=(gO c.sum v).1,h:=(jo c.h v).1,mn:=if v<mn then v else mn,mx:=if v>mx then v else mx },0)
theorem IB{c:Cl}(h:WC c)(b:Bool):WC (gP c b).1:=by
 unfold gP;have a:=h.cer;have d:=h.pos;unfold aF at a d
 split
 .exact WC.z
 .split
  .split
   .exact WC.z
   .exact⟨h.n,h.sum,h.mn,h.mx,by unfold aF;dsimp only;omega,h.pos,h.h⟩
  .split
   .exact WC.z
   .exact⟨h.n,h.sum,h.mn,h.mx,h.cer,by unfold aF;dsimp only;omega,h.h⟩
theorem addS_wf(a b:Int):aF (j4 a b).1:=by
 unfold j4
 split
 .assumption
 .decide
theorem wadd_wf(a b:Int):fZ (gO a b).1:=by
 unfold gO
 split
 .assumption
 .decide
theorem addH_wf{h:Nat->Int}(a:wfH h){v:Int}(d:aF v):wfH (jo h v).1:=by
 unfold jo
 split
 .exact ui
 .split
  .exact ui
  .intro i hi;dsimp only[eX]
   split
   .rename_i e c b;subst b;have:=a _ hi;unfold aF at *;omega
   .exact a i hi
theorem addC_wf{c:Cl}(h:WC c){v:Int}(a:aF v):WC (jV c v).1:=by
 unfold jV
 split
 .exact WC.z
 .split
  .exact WC.z
  .split
   .exact WC.z
   .split
    .exact WC.z
    .refine⟨addS_wf _ _,wadd_wf _ _,?_,?_,h.cer,h.pos,addH_wf h.h a⟩
     .dsimp only;have:=h.mn
      split <;> split <;> assumption
     .dsimp only;have:=h.mx
      split <;> split <;> assumption
section
variable {F L:List aE}{H:aC}{K:KE}
theorem R9{a:KQ}{n c:Nat}{vs:List Int}(C:vs.length=n)(h:aA H F)(B:∀H,aA H F->aP H a (vs.map aD))(w:∀x∈vs,aF x)(G:n<=1000000)
  (k:∀t,aA t F->K (kT vs.sum) t):CF 324 #[.slice a n c] H K:=by
 subst C;refine Ow ?_;refine h.al λb _ h=>?_
 refine h.al λb1 _ h=>?_
 refine⟨λi t=>∃j:Nat,i=j/\j<=vs.length/\aA t (cellsA b1 [aD (cw (vs.take j).sum),.int .u64 (wlo (vs.take j).sum)] 157::cellsA b [aD 0,.int .u64 0] 157::F),λi _=>vs.length-i.toNat,⟨0,rfl,Wd _,h⟩,?_⟩
 rintro i E ⟨j,rfl,D,h⟩;have m:∀q,fZ (vs.take q).sum:=λq=>by
  have:=I9 (l:=vs.take q) λx A=>w x (W0 A)
  rw[VY]at this;unfold fZ;omega
 refine⟨λu=>?_,λu=>?_⟩
 .have d:j<vs.length:=by have:=V8 u;omega
  have v:=(B _ h.tl.tl).at d;have f:=w _ (VL d);have s:=m (j+1);rw[I8 d]at s;have e:=wstep (m j) f s;rw[<-I8 d]at e;have y:u64.wrap vs[j]=wlo vs[j]:=by rw[df]
  refine⟨⟨by omega,by omega⟩,_,_,v.1,_,v.2,_,h.r 0,?_⟩;rw[y];refine⟨_,_,I7 (pm _).1 (pm _).1,_,h.r 0,by decide,?_⟩;rw[fdiv63 f,e.1,e.2];refine h.sta 0 rfl rfl λI h=>?_
  rw[show i64.wrap ((j:Int)+1)=((j+1:Nat):Int) by rw[aJ];omega];exact⟨⟨j+1,rfl,d,h⟩,by simp only[VJ];omega⟩
 .have:j=vs.length:=by have:=V9 u;omega
  subst this;rw[Wc (VF _)]at h
  repeat (first|refine St2 h λ_ h=>?_|refine⟨_,_,Rs2,?_⟩)
  exact k _ h.tl.tl
theorem RA{f:Nat->Int}(c:wfH f)(h:aA H F)(k:∀a,aA a F->K (kT (sumC f)) a):CF 275 #[.agg ⟨bX .i64 f 65 0⟩] H K:=by
 refine O9 ?_;refine h.al λb _ h=>?_
 refine h.al λb1 _ h=>⟨by decide,?_⟩
 have e0:cq (some ⟨b,0,none⟩) 0 65 1=some ⟨b,0,none⟩:=rfl;rw[e0];refine R9 (vs:=rowH f) (rowH_len f) h (λH h=>?_) (λx d=>?_) (by decide) λe h=>⟨_,_,rfl,?_⟩
 .have:=h.ce_rd 1 rfl;rw[vecL_row]at this;exact this
 .obtain⟨i,hi,rfl⟩:=rowH_mem d;exact c i hi
 .refine h.sta 0 rfl rfl λj h=>⟨_,_,h.rda 0 rfl,?_⟩
  exact k _ h.tl.tl
theorem IC{f:Nat->Int}(h:aA H F)(k:∀b a,aA a (cellsA b (bX .i64 f 65 0) 159::F)->K (.func (.func 278) #[] #[PA b 0]) a):CF 224 #[.agg ⟨bX .i64 f 65 0⟩] H K:=by
 refine cM 224 28 ?_;exact h.al λb _ h=>k _ _ h
theorem IE{l b:Nat}{f:Nat->Int}(A:Nat->aE)(y:aE)(h:aA H (A 0::cellsA b (bX .i64 f 65 0) 159::F))
  (D:∀j,j<65->f j=0->A j=A (j+1))
  (E:∀j,j<65->f j≠0->∀(G:List aE) (t:aC) (n:KE),aA t (A j::G)->(∀a,aA a (A (j+1)::G)->n (.bool true) a)->(∀a,aA a (y::G)->n (.bool false) a)->
   fI Tryz.prog l [aD (j:Nat),aD (f j)] t n)
  (k:∀c,aA c (A 65::cellsA b (bX .i64 f 65 0) 159::F)->K (.tuple #[]) c)
  (B:∀c,aA c (y::cellsA b (bX .i64 f 65 0) 159::F)->K (.tuple #[]) c) :
  CF 278 #[.func (.yield l) #[] #[],PA b 0] H K:=by
 refine cN 278 0x15612399251283994 [[(18,sB)],[(6,sI)]] ?_;refine⟨f,h.rda 1 rfl,?_⟩;refine⟨λi c=>∃j:Nat,i=j/\j<=65/\aA c (A j::cellsA b (bX .i64 f 65 0) 159::F),λi _=>65-i.toNat,⟨0,rfl,by omega,h⟩,?_⟩
 rintro i t ⟨j,rfl,I,h⟩;refine⟨λs=>?_,λs=>?_⟩
 .have d:j<65:=by have:=V8 s;omega
  refine⟨_,idx60 (by omega) (by omega),?_⟩;rw[VJ];have e:∀a,aA a (A (j+1)::cellsA b (bX .i64 f 65 0) 159::F)->(∃v:Nat,i64.wrap ((j:Int)+1)=v/\v<=65/\aA a (A v::cellsA b (bX .i64 f 65 0) 159::F))/\65-(i64.wrap ((j:Int)+1)).toNat<65-((j:Int)).toNat:=by
   intro a h;rw[show i64.wrap ((j:Int)+1)=((j+1:Nat):Int) by rw[aJ];omega];exact⟨⟨j+1,rfl,d,h⟩,by simp only[VJ];omega⟩
  refine λJ u=>⟨λx=>?_,λx=>?_⟩
  .have w:f j≠0:=by simpa using x
   refine E j d w _ _ _ h (λa h=>⟨true,rfl,u _ _ ?_⟩) (λa h=>⟨false,rfl,u _ _ ?_⟩)
   .skip
    exact⟨λm=>by simp at m,λ_=>e _ h⟩
   .skip
    exact⟨λ_=>B _ h,λm=>by simp at m⟩
  .have C:f j=0:=by simpa using x
   refine u _ _ ?_;rw[D j d C]at h;exact⟨λm=>by simp at m,λ_=>e _ h⟩
 .have:j=65:=by have:=V9 s;omega
  subst this;exact k _ h
end
theorem IG(c:Cl){j:Nat}(a:j<65):aT (dx c) (7+j)=some (aB (c.h j)):=by
 refine (yF (l:=[aB c.n,aB (cw c.sum),.int .u64 (wlo c.sum),aB c.mn,aB c.mx,aB c.cer,aB c.pos]) j).trans ?_;rw[uh _ _ _ _ _ a,VX]
section
variable {F L:List aE}{H:aC}{K:KE}
theorem eqW(x y:Int):iL Tryz.prog .neq 157 (kT x) (kT y) (!decide (x=y))/\iL Tryz.prog .eql 157 (kT x) (kT y) (decide (x=y)):=by
 have h:=tE (P:=Tryz.prog) (t:=157) (xs:=[aD (cw x),.int .u64 (wlo x)]) (ys:=[aD (cw y),.int .u64 (wlo y)]) (r:=(cw x == cw y&&(wlo x == wlo y&&true))) (by kernel_rfl);have e:(cw x == cw y&&(wlo x == wlo y&&true))=decide (x=y):=by
  rw[Wp];simp only[Bool.and_true,VB,beq_iff_eq,VA];exact weq
 rw[e]at h;exact⟨h.2,h.1⟩
theorem uj{c:Cl}(wc:WC c)(h:aA H F)(k:∀J,aA J F->K (.bool (ge c)) J):CF 222 #[aggC c] H K:=by
 refine cL 222 (.r (.seq (.r (.cond (.r .no) .no)) (.seq (.r (.blk (.loop [(30,sI)] (.r (.seq (.cond .no .no) (.seq (.blk (.r (.r (.cond (.r .no) .no)))) .reg)))))) (.seq (.r (.cond (.r .no) .no)) (.seq (.r (.cond (.r .no) .no)) (.seq (.regJ [(5,sA),(6,sA)]) (.seq (.r (.cond (.r .no) .no)) (.seq (.r (.blk (.rng [sI,sI] [none,(some .ret)] .reg (.blk (.r (.cond (.r .no) .no)))))) (.r .no))))))))) ?_;unfold ge at k;refine h.al λb _ h=>?_
 refine h.al λb1 _ h=>?_
 refine⟨_,h.r 1,_,λ_=>h.r 1,_,λ_=>h.r 1,_,λ_=>h.r 1,_,λ_=>h.r 1,λL=>?_,λL=>?_⟩
 .rw [L]at k;refine h.sta 0 rfl rfl λB h=>⟨_,h.r 0,?_⟩
  exact k _ h.tl.tl
 rw[L]at k;refine⟨c.h,h.rdt (l:=[_,_,_,_,_,_,_]) 1 rfl rfl,?_⟩;refine⟨λi J=>∃j:Nat,i=j/\j<=65/\(∀q,q<j->0<=c.h q)/\aA J (cellsA b1 [.bool false] 4::cellsA b (dx c) 161::F),λi _=>65-i.toNat,⟨0,rfl,by omega,λ_ h=>by omega,h⟩,?_⟩
 rintro i H1 ⟨j,rfl,Q,T,h⟩;refine⟨λm=>?_,λm=>?_⟩
 .have E:j<65:=by have:=V8 m;omega
  refine⟨_,idx60 (by omega) (by omega),?_⟩;rw[VJ];refine⟨λI=>?_,λI=>?_⟩
  .have I:=V8 I;have:ou c.h=false:=by
    rw[Y5];intro D;have:=qB.1 D j E;omega
   rw[this]at k;refine h.sta 0 rfl rfl λB h=>⟨_,h.r 0,?_⟩
   exact k _ h.tl.tl
  .have I:=V9 I
   conv=>whnf
   rw[show i64.wrap ((j:Int)+1)=((j+1:Nat):Int) by rw[aJ];omega];refine⟨⟨j+1,rfl,E,λq t=>?_,h⟩,by simp only[VJ];omega⟩
   rcases Wa q j with d|d
   .exact T q d
   .obtain rfl:q=j:=by omega
    omega
 .have y:j=65:=by have:=V9 m;omega
  subst y;have hv:ou c.h=true:=qB.2 T;rw[hv]at k;refine⟨c.h,h.rdt (l:=[_,_,_,_,_,_,_]) 1 rfl rfl,_,h.r 1,?_⟩;refine RA wc.h h λB h=>⟨_,_,rfl,h.r 1,?_⟩
  refine Af wc.n h λH3 h=>⟨_,_,rfl,_,(eqW _ _).1,λs=>?_,λs=>?_⟩
  .have:decide (sumC c.h=c.n)=false:=by simpa using s
   rw[this]at k;refine h.sta 0 rfl rfl λB h=>⟨_,h.r 0,?_⟩
   exact k _ h.tl.tl
  have hs:decide (sumC c.h=c.n)=true:=by simpa using s
  rw[hs]at k;simp only[Bool.not_false,Yo]at k;refine⟨_,h.r 1,λw=>?_,λw=>?_⟩
  .rw [V5 (V8 w)]at k;have e0:=(eqW c.sum 0).2;refine⟨_,_,h.rdv (l:=[_]) (vs:=[_,_]) 1 rfl rfl,_,e0,_,λ_=>h.r 1,_,λ_=>h.r 1,?_⟩
   refine h.sta 0 rfl rfl λB h=>⟨_,h.r 0,?_⟩
   exact k _ h.tl.tl
  .rw [V4 (V9 w)]at k;have bl:=pp wc.mn;have W:=pp wc.mx;intro Y Z;have fin:∀e hb C,aA C (cellsA e [aD (bZ c.mn)] 3::cellsA hb [aD (bZ c.mx)] 3::cellsA b1 [.bool false] 4::cellsA b (dx c) 161::F)->Y e 0 hb 0 C:=by
    intro e hb C h;refine Z _ _ _ _ _ ?_;have g1:aL C b (7+(bZ c.mn).toNat)=some (aD (c.h (bZ c.mn).toNat)):=by rw[h.rd 3 rfl];exact IG c (by omega)
    have g2:aL C b (7+(bZ c.mx).toNat)=some (aD (c.h (bZ c.mx).toNat)):=by rw[h.rd 3 rfl];exact IG c (by omega)
    refine⟨_,h.r 0,bl,_,g1,_,λ_=>h.r 1,λ_=>W,_,λ_=>g2,λu=>?_,λu=>?_⟩
    .rw [u]at k;refine h.sta 2 rfl rfl λB h=>⟨_,h.r 2,?_⟩
     exact k _ h.tl.tl.tl.tl
    rw[u]at k;simp only[Bool.not_false,Yo]at k;refine⟨c.h,h.rdt (l:=[_,_,_,_,_,_,_]) 3 rfl rfl,?_⟩;refine IC h λfb O h=>⟨_,_,rfl,rfl,λR M N hy=>?_⟩
    have h:=h.rng R;refine IE (f:=c.h) (λj=>star [cellsA e [aD (bZ c.mn)] 3,cellsA hb [aD (bZ c.mx)] 3,cellsA b1 [.bool false] 4,pt (O.size+1) (.loop R),pur (∀q,q<j->c.h q=0\/bZ c.mn<=q/\(q:Int)<=bZ c.mx)])
     (star [cellsA e [aD (bZ c.mn)] 3,cellsA hb [aD (bZ c.mx)] 3,cellsA b1 [.bool false] 4,pt (O.size+1) (.loop { R with state:=.done,pending:=some .ret }),pur (inB c=false)])
     (F:=pt O.size (.deferred (some []))::cellsA b (dx c) 161::F) ?_ ?_ ?_ ?_ ?_
    .refine aA.shut [_,_,_,_,_] ?_;have V:=((h.o [3,4,5,0,2,1,6] 7).pur (p:=∀q:Nat,q<0->c.h q=0\/bZ c.mn<=q/\(q:Int)<=bZ c.mx) (λq t=>V6 t (Nat.not_lt_zero q)))
     exact V.o [1,2,3,4,0] 5
    .intro j Q hz;have:(∀q,q<j->c.h q=0\/bZ c.mn<=q/\(q:Int)<=bZ c.mx)=(∀q,q<j+1->c.h q=0\/bZ c.mn<=q/\(q:Int)<=bZ c.mx):=propext ⟨λD q t=>by
      rcases Wa q j with d|d
      .exact D q d
      .obtain rfl:q=j:=by omega
       exact .inl hz,λD q t=>D q (by omega)⟩
     simp only[this]
    .intro j Q h0 G S K1 h kt kf;have h:=aA.open (A:=[_,_,_,_,_]) h;have x:=(aA.consP (h.o [4,0,1,2,3] 5)).1;refine hy _ _ _ ?_;refine⟨_,_,rfl,h.getO 3 rfl,h.getO 3 rfl,h.stl 3 rfl λH7 h=>⟨_,h.r 0,_,λ_=>h.r 1,λv=>?_,λv=>?_⟩⟩
     .refine h.sta 2 rfl rfl λH8 h=>⟨h.getO 3 rfl,kf _ ?_⟩
      have h:=h.setO 3 rfl (.loop { R with state:=.done,pending:=some .ret });have a:inB c=false:=by
       rw[Y5];intro a;unfold inB at a;rw[Wt]at a;have:=a j (WG.2 Q);simp only[VR,VA]at this v;omega
      refine aA.shut [_,_,_,_,_] ?_;exact ((h.pur a).o [1,2,3,4,0] 6)
     .refine⟨h.getO 3 rfl,kt _ ?_⟩;have h:=h.setO 3 rfl (.loop R);refine aA.shut [_,_,_,_,_] ?_;have P:∀q,q<j+1->c.h q=0\/bZ c.mn<=q/\(q:Int)<=bZ c.mx:=λq t=>by
       rcases Wa q j with d|d
       .exact x q d
       .obtain rfl:q=j:=by omega
        simp only[VP,VD]at v;exact .inr (by omega)
      exact ((h.pur P).o [1,2,3,4,0] 6)
    .intro S h;have h:=aA.open (A:=[_,_,_,_,_]) h;have x:=(aA.consP (h.o [4,0,1,2,3] 5)).1;have a:inB c=true:=by
      unfold inB;rw[Wt];intro q t;have:=x q (WG.1 t);simp only[VR,VA];exact this
     rw[a]at k;refine⟨.ready,none,by decide,by rw[nD M N];exact h.getO 3 rfl,h.stl 3 rfl λH9 h=>.inl ⟨rfl,?_⟩⟩
     refine h.sta 2 rfl rfl λU h=>⟨h.getO 6 rfl,?_⟩
     have h:=h.setO 6 rfl (.deferred none);exact⟨_,h.r 2,k _ (h.o [7] 8).tl⟩
    .intro S h;have h:=aA.open (A:=[_,_,_,_,_]) h;have a:=(aA.consP (h.o [4,0,1,2,3] 5)).1;rw[a]at k;refine⟨.done,some .ret,by decide,h.getO 3 rfl,h.stl 3 rfl λH9 h=>.inr ⟨rfl,h.getO 6 rfl,?_⟩⟩
     have h:=h.setO 6 rfl (.deferred none);exact⟨_,h.r 2,k _ (h.o [7] 8).tl⟩
   refine⟨_,h.r 1,_,mH wc.mn,_,h.r 1,_,mH wc.mx,?_,?_⟩
   .refine h.al λe _ h=>⟨mH wc.mx,h.r 2,mH wc.mn,h.r 2,?_⟩
    refine h.al λhb _ h=>⟨mH wc.mx,h.r 3,mH wc.mn,h.r 3,?_⟩
    refine h.sta 1 rfl rfl λ_ h=>h.sta 0 rfl rfl λ_ h=>?_
    exact fin _ _ _ (h.o [1,0] 2)
   .refine h.al λe _ h=>⟨mH wc.mx,h.r 2,mH wc.mn,h.r 2,?_⟩
    refine h.al λhb _ h=>⟨mH wc.mx,h.r 3,mH wc.mn,h.r 3,?_⟩
    refine h.sta 0 rfl rfl λ_ h=>h.sta 1 rfl rfl λ_ h=>?_
    exact fin _ _ _ h
end
section
variable {H:aC}{L:List aE}
theorem aA.stv{Q:aC->Prop}{b e n o:Nat}{f:Nat->Int}{j:Nat}{x:Int}(h:aA H L)(i:Nat)(c:aW i L=cellsA b (bX .i64 f n 0) e)(d:j<n)(m:o=0+j)(k:∀a,aA a (put i (cellsA b (bX .i64 (eX f j x) n 0) e) L)->Q a) :
  eT H b o [aB x]/\∀a,a=fJ H b o [aB x]->Q a:=by
 subst m;rw[VX];refine⟨h.can i c j _ (by rw[se];simp;omega),?_⟩;rintro a rfl;have:=h.set i c j [aB x];have e2:cv (bX .i64 f n 0) j [aB x]=bX .i64 (eX f j x) n 0:=by
  show (bX .i64 f n 0).set j (aB x)=_;rw[Ae _ _ _ _ _ _ d,VX]
 rw[e2]at this;exact k _ this
theorem aA.stt{Q:aC->Prop}{b e o:Nat}{l r vs:Os}(h:aA H L)(i:Nat)(c:aW i L=cellsA b (l++r) e)(f:o=l.length)(d:vs.length=r.length)(k:∀a,aA a (put i (cellsA b (l++vs) e) L)->Q a) :
  eT H b o vs/\∀a,a=fJ H b o vs->Q a:=by
 subst f;refine⟨h.can i c _ _ (by rw[V7];omega),?_⟩;rintro a rfl;have:=h.set i c l.length vs;have e2:cv (l++r) l.length vs=l++vs:=by
  have:=tx vs l r 0;rw[WM]at this;rw[this,vL _ _ d]
 rw[e2]at this;exact k _ this
end
section
variable {F L:List aE}{H:aC}{K:KE}
theorem RG{f:Nat->Int}{v:Int}(u:wfH f)(s:aF v)(h:aA H F)(k:∀n,aA n F->K (.tuple #[.agg ⟨bX .i64 (jo f v).1 65 0⟩,aD (jo f v).2]) n) :
  CF 337 #[.agg ⟨bX .i64 f 65 0⟩,aD v] H K:=by
 refine cM 337 1907996 ?_;unfold jo at k;refine h.al λb _ h=>?_
 refine h.al λb1 _ h=>⟨f,h.rda 1 rfl,?_⟩
 refine R8 h λt h=>⟨_,rfl,λe=>?_,λe=>?_⟩
 .rw [V5 (by simpa using e)]at k;refine h.sta 0 rfl rfl λi h=>⟨_,h.rda 0 rfl,k _ h.tl.tl⟩
 rw[V4 (by simpa using e)]at k;have hb:=pp s;have d:(bZ v).toNat<65:=by omega
 have a:aL t b (0+(bZ v).toNat)=some (aD (f (bZ v).toNat)):=by
  rw[h.rd 1 rfl,VX,uh _ _ _ _ _ d,VX]
 refine⟨_,mH s,hb,_,a,λc=>?_,λc=>?_⟩
 .rw [V5 (V8 c)]at k;refine h.sta 0 rfl rfl λi h=>⟨_,h.rda 0 rfl,k _ h.tl.tl⟩
 have m:=V9 c;rw[V4 m]at k;have j:=u _ d;unfold aF at j;refine⟨hb,_,a,hb,?_⟩;rw[aJ (x:=f (bZ v).toNat+1)];refine h.stv 1 rfl d rfl λi h=>⟨_,h.rda 1 rfl,?_⟩
 refine h.sta 0 rfl rfl λi h=>⟨_,h.rda 0 rfl,k _ h.tl.tl⟩
theorem IH{c:Cl}{a:Bool}(wc:WC c)(h:aA H F)(k:∀i,aA i F->K (.tuple #[aggC (gP c a).1,aD (gP c a).2]) i) :
  CF 291 #[aggC c,.bool a] H K:=by
 refine cN 291 1997721083164 [[(6,sP)]] ?_;unfold gP at k;have wn:=IB wc;refine h.al λb _ h=>?_
 refine h.al λb1 _ h=>⟨_,_,_,_,_,_,_,_,h.rda 1 rfl,?_⟩
 refine uj wc h λj h=>⟨_,rfl,λe=>?_,λe=>?_⟩
 .rw [V5 (by simpa using e)]at k;refine h.sta 0 rfl rfl λd h=>⟨_,_,_,_,_,_,_,_,h.rda 0 rfl,k _ h.tl.tl⟩
 rw[V4 (by simpa using e)]at k;refine λm f=>⟨λhb=>f _ _ ?_,λhb=>f _ _ ?_⟩
 .rw [V5 hb]at k;refine⟨_,h.r 1,λhm=>?_,λhm=>?_⟩
  .rw [V5 (V8 hm)]at k;refine h.sta 0 rfl rfl λd h=>⟨_,_,_,_,_,_,_,_,h.rda 0 rfl,k _ h.tl.tl⟩
  .have hm:=V9 hm;rw[V4 hm]at k;have:=wc.cer;unfold aF at this;refine⟨_,h.r 1,?_⟩
   conv=>whnf
   rw[aJ (x:=c.cer+1)];refine h.st 1 rfl rfl λd h=>?_
   have h:aA d (cellsA b1 (dx Cl.z) 161::cellsA b (dx { c with cer:=c.cer+1 }) 161::F):=h;refine⟨_,_,_,_,_,_,_,_,h.rda 1 rfl,?_⟩;refine h.sta 0 rfl rfl λd h=>⟨_,_,_,_,_,_,_,_,h.rda 0 rfl,k _ h.tl.tl⟩
 .rw [V4 (by rw[hb];decide)]at k;refine⟨_,h.r 1,λhm=>?_,λhm=>?_⟩
  .rw [V5 (V8 hm)]at k;refine h.sta 0 rfl rfl λd h=>⟨_,_,_,_,_,_,_,_,h.rda 0 rfl,k _ h.tl.tl⟩
  .have hm:=V9 hm;rw[V4 hm]at k;have:=wc.pos;unfold aF at this;refine⟨_,h.r 1,?_⟩
   conv=>whnf
   rw[aJ (x:=c.pos+1)];refine h.st 1 rfl rfl λd h=>?_
   have h:aA d (cellsA b1 (dx Cl.z) 161::cellsA b (dx { c with pos:=c.pos+1 }) 161::F):=h;refine⟨_,_,_,_,_,_,_,_,h.rda 1 rfl,?_⟩;refine h.sta 0 rfl rfl λd h=>⟨_,_,_,_,_,_,_,_,h.rda 0 rfl,k _ h.tl.tl⟩
theorem RH{c:Cl}{v:Int}(wc:WC c)(j:aF v)(h:aA H F)(k:∀E,aA E F->K (.tuple #[aggC (jV c v).1,aD (jV c v).2]) E) :
  CF 294 #[aggC c,aD v] H K:=by
 refine cN 294 0x1d1d28d1d2174911c [[],[(7,sI),(8,sA)]] ?_;unfold jV at k;refine h.al λb _ h=>?_
 refine h.al λb1 _ h=>⟨_,_,_,_,_,_,_,_,h.rda 1 rfl,?_⟩
 refine uj wc h λN h=>⟨_,rfl,λs=>?_,λs=>?_⟩
 .rw [V5 (by simpa using s)]at k;refine h.sta 0 rfl rfl λf h=>⟨_,_,_,_,_,_,_,_,h.rda 0 rfl,k _ h.tl.tl⟩
 rw[V4 (by simpa using s)]at k;refine⟨_,h.r 1,_,_,Gt wc.n (by decide),λC=>?_,λC=>?_⟩
 .rw [V5 (by simpa using C)]at k;refine h.sta 0 rfl rfl λf h=>⟨_,_,_,_,_,_,_,_,h.rda 0 rfl,k _ h.tl.tl⟩
 rw[V4 (by simpa using C)]at k;intro I G;have a:fZ v:=by unfold aF at j;unfold fZ;omega
 have fin:∀sb i,aA i (cellsA sb [aD (cw (gO c.sum v).1),.int .u64 (wlo (gO c.sum v).1)] 157::cellsA b1 (dx Cl.z) 161::cellsA b (dx c) 161::F)->I (gO c.sum v).2 sb 0 i:=by
  intro sb i h;refine G _ _ _ _ ?_;refine⟨λx=>?_,λx=>?_⟩
  .rw [V5 (by simpa using x)]at k;refine h.sta 1 rfl rfl λf h=>⟨_,_,_,_,_,_,_,_,h.rda 1 rfl,k _ h.tl.tl.tl⟩
  rw[V4 (by simpa using x)]at k;refine⟨c.h,h.rdt (l:=[_,_,_,_,_,_,_]) 2 rfl rfl,?_⟩;refine RG wc.h j h λw h=>⟨_,_,rfl,?_⟩
  refine h.al λb2 _ h=>?_
  refine h.sta 0 rfl rfl λM h=>⟨λB=>?_,λB=>?_⟩
  .rw [V5 (by simpa using B)]at k;refine h.sta 2 rfl rfl λf h=>⟨_,_,_,_,_,_,_,_,h.rda 2 rfl,k _ h.tl.tl.tl.tl⟩
  rw[V4 (by simpa using B)]at k;refine⟨_,h.r 3,λy u=>?_⟩
  dsimp only at k;have e:∀(mn mx:Int) A,mn=(if c.n=0 then v else c.mn)->mx=(if c.n=0 then v else c.mx)->aA A (cellsA b2 (bX .i64 (jo c.h v).1 65 0) 159::cellsA sb [aD (cw (gO c.sum v).1),.int .u64 (wlo (gO c.sum v).1)] 157::cellsA b1 (dx Cl.z) 161::cellsA b (dx { c with mn:=mn,mx:=mx }) 161::F)->y A:=by
   intro mn mx A e1 e2 h;refine u _ ?_;rw[<-e1,<-e2]at k;refine⟨_,_,h.rda 1 rfl,_,h.rda 0 rfl,?_⟩;refine h.st 3 rfl rfl λL h=>⟨h.rda 0 rfl,h.rda 1 rfl,?_⟩
   refine h.st 3 rfl rfl λD h=>⟨h.rda 0 rfl,?_⟩
   have h:aA D (cellsA b2 (bX .i64 (jo c.h v).1 65 0) 159::cellsA sb [aD (cw (gO c.sum v).1),.int .u64 (wlo (gO c.sum v).1)] 157::cellsA b1 (dx Cl.z) 161::cellsA b (dx { c with n:=(j4 c.n 1).1,sum:=(gO c.sum v).1,mn:=mn,mx:=mx }) 161::F):=h;refine h.stt (l:=[_,_,_,_,_,_,_]) 3 rfl rfl rfl λm h=>?_
   have h:aA m (cellsA b2 (bX .i64 (jo c.h v).1 65 0) 159::cellsA sb [aD (cw (gO c.sum v).1),.int .u64 (wlo (gO c.sum v).1)] 157::cellsA b1 (dx Cl.z) 161::cellsA b (dx { c with n:=(j4 c.n 1).1,sum:=(gO c.sum v).1,mn:=mn,mx:=mx,h:=(jo c.h v).1 }) 161::F):=h;refine⟨_,h.r 3,_,h.r 3,?_⟩;refine h.st 3 rfl rfl λJ h=>?_
   refine h.st 3 rfl rfl λt h=>?_
   have h:aA t (cellsA b2 (bX .i64 (jo c.h v).1 65 0) 159::cellsA sb [aD (cw (gO c.sum v).1),.int .u64 (wlo (gO c.sum v).1)] 157::cellsA b1 (dx Cl.z) 161::
    cellsA b (dx { c with n:=(j4 c.n 1).1,sum:=(gO c.sum v).1,mn:=if v<mn then v else mn,mx:=if v>mx then v else mx,h:=(jo c.h v).1 }) 161::F):=h
   refine⟨_,_,_,_,_,_,_,_,h.rda 3 rfl,?_⟩;refine h.sta 2 rfl rfl λf h=>⟨_,_,_,_,_,_,_,_,h.rda 2 rfl,k _ h.tl.tl.tl.tl⟩
  refine⟨λd=>?_,λd=>?_⟩
  .have d:=V8 d;refine h.st 3 rfl rfl λL h=>?_
   refine h.st 3 rfl rfl λD h=>?_
   exact e v v _ (by rw[V5 d]) (by rw[V5 d]) h
  .have d:=V9 d;exact e c.mn c.mx _ (by rw[V4 d]) (by rw[V4 d]) h
 refine⟨_,_,h.rdv (l:=[_]) (vs:=[_,_]) 1 rfl rfl,?_,?_⟩
 .refine Af j h λf h=>⟨_,_,rfl,h.rdv (l:=[_]) (vs:=[_,_]) 1 rfl rfl,?_,?_⟩
  .refine Ah wc.sum a h λi h=>⟨_,_,_,rfl,?_⟩
   refine h.al λb3 _ h=>?_
   refine h.sta 0 rfl rfl λw h=>fin _ _ h
  .refine h.al λb3 _ h=>⟨h.rdv (l:=[_]) (vs:=[_,_]) 2 rfl rfl,?_⟩
   refine Ah wc.sum a h λi h=>⟨_,_,_,rfl,?_⟩
   refine h.sta 0 rfl rfl λw h=>fin _ _ h
 .refine h.al λb3 _ h=>⟨h.rdv (l:=[_]) (vs:=[_,_]) 2 rfl rfl,?_⟩
  refine Af j h λf h=>⟨_,_,rfl,h.rdv (l:=[_]) (vs:=[_,_]) 2 rfl rfl,?_⟩
  refine Ah wc.sum a h λi h=>⟨_,_,_,rfl,?_⟩
  refine h.sta 0 rfl rfl λw h=>fin _ _ h
end
structure Ky where
 win:Int
 ser:Fa
deriving DecidableEq
abbrev eL(k:Ky):Os:=[aB k.win,.string k.ser]
abbrev aggK(k:Ky):Value:=.agg ⟨eL k⟩
theorem qC(k:Ky):(eL k).length=2:=rfl
abbrev Ot:=Ky×Cl
abbrev cJ(o:Ot):Os:=[aB o.1.win,.string o.1.ser,aB o.2.n,aB (cw o.2.sum),.int .u64 (wlo o.2.sum),aB o.2.mn,aB o.2.mx,aB o.2.cer,aB o.2.pos]++bX .i64 o.2.h 65 0
theorem iW(o:Ot):(cJ o).length=74:=by simp[cJ,se]
theorem sf(o:Ot):cT (cJ o)=true:=vM rfl (I5 _ _ _ _)
theorem ba_beq(x y:Fa):(x.toList == y.toList)=decide (x=y):=by
 rw[Wp,beq_iff_eq,VA,ByteArray.toList_eq,ByteArray.toList_eq]
 constructor
 .intro h
  cases x with|mk a=>cases y with|mk b=>
   cases a;cases b
   simp only at h;rw[h]
 .intro h;rw[h]
def cr(first last:Int):List Int:=(List.range (last-first+1).toNat).map λi:Nat=>first+i
abbrev CM:=List (Ky×Cl)
def fO(m:CM)(k:Ky):Cl:=(aK k m).getD Cl.z
def jW(m:CM)(ser:Fa)(ws:List Int):Int:=((ws.filter λw=>(aK ⟨w,ser⟩ m).isNone).length:Nat)
def qD(most:Int)(m:CM)(first last:Int)(ser:Fa):Bool:=
 if last<first then false else if most<=last-first then false else decide ((m.length:Int)+jW m ser (cr first last)<=most)
def ig(m:CM)(ser:Fa)(certain:Bool):List Int->CM×Int
 | []=>([],0)
 | w::r=>if (gP (fO m ⟨w,ser⟩) certain).2≠0 then ([],(gP (fO m ⟨w,ser⟩) certain).2)
  else ((⟨w,ser⟩,(gP (fO m ⟨w,ser⟩) certain).1)::(ig m ser certain r).1,(ig m ser certain r).2)
def lM(l:CM)(m:CM):CM:=l.foldl (λm p=>mset p.1 p.2 m) m
def jX(most:Int)(m:CM)(first last:Int)(ser:Fa):CM×Int:=
 if last<first then (m,10) else if qD most m first last ser=false then (m,20) else
 if (ig m ser (decide (first=last)) (cr first last)).2≠0 then (m,(ig m ser (decide (first=last)) (cr first last)).2)
 else (lM (ig m ser (decide (first=last)) (cr first last)).1 m,0)
def mI(m:CM)(k:Ky)(v:Int):CM×Int:=
 match aK k m with
 | none=>(m,19)
 | some c=>if (jV c v).2≠0 then (m,(jV c v).2) else (mset k (jV c v).1 m,0)
def jY(most:Int)(m:CM)(k:Ky)(c:Cl):CM×Int:=
 if (aK k m).isSome then (m,18) else if ge c=false then (m,10) else if most<=(m.length:Int) then (m,20) else (mset k c m,0)
structure dX(most:Int)(m:CM):Prop where
 m1:1<=most
 m2:most<=1024
 nd:(aG m).Nodup
 wc:∀p∈m,WC p.2
 rt:∀p∈m,ge p.2=true
 wn:∀p∈m,aF p.1.win
 len:(m.length:Int)<=most
theorem dX.cell{most:Int}{m:CM}(h:dX most m)(k:Ky):WC (fO m k):=by
 unfold fO
 cases hm:aK k m with
 | none=>exact WC.z
 | some c=>exact h.wc _ (hI hm)
theorem koK:nB Tryz.prog 154 aggK:=Ob Tryz.underlying154 (λx y h=>by
  cases x;cases y;simp only[List.cons.injEq,Value.int.injEq,Value.string.injEq,and_true,true_and]at h;rw[h.1,h.2])
 (λx y=>by
  have h:rF Tryz.prog 154 (eL x) (eL y)=some (x.win == y.win&&(x.ser == y.ser&&true)):=by kernel_rfl
  rw[h];congr 1;rw[Wp];simp only[Bool.and_true,VB,beq_iff_eq,VA,Go.MapKept.bytes_beq]
  cases x;cases y
  simp)
 (λx=>by kernel_rfl) (λx n=>by
  have hb:(x.ser == x.ser)=true:=(Go.MapKept.bytes_beq _ _).2 rfl;unfold Instr.sameBits;simp[Instr.sameBits,hb])
theorem mtC:lE Tryz.prog 272 154 161 aggC Cl.z:=qn Tryz.underlying272 (by kernel_rfl)
theorem sl86:SlT Tryz.prog 143 164 74 600:=iu (by kernel_rfl)
abbrev shC(sb mb:Nat)(most:Int):aE:=cellsA sb [aD most,.map (some mb)] 274
abbrev cz(mb:Nat)(m:CM):aE:=mapA aggK aggC mb m
section
variable {sb mb:Nat}{most:Int}{m:CM}{F L:List aE}{H:aC}{K:KE}
theorem II(h:aA H F)(k1:most<1\/1024<most->K (.tuple #[.pointer none,aD 11]) H)
  (k2:∀sb mb b,dX most []->aA b (shC sb mb most::cz mb []::F)->K (.tuple #[PA sb 0,aD 0]) b):CF 184 #[aD most] H K:=by
 refine cM 184 476 ⟨λa=>k1 (by simpa using a),λa=>?_⟩
 simp only[VP,VD]at a;refine h.alm aggK aggC λmb _ h=>?_
 refine h.al λsb _ h=>?_
 exact k2 _ _ _ ⟨by omega,by omega,List.nodup_nil,by simp,by simp,by simp,by simp;omega⟩ h
theorem RI(h:aA H F)(i j:Nat)(b:aW i F=shC sb mb most)(a:aW j F=cz mb m):bV Tryz.prog 55 #[PA sb 0] H (aD (m.length:Nat)):=
 cM 55 28 ⟨_,h.rd i b _,_,h.mp_len mtC j a,rfl,rfl⟩
theorem u64sub{a b:Int}(c:aF a)(hb:aF b)(h:b<=a):u64.wrap (u64.wrap a-u64.wrap b)=a-b:=by
 unfold aF at c hb;rw[df,df,df];omega
theorem IJ{first last:Int}(h:first<=last):((cr first last).length:Int)=last-first+1:=by
 simp only[cr,VM,List.length_range];omega
theorem IK{first last:Int}{j:Nat}(a:j<(cr first last).length):(cr first last)[j]=first+(j:Nat):=by simp[cr]
theorem RJ(ok:dX most m){first last:Int}{ser:Fa}(I:aF first)(J:aF last)(h:aA H (shC sb mb most::cz mb m::F))
  (k:∀t,aA t (shC sb mb most::cz mb m::F)->K (.bool (qD most m first last ser)) t) :
  CF 290 #[PA sb 0,aD first,aD last,.string ser] H K:=by
 refine O4 ?_;unfold qD at k;have M:=ok.m1;have Q:=ok.m2;have L:=ok.len;refine⟨λy=>?_,λy=>?_⟩
 .rw [V5 (V8 y)]at k;exact k _ h
 have B:=V9 y;rw[V4 B]at k;have em:u64.wrap most=most:=by rw[df];omega
 have S:=u64sub J I (by omega);rw[S];refine⟨_,h.r 0,?_⟩;dsimp only;rw[em];refine⟨λd=>?_,λd=>?_⟩
 .rw [V5 (V8 d)]at k;exact k _ h
 have E:=V9 d;rw[V4 E]at k;have v:=IJ (first:=first) (last:=last) (by omega);refine⟨_,h.r 0,_,h.mp_len mtC 1 rfl,?_⟩;refine⟨λn i t=>∃j:Nat,i=j/\j<=(cr first last).length/\n=(m.length:Int)+jW m ser ((cr first last).take j)/\aA t (shC sb mb most::cz mb m::F),λ_ i _=>(cr first last).length-i.toNat,
  ⟨0,rfl,Wd _,by simp[jW],h⟩,?_⟩
 rintro n i N ⟨j,rfl,V,rfl,h⟩;have e1:i64.wrap (i64.wrap (last-first)+1)=((cr first last).length:Int):=by rw[aJ (x:=last-first),aJ,v]
 rw[e1];refine⟨λf=>?_,λf=>?_⟩
 .have s:j<(cr first last).length:=by have:=V8 f;omega
  unfold aF at I J;have O:i64.wrap (first+(j:Nat))=(cr first last)[j]:=by rw[IK s,aJ]
  have u:∀q,jW m ser ((cr first last).take q)<=q:=λq=>by
   unfold jW;have W:=Y4 (λw=>(aK (⟨w,ser⟩:Ky) m).isNone) ((cr first last).take q)
   have T:((cr first last).take q).length<=q:=by rw[VY];omega
   omega
  have R:=u j;have P:0<=jW m ser ((cr first last).take j):=by unfold jW;omega
  rw[O];refine⟨_,h.r 0,_,_,_,_,_,_,_,_,_,h.mp_get mtC koK 1 rfl (x:=⟨(cr first last)[j],ser⟩),?_⟩;refine h.al λb _ h=>?_
  refine h.sta 0 rfl (by rw[kU];exact (kU Cl.z).symm) λY h=>?_
  have e3:i64.wrap ((j:Int)+1)=((j+1:Nat):Int):=by rw[aJ];omega
  have c:jW m ser ((cr first last).take (j+1))=jW m ser ((cr first last).take j)+(if (aK (⟨(cr first last)[j],ser⟩:Ky) m).isNone then 1 else 0):=by
   unfold jW;rw[Wn s,List.filter_append,V7]
   by_cases hn:(aK (⟨(cr first last)[j],ser⟩:Ky) m).isNone=true
   .simp [hn]
   .simp [hn]
  have a:∀n2:Int,n2=(m.length:Int)+jW m ser ((cr first last).take (j+1))->∀C,aA C (shC sb mb most::cz mb m::F)->ze.r1 (λn i t=>∃j:Nat,i=j/\j<=(cr first last).length/\n=(m.length:Int)+jW m ser ((cr first last).take j)/\aA t (shC sb mb most::cz mb m::F)) (λ_ i _=>(cr first last).length-i.toNat) ((m.length:Int)+jW m ser ((cr first last).take j)) (j:Int) N n2 C:=by
   intro n2 e C h;unfold ze.r1;rw[e3];exact⟨⟨j+1,rfl,s,e,h⟩,by simp only[VJ];omega⟩
  refine λU G=>⟨λD=>G _ _ (a _ ?_ _ h.tl),λD=>G _ _ (a _ ?_ _ h.tl)⟩
  .have:(aK (⟨(cr first last)[j],ser⟩:Ky) m).isNone=true:=by simpa using D
   rw[c,this,aJ];simp only[if_true];omega
  .have:(aK (⟨(cr first last)[j],ser⟩:Ky) m).isNone=false:=by simpa using D
   rw[c,this];simp
 .have A:j=(cr first last).length:=by have:=V9 f;omega
  subst A;rw[Wc (VF _)];refine⟨_,h.r 0,?_⟩;exact k _ h
theorem RK(ok:dX most m){key:Ky}{v:Int}(j:aF v)(h:aA H (shC sb mb most::cz mb m::F))
  (k:∀e,aA e (shC sb mb most::cz mb (mI m key v).1::F)->K (aD (mI m key v).2) e) :
  CF 243 #[PA sb 0,aggK key,aD v] H K:=by
 refine cM 243 18685212 ?_;unfold mI at k;refine h.al λb _ h=>?_
 have f:=h.mp_get mtC koK 2 rfl (x:=key);refine⟨_,h.r 1,_,_,h.rda 0 rfl,_,_,_,_,_,_,_,_,_,f,?_⟩;refine h.al λb1 _ h=>⟨h.mp_get mtC koK 3 rfl (x:=key),h.rda 1 rfl,h.r 2,?_⟩
 refine h.sta 0 rfl rfl λi h=>?_
 cases hm:aK key m with
 | none=>
  rw[hm]at k;exact⟨λ_=>k _ h.tl.tl,λd=>by simp at d⟩
 | some c=>
  rw[hm]at k h;refine⟨λd=>by simp at d,λ_=>?_⟩
  have wc:WC c:=ok.wc _ (hI hm);have h:aA i (cellsA b1 (dx c) 161::cellsA b (eL key) 154::shC sb mb most::cz mb m::F):=h;refine⟨_,_,_,_,_,_,_,_,h.rda 0 rfl,?_⟩;refine RH wc j h λs h=>⟨_,_,_,_,_,_,_,_,_,rfl,?_⟩
  refine h.sta 0 rfl (by rw[kU];exact (kU c).symm) λt h=>?_
  dsimp only at k;refine⟨λa=>?_,λa=>?_⟩
  .rw [V5 (by simpa using a)]at k;exact k _ h.tl.tl
  .rw [V4 (by simpa using a)]at k;refine⟨_,h.r 2,_,_,h.rda 1 rfl,_,_,_,_,_,_,_,_,h.rda 0 rfl,?_⟩;refine h.mp_update (x:=key) (v:=(jV c v).1) mtC koK 3 rfl λn h=>?_
   exact k _ h.tl.tl
theorem RM(ok:dX most m){key:Ky}{c:Cl}(wc:WC c)(h:aA H (shC sb mb most::cz mb m::F))
  (k:∀f,aA f (shC sb mb most::cz mb (jY most m key c).1::F)->K (aD (jY most m key c).2) f) :
  CF 206 #[PA sb 0,aggK key,aggC c] H K:=by
 refine cM 206 303815964 ?_;unfold jY at k;refine h.al λb _ h=>?_
 refine h.al λb1 _ h=>?_
 have i:=h.mp_get mtC koK 3 rfl (x:=key);refine⟨_,h.r 2,_,_,h.rda 1 rfl,_,_,_,_,_,_,_,_,_,i,?_⟩;refine h.al λb2 _ h=>⟨h.mp_get mtC koK 4 rfl (x:=key),h.rda 2 rfl,h.r 3,?_⟩
 refine h.sta 0 rfl rfl λj h=>⟨λd=>?_,λd=>?_⟩
 .rw [V5 d]at k;exact k _ h.tl.tl.tl
 rw[V4 (by rw[d];decide)]at k;have h:aA j (cellsA b2 _ 161::cellsA b1 (dx c) 161::cellsA b (eL key) 154::shC sb mb most::cz mb m::F):=h;refine⟨_,_,_,_,_,_,_,_,h.rda 1 rfl,?_⟩;refine uj wc h λs h=>⟨_,rfl,λa=>?_,λa=>?_⟩
 .rw [V5 (by simpa using a)]at k;exact k _ h.tl.tl.tl
 rw[V4 (by simpa using a)]at k;refine⟨_,h.r 3,_,h.mp_len mtC 4 rfl,_,h.r 3,λe=>?_,λe=>?_⟩
 .rw [V5 (V8 e)]at k;exact k _ h.tl.tl.tl
 rw[V4 (V9 e)]at k;refine⟨_,h.r 3,_,_,h.rda 2 rfl,_,_,_,_,_,_,_,_,h.rda 1 rfl,?_⟩;refine h.mp_update (x:=key) (v:=c) mtC koK 4 rfl λn h=>?_
 exact k _ h.tl.tl.tl
end
theorem RP(l r:CM)(m:CM):lM (l++r) m=lM r (lM l m):=by unfold lM;rw[WR]
section
variable {sb mb:Nat}{most:Int}{m:CM}{F L:List aE}{H:aC}{K:KE}
theorem RQ(ok:dX most m){first last:Int}{ser:Fa}(L:aF first)(N:aF last)(h:aA H (shC sb mb most::cz mb m::F))
  (k:∀n,aA n (shC sb mb most::cz mb (jX most m first last ser).1::F)->K (aD (jX most m first last ser).2) n) :
  CF 241 #[PA sb 0,aD first,aD last,.string ser] H K:=by
 refine OG ?_;unfold jX at k;have S:=ok.m2;refine⟨λD=>?_,λD=>?_⟩
 .rw [V5 (V8 D)]at k;exact k _ h
 have y:=V9 D;rw[V4 y]at k;refine RJ ok L N h λV h=>⟨_,rfl,λu=>?_,λu=>?_⟩
 .rw [V5 (by simpa using u)]at k;exact k _ h
 have a:qD most m first last ser=true:=by simpa using u
 rw[V4 (by rw[a];decide)]at k;have T:last-first<most:=by
  unfold qD at a;rw[V4 y]at a
  by_cases h2:most<=last-first
  .rw [V5 h2]at a;cases a
  .omega
 have C:=IJ (first:=first) (last:=last) (by omega);have E:=L;unfold aF at E;refine⟨λB J A i n=>∃(j:Nat) (done:CM),i=j/\j<=(cr first last).length/\J=done.length/\done.length=j/\
   ig m ser (decide (first=last)) (cr first last)=(done++(ig m ser (decide (first=last)) ((cr first last).drop j)).1,(ig m ser (decide (first=last)) ((cr first last).drop j)).2)/\
   aA n (slA 164 74 B done.length A (flat cJ done)::shC sb mb most::cz mb m::F),
  λ_ _ _ i _=>(cr first last).length-i.toNat,⟨0,[],rfl,Wd _,rfl,rfl,rfl,h.sl_nil 164 74⟩,?_⟩
 rintro B J A i H2 ⟨j,done,rfl,Z,rfl,I,e,h⟩;have e1:i64.wrap (i64.wrap (last-first)+1)=((cr first last).length:Int):=by rw[aJ (x:=last-first),aJ,C]
 rw[e1];refine⟨λf=>?_,λf=>?_⟩
 .have c:j<(cr first last).length:=by have:=V8 f;omega
  unfold aF at N;have Q:i64.wrap (first+(j:Nat))=(cr first last)[j]:=by rw[IK c,aJ]
  rw[Q];rw[Wx c,ig]at e;have wc:=ok.cell ⟨(cr first last)[j],ser⟩;refine h.al λb _ h=>?_
  refine h.sta 0 rfl rfl λR h=>λO P=>?_
  refine⟨_,h.r 2,_,_,h.rda 0 rfl,_,_,_,_,_,_,_,_,h.mp_get1 mtC koK 3 rfl (x:=⟨(cr first last)[j],ser⟩),?_⟩;have fin:∀cb t,aA t (cellsA cb (dx (gP (fO m ⟨(cr first last)[j],ser⟩) (decide (first=last))).1) 161::cellsA b (eL ⟨(cr first last)[j],ser⟩) 154::slA 164 74 B done.length A (flat cJ done)::shC sb mb most::cz mb m::F)->
    O cb 0 (gP (fO m ⟨(cr first last)[j],ser⟩) (decide (first=last))).2 t:=by
   intro cb t h;refine P _ _ _ _ ?_;refine⟨λd=>?_,λd=>?_⟩
   .have d:(gP (fO m ⟨(cr first last)[j],ser⟩) (decide (first=last))).2≠0:=by simpa using d
    rw[V5 d]at e;rw[e,V5 d]at k;exact k _ h.tl.tl.tl
   .have d:¬(gP (fO m ⟨(cr first last)[j],ser⟩) (decide (first=last))).2≠0:=by simpa using d
    rw[V4 d]at e;refine⟨_,_,h.rda 1 rfl,_,_,_,_,_,_,_,_,h.rda 0 rfl,?_⟩;rintro b1 _ rfl rfl;refine h.append1 (ws:=cJ (⟨(cr first last)[j],ser⟩,(gP (fO m ⟨(cr first last)[j],ser⟩) (decide (first=last))).1)) sl86 2 rfl (iW _) (sf _) (by omega) (by omega) λW c' n h=>⟨_,_,_,rfl,?_⟩
    rw[show i64.wrap ((j:Int)+1)=((j+1:Nat):Int) by rw[aJ];omega];have h:=h.tl.tl;refine⟨⟨j+1,done++[(⟨(cr first last)[j],ser⟩,(gP (fO m ⟨(cr first last)[j],ser⟩) (decide (first=last))).1)],rfl,c,by simp,by simp[I],?_,?_⟩,by simp only[VJ];omega⟩
    .rw [e,VK];rfl
    .rw [dS,nA,V7];exact h
  refine⟨?_,?_⟩
  .refine IH wc h λt h=>⟨_,_,_,_,_,_,_,_,_,rfl,?_⟩
   refine h.al λb2 _ h=>?_
   refine h.sta 0 rfl (by rw[kU];exact (kU Cl.z).symm) λM h=>fin _ _ h
  .refine h.al λb2 _ h=>⟨h.mp_get1 mtC koK 4 rfl (x:=⟨(cr first last)[j],ser⟩),h.rda 1 rfl,h.r 3,?_⟩
   refine IH wc h λt h=>⟨_,_,_,_,_,_,_,_,_,rfl,?_⟩
   refine h.sta 0 rfl (by rw[kU];exact (kU Cl.z).symm) λM h=>fin _ _ h
 .have G:j=(cr first last).length:=by have:=V9 f;omega
  subst G;rw[W6,ig,We]at e;rw[e,V4 (λU=>U rfl)]at k
  refine⟨λi n=>∃q:Nat,i=q/\q<=done.length/\aA n (slA 164 74 B done.length A (flat cJ done)::shC sb mb most::cz mb (lM (done.take q) m)::F),λi _=>done.length-i.toNat,⟨0,rfl,Wd _,h⟩,?_⟩
  rintro i R ⟨q,rfl,Y,h⟩;refine⟨λs=>?_,λs=>?_⟩
  .have c:q<done.length:=by have:=V8 s;omega
   have u:=h.sl_rd 0 rfl;have w:=u.els iW c;refine⟨⟨by omega,by omega⟩,_,_,u.some iW (by omega) c,_,_,_,_,_,_,_,_,_,_,w,?_⟩;refine h.al λb5 _ h=>?_
   refine h.sta 0 rfl (by rw[iW];exact (iW (⟨0,⟨#[]⟩⟩,Cl.z)).symm) λt h=>?_
   have h:aA t (cellsA b5 (eL done[q].1++dx done[q].2) 164::slA 164 74 B done.length A (flat cJ done)::shC sb mb most::cz mb (lM (done.take q) m)::F):=h;refine⟨_,h.r 2,_,_,h.rdv (l:=[]) 0 rfl rfl,_,_,_,_,_,_,_,_,h.rdt 0 rfl rfl,?_⟩;refine h.mp_update (x:=done[q].1) (v:=done[q].2) mtC koK 3 rfl λM h=>?_
   rw[show i64.wrap ((q:Int)+1)=((q+1:Nat):Int) by rw[aJ];omega];refine⟨⟨q+1,rfl,c,?_⟩,by simp only[VJ];omega⟩;rw[Wn c,RP];exact h.tl
  .have:q=done.length:=by have:=V9 s;omega
   subst this;rw[Wc (VF _)]at h;exact k _ h.tl
end
open  Go.Shelf Go.RowKit Go.Lib Go.Sort
def qE(a b:Int):Int:=if a<b then -1 else if b<a then 1 else 0
def ov(x y:Fa):Int:=if Op.bytesLess x.toList y.toList then -1 else if !(Op.bytesLess x.toList y.toList||x.toList == y.toList) then 1 else 0
theorem cmp182(a b:Int)(W:World):Calls Tryz.prog 220 #[.int .i64 a,.int .i64 b] W λe f=>e=.returned (.int .i64 (qE a b))/\f=W:=by
 obtain⟨r,c⟩:∃r,r=qE a b:=⟨_,rfl⟩;rw[<-c];unfold qE at c
 go_enter Tryz.func220,Tryz.ntmps220
 go_wp2
 .rename_i h;have e:r=-1:=by rw[c,V5 h]
  go_ret
  exact⟨by clear c;subst e;rfl,rfl⟩
 .rename_i i _ _ d;have e:r=1:=by rw[c,nO,V5 d]
  go_ret
  exact⟨by clear c;subst e;rfl,rfl⟩
 .rename_i i _ _ d;have e:r=0:=by rw[c,nO,nO]
  go_ret
  exact⟨by clear c;subst e;rfl,rfl⟩
theorem cmp183(x y:Fa)(W:World):Calls Tryz.prog 221 #[.string x,.string y] W λe d=>e=.returned (.int .i64 (ov x y))/\d=W:=by
 obtain⟨r,a⟩:∃r,r=ov x y:=⟨_,rfl⟩;rw[<-a];unfold ov at a
 go_enter Tryz.func221,Tryz.ntmps221
 go_wp2
 .rename_i h;have e:r=-1:=by rw[a,V5 h]
  go_ret
  exact⟨by clear a;subst e;rfl,rfl⟩
 .have c:=‹Op.bytesLess x.toList y.toList=false›;have b:=‹(!x.toList == y.toList)=true›;have e:r=1:=by rw[a,c];simp only[Yc,b,if_true,Ye,if_false]
  go_ret
  exact⟨by clear a;subst e;rfl,rfl⟩
 .have c:=‹Op.bytesLess x.toList y.toList=false›;have b:=‹(!x.toList == y.toList)=false›;have e:r=0:=by rw[a,c];simp only[Yc,b,if_true,Ye,if_false]
  go_ret
  exact⟨by clear a;subst e;rfl,rfl⟩
def j6(x y:Ky):Int:=if qE x.win y.win≠0 then qE x.win y.win else ov x.ser y.ser
theorem cmp131(x y:Ky)(W:World):Calls Tryz.prog 130 #[.agg #[.int .i64 x.win,.string x.ser],.agg #[.int .i64 y.win,.string y.ser]] W λe b=>e=.returned (.int .i64 (j6 x y))/\∃q c,b=grow (W.drewN q) c:=by
 obtain⟨r,a⟩:∃r,r=j6 x y:=⟨_,rfl⟩;rw[<-a];unfold j6 at a;have i:=λd=>cmp182 x.win y.win d
 have f:=λd=>cmp183 x.ser y.ser d
 generalize qE x.win y.win=ri at *;generalize ov x.ser y.ser=rs at *
 go_enter Tryz.func130,Tryz.ntmps130
 go_wp2_with (first|(go_at_call 220;refine (i _).mono ?_;rintro e b ⟨rfl,rfl⟩)|(go_at_call 221;refine (f _).mono ?_;rintro e b ⟨rfl,rfl⟩))
 .rename_i h;have e:r=ri:=by rw[a,V5 (by simpa using h)]
  go_ret
  exact⟨by clear a;subst e;rfl,0,_,by rw[alloc_eq_grow,alloc_eq_grow,grow_grow];rfl⟩
 .rename_i h;have e:r=rs:=by rw[a,V4 (by simpa using h)]
  go_ret
  exact⟨by clear a;subst e;rfl,0,_,by rw[alloc_eq_grow,alloc_eq_grow,grow_grow];rfl⟩
theorem ltKy(x y:Ky):ltOf j6 x y=(decide (x.win<y.win)||(decide (x.win=y.win)&&Op.bytesLess x.ser.toList y.ser.toList)):=by
 unfold ltOf j6 qE ov
 by_cases h1:x.win<y.win
 .simp [h1]
 .by_cases h2:y.win<x.win
  .have:¬x.win=y.win:=by omega
   simp[h1,h2,this]
  .have:x.win=y.win:=by omega
   rw[V4 h1,V4 h2];simp only[ne_eq,not_true_eq_false,if_false]
   by_cases h3:Op.bytesLess x.ser.toList y.ser.toList=true
   .simp [h1,this,h3]
   .by_cases h4:(!(Op.bytesLess x.ser.toList y.ser.toList||x.ser.toList == y.ser.toList))=true
    .rw [V4 h3,V5 h4];simp[h1,h3]
    .rw [V4 h3,V4 h4];simp[h1,h3]
theorem sg(x y:Ky):ltOf j6 x y=true↔x.win<y.win\/x.win=y.win/\x.ser.toList<y.ser.toList:=by
 rw[ltKy,bytesLess_eq];simp
theorem swoKy:SWO (ltOf j6) where
 irrefl x:=by
  rw[Y5];intro h
  rcases (sg _ _).1 h with h|h
  .omega
  .exact List.lt_irrefl _ h.2
 trans x y z b a:=by
  rw[sg]at *
  rcases b with b|b <;> rcases a with a|a
  .exact .inl (by omega)
  .exact .inl (by omega)
  .exact .inl (by omega)
  .exact .inr ⟨by omega,List.lt_trans b.2 a.2⟩
 ntrans x y z b a:=by
  rw[Y5]at *;intro c;rw[Ne,sg,not_or]at b a;rw[sg]at c;have a1:¬(x.win=y.win/\x.ser.toList<y.ser.toList):=b.2;have a2:¬(y.win=z.win/\y.ser.toList<z.ser.toList):=a.2
  rcases c with c|c
  .omega
  .have e1:x.win=y.win:=by omega
   have e2:y.win=z.win:=by omega
   have b1:¬x.ser.toList<y.ser.toList:=λh=>a1 ⟨e1,h⟩
   have b2:¬y.ser.toList<z.ser.toList:=λh=>a2 ⟨e2,h⟩
   exact List.not_lt.2 (List.le_trans (List.not_lt.1 b2) (List.not_lt.1 b1)) c.2
theorem totKy(x y:Ky)(c:(ltOf j6) x y=false)(a:(ltOf j6) y x=false):x=y:=by
 rw[Y5,Ne,sg,not_or]at c a;have e:x.win=y.win:=by omega
 have b1:¬x.ser.toList<y.ser.toList:=λh=>c.2 ⟨e,h⟩
 have b2:¬y.ser.toList<x.ser.toList:=λh=>a.2 ⟨e.symm,h⟩
 have e2:x.ser.toList=y.ser.toList:=List.le_antisymm (List.not_lt.1 b2) (List.not_lt.1 b1);have:=ba_beq x.ser y.ser;rw[e2]at this;have b:x.ser=y.ser:=by simpa using this
 cases x;cases y
 simp only at e b;rw[e,b]
instance:Inhabited Ky:=⟨⟨0,⟨#[]⟩⟩⟩
theorem RR(pre cs post ys:Os)(c:ys.length=cs.length) :
  Sort.putCells id pre.length ys.toArray (pre++cs++post).toArray=(pre++ys++post).toArray:=by
 apply Array.ext';apply WU;intro j;simp only[Sort.putCells,List.size_toArray];rw[Array.getElem?_toList,Array.getElem?_mapIdx,List.getElem?_toArray];rw[VK,VK]
 by_cases h1:j<pre.length
 .have e1:(pre++(cs++post))[j]?=some pre[j]:=by rw[List.getElem?_append_left h1,List.getElem?_eq_getElem h1]
  have e2:(pre++(ys++post))[j]?=some pre[j]:=by rw[List.getElem?_append_left h1,List.getElem?_eq_getElem h1]
  rw[e1,e2];simp only[Wj];rw[nO]
 .have e1:(pre++(cs++post))[j]?=(cs++post)[j-pre.length]?:=List.getElem?_append_right (by omega);have e2:(pre++(ys++post))[j]?=(ys++post)[j-pre.length]?:=List.getElem?_append_right (by omega);rw[e1,e2]
  by_cases h2:j<pre.length+ys.length
  .have b:j-pre.length<cs.length:=by omega
   have a:j-pre.length<ys.length:=by omega
   have e3:(cs++post)[j-pre.length]?=some cs[j-pre.length]:=by rw[List.getElem?_append_left b,List.getElem?_eq_getElem b]
   have e4:(ys++post)[j-pre.length]?=some ys[j-pre.length]:=by rw[List.getElem?_append_left a,List.getElem?_eq_getElem a]
   rw[e3,e4];simp only[Wj];rw[V5 ⟨by omega,h2⟩];simp[a]
  .have e3:(cs++post)[j-pre.length]?=post[j-pre.length-cs.length]?:=List.getElem?_append_right (by omega);have e4:(ys++post)[j-pre.length]?=post[j-pre.length-cs.length]?:=by rw[List.getElem?_append_right (by omega),c]
   rw[e3,e4]
   cases hp:post[j-pre.length-cs.length]? with
   | none=>rfl
   | some v=>
    simp only[Wj];rw[nO]
theorem IL{α:Type}[Inhabited α](enc:α->Os)(k:Nat)(c:∀x,(enc x).length=k)(xs:List α):Go.Sort.flatK enc k xs.toArray=(flat enc xs).toArray:=by
 apply Array.ext';apply W9
 .simp [fg c]
 .intro t j f;have b:t<xs.length*k:=by simpa using j
  have k0:0<k:=by
   rcases Y1 k with h|h
   .subst h;simp at b
   .exact h
  have d:t/k<xs.length:=by rw[Yh k0];exact b
  have hm:t%k<k:=WB _ k0;have a:=vK c d (t%k) hm;have i:t/k*k+t%k=t:=Yu t k;rw[i,fL,fL]at a;have e:t%k<(enc xs[t/k]).length:=by rw[c];exact hm
  rw[List.getElem?_eq_getElem (by simpa using f),List.getElem?_eq_getElem e]at a;have a:=Option.some.inj a;simp only[Array.getElem_toList];rw[a];simp[Go.Sort.flatK,d,e]
def ii(x y:Ky):Bool:=!(decide (y.win<x.win)||(decide (y.win=x.win)&&Op.bytesLess y.ser.toList x.ser.toList))
def dY(ks:List Ky):List Ky:=ks.mergeSort ii
theorem kV(ks:List Ky):(dY ks).Perm ks:=List.mergeSort_perm _ _
theorem uk(ks:List Ky):(dY ks).length=ks.length:=(kV ks).length_eq
open  Go.RowKit Go.Sort
section
variable {L:List aE}{H:aC}{K:KE}
theorem RT:∀args w,(callFunc 130 args).run Tryz.prog w=.ok (.enter 130 args) w:=λargs w=>by kernel_rfl
theorem sortK_eq(ks:List Ky):ks.mergeSort (λx y=>!(ltOf j6) y x)=dY ks:=by
 unfold dY;congr 1;funext x y;rw[ltKy];rfl
theorem RU{a:KQ}{c:Nat}{xs:List Ky}(h:aA H L)(i:Nat)(Y:aW i L=slA 154 2 a xs.length c (flat eL xs))(J:xs.length<4611686018427387904)
  (k:∀Q,aA Q (put i (slA 154 2 a xs.length c (flat eL (dY xs))) L)->K (.tuple #[]) Q) :
  CF 218 #[.slice a xs.length c,.func (.func 130) #[] #[]] H K:=by
 refine .mk λw U=>?_
 subst U;have O:=h.foc i;rw[Y]at O;obtain⟨hl,⟨rfl,hn,rfl,C⟩|⟨b,pre,post,I,fr,rfl,t,E,A,C⟩⟩:=ky O
 .have W:xs=[]:=WK.1 hn;subst W;refine jk (AnyF.slices_SortFunc_none Tryz.sortKA none 0 _ w) ?_;rintro e S ⟨rfl,rfl⟩;refine⟨_,rfl,⟨rfl,rfl,rfl⟩,k _ (aA.back ?_)⟩;rw[show dY []=[] from by simp[dY]];exact rA C
 .have hb:=aQ.get C;have N:b<w.heap.size:=aQ.lt C;have M:(flat eL xs).length=xs.length*2:=fg qC xs;have G:=List.Perm.length_eq (kV xs);have d:(flat eL (dY xs)).length=xs.length*2:=by rw[fg qC,G]
  have R:xs.length*2<=c*2:=W1 _ t;have V:HoldsK eL 2 w b pre.length xs.toArray:=by
   unfold HoldsK;rw[IL eL 2 qC];intro j D;have f:j<(flat eL xs).length:=by simpa using D
   refine⟨?_,?_⟩
   case refine_2=>
    have:=A (pre.length+j) (by omega) (by omega);simp only[World.frozen?,hb,Wo,VD];omega
   simp only[World.cell?,hb,Option.isSome_none,Ye,if_false,List.getElem?_toArray];rw[VK,List.getElem?_append_right (by omega),Yf,List.getElem?_append_left f,List.getElem?_eq_getElem f];simp[f]
  have s:CmpLays Tryz.prog 130 #[] eL 2 j6 b pre.length xs.toArray.size w:=λm os dk hs x y=>cmp131 x y _
  refine jk (AnyQ.slices_SortFunc_total Tryz.sortKA 2 Tryz.isAgg154 Tryz.sizeOf154 eL qC (λx v P=>by simp[eL]at P;rcases P with rfl|rfl <;> rfl) j6 swoKy 130 #[] b pre.length c xs.toArray w RT s V N (by simpa using J) totKy) ?_
  rintro e S ⟨rfl,n,os,rfl⟩;refine⟨_,rfl,⟨rfl,rfl,rfl⟩,k _ (aA.back ?_)⟩;have es:(xs.toArray.toList.mergeSort λx y=>!(ltOf j6) y x).toArray=(dY xs).toArray:=by rw[<-sortK_eq]
  rw[es];have F:aQ (w.heap.modify b (onCells (putCells id pre.length (flat eL (dY xs)).toArray))) (pt b (.cells (pre++flat eL (dY xs)++post).toArray I fr)*star (del i L)):=by
   refine aQ.upd C ?_ λj D=>?_
   .rw [Array.getElem?_modify,V5 rfl,hb];simp only[Wj,onCells];rw[RR _ _ _ _ (by rw[M,d])]
   .rw [Array.getElem?_modify,V4 (Ne.symm D)]
  have T:aQ (w.heap.modify b (onCells (putCells id pre.length (flat eL (dY xs)).toArray))++os.toList.toArray) (pt b (.cells (pre++flat eL (dY xs)++post).toArray I fr)*star (del i L)):=
   F.grow λj D=>by rw[Array.getElem?_append_left D]
  have u:=T.frame (B:=slA 154 2 (some ⟨b,pre.length,none⟩) xs.length c (flat eL (dY xs))) λp Z=>⟨d,.inr ⟨b,pre,post,I,fr,rfl,t,E,λ_=>A,Z⟩⟩
  simpa[sortWorldK,grow,putRowK,putRow,mapBlock,Sort.ahead,IL eL 2 qC] using u
theorem IM{r:Nat}{m:CM}(h:aA H L)(i:Nat)(u:aW i L=mapA aggK aggC r m)
  (k:∀f d,aA d (mapA aggK aggC f m::L)->K (.map (some f)) d) :
  CF 127 #[.map (some r)] H K:=by
 refine .mk λw s=>?_
 subst s;have c:=h.foc i;rw[u]at c;obtain⟨A,b,a,y,j,v,n⟩:=mp c;have t:=AnyW.maps_Clone Tryz.cloneA4 r b a w n.get;refine jk t ?_;rintro e B ⟨rfl,rfl⟩;refine⟨_,rfl,⟨rfl,rfl,rfl⟩,k _ _ ?_⟩;exact (h.push (.map b a)).mono λp x=>⟨A,b,a,y,j,v,x⟩
end
theorem wK(x y:Ky):ii x y=true↔x.win<y.win\/x.win=y.win/\x.ser.toList<=y.ser.toList:=by
 unfold ii;rw[Go.Proofs.bytesLess_eq];simp only[Wb,VP,VD,Wo,List.not_lt]
 constructor
 .rintro⟨h1,a⟩
  by_cases h:x.win<y.win
  .exact .inl h
  .rcases a with a|a
   .omega
   .exact .inr ⟨by omega,a⟩
 .rintro (h|h)
  .exact⟨by omega,.inl (by omega)⟩
  .exact⟨by omega,.inr h.2⟩
theorem RV{x y z:Ky}(b:ii x y=true)(a:ii y z=true):ii x z=true:=by
 rw[wK]at *
 rcases b with b|b <;> rcases a with a|a
 .exact .inl (by omega)
 .exact .inl (by omega)
 .exact .inl (by omega)
 .exact .inr ⟨by omega,List.le_trans b.2 a.2⟩
theorem RY(x y:Ky):(ii x y||ii y x)=true:=by
 rw[VR,wK,wK]
 by_cases h1:x.win<y.win
 .exact .inl (.inl h1)
 .by_cases h2:y.win<x.win
  .exact .inr (.inl h2)
  .rcases List.le_total x.ser.toList y.ser.toList with h|h
   .exact .inl (.inr ⟨by omega,h⟩)
   .exact .inr (.inr ⟨by omega,h⟩)
theorem ba_ext{x y:Fa}(h:x.toList=y.toList):x=y:=by
 have:=ba_beq x y;rw[h]at this;simpa using this
theorem RZ{x y:Ky}(a:ii x y=true)(b:ii y x=true):x=y:=by
 rw[wK]at *
 rcases a with a|a <;> rcases b with b|b
 .omega
 .omega
 .omega
 .have:=ba_ext (List.le_antisymm a.2 b.2)
  cases x;cases y
  simp only at this a;rw[this,a.1]
theorem wL(l:List Ky):(dY l).Pairwise λa b=>ii a b=true:=
 List.pairwise_mergeSort (le:=ii) (λa b c e d=>RV e d) RY l
theorem Sa{l c:List Ky}(h:l.Perm c):dY l=dY c:=
 List.Perm.eq_of_pairwise (le:=λa b=>ii a b=true) (λa b _ _ e d=>RZ e d) (wL l) (wL c) (((kV l).trans h).trans (kV c).symm)
def bA(m:CM):List Ot:=(dY (aG m)).map λk=>(k,fO m k)
theorem um(m:CM):(bA m).length=m.length:=by simp[bA,uk,aG]
def iC(m:CM)(before:Int):List Ot:=(bA m).takeWhile λo=>decide (o.1.win<before)
def lN(m:CM)(l:List Ot):CM:=l.foldl (λm o=>bU o.1 m) m
def nP(m:CM)(before:Int):CM:=lN m (iC m before)
section
variable {sb mb:Nat}{most:Int}{m:CM}{F L:List aE}{H:aC}{K:KE}
theorem Sb(h:aA H F)(k:∀c0 a,aA a (cellsA c0 [.map (some mb)] 272::F)->K (.func (.func 219) #[] #[PA c0 0]) a):CF 129 #[.map (some mb)] H K:=by
 refine cM 129 28 ?_;exact h.al λc0 _ h=>k _ _ h
theorem Sc{l c0:Nat}(A:List Ky->aE)(h:aA H (A []::cellsA c0 [.map (some mb)] 272::cz mb m::F))
  (x:∀dn key (G:List aE) (j:aC) (t:KE),dn.length<m.length->aA j (A dn::G)->(∀i,aA i (A (dn++[key])::G)->t (.bool true) i)->fI Tryz.prog l [aggK key] j t)
  (k:∀dn b,dn.Perm (aG m)->aA b (A dn::cellsA c0 [.map (some mb)] 272::cz mb m::F)->K (.tuple #[]) b) :
  CF 219 #[.func (.yield l) #[] #[],PA c0 0] H K:=by
 refine cN 219 6017780034900889 [[]] ?_;refine⟨_,h.r 1,?_⟩
 conv=>whnf
 refine h.rg_new mtC 2 rfl λc j h=>⟨c,rfl,?_⟩
 refine⟨λb=>∃dn:CM,aA b (A (aG dn)::cellsA c0 [.map (some mb)] 272::kO aggK aggC c mb m dn::F),λb=>m.length-oR b c,⟨[],h⟩,?_⟩
 rintro i ⟨dn,h⟩;have u:=h.rg_count 2 rfl;refine h.rg_next 2 rfl (λw=>.inl ⟨rfl,(λd=>by cases d),λ_=>?_⟩) λp v y B h=>.inr ⟨_,_,rfl,(λ_=>?_),λd=>by cases d⟩
 .exact k (aG dn) _ (w.map Prod.fst) (h.rg_map 2 rfl)
 .have a:=h.rg_count 2 rfl;have f:=aA.rg_entry (P:=Tryz.prog) h 2 rfl;refine⟨_,_,_,f,?_⟩;refine h.al λb1 _ h=>?_
  refine h.sta 0 rfl rfl λC h=>⟨_,_,h.rda 0 rfl,?_⟩
  rw[V7]at a;have n:(aG dn).length<m.length:=by simp only[aG,VM];simp at a;omega
  refine x (aG dn) p.1 _ _ _ n (h.o [1,0,2,3] 4) λs h=>⟨true,rfl,(λd=>by cases d),λ_=>?_⟩
  have h:aA s (A (aG dn++[p.1])::cellsA c0 [.map (some mb)] 272::kO aggK aggC c mb m (dn++[p])::F):=h.o [0,2,3] 4;refine⟨⟨dn++[p],?_⟩,?_⟩
  .have e:aG (dn++[p])=aG dn++[p.1]:=by simp[aG]
   rw[e];exact h
  .have:=h.rg_count 2 rfl;rw[V7]at this;simp only[Wv]at this;show m.length-oR s c<m.length-oR i c;omega
theorem sl225:SlT Tryz.prog 277 154 2 24:=iu (by kernel_rfl)
theorem Sd{c0:Nat}(C:m.length<=1000000)(h:aA H (cellsA c0 [.map (some mb)] 272::cz mb m::F))
  (k:∀dn a c f,dn.Perm (aG m)->aA f (slA 154 2 a dn.length c (flat eL dn)::cz mb m::F)->K (.slice a dn.length c) f) :
  CF 271 #[.slice none 0 0,.func (.func 219) #[] #[PA c0 0]] H K:=by
 refine cL 271 (.r (.seq (.r (.blk (.rng [.agg [.int .i64,.str]] [none] .reg (.blk .reg)))) (.r .no))) ?_;refine h.al λb _ h=>⟨rfl,λR d e s=>?_⟩
 rename_i H0;have h:=h.rng R;have h:=h.sl_nil 154 2;refine Sc (m:=m) (mb:=mb) (λdn=>exS λp:KQ×Nat=>star [cellsA b [.slice p.1 dn.length p.2] 277,slA 154 2 p.1 dn.length p.2 (flat eL dn),pt (H0.size+1) (.loop R)])
  (F:=pt H0.size (.deferred (some []))::F) ?_ ?_ ?_
 .have h:=h.o [3,0,1,4,5,2] 6;exact cK.2 ⟨(none,0),aA.shut [_,_,_] h⟩
 .intro dn key G j y i h t;obtain⟨⟨a,c⟩,h⟩:=cK.1 h;have h:=aA.open (A:=[_,_,_]) h;refine s _ _ _ ?_;refine⟨_,_,rfl,h.getO 2 rfl,?_⟩;refine h.al λb1 _ h=>?_
  refine h.sta 0 rfl rfl λB h=>⟨h.getO 3 rfl,h.stl 3 rfl λE h=>?_⟩
  refine⟨_,_,_,h.r 1,_,_,h.rda 0 rfl,?_⟩;rintro b2 _ rfl rfl
  conv=>whnf
  refine h.append1 (ws:=eL key) sl225 2 rfl rfl rfl (by omega) (by omega) λu v w h=>⟨_,_,_,rfl,?_⟩
  refine h.sta 1 rfl rfl λD h=>⟨h.getO 3 rfl,t _ ?_⟩
  have h:=h.setO 3 rfl (.loop R);refine cK.2 ⟨(u,v),aA.shut [_,_,_] ?_⟩;rw[dS,nA,V7];exact h.o [1,2,3] 4
 .intro dn j n h;obtain⟨⟨a,c⟩,h⟩:=cK.1 h;have h:=aA.open (A:=[_,_,_]) h;refine⟨.ready,none,by decide,by rw[nD d e];exact h.getO 2 rfl,h.stl 2 rfl λx h=>⟨rfl,?_⟩⟩
  refine⟨_,_,_,h.r 0,h.getO 5 rfl,?_⟩;have h:=h.setO 5 rfl (.deferred none);exact k dn a c _ n (h.o [1,4] 6)
theorem Se{c0:Nat}(f:m.length<=1000000)(h:aA H (cellsA c0 [.map (some mb)] 272::cz mb m::F))
  (k:∀a c e,aA e (slA 154 2 a m.length c (flat eL (dY (aG m)))::cz mb m::F)->K (.slice a m.length c) e) :
  CF 128 #[.func (.func 219) #[] #[PA c0 0],.func (.func 130) #[] #[]] H K:=by
 refine cM 128 4380 ?_;refine cM 217 28 ?_;refine Sd f h λdn a c j d h=>⟨_,_,_,rfl,_,_,_,rfl,?_⟩
 have b:dn.length=m.length:=by rw[d.length_eq];simp[aG]
 refine RU h 0 rfl (by omega) λi h=>⟨rfl,?_⟩
 rw[b,Sa d]at h;rw[b];exact k _ _ _ h
theorem IP(h:aA H F)(k:∀c0 a,aA a (cellsA c0 [PA sb 0] 141::F)->K (.func (.func 126) #[] #[PA c0 0]) a):CF 56 #[PA sb 0] H K:=by
 refine cM 56 28 ?_
 conv=>whnf
 exact h.al λc0 _ h=>k _ _ h
theorem IQ{l c0:Nat}(N:m.length<=1000000)(A:Nat->aE)(D:Nat->aE)(B:aE)(h:aA H (cellsA c0 [PA sb 0] 141::shC sb mb most::cz mb m::B::F))
  (u:∀G b,aA b (shC sb mb most::cz mb m::B::G)->aA b (A 0::G))
  (I:∀j (O:j<(bA m).length) (G:List aE) (v:aC) (n:KE),aA v (A j::G)->(∀f,aA f (A (j+1)::G)->n (.bool true) f)->(∀f,aA f (D j::G)->n (.bool false) f)->
   fI Tryz.prog l [aggK (bA m)[j].1,aggC (bA m)[j].2] v n)
  (k:∀b,aA b (A (bA m).length::F)->K (.tuple #[]) b)
  (M:∀j b,j<(bA m).length->aA b (D j::F)->K (.tuple #[]) b) :
  CF 126 #[.func (.yield l) #[] #[],PA c0 0] H K:=by
 refine cN 126 0x11561239925113994 [[(15,sI)]] ?_
 conv=>whnf
 refine⟨_,h.rd 0 rfl _,⟨_,h.r 1,?_⟩⟩;refine IM h 2 rfl λr v h=>⟨_,rfl,?_⟩
 refine Sb h λkc f h=>⟨_,_,rfl,?_⟩
 refine Se N h λa c R h=>⟨_,_,_,rfl,?_⟩
 have y:(bA m).length=m.length:=um m;have P:(dY (aG m)).length=m.length:=by rw[uk];simp[aG]
 have h:=u _ _ (h.o [3,4,5,0,1] 6);refine⟨λt b=>∃j:Nat,t=j/\j<=m.length/\aA b (A j::slA 154 2 a m.length c (flat eL (dY (aG m)))::cz r m::F),λt _=>m.length-t.toNat,⟨0,rfl,Wd _,h⟩,?_⟩
 rintro t Q ⟨j,rfl,O,h⟩;refine⟨λs=>?_,λs=>?_⟩
 .have C:j<m.length:=by have:=V8 s;omega
  have d:j<(dY (aG m)).length:=by omega
  have E:=h.sl_rd 1 rfl;refine⟨⟨by omega,by omega⟩,_,_,E.some qC (by omega) d,_,_,E.els qC d,?_⟩;refine h.al λb1 _ h=>?_
  refine h.sta 0 rfl rfl λL h=>⟨_,_,h.rda 0 rfl,_,_,h.rda 0 rfl,?_⟩
  refine⟨_,_,_,_,_,_,_,_,h.mp_get1 mtC koK 3 rfl (x:=(dY (aG m))[j]),?_⟩;have e:(bA m)[j]'(by omega)=((dY (aG m))[j],fO m (dY (aG m))[j]):=by simp[bA]
  have i:=I j (by omega);rw[e]at i;refine i _ L _ (h.o [1,0,2,3] 4) (λJ h=>⟨true,rfl,(λw=>by cases w),λ_=>?_⟩) λJ h=>⟨false,rfl,(λ_=>?_),λw=>by cases w⟩
  .conv=>whnf
   rw[show i64.wrap ((j:Int)+1)=((j+1:Nat):Int) by rw[aJ];omega];exact⟨⟨j+1,rfl,C,h.o [0,2,3] 4⟩,by simp only[VJ];omega⟩
  .exact M j _ (by omega) (h.o [0] 4)
 .have:j=m.length:=by have:=V9 s;omega
  subst this;have:=k Q;rw[y]at this;exact this (h.o [0] 3)
theorem Sf(h:aA H (shC sb mb most::cz mb m::F))
  (k:∀a c d,aA d (shC a c most::cz c m::shC sb mb most::cz mb m::F)->K (PA a 0) d) :
  CF 60 #[PA sb 0] H K:=by
 refine cM 60 28 ?_;refine⟨_,h.r 0,_,h.r 0,?_⟩;refine IM h 1 rfl λr e h=>⟨_,rfl,h.r 1,?_⟩
 exact h.al λb _ h=>k _ _ _ h
end
abbrev aX(s:Fa):List UInt8:=s.data.toList
theorem kW(s:Fa):(aX s).length=s.size:=WA
theorem wM{s:Fa}{i:Nat}(h:i<(aX s).length):bAt s i=((aX s)[i].toNat:Int):=by
 have a:i<s.data.size:=by simpa using h
 unfold bAt;rw[Array.getElem?_eq_getElem a];simp
def lowC(c:UInt8):Bool:=decide (97<=c.toNat)&&decide (c.toNat<=122)
def pq(c:UInt8):Bool:=lowC c||(decide (48<=c.toNat)&&decide (c.toNat<=57))||decide (c.toNat=95)
def valC(c:UInt8):Bool:=decide (33<=c.toNat)&&decide (c.toNat<=126)&&decide (c∉[(44:UInt8),61,123,125])
def jZ(s:Fa):Bool:=decide (1<=s.size)&&decide (s.size<=64)&&lowC ((aX s).headD 0)&&(aX s).all pq
def bS.z:bS:=⟨⟨#[]⟩,⟨#[]⟩⟩
def ij(l:bS):Bool:=decide (l.value.size<=64)&&(aX l.value).all valC&&jZ l.name
def pu(labs:List bS)(i:Nat):Bool:=ij (labs.getD i bS.z)&&(decide (i=0)||Op.bytesLess (labs.getD (i-1) bS.z).name.toList (labs.getD i bS.z).name.toList)
def fw(name:Fa)(labs:List bS):Bool:=jZ name&&decide (labs.length<=8)&&(List.range labs.length).all (pu labs)
theorem Ai{p:Nat->Bool}{n:Nat}:(List.range n).all p=true↔∀i,i<n->p i=true:=by
 rw[Wt];exact⟨λh i hi=>h i (WG.2 hi),λh i hi=>h i (WG.1 hi)⟩
theorem Aj{α:Type}{p:α->Bool}{l:List α}(h:∀i (hi:i<l.length),p l[i]=true):l.all p=true:=by
 rw[Wt];intro x a;obtain⟨i,hi,rfl⟩:=Wz a;exact h i hi
theorem wN{α:Type}{p:α->Bool}{l:List α}{i:Nat}(hi:i<l.length)(h:p l[i]=false):l.all p=false:=by
 cases e:l.all p
 .rfl
 .rw [Wt]at e;rw[e _ (VL hi)]at h
  cases h
theorem ow{α:Type}{l:List α}{i:Nat}(d:α)(h:i<l.length):l.getD i d=l[i]:=by
 rw[Yp,List.getElem?_eq_getElem h];rfl
theorem IR{l:List UInt8}(h:0<l.length):l.headD 0=l[0]:=by
 cases l with
 | nil=>simp at h
 | cons a l=>rfl
def cV(c:UInt8)(l:List UInt8):Int:=if l.idxOf c<l.length then (l.idxOf c:Int) else -1
theorem IS(c:UInt8):∀l:List UInt8,Go.Lib.indexByte l c=cV c l
 | []=>rfl
 | b::l=>by
  unfold Go.Lib.indexByte;rw[IS c l];unfold cV;rw[List.idxOf_cons,VE]
  cases e:(b == c) with
  | true=>simp
  | false=>
   simp only[cond_false,Ye,if_false,Nat.add_lt_add_iff_right]
   split
   .rename_i h;rw[V4 (by rw[beq_iff_eq];omega)];omega
   .rfl
theorem idxU_ge(c:UInt8)(l:List UInt8):-1<=cV c l/\cV c l<l.length:=by
 unfold cV;split <;> omega
theorem idxU_mem(c:UInt8)(l:List UInt8):0<=cV c l↔c∈l:=by
 unfold cV;rw[<-List.idxOf_lt_length_iff]
 split <;> rename_i h
 .exact⟨λ_=>h,λ_=>by omega⟩
 .exact⟨λh=>by omega,λa=>V6 a h⟩
section
variable {F L:List aE}{H:aC}{K:KE}
theorem natIdx{s:Fa}{c:Int}:pK Tryz.prog 378 #[.string s,.int .u8 c] (aD (cV c.toNat.toUInt8 (aX s))):=by
 intro w;have h:(callFunc 378 #[.string s,.int .u8 c]).run Tryz.prog w=(do let v <-Extern.BytealgIndexByte.indexByte #[.string s,.int .u8 c];pure (Next.value v)).run Tryz.prog w:=by kernel_rfl
 rw[h];have a:=Go.Lib.run_indexByteString (P:=Tryz.prog) s c w;simp only[Sem.run_bind,a,IS];rfl
theorem Sg{s:Fa}{c:Int}(k:K (aD (cV c.toNat.toUInt8 (aX s))) H):CF 325 #[.string s,.int .u8 c] H K:=
 cM 325 28 (cM 362 28 ⟨_,natIdx,_,rfl,k⟩)
theorem IT{s:Fa}:bV Tryz.prog 279 #[.string s] H (.bool (jZ s)):=by
 refine O7 ?_;refine⟨λa=>?_,λa=>?_,λa=>?_,λa=>?_⟩
 .simp only[VP,VD]at a;omega
 .simp only[VP,VD]at a;omega
 .have:jZ s=false:=by
   cases e:jZ s
   .rfl
   .unfold jZ lowC at e;simp only[VB,VA]at e;simp only[VR,VA]at a;obtain⟨⟨⟨e1,e2⟩,e3,e4⟩,-⟩:=e;have n:=kW s;have hb:bAt s 0=((aX s)[0]'(by omega)).toNat:=wM (by omega);have f:(aX s).headD 0=(aX s)[0]'(by omega):=IR (by omega);rw[f]at e3 e4;omega
  rw[this];exact⟨rfl,rfl⟩
 .simp only[VP,VD]at a;obtain⟨⟨⟨c1,c2⟩,c3⟩,c4⟩:=a;have n:=kW s;have hb:bAt s 0=((aX s)[0]'(by omega)).toNat:=wM (by omega);have f:(aX s).headD 0=(aX s)[0]'(by omega):=IR (by omega);have w:jZ s=(aX s).all pq:=by
   unfold jZ;rw[f];unfold lowC;rw[VS (by omega),VS (by omega),VS (by omega),VS (by omega)];simp
  rw[w];refine⟨λi t=>t=H/\∃j:Nat,i=j/\j<=s.size/\∀q (c:q<(aX s).length),q<j->pq (aX s)[q]=true,λi _=>s.size-i.toNat,⟨rfl,0,rfl,by omega,λq _ h=>by omega⟩,?_⟩
  rintro i y ⟨rfl,j,rfl,A,m⟩;refine⟨λa=>?_,λa=>?_⟩
  .have k:j<s.size:=by have:=V8 a;omega
   have b:j<(aX s).length:=by omega
   refine⟨by omega,?_⟩;rw[VJ,wM b];refine⟨λd=>?_,λd=>?_⟩
   .simp only[VB,VR,VA,Wb,VD]at d;rw[wN b (by unfold pq lowC;simp only[VP,Wo,VD];omega)];exact⟨rfl,rfl⟩
   .rw [aJ (x:=(j:Int)+1)];refine⟨⟨rfl,j+1,by omega,k,λq c u=>?_⟩,by dsimp only;omega⟩
    by_cases hqj:q=j
    .subst hqj;unfold pq lowC;simp only[Wo,VP,VD,Wq,VA]at d;simp only[VR,VB,VA];omega
    .exact m q c (by omega)
  .have v:s.size<=j:=by have:=V9 a;omega
   rw[Aj λq c=>m q c (by omega)]
   exact⟨rfl,rfl⟩
theorem Si{l:bS}(h:aA H F)(k:∀n,aA n F->K (.bool (ij l)) n):CF 280 #[.agg #[.string l.name,.string l.value]] H K:=by
 refine O6 ?_;refine h.al λb _ h=>?_
 refine⟨_,h.r 0,λc=>?_,λc=>?_⟩
 .have:ij l=false:=by
   unfold ij;rw[Ws (by have:=V8 c;omega)];rfl
  rw[<-this];exact k _ h.tl
 .have hs:l.value.size<=64:=by have:=V9 c;omega
  have B:=kW l.value;refine⟨λi n=>∃j:Nat,i=j/\j<=l.value.size/\(∀q (m:q<(aX l.value).length),q<j->valC (aX l.value)[q]=true)/\aA n (cellsA b [.string l.name,.string l.value] 421::F),λi _=>l.value.size-i.toNat,⟨0,rfl,by omega,λq _ h=>by omega,h⟩,?_⟩
  rintro i u ⟨j,rfl,C,t,h⟩;refine⟨_,h.r 0,λc=>?_,λc=>?_⟩
  .have s:j<l.value.size:=by have:=V8 c;omega
   have a:j<(aX l.value).length:=by omega
   refine⟨_,h.r 0,by omega,?_⟩;intro w v;rw[VJ,wM a];have f:w (!valC (aX l.value)[j]) u:=by
    refine v _ _ ?_;refine⟨λd=>?_,λd=>?_⟩
    .have:ij l=false:=by
      unfold ij;rw[wN a (by simpa using d)];simp
     rw[<-this];exact k _ h.tl
    .rw [aJ (x:=(j:Int)+1)];refine⟨⟨j+1,by omega,s,λq m y=>?_,h⟩,by dsimp only;omega⟩
     by_cases hqj:q=j
     .subst hqj;simpa using d
     .exact t q m (by omega)
   refine⟨λd=>?_,λd=>?_⟩
   .simp only[VP,VD]at d;refine Sg ⟨_,rfl,?_⟩;have:decide (0<=cV (((aX l.value)[j].toNat:Int).toNat.toUInt8) (aX ⟨#[44,61,123,125]⟩))=!valC (aX l.value)[j]:=by
     rw[Wp,VA,idxU_mem];have e:((aX l.value)[j].toNat:Int).toNat.toUInt8=(aX l.value)[j]:=by simp
     rw[e];unfold valC;rw[VS (by omega),VS (by omega)];simp
    dsimp only;rw[this];exact f
   .have:valC (aX l.value)[j]=false:=by
     unfold valC;simp only[VP,VD]at d;simp only[Wo,VD];omega
    rw[this]at f;exact f
  .have A:l.value.size<=j:=by have:=V9 c;omega
   refine⟨_,h.r 0,_,IT,?_⟩;have:ij l=jZ l.name:=by
    unfold ij;rw[VS hs,Aj λq m=>t q m (by omega)]
    simp
   rw[<-this];exact k _ h.tl
theorem qF{name:Fa}{a:KQ}{c:Nat}{labs:List bS}(h:aA H F)(v:∀H,aA H F->aP H a (flat dg labs))
  (k:∀n,aA n F->K (.bool (fw name labs)) n):CF 226 #[.agg #[.string name,.slice a labs.length c]] H K:=by
 refine OJ ?_;refine h.al λb _ h=>?_
 refine⟨_,h.r 0,_,IT,_,_,_,λ_=>h.r 0,λd=>?_,λd=>?_⟩
 .have:fw name labs=false:=by
   unfold fw;simp only[VR,Wb,VA]at d
   rcases d with d|d
   .rw [d];rfl
   .rw [Ws (p:=labs.length<=8) (by omega)];simp
  rw[<-this];exact k _ h.tl
 .simp only[VP,Wq,VD]at d;obtain⟨c1,c2⟩:=d;have w:fw name labs=(List.range labs.length).all (pu labs):=by
   unfold fw;rw[c1,VS (by omega)];simp
  refine⟨_,_,_,h.r 0,?_⟩;refine⟨λi n=>∃j:Nat,i=j/\j<=labs.length/\(∀q,q<j->pu labs q=true)/\aA n (cellsA b [.string name,.slice a labs.length c] 79::F),λi _=>labs.length-i.toNat,⟨0,rfl,by omega,λq h=>by omega,h⟩,?_⟩
  rintro i E ⟨j,rfl,D,u,h⟩;refine⟨λd=>?_,λd=>?_⟩
  .have f:j<labs.length:=by have:=V8 d;omega
   have m:=v _ h.tl;refine⟨by omega,_,_,m.some iV (by omega) f,_,_,m.els iV f,?_⟩;refine h.al λb2 _ h=>?_
   refine h.st 0 rfl rfl ?_;intro B h;refine⟨_,_,h.q 0,?_⟩;refine Si (l:=labs[j]) h λG h=>⟨_,rfl,?_⟩
   have m:=v _ h.tl.tl;have t:0<j->i64.wrap ((j:Int)-1)=((j-1:Nat):Int):=λh=>by rw[aJ];omega
   have hs:pu labs j=(ij labs[j]&&(decide (j=0)||Op.bytesLess (labs.getD (j-1) bS.z).name.toList labs[j].name.toList)):=by
    unfold pu;rw[ow bS.z f]
   refine⟨a,labs.length,c,λ_=>h.r 1,λs=>?_,_,_,λs=>m.some iV (by omega) f,(labs.getD (j-1) bS.z).name,λs=>?_,labs[j].name,λ_=>h.r 0,λd=>?_,λd=>?_⟩
   .have h0:=V8 s.2;rw[t (by omega)];omega
   .have h0:=V8 s.2;rw[t (by omega),VJ];exact m.el0 iV (k:=j-1) (by omega) (by rw[ow bS.z (by omega)];rfl)
   .have:fw name labs=false:=by
     rw[w]
     cases e:(List.range labs.length).all (pu labs)
     .rfl
     .rw [Ai]at e;have e:=e j f;rw[hs]at e;simp only[VR,VB,Wb,VA]at e d
      rcases d with d|d
      .rw [d]at e;simp at e
      .rcases e.2 with e2|e2
       .omega
       .rw [d.2]at e2;simp at e2
    rw[<-this];exact k _ h.tl.tl
   .rw [aJ (x:=(j:Int)+1)];refine⟨⟨j+1,by omega,f,λq y=>?_,h.tl⟩,by dsimp only;omega⟩
    by_cases hqj:q=j
    .subst hqj;rw[hs];simp only[VP,Wo,Wq,VD]at d;simp only[VR,VB,VA];refine⟨d.1,?_⟩
     rcases d.2 with e|e
     .left;omega
     .right;exact e
    .exact u q (by omega)
  .have A:labs.length<=j:=by have:=V9 d;omega
   have:fw name labs=true:=by rw[w,Ai];exact λq C=>u q (by omega)
   rw[<-this];exact k _ h.tl
end
def fx(l:bS):Fa:=(l.name++(⟨#[61]⟩:Fa))++l.value
def kg(labs:List bS):Fa:=⟨(Go.Lib.join ((labs.map fx).map aX) [44]).toArray⟩
def gh(name:Fa)(labs:List bS):Fa:=
 if fw name labs then (if labs=[] then name else ((name++(⟨#[123]⟩:Fa))++kg labs)++(⟨#[125]⟩:Fa)) else ⟨#[]⟩
theorem Sj{α:Type}(f:α->Value)(z:Value)(l:List α)(j:Nat)(h:j<l.length) :
  cv ((l.take j).map f++List.replicate (l.length-j) z) j [f l[j]]=(l.take (j+1)).map f++List.replicate (l.length-(j+1)) z:=by
 have e:l.length-j=(l.length-(j+1))+1:=by omega
 rw[e,YG];have a:((l.take j).map f).length=j:=by rw[VM,VY];omega
 have:=tx [f l[j]] ((l.take j).map f) (z::List.replicate (l.length-(j+1)) z) 0;simp only[a,WM]at this;rw[this,Wn h,VW];simp[cv]
theorem join_le{n:Nat}:∀{xs:List (List UInt8)},(∀x∈xs,x.length<=n)->(Go.Lib.join xs [44]).length<=(n+1)*xs.length
 | [],_=>by simp[Go.Lib.join,List.intercalate]
 | x::r,h=>by
  rw[Go.Lib.join_length];have:∀{l:List (List UInt8)},(∀x∈l,x.length<=n)->Go.Lib.lens l<=n*l.length:=by
   intro l
   induction l with
   | nil=>intro _;simp[Go.Lib.lens]
   | cons y l ih=>
    intro h;have a:=ih λx b=>h x (VQ _ b)
    have c:=h y (VO ..);simp only[Go.Lib.lens,Wf,Yb,VE,Nat.mul_succ]at a ⊢;omega
  have a:=this h;simp only[VE,VZ,VX,Nat.one_mul,Nat.mul_succ,Wr]at a ⊢;omega
theorem si(x y:Fa):(x++y).size=x.size+y.size:=ByteArray.size_append
theorem sj{s:Fa}(h:jZ s=true):s.size<=64/\1<=s.size:=by
 unfold jZ at h;simp only[VB,VA]at h;omega
theorem sk{l:bS}(h:ij l=true):l.name.size<=64/\l.value.size<=64:=by
 unfold ij at h;simp only[VB,VA]at h;exact⟨(sj h.2).1,h.1.1⟩
theorem Sk(l:bS):(fx l).size=l.name.size+1+l.value.size:=by
 unfold fx;rw[si,si];rfl
structure RightP(name:Fa)(labs:List bS):Prop where
 named:jZ name=true
 len:labs.length<=8
 val:∀l∈labs,ij l=true
 step:∀i,i<labs.length->pu labs i=true
theorem mJ{name:Fa}{labs:List bS}(h:fw name labs=true):RightP name labs:=by
 unfold fw at h;simp only[VB,VA,Ai]at h;refine⟨h.1.1,h.1.2,λl a=>?_,h.2⟩
 obtain⟨i,hi,rfl⟩:=Wz a;have:=h.2 i hi;unfold pu at this;rw[ow bS.z hi]at this;simp only[VB]at this;exact this.1
theorem joinL_le{labs:List bS}(h:∀l∈labs,ij l=true):(Go.Lib.join ((labs.map fx).map aX) [44]).length<=130*labs.length:=by
 have:=join_le (n:=129) (xs:=(labs.map fx).map aX) (by
  intro x a;rw[Wu,VH]at a;obtain⟨l,b,rfl⟩:=a;have:=sk (h l b);show (aX (fx l)).length<=129;rw[kW,Sk];omega)
 simpa using this
theorem Sl{labs:List bS}:(kg labs).size=(Go.Lib.join ((labs.map fx).map aX) [44]).length:=by
 unfold kg;show Array.size _=_;simp
theorem rdS_some{H:aC}{a:KQ}{cs:Os}(h:aP H a cs)(b:0<cs.length):a=some ⟨aV a,aS a,none⟩:=(h 0 _ (vJ b)).1
theorem Tryz.joinX:Builder.Extra Tryz.prog Tryz.joinA_ren where
 sizeBuilder:=by kernel_rfl
 liesBuilder:=by kernel_rfl
 t5:=Tryz.underlying5
 a5:=Tryz.isAgg5
 z5:=Tryz.sizeOf5
 v5:=Tryz.zeroValue5
 infoByte:=by kernel_rfl
 cellsByte:=by kernel_rfl
 sizeByte:=by kernel_rfl
 neB5:=by decide
section
variable {F L:List aE}{H:aC}{K:KE}
theorem Join_spec{a:KQ}{c:Nat}{xs:List Fa}(h:aA H L)(d:aP H a (xs.map λs=>.string s))(h0:0<xs.length)(y:xs.length<=1000000)(t:xs.length<=c)
  (m:(Go.Lib.join (xs.map aX) [44]).length<=1000000000)
  (k:∀i,aA i L->K (.string ⟨(Go.Lib.join (xs.map aX) [44]).toArray⟩) i):CF 289 #[.slice a xs.length c,.string ⟨#[44]⟩] H K:=by
 refine .mk λw n=>?_
 subst n;have hs:=rdS_some d (by simpa using h0);rw[hs]at d ⊢;have b:∀(j:Nat) x,xs[j]?=some x->w.cell? ⟨aV a,aS a+j,none⟩=some (.string x):=by
  intro j x u;rw[cell?_cellAt];exact (d j (.string x) (by rw[fL,List.getElem?_map,u];rfl)).2
 have f:aV a<w.heap.size:=by
  have:=b 0 xs[0] (List.getElem?_eq_getElem h0);rw[cell?_cellAt]at this;unfold aL at this
  cases e:w.heap[aV a]? with
  | none=>rw[e]at this;cases this
  | some o=>exact (Array.getElem?_eq_some_iff.1 e).1
 refine jk (Any.strings_Join Tryz.joinA Tryz.joinX (aV a) (aS a) c xs ⟨#[44]⟩ w b f (by omega) t (by show (Go.Lib.join (xs.map aX) [44]).length<=_;omega)) ?_;rintro e v ⟨rfl,hb⟩;exact⟨_,rfl,tB hb,k _ (h.grow (rE hb))⟩
theorem sl294:SlT Tryz.prog 408 9 1 16:=iu (by kernel_rfl)
theorem Sm{name:Fa}{a:KQ}{c:Nat}{labs:List bS}(h:aA H F)(C:∀H,aA H F->aP H a (flat dg labs))
  (k:∀n,aA n F->K (.string (gh name labs)) n):CF 239 #[.agg #[.string name,.slice a labs.length c]] H K:=by
 refine OH ?_;refine h.al λb _ h=>?_
 refine⟨_,_,_,_,h.q 0,?_⟩;refine qF h (λH h=>C H h.tl) λI h=>⟨_,rfl,λf=>?_,λf=>?_⟩
 .have:gh name labs=⟨#[]⟩:=by unfold gh;rw[V4 (by simpa using f)]
  rw[<-this];exact k _ h.tl
 .simp only[Wq]at f;have s:=mJ f;refine⟨_,_,_,h.r 0,λm=>?_,λm=>?_⟩
  .have m:=V8 m;have O:labs=[]:=WK.1 (by omega);refine⟨_,h.r 0,?_⟩;have:gh name labs=name:=by unfold gh;rw[V5 f,V5 O]
   rw[<-this];exact k _ h.tl
  .have m:=V9 m;have G:=s.len;refine⟨_,_,_,h.r 0,?_⟩;refine h.mk1 sl294 (z0:=.string ⟨#[]⟩) (by kernel_rfl) (by kernel_rfl) (by omega) (by omega) λpa S h=>?_
   refine⟨_,_,_,rfl,_,_,_,h.r 1,?_⟩;refine⟨λi n=>∃j:Nat,i=j/\j<=labs.length/\aA n (slA 9 1 pa labs.length labs.length ((labs.take j).map (λl=>.string (fx l))++List.replicate (labs.length-j) (Value.string ⟨#[]⟩))::cellsA b [.string name,.slice a labs.length c] 79::F),
    λi _=>labs.length-i.toNat,⟨0,rfl,by omega,by simpa using h⟩,?_⟩
   rintro i I ⟨j,rfl,M,h⟩;refine⟨λf=>?_,λf=>?_⟩
   .have d:j<labs.length:=by have:=V8 f;omega
    have y:=C _ h.tl.tl;have P:=sk (s.val _ (VL d));refine⟨by omega,_,_,y.some iV (by omega) d,_,_,y.els iV d,?_⟩;refine h.al λb2 _ h=>?_
    refine h.st 0 rfl rfl ?_;intro R h;refine⟨_,h.r 0,?_,_,h.r 0,?_,by omega,?_⟩
    .show (((labs[j].name.size+1:Nat)):Int)<=9223372036854775807;omega
    .show ((((labs[j].name++(⟨#[61]⟩:Fa)).size+labs[j].value.size:Nat)):Int)<=9223372036854775807;rw[si];show ((labs[j].name.size+1+labs[j].value.size:Nat):Int)<=9223372036854775807;omega
    .have u:((labs.take j).map (λl=>Value.string (fx l))++List.replicate (labs.length-j) (Value.string ⟨#[]⟩)).length=labs.length:=by
      rw[V7,VM,VY,List.length_replicate];omega
     obtain⟨N,D,A⟩:=h.sl_set 1 rfl j [.string (fx labs[j])] (by rw[u];simp;omega) (by simp);rw[Sj (λl=>Value.string (fx l)) _ labs j d]at A
     rw[VJ];refine⟨_,_,N,D,?_⟩;intro T L;rw[aJ (x:=(j:Int)+1)];refine⟨⟨j+1,by omega,d,?_⟩,by dsimp only;omega⟩;rw[L];exact A.tl
   .have v:labs.length<=j:=by have:=V9 f;omega
    have e1:labs.take j=labs:=Wc v;have e2:labs.length-j=0:=by omega
    rw[e1,e2,List.replicate_zero,We]at h;have M:=joinL_le s.val;have E:=Sl (labs:=labs);have J:=sj s.named;refine⟨_,h.r 1,?_,?_⟩
    .show (((name.size+1:Nat)):Int)<=9223372036854775807;omega
    have t:=h.sl_rd 0 rfl;have w:(labs.map fx).length=labs.length:=VM ..;rw[<-w];refine Join_spec (xs:=labs.map fx) h (by rw[Wu];exact t) (by omega) (by omega) (by omega) (by omega) λQ h=>⟨_,rfl,h.r 1,?_,?_,?_⟩
    .show (((name++(⟨#[123]⟩:Fa)).size+(kg labs).size:Nat):Int)<=9223372036854775807;rw[si];show (((name.size+1)+(kg labs).size:Nat):Int)<=9223372036854775807;omega
    .show ((((name++(⟨#[123]⟩:Fa))++kg labs).size+1:Nat):Int)<=9223372036854775807;rw[si,si];show (((name.size+1)+(kg labs).size+1:Nat):Int)<=9223372036854775807;omega
    .have:gh name labs=((name++(⟨#[123]⟩:Fa))++kg labs)++(⟨#[125]⟩:Fa):=by
      unfold gh;rw[V5 ‹_›,V4 (by intro e;rw[e]at m;simp at m)]
     have B:=k _ h.tl.tl;rw[this]at B;exact B
end
theorem Ak{α:Type}{p:α->Bool}:∀{l:List α} {j:Nat},(∀i (h:i<l.length),i<j->p l[i]=true)->(∀h:j<l.length,p l[j]=false)->l.takeWhile p=l.take j
 | [],j,_,_=>by simp
 | a::r,0,_,h2=>by
  have:p a=false:=h2 (by simp);simp[List.takeWhile,this]
 | a::r,j+1,h1,h2=>by
  have e:p a=true:=h1 0 (by simp) (by omega);simp only[List.takeWhile,e,WO];rw[Ak (λi h hi=>h1 (i+1) (by simpa using h) (by omega)) λh=>h2 (by simpa using h)]
theorem So(m:CM)(l r:List Ot):lN m (l++r)=lN (lN m l) r:=by unfold lN;rw[WR]
section
variable {sb mb:Nat}{most:Int}{m:CM}{F L:List aE}{H:aC}{K:KE}
def clA(sb mb b b1 b2 l:Nat)(most:Int)(m:CM)(before:Int)(R:Loop)(j:Nat)(p:Prop):aE:=exS λq:KQ×Nat=>
 star [cellsA b [PA sb 0] 141,cellsA b1 [aD before] 2,cellsA b2 [.slice q.1 ((bA m).take j).length q.2] 143,slA 164 74 q.1 ((bA m).take j).length q.2 (flat cJ ((bA m).take j)),
  shC sb mb most,cz mb (lN m ((bA m).take j)),pt l (.loop R),pur p]
abbrev un(m:CM)(before:Int)(j:Nat):Prop:=∀i (h:i<(bA m).length),i<j->(bA m)[i].1.win<before
theorem Sp(M:m.length<=1000000){d:Int}(h:aA H (shC sb mb most::cz mb m::F))
  (k:∀a c v,aA v (slA 164 74 a (iC m d).length c (flat cJ (iC m d))::shC sb mb most::cz mb (nP m d)::F)->K (.slice a (iC m d).length c) v) :
  CF 159 #[PA sb 0,aD d] H K:=by
 refine ON ?_;have P:(bA m).length=m.length:=um m;refine h.al λb _ h=>h.al λb1 _ h=>h.al λb2 _ h=>⟨_,h.r 2,?_⟩
 refine IP h λc0 n h=>⟨_,_,rfl,rfl,λR t u I=>?_⟩
 have h:=h.rng R;have h:=h.sl_nil 164 74;refine IQ (m:=m) (sb:=sb) (mb:=mb) (most:=most) M (λj=>clA sb mb b b1 b2 (n.size+1) most m d R j (un m d j))
  (λj=>clA sb mb b b1 b2 (n.size+1) most m d { R with state:=.done,pending:=some (.exit 0) } j (un m d j/\∀h:j<(bA m).length,¬(bA m)[j].1.win<d))
  (star [slA 164 74 none 0 0 [],cellsA b2 [.slice none 0 0] 143,cellsA b1 [aD d] 2,cellsA b [PA sb 0] 141,pt (n.size+1) (.loop R)]) (F:=pt n.size (.deferred (some []))::F) ?_ ?_ ?_ ?_ ?_
 .have h:=aA.shut [_,_,_,_,_] (h.o [0,4,5,6,1,3,7,8,2] 9);exact h.o [1,2,3,0,4] 5
 .intro G v h;have h:=(aA.open (A:=[_,_,_,_,_]) (h.o [2,0,1] 3)).pur (p:=un m d 0) (λi _ hi=>V6 hi (Nat.not_lt_zero i))
  exact cK.2 ⟨(none,0),aA.shut [_,_,_,_,_,_,_,_] (h.o [4,3,2,1,6,7,5,0] 8)⟩
 .intro j y G w T h O N;obtain⟨⟨a,c⟩,h⟩:=cK.1 h;have h:=aA.open (A:=[_,_,_,_,_,_,_,_]) h;have f:=(aA.consP (h.o [7] 8)).1;refine I _ _ _ ?_;refine⟨_,_,_,_,_,_,_,_,_,_,rfl,h.getO 6 rfl,?_⟩;refine h.al λb3 _ h=>?_
  refine h.sta 0 rfl rfl λW h=>?_
  refine h.al λb4 _ h=>?_
  refine h.sta 0 rfl (by rw[kU];exact (kU Cl.z).symm) λH4 h=>⟨h.getO 8 rfl,h.stl 8 rfl λV h=>?_⟩
  refine⟨_,h.r 1,_,h.r 3,λs=>?_,λs=>?_⟩
  .have E:=V8 s;refine⟨h.getO 8 rfl,N _ ?_⟩;have h:=h.setO 8 rfl (.loop { R with state:=.done,pending:=some (.exit 0) });have e:un m d j/\∀h:j<(bA m).length,¬(bA m)[j].1.win<d:=⟨f,λ_=>by omega⟩
   have h:=(h.o [2,3,4,5,6,7,8] 10).pur e;exact cK.2 ⟨(a,c),aA.shut [_,_,_,_,_,_,_,_] (h.o [1,2,3,4,5,6,7,0] 8)⟩
  .have Q:=V9 s;refine⟨_,_,_,h.r 4,_,_,h.rda 1 rfl,_,_,_,_,_,_,_,_,h.rda 0 rfl,?_⟩;rintro b5 _ rfl rfl;have D:((bA m).take j).length<=1000000:=by rw[VY];omega
   refine h.append1 (ws:=cJ (bA m)[j]) sl86 5 rfl (iW _) (sf _) (by omega) (by omega) λJ S U h=>⟨_,_,_,rfl,?_⟩
   refine h.sta 4 rfl rfl λZ h=>⟨_,h.r 2,cZ ⟨_,h.r 6,_,_,h.rda 1 rfl,?_⟩⟩
   refine h.mp_delete (x:=(bA m)[j].1) mtC koK 7 rfl λY h=>⟨h.getO 8 rfl,O _ ?_⟩
   have h:=h.setO 8 rfl (.loop R);have e:un m d (j+1):=λi hi C=>by
    rcases Wa i j with B|B
    .exact f i hi B
    .obtain rfl:i=j:=by omega
     omega
   have h:=(h.o [2,3,4,5,6,7,8] 10).pur e;refine cK.2 ⟨(J,S),aA.shut [_,_,_,_,_,_,_,_] ?_⟩;rw[Wn y,dS,nA,So,V7];exact h.o [1,2,3,4,5,6,7,0] 8
 .intro w h;obtain⟨⟨a,c⟩,h⟩:=cK.1 h;have h:=aA.open (A:=[_,_,_,_,_,_,_,_]) h;have f:=(aA.consP (h.o [7] 8)).1;have ec:iC m d=(bA m).take (bA m).length:=Ak (λi h hi=>VS (f i h hi)) λh=>V6 h (Nat.lt_irrefl _)
  unfold nP at k;rw[ec]at k;refine⟨.ready,none,by decide,by rw[nD t u];exact h.getO 6 rfl,h.stl 6 rfl λL h=>.inl ⟨rfl,?_⟩⟩
  refine⟨_,_,_,h.r 2,h.getO 8 rfl,?_⟩;have h:=h.setO 8 rfl (.deferred none);exact k a c _ (h.o [3,4,5] 9)
 .intro j w y h;obtain⟨⟨a,c⟩,h⟩:=cK.1 h;have h:=aA.open (A:=[_,_,_,_,_,_,_,_]) h;have f:=(aA.consP (h.o [7] 8)).1;have ec:iC m d=(bA m).take j:=Ak (λi h hi=>VS (f.1 i h hi)) λh=>Ws (f.2 h)
  unfold nP at k;rw[ec]at k;refine⟨.done,some (.exit 0),by decide,h.getO 6 rfl,h.stl 6 rfl λL h=>.inr ⟨rfl,?_⟩⟩
  refine⟨_,_,_,h.r 2,h.getO 8 rfl,?_⟩;have h:=h.setO 8 rfl (.deferred none);exact k a c _ (h.o [3,4,5] 9)
end
def wNat(z:Int)(p:Nat):Nat:=if p<8 then (cw z%B64).toNat/2^(8*(7-p))%256 else (wlo z).toNat/2^(8*(15-p))%256
def dN(z:Int):List Int:=(List.range 16).map λp=>(wNat z p:Int)
def ik(z:Int)(t:Nat):List Int:=(List.range 16).map λp=>if (p<=7/\7<p+t)\/(8<=p/\15<p+t) then (wNat z p:Int) else 0
theorem Sq(z:Int)(t:Nat):(ik z t).length=16:=by simp[ik]
theorem sq(z:Int):(dN z).length=16:=by simp[dN]
theorem Sr(z:Int):aI (dN z):=by
 intro x a;obtain⟨p,_,rfl⟩:=VH.1 a;unfold wNat
 split <;> omega
theorem Ss(z:Int):ik z 0=List.replicate 16 0:=by
 refine W9 (by simp[ik]) λi a b=>?_
 have:i<16:=by simpa[ik] using a
 simp only[ik,W3,YJ,List.getElem_replicate];rw[nO]
theorem St(z:Int):ik z 8=dN z:=by
 refine W9 (by simp[ik,dN]) λi a b=>?_
 have:i<16:=by simpa[ik] using a
 simp only[ik,dN,W3,YJ];rw[pO]
theorem Su(z:Int){t:Nat}(b:t<8):((ik z t).set (7-t) (wNat z (7-t):Int)).set (15-t) (wNat z (15-t):Int)=ik z (t+1):=by
 refine W9 (by simp[ik]) λi a c=>?_
 have hi:i<16:=by simpa[ik] using a
 simp only[List.getElem_set,ik,W3,YJ]
 by_cases e1:15-t=i
 .rw [V5 e1,pO,e1]
 .rw [V4 e1]
  by_cases e2:7-t=i
  .rw [V5 e2,pO,e2]
  .rw [V4 e2]
   by_cases e3:(i<=7/\7<i+t)\/(8<=i/\15<i+t)
   .rw [V5 e3,pO]
   .rw [V4 e3,nO]
def kh(l:List Int):Nat:=l.foldl (λa b=>a*256%18446744073709551616+b.toNat) 0
theorem wO(l:List Int)(b:Int):kh (l++[b])=kh l*256%18446744073709551616+b.toNat:=by unfold kh;rw[WR];rfl
theorem IU{l:List Int}(h:aI l):kh l<18446744073709551616:=by
 rcases YC l with rfl|⟨r,b,rfl⟩
 .exact Ys rfl
 .rw [YD]at h ⊢;rw[wO];have:=h b (by simp);omega
def jp(bs:List Int):Int:=i64.wrap (kh (bs.take 8):Nat)*B64+(kh (bs.drop 8):Nat)
theorem IV{a:Nat}{b:Int}(h0:0<=b)(d:b<256):aY .or .u64 (u64.wrap ((a:Int)*2^(min (Int.toNat 8) (u64.bits)))) (u64.wrap b)=((a*256%18446744073709551616+b.toNat:Nat):Int):=by
 have e1:u64.wrap ((a:Int)*2^(min (Int.toNat 8) (u64.bits)))=((a*256%18446744073709551616:Nat):Int):=by
  show u64.wrap ((a:Int)*256)=_;rw[df];omega
 have e2:u64.wrap b=((b.toNat:Nat):Int):=by rw[df];omega
 rw[e1,e2,or64 (by omega) (by omega)];congr 1;have c:a*256%18446744073709551616=2^8*(a%72057594037927936):=by omega
 rw[c];exact (YO (by show b.toNat<256;omega) _).symm
theorem Sv{bs:List Int}(h:aI bs):cw (jp bs)=i64.wrap (kh (bs.take 8):Nat)/\wlo (jp bs)=(kh (bs.drop 8):Nat):=by
 have b:=IU (l:=bs.drop 8) λx a=>h x (WH a)
 unfold jp cw wlo B64;generalize i64.wrap _=q;omega
theorem IW(bs:List Int)(h:aI bs):fZ (jp bs):=by
 have c:=IU (l:=bs.drop 8) λx b=>h x (WH b)
 have a:aF (i64.wrap (kh (bs.take 8):Nat)):=qo _;unfold aF at a;unfold jp fZ B64;omega
section
variable {F L:List aE}{H:aC}{K:KE}
theorem IY{x:Int}(h0:0<=x){t:Nat}(a:t<8):u8.wrap (Int.fdiv x (2^(min (Int.toNat (i64.wrap (8*(t:Int)))) (u64.bits))))=((x.toNat/2^(8*t)%256:Nat):Int):=by
 rw[aJ (x:=8*(t:Int))];have e1:min (Int.toNat (8*(t:Int))) u64.bits=8*t:=by show min _ 64=_;omega
 obtain⟨n,rfl⟩:∃n:Nat,x=n:=⟨x.toNat,by omega⟩;rw[e1,rG,oV,VJ]
theorem Sw{z:Int}(y:fZ z)(h:aA H F)(k:∀a c f,aA f (slA 5 1 a 16 c ((dN z).map U8)::F)->K (.slice a 16 c) f) :
  CF 223 #[kT z] H K:=by
 refine OK ?_;refine h.al λb _ h=>?_
 refine aA.mk1 (c:=16) sl32 (z0:=U8 0) (by kernel_rfl) rfl h (by decide) (by decide) λa s h=>⟨_,_,_,rfl,?_⟩
 have e0:List.replicate 16 (U8 0)=(ik z 0).map U8:=by rw[Ss];rfl
 rw[e0]at h;refine⟨λi f=>∃t:Nat,i=t/\t<=8/\aA f (slA 5 1 a 16 16 ((ik z t).map U8)::cellsA b [aD (cw z),.int .u64 (wlo z)] 157::F),λi _=>8-i.toNat,⟨0,rfl,by omega,h⟩,?_⟩
 rintro i v ⟨t,rfl,w,h⟩;refine⟨λj=>?_,λj=>?_⟩
 .have d:t<8:=by have:=V8 j;omega
  have e:((ik z t).map U8).length=16:=by rw[VM,Sq]
  have e7:i64.wrap (7-(t:Int))=((7-t:Nat):Int):=by rw[aJ];omega
  have e15:i64.wrap (15-(t:Int))=((15-t:Nat):Int):=by rw[aJ];omega
  have e8:i64.wrap (8*(t:Int))=8*(t:Int):=aJ;have m:u64.wrap (cw z)=cw z%B64:=df _;have hm:0<=cw z%B64:=by unfold B64;omega
  have q1:(cw z%B64).toNat/2^(8*t)%256=wNat z (7-t):=by unfold wNat;rw[pO,show 7-(7-t)=t by omega]
  have q2:(wlo z).toNat/2^(8*t)%256=wNat z (15-t):=by unfold wNat;rw[nO,show 15-(15-t)=t by omega]
  refine⟨_,h.r 1,by rw[e8];omega,?_⟩;rw[m,IY hm d,q1,e7,e15];obtain⟨s1,s2,s3⟩:=h.sl_set 0 rfl (7-t) [U8 (wNat z (7-t))] (by rw[e];simp;omega) (by simp);refine⟨⟨by omega,by omega⟩,_,_,s1,?_⟩;rw[VJ];refine⟨s2,?_⟩;rintro u rfl;have h:=s3;refine⟨_,h.r 1,by rw[e8];omega,⟨by omega,by omega⟩,_,_,s1,?_⟩;rw[VJ,IY (pm z).1 d,q2];obtain⟨_,t2,t3⟩:=h.sl_set 0 rfl (15-t) [U8 (wNat z (15-t))] (by rw[oh,e];show 15-t+1<=16;omega) (by simp);refine⟨t2,?_⟩;rintro x rfl;rw[show i64.wrap ((t:Int)+1)=((t+1:Nat):Int) by rw[aJ];omega];refine⟨⟨t+1,rfl,d,?_⟩,by simp only[VJ];omega⟩;have n:cv (cv ((ik z t).map U8) (7-t) [U8 (wNat z (7-t))]) (15-t) [U8 (wNat z (15-t))]=(ik z (t+1)).map U8:=by
   rw[<-Su z d,Yq,Yq];rfl
  rw[<-n];exact t3
 .have:t=8:=by have:=V9 j;omega
  subst this;rw[St]at h;exact k _ _ _ (h.o [0] 2)
theorem Sx{a:KQ}{c n:Nat}{bs:List Int}(x:bs.length=n)(hb:aI bs)(h:aA H F)(u:∀H,aA H F->aP H a (bs.map U8))(y:n<=1000000000)
  (k1:n≠16->∀f,aA f F->K (.tuple #[kT 0,.bool false]) f)
  (k2:n=16->∀f,aA f F->K (.tuple #[kT (jp bs),.bool true]) f):CF 301 #[.slice a n c] H K:=by
 subst x;refine O1 ?_;refine h.al λb _ h=>⟨λk=>?_,λk=>?_⟩
 .have m:bs.length≠16:=by
   intro e;rw[e]at k;simp at k
  refine h.sta 0 rfl rfl λv h=>⟨_,_,h.rda 0 rfl,k1 m _ h.tl⟩
 .have w:bs.length=16:=by simp at k;omega
  refine⟨λhi lo i f=>∃t:Nat,i=t/\t<=8/\hi=(kh (bs.take t):Nat)/\lo=(kh ((bs.drop 8).take t):Nat)/\aA f (cellsA b [aD 0,.int .u64 0] 157::F),λ_ _ i _=>8-i.toNat,⟨0,rfl,by omega,rfl,rfl,h⟩,?_⟩
  rintro hi lo i B ⟨t,rfl,A,rfl,rfl,h⟩;refine⟨λd=>?_,λd=>?_⟩
  .have s:t<8:=by have:=V8 d;omega
   have e8:i64.wrap (8+(t:Int))=((8+t:Nat):Int):=by rw[aJ];omega
   have r1:=(u _ h.tl).at (j:=t) (by omega);have r2:=(u _ h.tl).at (j:=8+t) (by omega);have b1:=hb _ (VL (show t<bs.length by omega));have b2:=hb _ (VL (show 8+t<bs.length by omega));rw[e8];refine⟨by decide,⟨by omega,by omega⟩,_,_,r1.1,_,r1.2,by decide,⟨by omega,by omega⟩,_,_,r2.1,_,r2.2,?_⟩;dsimp only;rw[IV b1.1 b1.2,IV b2.1 b2.2];rw[show i64.wrap ((t:Int)+1)=((t+1:Nat):Int) by rw[aJ];omega];refine⟨⟨t+1,rfl,s,?_,?_,h⟩,by simp only[VJ];omega⟩
   .rw [Wn (by omega),wO]
   .have hd:t<(bs.drop 8).length:=by rw[VU];omega
    rw[Wn hd,wO,List.getElem_drop]
  .have:t=8:=by have:=V9 d;omega
   subst this;have e2:(bs.drop 8).take 8=bs.drop 8:=Wc (by rw[VU];omega);rw[e2];obtain⟨w1,w2⟩:=Sv hb;rw[<-w1,<-w2];refine h.sta 0 rfl rfl λv h=>⟨_,_,h.rda 0 rfl,k2 w _ h.tl⟩
end
def gQ(h:Nat->Int)(n:Nat):List Nat:=(List.range n).flatMap λi=>if h i=0 then [] else [i,(h i).toNat]
theorem Am(h:Nat->Int)(n:Nat):gQ h (n+1)=gQ h n++(if h n=0 then [] else [n,(h n).toNat]):=by
 unfold gQ;rw[List.range_succ,W4];simp
theorem wP(h:Nat->Int):∀n,(gQ h n).length<=2*n
 | 0=>by simp[gQ]
 | n+1=>by
  rw[Am,V7];have:=wP h n
  split
  .simp only[VZ];omega
  .simp only[VE,VZ];omega
theorem IZ{h:Nat->Int}(b:wfH h)(n:Nat)(c:n<=65):∀u∈gQ h n,u<18446744073709551616:=by
 intro u a;obtain⟨i,hi,a⟩:=Ym.1 a;have hi:=WG.1 hi;have:=b i (by omega);unfold aF at this
 split at a
 .cases a
 .rcases VN.1 a with rfl|a
  .omega
  .rw [VI]at a;omega
def dj(c:Cl):List Int:=if ge c then eJ [c.n.toNat,c.cer.toNat,c.pos.toNat]++cY [c.mn,c.mx]++dd (bG (dN c.sum))++eJ [(gQ c.h 65).length/2]++eJ (gQ c.h 65) else []
theorem An{c:Cl}(h:ge c=true):0<=c.n/\0<=c.cer/\0<=c.pos/\(∀i,i<65->0<=c.h i):=by
 unfold ge at h;simp only[VB,Wb,VP,VD]at h;obtain⟨⟨⟨⟨⟨⟨k,d⟩,e⟩,j⟩,a⟩,b⟩,f⟩:=h;exact⟨by omega,by omega,by omega,qB.1 a⟩
theorem Sy(c:Cl):aI (dj c):=by
 unfold dj
 split
 .exact dD (dD (dD (dD (zr _) (tV _)) (qu _)) (zr _)) (zr _)
 .exact kB
theorem nQ(l:List Int):(bG l).size=l.length:=Go.strOfNums_size l
theorem uo{c:Cl}(wc:WC c):(dj c).length<=5000:=by
 unfold dj
 split
 .rename_i b;obtain⟨p1,p2,p3,p4⟩:=An b;have i:=wc.n;have e:=wc.cer;have d:=wc.pos;unfold aF at i e d;have l1:(eJ [c.n.toNat,c.cer.toNat,c.pos.toNat]).length<=30:=tW (by
   intro u a;simp only[VN,WF,or_false]at a;omega)
  have l2:=mC [c.mn,c.mx];have l3:(dd (bG (dN c.sum))).length<=26:=by
   have:=lJ (s:=bG (dN c.sum)) (by rw[nQ,sq];decide);rw[nQ,sq]at this;omega
  have f:=wP c.h 65;have l4:(eJ [(gQ c.h 65).length/2]).length<=10:=tW (by
   intro u a;simp only[VN,WF,or_false]at a;omega)
  have j:=tW (IZ wc.h 65 (VF _));simp only[V7,VE,VZ]at *;omega
 .simp
theorem sl285:SlT Tryz.prog 398 155 1 8:=iu (by kernel_rfl)
abbrev U64(n:Nat):Value:=.int .u64 (n:Int)
section
variable {F L:List aE}{H:aC}{K:KE}
theorem wQ{v:Int}(h0:0<=v)(h:aF v):u64.wrap v=((v.toNat:Nat):Int):=by unfold aF at h;rw[df];omega
theorem dq{a a2:KQ}{n c m c2 i:Nat}{x y:List Int}(h:aA H L)(j:aW i L=slA 5 1 a n c (x.map U8))(s:n=x.length)(hm:y.length=m)(f:aP H a2 (y.map U8))(t:x.length+y.length<=1000000000)
  (k:∀d e b,aA b (put i (slA 5 1 d (x++y).length e ((x++y).map U8)) L)->K (.slice d (x++y).length e) b) :
  cB Tryz.prog (Builtin.append_ #[43,43] 43 #[.slice a n c,.slice a2 m c2]) H K:=by
 subst s hm;refine h.append sl32 i j f (by simp) (Es _ _) (by omega) (by omega) λd e b h=>?_
 have:=k d e b;rw[V7,VW]at this;exact this h
theorem Ja{c:Cl}(wc:WC c)(h:aA H F)
  (k:∀a C V,aA V (slA 5 1 a (dj c).length C ((dj c).map U8)::F)->K (.slice a (dj c).length C) V) :
  CF 132 #[aggC c] H K:=by
 refine cL 132 (.r (.seq (.r (.cond (.r .no) .no)) (.r (.r (.r (.r (.seq (.r (.blk (.rng [sI,sI] [none] (.r .reg) (.blk .reg)))) (.r (.r .no))))))))) ?_;have e:=uo wc;unfold dj at k e;refine h.al λb _ h=>⟨_,_,_,_,_,_,_,_,h.rda 0 rfl,?_⟩
 refine uj wc h λH1 h=>⟨_,rfl,λM=>?_,λM=>?_⟩
 .rw [V4 (by simpa using M)]at k;exact k none 0 _ (h.tl.sl_nil 5 1)
 have U:ge c=true:=by simpa using M
 rw[V5 U]at k e;obtain⟨p1,p2,p3,p4⟩:=An U;simp only[V7]at e;have W:=wc.n;have t:=wc.cer;have v:=wc.pos;refine⟨_,h.r 0,_,h.r 0,_,h.r 0,?_⟩;dsimp only
 conv=>whnf
 rw[wQ p1 W,wQ p2 t,wQ p3 v];unfold aF at W t v;refine h.al λb1 _ h=>?_
 refine qv (us:=[c.n.toNat,c.cer.toNat,c.pos.toNat]) h (λH h=>h.ce_rd 0 rfl) (by
   intro u T;simp only[VN,WF,or_false]at T;omega) (by simp) λa1 c1 H3 h=>⟨_,_,_,rfl,?_⟩
 refine⟨_,h.r 2,_,h.r 2,?_⟩;refine h.al λb2 _ h=>?_
 refine Gm (vs:=[c.mn,c.mx]) h (λH h=>h.ce_rd 0 rfl) (by simp) λa2 c2 H5 h=>⟨_,_,_,rfl,?_⟩
 refine dq h (i:=2) rfl rfl rfl (h.sl_rd 0 rfl) (by omega) λa3 c3 H6 h=>⟨_,_,_,rfl,?_⟩
 refine⟨_,_,h.rdv (l:=[_]) (vs:=[_,_]) 4 rfl rfl,?_⟩;refine Sw wc.sum h λa4 c4 H7 h=>⟨_,_,_,rfl,?_⟩
 have hs:=rR (c:=c4) (bs:=dN c.sum) (slB_is (k:=0) (c:=c4) h |> λhh=>by
  rcases (ky (F:=star _) h).2 with ⟨D,_⟩|⟨b,pre,post,e',fr,D,_⟩
  .exact .inl D
  .exact .inr ⟨_,_,D⟩) (h.sl_rd 0 rfl)
 rw[sq]at hs;refine⟨_,hs,?_⟩;refine h.al λb3 _ h=>?_
 have I:(bG (dN c.sum)).size=16:=by rw[nQ,sq]
 have w:dC [bG (dN c.sum)]=dd (bG (dN c.sum)):=by simp[dC]
 have h9:(dd (bG (dN c.sum))).length<=26:=by have:=lJ (s:=bG (dN c.sum)) (by omega);omega
 refine wt (ts:=[bG (dN c.sum)]) h (λH h=>h.ce_rd 0 rfl) (λi=>by
   rcases Y1 i with rfl|hi
   .simp [dC]
   .rw [Wc (show [bG (dN c.sum)].length<=i from hi),w];omega) (by intro s x;rw[VI]at x;rw[x,I];decide) (by simp) λa5 c5 H9 h=>⟨_,_,_,rfl,?_⟩
 rw[w]at h ⊢;refine dq h (i:=5) rfl rfl rfl (h.sl_rd 0 rfl) (by simp only[V7];omega) λa6 c6 Y h=>⟨_,_,_,rfl,?_⟩
 refine h.al λb4 _ h=>⟨c.h,h.rdt (l:=[_,_,_,_,_,_,_]) 8 rfl rfl,?_⟩
 have h:=h.o [0,6] 9;refine IC h λfb y h=>⟨_,_,rfl,rfl,λR N P hy=>?_⟩
 have h:=h.rng R;have h:=h.sl_nil 155 1;refine IE (f:=c.h) (λj=>exS λp:KQ×Nat=>star [cellsA b4 [.slice p.1 (gQ c.h j).length p.2] 398,slA 155 1 p.1 (gQ c.h j).length p.2 ((gQ c.h j).map U64),pt (y.size+1) (.loop R)]) (pur False)
  (F:=pt y.size (.deferred (some []))::slA 5 1 a6 (eJ [c.n.toNat,c.cer.toNat,c.pos.toNat]++cY [c.mn,c.mx]++dd (bG (dN c.sum))).length c6 ((eJ [c.n.toNat,c.cer.toNat,c.pos.toNat]++cY [c.mn,c.mx]++dd (bG (dN c.sum))).map U8)::F) ?_ ?_ ?_ ?_ ?_
 .exact cK.2 ⟨(none,0),aA.shut [_,_,_] (h.o [4,0,1,3,2,5] 6)⟩
 .intro j Q hz;rw[show gQ c.h (j+1)=gQ c.h j by rw[Am,V5 hz,We]]
 .intro j Q L G B K1 h kt _;obtain⟨⟨a,C⟩,h⟩:=cK.1 h;have h:=aA.open (A:=[_,_,_]) h;refine hy _ _ _ ?_;have S:=wP c.h j;have J:=wc.h j Q;have E:=p4 j Q;refine⟨_,_,rfl,h.getO 2 rfl,h.getO 2 rfl,h.stl 2 rfl λh6 h=>⟨_,_,_,h.r 0,?_⟩⟩
  conv=>whnf
  rw[wQ E J,u64n (show j<18446744073709551616 by omega)];refine h.al λb5 _ h=>?_
  refine h.append (m:=2) (ws:=[U64 j,U64 (c.h j).toNat]) sl285 2 rfl (h.ce_rd 0 rfl) rfl rfl (by omega) (by omega) λa' O h7 h=>⟨_,_,_,rfl,?_⟩
  refine h.sta 1 rfl rfl λh0 h=>⟨h.getO 3 rfl,kt _ ?_⟩
  have h:=h.setO 3 rfl (.loop R);refine cK.2 ⟨(a',O),aA.shut [_,_,_] ?_⟩;rw[Am,V4 L,V7,VW];exact h.o [1,2,3] 4
 .intro B h;obtain⟨⟨a,C⟩,h⟩:=cK.1 h;have h:=aA.open (A:=[_,_,_]) h;refine⟨.ready,none,by decide,by rw[nD N P];exact h.getO 2 rfl,h.stl 2 rfl λh8 h=>⟨rfl,?_⟩⟩
  refine⟨_,_,_,h.r 0,by decide,?_⟩;have S:=wP c.h 65;have d:u64.wrap (i64.wrap (Int.tdiv ((gQ c.h 65).length:Int) 2))=(((gQ c.h 65).length/2:Nat):Int):=by
   rw[show Int.tdiv ((gQ c.h 65).length:Int) 2=(((gQ c.h 65).length/2:Nat):Int) from rfl,aJ,u64n (by omega)]
  conv=>whnf
  rw[d];refine h.al λb6 _ h=>?_
  refine qv (us:=[(gQ c.h 65).length/2]) h (λH h=>h.ce_rd 0 rfl) (by
    intro u T;rw[VI]at T;omega) (by simp) λa7 c7 j1 h=>⟨_,_,_,rfl,?_⟩
  refine dq h (i:=7) rfl rfl rfl (h.sl_rd 0 rfl) (by simp only[V7];omega) λa8 c8 h4 h=>⟨_,_,_,rfl,?_⟩
  refine⟨_,_,_,h.r 2,?_⟩;refine qv (us:=gQ c.h 65) h (λH h=>h.sl_rd 3 rfl) (IZ wc.h 65 (VF _)) (by omega) λa9 c9 Z h=>⟨_,_,_,rfl,?_⟩
  refine dq h (i:=8) rfl rfl rfl (h.sl_rd 0 rfl) (by simp only[V7];omega) λh1 h5 h3 h=>⟨_,_,_,rfl,h.getO 7 rfl,?_⟩
  have h:=h.setO 7 rfl (.deferred none);exact k _ _ _ (h.o [8] 9)
 .intro B h;exact (aA.consP h).1.elim
end
abbrev iX(l:bS):List Int:=dd l.name++dd l.value
def serB(name:Fa)(labs:List bS):List Int:=(dd name++bR labs.length)++labs.flatMap iX
def iY(name:Fa)(labs:List bS):List Int:=if fw name labs then serB name labs else []
theorem Sz(name:Fa)(labs:List bS):aI (serB name labs):=
 dD (dD (qu _) (oU _)) (jz λ_ _=>dD (qu _) (qu _))
theorem Ao(name:Fa)(labs:List bS):aI (iY name labs):=by
 unfold iY;split
 .exact Sz _ _
 .exact kB
theorem Jb(s:Fa):dC [s]=dd s:=by simp[dC]
theorem wR(n:Nat):eJ [n]=bR n:=by simp[eJ]
theorem Jc(l:bS):dC [l.name,l.value]=iX l:=by simp[dC,iX]
theorem Jd{l:bS}(h:ij l=true):(iX l).length<=148:=by
 have:=sk h;have b:=lJ (s:=l.name) (by omega);have a:=lJ (s:=l.value) (by omega);rw[V7];omega
theorem Je{labs:List bS}:(∀l∈labs,ij l=true)->(labs.flatMap iX).length<=148*labs.length:=by
 induction labs with
 | nil=>intro _;simp
 | cons a l ih=>
  intro h;have d:=ih λx b=>h x (VQ _ b)
  have c:=Jd (h a (VO ..));rw[Wg,V7,VE];omega
def dJ:Nat->RS->List bS×RS
 | 0,s=>([],s)
 | n+1,s=>((dJ n s).1++[⟨bG (aZ 64 (dJ n s).2).1,bG (aZ 64 (aZ 64 (dJ n s).2).2).1⟩],(aZ 64 (aZ 64 (dJ n s).2).2).2)
structure SRes where
 name:Fa
 labs:List bS
 e:Int
 rest:RS
def cO(s:RS):SRes:=
 if (dJ (bY 8 (aZ 64 s).2).1.toNat (bY 8 (aZ 64 s).2).2).2.e≠0 then ⟨⟨#[]⟩,[],(dJ (bY 8 (aZ 64 s).2).1.toNat (bY 8 (aZ 64 s).2).2).2.e,(dJ (bY 8 (aZ 64 s).2).1.toNat (bY 8 (aZ 64 s).2).2).2⟩
 else if fw (bG (aZ 64 s).1) (dJ (bY 8 (aZ 64 s).2).1.toNat (bY 8 (aZ 64 s).2).2).1 then ⟨bG (aZ 64 s).1,(dJ (bY 8 (aZ 64 s).2).1.toNat (bY 8 (aZ 64 s).2).2).1,0,(dJ (bY 8 (aZ 64 s).2).1.toNat (bY 8 (aZ 64 s).2).2).2⟩
 else ⟨⟨#[]⟩,[],10,(dJ (bY 8 (aZ 64 s).2).1.toNat (bY 8 (aZ 64 s).2).2).2⟩
theorem Ap{s:RS}(h:aI s.bs):∀n,aI (dJ n s).2.bs
 | 0=>h
 | n+1=>(lK (lK (Ap h n)).1).1
theorem Aq(s:RS):∀n,(dJ n s).2.bs.length<=s.bs.length
 | 0=>VF _
 | n+1=>VT (mD _ _).1 (VT (mD _ _).1 (Aq s n))
theorem Ar(s:RS):∀n,(dJ n s).1.length=n
 | 0=>rfl
 | n+1=>by unfold dJ;rw[V7,Ar s n];rfl
theorem Jf(s:RS):0<=(bY 8 s).1/\(bY 8 s).1<=8:=by
 unfold bY
 split
 .dsimp only;omega
 .split
  .split
   .dsimp only;omega
   .dsimp only;omega
  .dsimp only;omega
  .dsimp only;omega
theorem As{s:RS}(h:aI s.bs):aI (cO s).rest.bs:=by
 have:=Ap (rU (m:=8) (lK (m:=64) h).1) (bY 8 (aZ 64 s).2).1.toNat
 unfold cO;split
 .exact this
 .split <;> exact this
theorem At(s:RS):(cO s).rest.bs.length<=s.bs.length:=by
 have:=Aq (bY 8 (aZ 64 s).2).2 (bY 8 (aZ 64 s).2).1.toNat
 have b:=rV (aZ 64 s).2 8;have a:=(mD s 64).1;unfold cO;split
 .dsimp only;omega
 .split <;> dsimp only <;> omega
theorem Jg{s:RS}(h:(cO s).e=0):fw (cO s).name (cO s).labs=true:=by
 unfold cO at h ⊢
 split at h
 .rename_i a;exact V6 h a
 .rename_i a;rw[V4 a]
  split at h
  .rename_i b;rw[V5 b];exact b
  .simp at h
theorem Jh{name:Fa}{labs:List bS}(h:RightP name labs):(serB name labs).length<=1300:=by
 have e:=sj h.named;have a:=lJ (s:=name) (by omega);have c:=om (u:=labs.length) (by have:=h.len;omega);have d:=Je h.val;have b:=h.len;unfold serB;rw[V7,V7];omega
theorem wS(name:Fa)(labs:List bS):(iY name labs).length<=1300:=by
 unfold iY;split
 .rename_i h;exact Jh (mJ h)
 .simp
section
variable {F L:List aE}{H:aC}{K:KE}
theorem wT{a:KQ}{c:Nat}{s:Fa}(h:aA H F)(j:∀H,aA H F->aP H a [.string s])(hs:s.size<=100000000)
  (k:∀b e d,aA d (slA 5 1 b (dd s).length e ((dd s).map U8)::F)->K (.slice b (dd s).length e) d) :
  CF 131 #[.slice a 1 c] H K:=by
 have m:=lJ (s:=s) (by omega);refine wt (ts:=[s]) h j (λi=>?_) (λx f=>by rw[VI]at f;subst f;omega) (by simp) ?_
 .rcases Y1 i with rfl|hi
  .simp [dC]
  .rw [Wc (show [s].length<=i from hi),Jb];omega
 .rw [Jb];exact k
theorem Au{name:Fa}{a:KQ}{c:Nat}{labs:List bS}(h:aA H F)(G:∀H,aA H F->aP H a (flat dg labs))
  (k:∀t v w,aA w (slA 5 1 t (iY name labs).length v ((iY name labs).map U8)::F)->K (.slice t (iY name labs).length v) w) :
  CF 178 #[.agg #[.string name,.slice a labs.length c]] H K:=by
 refine cN 178 0x1d2821561239925144c [[(3,sS),(23,sI)],[(3,sS)]] ?_;refine h.al λb _ h=>?_
 refine⟨_,_,_,_,h.q 0,?_⟩;refine qF h (λH h=>G H h.tl) λJ h=>⟨_,rfl,λf=>?_,λf=>?_⟩
 .have e:iY name labs=[]:=by unfold iY;rw[V4 (by simpa using f)]
  rw[e]at k;exact k none 0 _ (h.tl.sl_nil 5 1)
 .simp only[Wq]at f;have n:=mJ f;have e:iY name labs=serB name labs:=by unfold iY;rw[V5 f]
  rw[e]at k;have V:=n.len;have N:=sj n.named;have S:=Jh n;have Y:=lJ (s:=name) (by omega);have Z:=om (u:=labs.length) (by omega);intro M L;have m:∀(ba:KQ) (bc:Nat) C,aA C (slA 5 1 ba (dd name++bR labs.length).length bc ((dd name++bR labs.length).map U8)::cellsA b [.string name,.slice a labs.length c] 79::F)->M ba (dd name++bR labs.length).length bc C:=by
   intro ba bc C h;refine L _ _ _ _ ?_;refine⟨_,_,_,h.r 1,?_⟩;refine⟨λt R v i w=>∃j:Nat,i=j/\j<=labs.length/\R=((dd name++bR labs.length)++(labs.take j).flatMap iX).length/\
    aA w (slA 5 1 t ((dd name++bR labs.length)++(labs.take j).flatMap iX).length v (((dd name++bR labs.length)++(labs.take j).flatMap iX).map U8)::cellsA b [.string name,.slice a labs.length c] 79::F),
    λ_ _ _ i _=>labs.length-i.toNat,⟨0,rfl,by omega,by simp,by simpa using h⟩,?_⟩
   rintro a1 n1 c1 i J ⟨j,rfl,W,rfl,h⟩;refine⟨λf=>?_,λf=>?_⟩
   .have d:j<labs.length:=by have:=V8 f;omega
    have D:=G _ h.tl.tl;have U:=sk (n.val _ (VL d));have I:=Jd (n.val _ (VL d));have Q:=Je (labs:=labs.take j) λl P=>n.val l (W0 P)
    have T:(labs.take j).length<=labs.length:=by rw[VY];omega
    refine⟨by omega,_,_,D.some iV (by omega) d,_,_,D.els iV d,?_⟩;refine h.al λb2 _ h=>?_
    refine h.st 0 rfl rfl ?_;intro B h;refine⟨_,h.r 0,_,h.r 0,?_⟩;refine h.al λb3 _ h=>?_
    refine wt (ts:=[labs[j].name,labs[j].value]) h (λH h=>h.ce_rd 0 rfl) (λi=>?_) ?_ (by simp) λt v H4 h=>?_
    .have:(dC ([labs[j].name,labs[j].value].take i)).length<=(dC [labs[j].name,labs[j].value]).length:=by
      have:[labs[j].name,labs[j].value]=[labs[j].name,labs[j].value].take i++[labs[j].name,labs[j].value].drop i:=(Ww _ _).symm;rw[show (dC [labs[j].name,labs[j].value]).length=(dC ([labs[j].name,labs[j].value].take i++[labs[j].name,labs[j].value].drop i)).length by rw[<-this]];unfold dC;rw[W4,V7];omega
     rw[Jc]at this;omega
    .intro s hs;simp only[VN,WF,or_false]at hs
     rcases hs with rfl|rfl <;> omega
    .rw [Jc]at h ⊢;refine⟨_,_,_,rfl,?_⟩;refine dq h (i:=3) rfl rfl rfl (h.sl_rd 0 rfl) (by simp only[V7]at *;omega) λa3 c3 A h=>⟨_,_,_,rfl,?_⟩
     conv=>whnf
     rw[aJ (x:=(j:Int)+1)];have e5:((dd name++bR labs.length)++(labs.take (j+1)).flatMap iX)=((dd name++bR labs.length)++(labs.take j).flatMap iX)++iX labs[j]:=by
      rw[jP d,VK _ _ (iX labs[j])]
     refine⟨⟨j+1,by omega,d,by rw[e5],?_⟩,by dsimp only;omega⟩;rw[e5];exact h.o [3,4] 5
   .have y:labs.length<=j:=by have:=V9 f;omega
    have e1:labs.take j=labs:=Wc y;rw[e1]at h ⊢;exact k _ _ _ (h.o [0] 2)
  have O:u64.wrap ((labs.length:Nat):Int)=((labs.length:Nat):Int):=by rw[df];omega
  refine⟨_,h.r 0,_,_,_,h.r 0,?_⟩;dsimp only
  conv=>whnf
  rw[O];refine⟨?_,?_⟩
  .refine h.al λb4 _ h=>⟨h.r 1,?_,?_⟩
   .refine wT h (λH h=>h.ce_rd 0 rfl) (by omega) λa1 c1 B h=>⟨_,_,_,rfl,h.r 2,?_⟩
    refine h.al λb5 _ h=>?_
    refine qv (us:=[labs.length]) h (λH h=>h.ce_rd 0 rfl) (by simp;omega) (by simp) λa2 c2 E h=>⟨_,_,_,rfl,?_⟩
    rw[wR]at h ⊢;refine dq h (i:=2) rfl rfl rfl (h.sl_rd 0 rfl) (by omega) λa3 c3 A h=>⟨_,_,_,rfl,?_⟩
    exact m _ _ _ (h.o [2,4] 5)
   .refine h.al λb5 _ h=>?_
    refine wT h (λH h=>h.ce_rd 1 rfl) (by omega) λa1 c1 B h=>⟨_,_,_,rfl,?_⟩
    refine qv (us:=[labs.length]) h (λH h=>h.ce_rd 1 rfl) (by simp;omega) (by simp) λa2 c2 E h=>⟨_,_,_,rfl,?_⟩
    rw[wR]at h ⊢;refine dq h (i:=1) rfl rfl rfl (h.sl_rd 0 rfl) (by omega) λa3 c3 A h=>⟨_,_,_,rfl,?_⟩
    exact m _ _ _ (h.o [1,4] 5)
  .refine h.al λb5 _ h=>⟨h.r 1,?_⟩
   refine h.al λb4 _ h=>?_
   refine wT h (λH h=>h.ce_rd 0 rfl) (by omega) λa1 c1 B h=>⟨_,_,_,rfl,?_⟩
   refine qv (us:=[labs.length]) h (λH h=>h.ce_rd 2 rfl) (by simp;omega) (by simp) λa2 c2 E h=>⟨_,_,_,rfl,?_⟩
   rw[wR]at h ⊢;refine dq h (i:=1) rfl rfl rfl (h.sl_rd 0 rfl) (by omega) λa3 c3 A h=>⟨_,_,_,rfl,?_⟩
   exact m _ _ _ (h.o [1,4] 5)
theorem Ji{rb:Nat}{s:RS}(h:aA H (crdA rb s::F))(hb:aI s.bs)(R:s.bs.length<=1099511627776)
  (k:∀a c f,aA f (crdA rb (cO s).rest::slA 421 2 a (cO s).labs.length c (flat dg (cO s).labs)::F)->
   K (.tuple #[.agg #[.string (cO s).name,.slice a (cO s).labs.length c],aD (cO s).e]) f):CF 253 #[PA rb 0] H K:=by
 refine cN 253 0x112156123992514421bdc [[(12,sI)]] ?_;refine h.al λb _ h=>?_
 have h:=h.o [1,0] 2;refine nK (most:=64) h hb R (by unfold aF;decide) λL h=>⟨_,rfl,?_⟩
 have t:=(lK (m:=64) hb).1;have N:=(mD s 64).1;refine h.al λb1 _ h=>?_
 refine h.st 0 rfl rfl ?_;intro Q h;have h:=h.o [1,0,2] 3;refine tQ (most:=8) h t (by omega) (by unfold aF;decide) λH4 h=>⟨_,rfl,?_⟩
 have E:=rU (m:=8) t;have T:=rV (aZ 64 s).2 8;have S:=Jf (aZ 64 s).2;unfold cO at k;generalize hcr:bY 8 (aZ 64 s).2=C at *;obtain⟨cn,s1⟩:=C;dsimp only at *;obtain⟨n,rfl⟩:∃n:Nat,cn=n:=⟨cn.toNat,by omega⟩;rw[VJ]at k;refine⟨λi f=>∃j:Nat,i=j/\j<=n/\∃a c,aA f (crdA rb (dJ j s1).2::slA 421 2 a j c (flat dg (dJ j s1).1)::cellsA b1 [.string (bG (aZ 64 s).1),.slice a j c] 79::cellsA b [.string ⟨#[]⟩,.slice none 0 0] 79::F),
  λi _=>n-i.toNat,⟨0,rfl,by omega,none,0,((h.sl_nil 421 2).o [1,0,2,3] 4)⟩,?_⟩
 rintro i L ⟨j,rfl,Y,a,c,h⟩;have v:=Ap E j;have O:=Aq s1 j;refine⟨λy=>?_,λy=>?_⟩
 .have J:j<n:=by have:=V8 y;omega
  refine nK (most:=64) h v (by omega) (by unfold aF;decide) λZ h=>⟨_,rfl,_,_,_,h.r 2,?_⟩
  have B:=(lK (m:=64) v).1;have U:=(mD (dJ j s1).2 64).1;refine nK (most:=64) h B (by omega) (by unfold aF;decide) λQ h=>⟨_,rfl,h.r 2,?_⟩
  refine h.al λb2 _ h=>⟨h.r 3,?_⟩
  have w:=Ar s1 j;refine h.append (m:=1) (ws:=dg ⟨bG (aZ 64 (dJ j s1).2).1,bG (aZ 64 (aZ 64 (dJ j s1).2).2).1⟩) sl91 2 rfl (h.ce_rd 0 rfl) rfl (Ac _) (by omega) (by omega) λP V W h=>⟨_,_,_,rfl,?_⟩
  refine h.st 3 rfl rfl ?_;intro D h
  conv=>whnf
  rw[aJ (x:=(j:Int)+1)];refine⟨⟨j+1,by omega,J,P,V,?_⟩,by dsimp only;omega⟩;have e:flat dg (dJ (j+1) s1).1=flat dg (dJ j s1).1++dg ⟨bG (aZ 64 (dJ j s1).2).1,bG (aZ 64 (aZ 64 (dJ j s1).2).2).1⟩:=by
   show flat dg (_++[_])=_;rw[dS];simp[flat]
  rw[e];exact h.o [1,2,3,4] 5
 .have A:j=n:=by have:=V9 y;omega
  subst A;have w:=Ar s1 j;refine⟨_,mB h,λd=>?_,λd=>?_⟩
  .have d:(dJ j s1).2.e≠0:=by simpa using d
   rw[V5 d]at k;refine h.st 3 rfl rfl ?_;intro D h;refine⟨_,_,_,_,h.q 3,?_⟩;exact k none 0 _ (((h.sl_nil 421 2).o [1,0] 5))
  .have d:¬(dJ j s1).2.e≠0:=by simpa using d
   rw[V4 d]at k;refine⟨_,_,_,_,h.q 2,?_⟩;have M:CF 226 #[.agg #[.string (bG (aZ 64 s).1),.slice a (dJ j s1).1.length c]] L (λu f=>u=.bool (fw (bG (aZ 64 s).1) (dJ j s1).1)/\aA f (crdA rb (dJ j s1).2::slA 421 2 a j c (flat dg (dJ j s1).1)::cellsA b1 [.string (bG (aZ 64 s).1),.slice a j c] 79::cellsA b [.string ⟨#[]⟩,.slice none 0 0] 79::F)):=
    qF h (λH h=>h.sl_rd 1 rfl) λf h=>⟨rfl,h⟩
   rw[w]at M;refine M.mono ?_;rintro u H7 ⟨rfl,h⟩;refine⟨_,rfl,λG=>?_,λG=>?_⟩
   .rw [V4 (by simpa using G)]at k;refine h.st 3 rfl rfl ?_;intro D h;refine⟨_,_,_,_,h.q 3,?_⟩;exact k none 0 _ (((h.sl_nil 421 2).o [1,0] 5))
   .rw [V5 (by simpa using G)]at k;refine⟨_,_,_,_,h.q 2,?_⟩;refine h.st 3 rfl rfl ?_;intro D h;refine⟨_,_,_,_,h.q 3,?_⟩;have I:=k a c _ (by dsimp only;rw[w];exact h.o [0,1] 4);dsimp only at I;rw[w]at I;exact I
end
def gi(c:UInt8)(s:Fa):Fa×Fa×Bool:=
 if 0<=cV c (aX s) then (s.extract 0 (cV c (aX s)).toNat,s.extract ((cV c (aX s)).toNat+1) s.size,true) else (s,⟨#[]⟩,false)
def mK(c:UInt8)(s:Fa):Fa×Bool:=
 if decide (1<=s.size)&&((s.extract (s.size-1) s.size).toList == (⟨#[c]⟩:Fa).toList) then (s.extract 0 (s.size-1),true) else (s,false)
def iZ:Nat->Fa->List Fa
 | 0,s=>[s]
 | n+1,s=>if cV 44 (aX s)<0 then [s] else s.extract 0 (cV 44 (aX s)).toNat::iZ n (s.extract ((cV 44 (aX s)).toNat+1) s.size)
def gR(s:Fa):List Fa:=iZ s.size s
def sr(acc:Option (List bS))(p:Fa):Option (List bS):=match acc with
 | none=>none
 | some labs=>if (gi 61 p).2.2 && !decide (labs.length=8) then some (labs++[⟨(gi 61 p).1,(gi 61 p).2.1⟩]) else none
def kE(ps:List Fa):Option (List bS):=ps.foldl sr (some [])
def il(t:Fa):Fa×List bS×Bool:=
 if (gi 123 t).2.2 then
  if (mK 125 (gi 123 t).2.1).2 then match kE (gR (mK 125 (gi 123 t).2.1).1) with
   | none=>(⟨#[]⟩,[],false)
   | some labs=>if fw (gi 123 t).1 labs then ((gi 123 t).1,labs,true) else (⟨#[]⟩,[],false)
  else (⟨#[]⟩,[],false)
 else if fw (gi 123 t).1 [] then ((gi 123 t).1,[],true) else (⟨#[]⟩,[],false)
theorem Jj(c:UInt8)(s:Fa):-1<=cV c (aX s)/\cV c (aX s)<s.size:=by
 have:=idxU_ge c (aX s);rw[kW]at this;exact this
theorem S0(ps:List Fa):ps.foldl sr none=none:=by
 induction ps with
 | nil=>rfl
 | cons p r ih=>exact ih
theorem S1{ps:List Fa}{j:Nat}(h:j<ps.length):kE (ps.take (j+1))=sr (kE (ps.take j)) ps[j]:=by
 unfold kE;rw[Wn h,WR];rfl
theorem S2{ps:List Fa}{j:Nat}(h:kE (ps.take j)=none):kE ps=none:=by
 have:ps=ps.take j++ps.drop j:=(Ww _ _).symm;rw[this];unfold kE at h ⊢;rw[WR,h,S0]
theorem Jk:∀(n:Nat) (s p:Fa),p∈iZ n s->p.size<=s.size
 | 0,s,p,h=>by
  have:p=s:=VI.1 h;subst this;exact VF _
 | n+1,s,p,h=>by
  unfold iZ at h
  split at h
  .have:p=s:=VI.1 h;subst this;exact VF _
  .rcases VN.1 h with h|h
   .rw [h,ByteArray.size_extract];omega
   .have:=Jk n _ p h;rw[ByteArray.size_extract,Nat.min_self]at this;omega
theorem Jl(n:Nat)(s:Fa):iZ n s≠[]:=by
 cases n with
 | zero=>simp[iZ]
 | succ n=>unfold iZ;split <;> simp
section
variable {F L:List aE}{H:aC}{K:KE}
theorem Jm{s:Fa}{c:UInt8}(k:K (aD (cV c (aX s))) H):CF 348 #[.string s,.string ⟨#[c]⟩] H K:=by
 refine Om ⟨λa=>?_,λa=>⟨λhd=>?_,λhd=>?_⟩⟩
 .simp only[VR,VA]at a
  rcases a with a|a
  .exact V6 a (by show ¬((1:Int)=0);omega)
  .have e:(⟨#[c]⟩:Fa)=s:=ba_ext (by simpa using a);have:cV c (aX s)=0:=by
    rw[<-e];show cV c [c]=0;unfold cV;simp
   rw[<-this];exact k
 .refine⟨⟨by omega,by show (0:Int)<1;omega⟩,?_⟩;refine Oh ⟨_,natIdx,_,rfl,?_⟩;have:(bAt (⟨#[c]⟩:Fa) 0).toNat.toUInt8=c:=by
   show ((c.toNat:Int)).toNat.toUInt8=c;simp
  rw[this];exact k
 .exact V6 (V9 hd) (by show ¬¬((1:Int)=1);omega)
theorem Jo{s:Fa}{c:UInt8}(hs:s.size<=1099511627776)(k:K (.tuple #[.string (gi c s).1,.string (gi c s).2.1,.bool (gi c s).2.2]) H) :
  CF 264 #[.string s,.string ⟨#[c]⟩] H K:=by
 refine OB (O0 ?_);refine Jm ⟨_,rfl,λa=>?_,λa=>?_⟩
 .have a:=V8 a;have hi:=Jj c s;have b:i64.wrap (cV c (aX s)+(((⟨#[c]⟩:Fa).size:Nat):Int))=cV c (aX s)+1:=by
   show i64.wrap (cV c (aX s)+1)=_;rw[aJ]
  rw[b];refine⟨by omega,by omega,_,_,_,rfl,?_⟩;unfold gi at k;rw[V5 a]at k;rw[show (cV c (aX s)+1).toNat=(cV c (aX s)).toNat+1 by omega];exact k
 .have a:=V9 a;unfold gi at k;rw[V4 a]at k;exact⟨_,_,_,rfl,k⟩
theorem S3{s:Fa}{c:UInt8}(hs:s.size<=1099511627776):bV Tryz.prog 265 #[.string s,.string ⟨#[c]⟩] H (.tuple #[.string (mK c s).1,.bool (mK c s).2]):=by
 have e:(((⟨#[c]⟩:Fa).size:Nat):Int)=1:=rfl;have d:∀h:1<=s.size,i64.wrap ((s.size:Int)-1)=((s.size-1:Nat):Int):=λh=>by rw[aJ];omega
 refine OA ⟨_,_,Oz ⟨decide (1<=s.size)&&((s.extract (s.size-1) s.size).toList == (⟨#[c]⟩:Fa).toList),Ol ⟨λa=>?_,?_,rfl⟩,λa=>?_,λa=>?_⟩,rfl,rfl⟩
 .have a:=V8 a;rw[e]at a ⊢;rw[d (by omega)];omega
 .rw [e]
  by_cases b:1<=s.size
  .rw [d b,VJ,VS b,VS (show (1:Int)<=s.size by omega)]
  .rw [Ws b,Ws (show ¬(1:Int)<=s.size by omega),Bool.false_and,Bool.false_and]
 .unfold mK;rw[V4 (by rw[Wb,]at a;rw[a];simp)];exact⟨rfl,rfl⟩
 .have a:(decide (1<=s.size)&&((s.extract (s.size-1) s.size).toList == (⟨#[c]⟩:Fa).toList))=true:=by simpa using a
  have b:1<=s.size:=by
   rw[VB]at a;exact V8 a.1
  unfold mK;rw[V5 a,e,d b];exact⟨by omega,rfl,rfl⟩
theorem S4{l c0 c1 c2:Nat}{s:Fa}(hs:s.size<=1099511627776)(A:Nat->aE)(M:Nat->aE)
  (h:aA H (A 0::cellsA c0 [.string ⟨#[44]⟩] 9::cellsA c1 [.string s] 9::cellsA c2 [aD 0] 3::F))
  (L:∀j (S:j<(gR s).length) (G:List aE) (i:aC) (y:KE),aA i (A j::G)->(∀f,aA f (A (j+1)::G)->y (.bool true) f)->(∀f,aA f (M j::G)->y (.bool false) f)->
   fI Tryz.prog l [.string (gR s)[j]] i y)
  (k:∀d,aA d (A (gR s).length::F)->K (.tuple #[]) d)
  (N:∀j d,j<(gR s).length->aA d (M j::F)->K (.tuple #[]) d) :
  CF 350 #[.func (.yield l) #[] #[],PA c0 0,PA c1 0,PA c2 0] H K:=by
 refine Oj ?_;refine⟨_,h.r 1,λb=>V6 (V8 b) (by show ¬((1:Int)=0);omega),λb=>?_⟩
 refine⟨λd=>∃(j n:Nat) (r:Fa),j<(gR s).length/\(gR s).drop j=iZ n r/\r.size<=n/\n<=s.size/\aA d (A j::cellsA c0 [.string ⟨#[44]⟩] 9::cellsA c1 [.string r] 9::cellsA c2 [aD 0] 3::F),
  λd=>match aL d c1 0 with|some (.string r)=>r.size|_=>0,⟨0,s.size,s,Yy.2 (Jl _ _),rfl,VF _,VF _,h⟩,?_⟩
 rintro i ⟨j,n,r,c,hd,Q,T,h⟩;have I:=h.rd 2 rfl 0;refine⟨_,h.r 2,_,h.r 1,?_⟩;have hi:=Jj 44 r;have v:(gR s)[j]=(iZ n r)[0]'(by rw[<-hd,VU];omega):=by
  simp only[<-hd,List.getElem_drop,WM]
 refine Oi (Jm ⟨_,rfl,_,rfl,λb=>?_,λb=>?_⟩)
 .have b:=V8 b;have e:iZ n r=[r]:=by
   cases n with
   | zero=>rfl
   | succ n=>unfold iZ;rw[V5 b]
  have w:(gR s).length=j+1:=by
   have:=congrArg List.length hd;rw[e,VU]at this;simp at this;omega
  have e0:(gR s)[j]=r:=by rw[v];simp only[e];rfl
  refine⟨_,h.r 2,?_⟩;have a:=L j c (cellsA c0 [.string ⟨#[44]⟩] 9::cellsA c1 [.string r] 9::cellsA c2 [aD 0] 3::F) i (λu3 D=>∃r4,u3=.bool r4/\K (.tuple #[]) D) h
   (λf h=>⟨true,rfl,k _ (by rw[w];exact h.o [0] 4)⟩)
   (λf h=>⟨false,rfl,N j _ c (h.o [0] 4)⟩)
  rw[e0]at a;exact a
 .have b:=V9 b;have x:∃m,n=m+1:=⟨n-1,by omega⟩;obtain⟨m,rfl⟩:=x;have e:iZ (m+1) r=r.extract 0 (cV 44 (aX r)).toNat::iZ m (r.extract ((cV 44 (aX r)).toNat+1) r.size):=by
   show (if _ then _ else _)=_
   rw[V4 b]
  have O:i64.wrap (cV 44 (aX r)+0)=cV 44 (aX r):=by rw[aJ];omega
  have C:i64.wrap (cV 44 (aX r)+(((⟨#[44]⟩:Fa).size:Nat):Int))=cV 44 (aX r)+1:=by
   show i64.wrap (cV 44 (aX r)+1)=_;rw[aJ]
  have e0:(gR s)[j]=r.extract 0 (cV 44 (aX r)).toNat:=by rw[v];simp only[e];rfl
  have u:(gR s).drop (j+1)=iZ m (r.extract ((cV 44 (aX r)).toNat+1) r.size):=by
   rw[<-Yw,hd,e];rfl
  have J:j+1<(gR s).length:=by
   have P:=Yy.2 (Jl m (r.extract ((cV 44 (aX r)).toNat+1) r.size));rw[<-u,VU]at P;omega
  refine⟨_,h.r 2,_,h.r 3,?_⟩;dsimp only;rw[O];refine⟨by omega,?_⟩;have a:=L j c (cellsA c0 [.string ⟨#[44]⟩] 9::cellsA c1 [.string r] 9::cellsA c2 [aD 0] 3::F) i;rw[e0]at a;refine a _ h (λf h=>⟨true,rfl,λB=>V6 B (by simp),λ_=>?_⟩) (λf h=>⟨false,rfl,λ_=>N j _ c (h.o [0] 4),λB=>V6 B (by simp)⟩)
  refine⟨_,h.r 2,_,h.r 1,?_⟩;dsimp only;rw[C];refine⟨by omega,?_⟩;have E:(r.extract ((cV 44 (aX r)).toNat+1) r.size).size=r.size-((cV 44 (aX r)).toNat+1):=by
   rw[ByteArray.size_extract,Nat.min_self]
  refine h.st 2 rfl rfl ?_;intro R h;rw[show (cV 44 (aX r)+1).toNat=(cV 44 (aX r)).toNat+1 by omega]at h;refine⟨⟨j+1,m,_,J,u,by omega,by omega,h⟩,?_⟩;have t:=h.rd 2 rfl 0;rw[I,t];show ByteArray.size _<ByteArray.size _;rw[E];omega
theorem Jp{t:Fa}(U:t.size<=1099511627776)(h:aA H F)
  (k:∀a c J,aA J (slA 421 2 a (il t).2.1.length c (flat dg (il t).2.1)::F)->K (.tuple #[.agg #[.string (il t).1,.slice a (il t).2.1.length c],.bool (il t).2.2]) J) :
  CF 209 #[.string t] H K:=by
 refine cL 209 (.r (.r (.r (.seq (.r (.cond (.r (.seq (.r (.cond (.r .no) .no)) (.r (.blk (.rng [sT] [none,(some .ret)] .reg (.blk (.r (.seq (.r (.cond (.r .no) .no)) .reg)))))))) .no)) (.seq (.r (.cond (.r .no) .no)) (.r .no)))))) ?_;refine h.al λb _ h=>?_
 refine h.al λb1 _ h=>?_
 refine Jo U ⟨_,_,_,rfl,?_⟩;refine h.al λb2 _ h=>?_
 refine h.st 0 rfl rfl ?_;intro H1 h;have T:(gi 123 t).2.1.size<=t.size:=by
  unfold gi;split
  .dsimp only;rw[ByteArray.size_extract];omega
  .exact Wd _
 unfold il at k;generalize hC:gi 123 t=C at *;obtain⟨nm,rest,ok⟩:=C;dsimp only at *;refine⟨λd=>?_,λd=>?_⟩
 .subst d;rw[V5 rfl]at k;refine⟨_,_,S3 (by omega),λd=>?_,λd=>?_⟩
  .rw [V4 (by simpa using d)]at k;refine h.st 2 rfl rfl ?_;intro H2 h;refine h.st 1 rfl rfl ?_;intro H3 h;refine⟨_,_,_,_,h.q 2,_,h.r 1,?_⟩;exact k none 0 _ ((h.sl_nil 421 2).o [0] 4)
  .rw [V5 (by simpa using d)]at k;have V:(mK 125 rest).1.size<=rest.size:=by
    unfold mK;split
    .dsimp only;rw[ByteArray.size_extract];omega
    .exact VF _
   generalize hf:(mK 125 rest).1=f at *;refine cM 266 28 (cM 304 28 ?_);refine h.al λc1 _ h=>?_
   refine h.al λc0 _ h=>?_
   refine h.al λc2 E h=>⟨_,_,rfl,_,_,rfl,rfl,λR x y N=>?_⟩
   have h:=h.rng R;refine S4 (s:=f) (by omega)
    (λj=>exS λp:(KQ×Nat)×List bS=>star [cellsA b2 [.string nm,.slice p.1.1 p.2.length p.1.2] 79,slA 421 2 p.1.1 p.2.length p.1.2 (flat dg p.2),cellsA b1 [.bool false] 4,cellsA b [.string ⟨#[]⟩,.slice none 0 0] 79,pt (E.size+1) (.loop R),pur (kE ((gR f).take j)=some p.2/\p.2.length<=8)])
    (λj=>star [cellsA b1 [.bool false] 4,cellsA b [.string ⟨#[]⟩,.slice none 0 0] 79,pt (E.size+1) (.loop { R with state:=.done,pending:=some .ret }),pur (kE ((gR f).take (j+1))=none)])
    (F:=pt E.size (.deferred (some []))::F) ?_ ?_ ?_ ?_
   .refine cK.2 ⟨((none,0),[]),aA.shut [_,_,_,_,_,_] ?_⟩;exact ((h.sl_nil 421 2).pur (p:=kE ((gR f).take 0)=some []/\([]:List bS).length<=8) ⟨rfl,by simp⟩).o [7,1,8,9,2,0,5,6,4,3] 10
   .intro j B G L Z h W S;obtain⟨⟨⟨a,c⟩,labs⟩,h⟩:=cK.1 h;have h:=aA.open (A:=[_,_,_,_,_,_]) h;have v:=(aA.consP (h.o [5,0,1,2,3,4] 6)).1;dsimp only at h;have P:=Jk f.size f _ (VL (l:=gR f) B);have i:=S1 B;rw[v.1]at i;dsimp only at v;unfold sr at i;dsimp only at i;refine N _ _ _ ?_;refine⟨_,rfl,h.getO 4 rfl,h.getO 4 rfl,h.stl 4 rfl λI h=>?_⟩
    refine Jo (by omega) ?_;generalize gi 61 (gR f)[j]=D at *;obtain⟨d1,d2,d3⟩:=D;dsimp only at i ⊢;refine⟨_,_,_,rfl,a,labs.length,c,λ_=>h.r 0,λd=>?_,λd=>?_⟩
    .rw [V4 (by
      intro e;simp only[VB,Wb,VD]at e;simp only[VR,Wb,VA]at d
      rcases d with d|d
      .rw [d]at e;simp at e
      .omega)]at i
     refine h.st 3 rfl rfl ?_;intro w h;refine h.st 2 rfl rfl ?_;intro n h;refine⟨h.getO 4 rfl,S _ ?_⟩;have h:=h.setO 4 rfl (.loop { R with state:=.done,pending:=some .ret });refine aA.shut [_,_,_,_] ?_;exact (h.pur i).o [3,4,5,0] 7
    .simp only[VP,Wq,VD]at d;rw[V5 (by
      simp only[VB,Wb,VD];exact⟨d.1,by omega⟩)]at i
     refine⟨_,_,_,h.r 0,?_⟩;refine h.al λb3 _ h=>?_
     refine h.append (m:=1) (ws:=dg ⟨d1,d2⟩) sl91 2 rfl (h.ce_rd 0 rfl) rfl (Ac _) (by omega) (by omega) λO Y Q h=>⟨_,_,_,rfl,?_⟩
     refine h.st 1 rfl rfl ?_;intro M h;refine⟨h.getO 5 rfl,W _ ?_⟩;have h:=h.setO 5 rfl (.loop R);refine cK.2 ⟨((O,Y),labs++[⟨d1,d2⟩]),aA.shut [_,_,_,_,_,_] ?_⟩;have e:flat dg (labs++[⟨d1,d2⟩])=flat dg labs++dg ⟨d1,d2⟩:=by
      rw[dS];simp[flat]
     dsimp only;rw[e,V7];exact (h.pur (p:=kE ((gR f).take (j+1))=some (labs++[⟨d1,d2⟩])/\labs.length+[(⟨d1,d2⟩:bS)].length<=8) ⟨i,by simp;omega⟩).o [2,3,4,5,6,0] 8
   .intro L h;obtain⟨⟨⟨a,c⟩,labs⟩,h⟩:=cK.1 h;have h:=aA.open (A:=[_,_,_,_,_,_]) h;have v:=(aA.consP (h.o [5,0,1,2,3,4] 6)).1;rw[Wi]at v;rw[v.1]at k;dsimp only at h k;refine⟨.ready,none,by decide,by rw[nD x y];exact h.getO 4 rfl,h.stl 4 rfl λI h=>.inl ⟨rfl,?_⟩⟩
    refine⟨_,_,_,_,h.q 0,?_⟩;refine qF h (λH h=>h.sl_rd 1 rfl) λw h=>⟨_,rfl,λd=>?_,λd=>?_⟩
    .rw [V4 (by simpa using d)]at k;refine h.st 3 rfl rfl ?_;intro n h;refine h.st 2 rfl rfl ?_;intro u h;refine⟨h.getO 6 rfl,?_⟩;have h:=h.setO 6 rfl (.deferred none);refine⟨_,_,_,_,h.q 3,_,h.r 2,?_⟩;exact k none 0 _ ((h.sl_nil 421 2).o [0] 8)
    .rw [V5 (by simpa using d)]at k;refine⟨_,_,_,_,h.q 0,?_⟩;refine h.st 3 rfl rfl ?_;intro n h;refine h.st 2 rfl rfl ?_;intro u h;refine⟨h.getO 6 rfl,?_⟩;have h:=h.setO 6 rfl (.deferred none);refine⟨_,_,_,_,h.q 3,_,h.r 2,?_⟩;exact k a c _ (h.o [1] 7)
   .intro j L B h;have h:=aA.open (A:=[_,_,_,_]) h;have v:=(aA.consP (h.o [3,0,1,2] 4)).1;rw[S2 v]at k;refine⟨.done,some .ret,by decide,h.getO 2 rfl,h.stl 2 rfl λI h=>.inr ⟨rfl,h.getO 4 rfl,?_⟩⟩
    have h:=h.setO 4 rfl (.deferred none);refine⟨_,_,_,_,h.q 1,_,h.r 0,?_⟩;exact k none 0 _ ((h.sl_nil 421 2).o [0] 6)
 .subst d;rw[V4 (by simp)]at k;refine⟨_,_,_,_,h.q 0,?_⟩;refine qF (labs:=[]) h (λH h=>iv H none) λw h=>⟨_,rfl,λd=>?_,λd=>?_⟩
  .rw [V4 (by simpa using d)]at k;refine h.st 2 rfl rfl ?_;intro n h;refine h.st 1 rfl rfl ?_;intro u h;refine⟨_,_,_,_,h.q 2,_,h.r 1,?_⟩;exact k none 0 _ ((h.sl_nil 421 2).o [0] 4)
  .rw [V5 (by simpa using d)]at k;refine⟨_,_,_,_,h.q 0,?_⟩;refine h.st 2 rfl rfl ?_;intro n h;refine h.st 1 rfl rfl ?_;intro u h;refine⟨_,_,_,_,h.q 2,_,h.r 1,?_⟩;exact k none 0 _ ((h.sl_nil 421 2).o [0] 4)
end
end Go.Proofs.YtaaieblnikcndaaGreatDoor
