/-
  Lemmas for GateAnew: part 5 of what it rests on. Conditions: none.
-/
import Derived.Test.YtaaieblnikcndaaGreatDoorGN4
set_option linter.unusedVariables false
set_option linter.unusedSimpArgs false
set_option maxRecDepth 100000
set_option maxHeartbeats 16000000
open Go.IntKind (i64 u64 i8 u8 i32 u32 i16 u16)
namespace Go.Proofs.YtaaieblnikcndaaGreatDoor
open Go
structure bS where
 name:Fa
 value:Fa
abbrev dg(l:bS):Os:=[.string l.name,.string l.value]
theorem iW(l:bS):(dg l).length=2:=rfl
theorem Ae(l:bS):cT (dg l)=true:=rfl
structure Ev where
 stamp:Int
 value:Int
 name:Fa
 labs:List bS
 la:KQ
 lc:Nat
def Ev.z:Ev:=⟨0,0,⟨#[]⟩,[],none,0⟩
abbrev cw(e:Ev):Os:=[aB e.stamp,aB e.value,.string e.name,.slice e.la e.labs.length e.lc]
abbrev aggV(e:Ev):Value:=.agg #[aB e.stamp,aB e.value,.string e.name,.slice e.la e.labs.length e.lc]
theorem fI(e:Ev):(cw e).length=4:=rfl
theorem Af(e:Ev):cT (cw e)=true:=rfl
theorem sl44:SlT Tryz.prog 59 99 4 56:=iP (by kernel_rfl)
theorem sl91:SlT Tryz.prog 77 421 2 32:=iP (by kernel_rfl)
theorem qA:kA Tryz.prog 291 2 99 aggV Ev.z:=og Tryz.underlying291 (by kernel_rfl)
theorem ko2:mj Tryz.prog 2 aC:=vP Tryz.underlying2
abbrev holdC(hb mb:Nat)(next most:Int):aE:=cellsA hb [aC next,aC most,.map (some mb)] 293
abbrev ig(mb:Nat)(l:cy Ev):aE:=mapA aC aggV mb l
section
variable {hb mb:Nat}{s:HS Ev}{F:List aE}{H:aD}{K:KE}
theorem Rs{next most:Int}(h:aA H F)
  (k1:next<0\/1099511627776<next\/most<1\/256<most->K (.tuple #[.pointer none,aC 11]) H)
  (k2:∀hb mb b,0<=next/\next<=1099511627776/\1<=most/\most<=256->aA b (holdC hb mb next most::ig mb []::F)->K (.tuple #[PA hb 0,aC 0]) b) :
  CF 185 #[aC next,aC most] H K:=by
 refine cM 185 476 ⟨λa=>k1 ?_,λa=>?_⟩
 .simp only[VN,V6]at a;omega
 .simp only[VK,V8]at a;refine h.alm aC aggV λmb _ h=>?_
  refine h.al λhb _ h=>?_
  exact k2 _ _ _ (by omega) h
theorem Rt{next most:Int}(h:aA H F)(i:Nat)(a:aW i F=holdC hb mb next most):bV Tryz.prog 124 #[PA hb 0] H (aC next):=
 cM 124 28 ⟨_,h.rd i a _,rfl,rfl⟩
theorem Ru{first:Int}{ia:KQ}{ic:Nat}{items:List Ev}(h:aA H (holdC hb mb s.next s.most::ig mb s.rows::F))(ok:s.Ok)(hn:s.next<=1125899906842624)
  (hF:∀H,aA H F->aP H ia (flat cw items)) (h6:items.length<=1000000)
  (k:∀a c N,aA N (slA 99 4 a (s.offer first items).2.1.length c (flat cw (s.offer first items).2.1)::holdC hb mb (s.offer first items).1.next s.most::ig mb (s.offer first items).1.rows::F)->
   K (.tuple #[.slice a (s.offer first items).2.1.length c,aC (s.offer first items).2.2]) N) :
  CF 153 #[PA hb 0,aC first,.slice ia items.length ic] H K:=by
 refine OL ?_;have l0:=ok.most1;have h8:=ok.most2;have h9:=ok.next0;refine⟨λY=>?_,λY=>?_⟩
 .simp only[VN,V6]at Y;have e:s.offer first items=(s,[],(items.length:Int)):=by unfold HS.offer;rw[V1 Y]
  rw[e]at k;exact k none 0 H (h.sl_nil 99 4)
 .simp only[VK,V8]at Y;have e:s.offer first items=({ s with next:=(pop s.next (fk s.next s.most first items (s.rows,0)).1).2.1,rows:=(pop s.next (fk s.next s.most first items (s.rows,0)).1).2.2 },
    (pop s.next (fk s.next s.most first items (s.rows,0)).1).1,(fk s.next s.most first items (s.rows,0)).2):=by
   unfold HS.offer;rw[nO]
  rw[e]at k;refine⟨λb S N=>∃(j:Nat) (rows:cy Ev),S=j/\j<=items.length/\jL s.next s.next s.most rows/\0<=b/\b<=j/\
   fk s.next s.most (first+j) (items.drop j) (rows,b)=fk s.next s.most first items (s.rows,0)/\aA N (holdC hb mb s.next s.most::ig mb rows::F),
   λ_ i _=>items.length-i.toNat,⟨0,s.rows,rfl,VX _,ok.rows.weaken (by omega) (Wd _),Wd _,by simp,by simp,h⟩,?_⟩
  rintro b S H1 ⟨j,rows,rfl,hj,C,h1,j2,t,h⟩;refine⟨λL=>?_,λL=>?_⟩
  .have E:j<items.length:=by simpa using L
   have U:=hF H1 h.tl.tl;have e1:i64.wrap (first+j)=first+j:=aK;have e2:i64.wrap (s.next+s.most)=s.next+s.most:=aK;have e3:i64.wrap ((j:Int)+1)=((j+1:Nat):Int):=aK;have e4:i64.wrap (b+1)=b+1:=aK;have J:items.drop j=items[j]::items.drop (j+1):=Wv E;rw[J,fk]at t;have Q:=EH (n:=first+j) (v:=items[j]) (s:=(rows,b)) C;have O:=NQ (next:=s.next) (most:=s.most) (n:=first+j) (v:=items[j]) (s:=(rows,b)) h1;rw[e1];refine⟨⟨by omega,by omega⟩,_,_,U.some fI (by omega) E,_,_,_,_,_,_,U.els fI E,?_⟩;refine h.al λ_ _ h=>?_;refine St1 h λ_ h=>?_
   have d:∀T (A B M:aE),M=ig mb (ei s.next s.most (first+j) items[j] (rows,b)).1->aA T (A::B::holdC hb mb s.next s.most::M::F)->
     ∃(W:Nat) (rows':cy Ev),((j+1:Nat):Int)=W/\W<=items.length/\jL s.next s.next s.most rows'/\0<=(ei s.next s.most (first+j) items[j] (rows,b)).2/\(ei s.next s.most (first+j) items[j] (rows,b)).2<=W/\
     fk s.next s.most (first+W) (items.drop W) (rows',(ei s.next s.most (first+j) items[j] (rows,b)).2)=fk s.next s.most first items (s.rows,0)/\aA T (holdC hb mb s.next s.most::ig mb rows'::F):=
    λT _ _ _ hM h2=>⟨j+1,_,rfl,E,Q,by simp only at O;omega,by simp only at O;omega,by rw[<-t];congr 1;omega,by rw[<-hM];exact h2.tl.tl⟩
   refine⟨_,h.r 1,?_⟩;have h3:=h.mp_get qA ko2 2 rfl (x:=first+j);refine⟨_,_,_,_,_,_,_,h3,?_⟩
   repeat (first|refine h.al λ_ _ h=>?_|refine⟨_,Ra3,?_⟩|refine St3 h λ_ h=>?_)
   refine λJn Z=>⟨λf=>Z _ _ ?_,λf=>?_⟩
   .have V:ei s.next s.most (first+j) items[j] (rows,b)=(rows,b):=by
     unfold ei;rw[V1];simp only[VN,V6]at f;exact f
    rw[V]at d;rw[e3];exact⟨d _ _ _ _ rfl h,by simp only[VD];omega⟩
   .simp only[VK,V8]at f;have hl:aJ (first+j) rows=none:=by
     cases hm:aJ (first+j) rows with
     | none=>rfl
     | some u=>rw[hm]at f;exact V2 f.2 (by simp)
    refine⟨_,Ra3,?_⟩;refine⟨_,Ra3,?_⟩;dsimp only;rw[e2,e4];refine λh7 P=>⟨λD=>P _ _ ?_,λD=>?_⟩
    .simp only[V6]at D;have V:ei s.next s.most (first+j) items[j] (rows,b)=(rows,b+1):=by unfold ei;rw[V0 (by simp[hl];omega),V1 D]
     rw[V]at d;refine Z _ _ ?_;rw[e3];exact⟨d _ _ _ _ rfl h,by simp only[VD];omega⟩
    .simp only[V8]at D;have V:ei s.next s.most (first+j) items[j] (rows,b)=(ins (first+j) items[j] rows,b):=by unfold ei;rw[V0 (by simp[hl];omega),V0 D]
     rw[V]at d;refine⟨_,Ra3,?_⟩;refine⟨_,_,_,_,_,_,Rs3,?_⟩;refine h.mp_update (x:=first+j) (v:=items[j]) qA ko2 3 rfl λT h2=>P _ _ ?_
     refine Z _ _ ?_;have ep:ig mb (mset (first+j) items[j] rows)=ig mb (ins (first+j) items[j] rows):=nB (by rw[mset,kP hl];exact (yO _ _ _).symm);rw[e3];exact⟨d _ _ _ _ ep h2,by simp only[VD];omega⟩
  .have I:j=items.length:=by
    have:¬((j:Int)<(items.length:Int)):=by simpa using L
    omega
   subst I;simp only[W1,fk]at t;rw[<-t]at k;simp only at k;have j1:=vV C.rising λp R=>(C.inb p R).1
   have h4:=C.length;refine⟨λra rn rc rf N=>∃(got:List Ev) (next:Int) (rows':cy Ev),rn=got.length/\rf=b/\gK rows'/\(∀p∈rows',next<=p.1)/\(pop s.next rows).1=got++(pop next rows').1/\(pop s.next rows).2=(pop next rows').2/\
    0<=next/\next+rows'.length<=s.next+rows.length/\got.length+rows'.length=rows.length/\aA N (slA 99 4 ra rn rc (flat cw got)::holdC hb mb next s.most::ig mb rows'::F),
    λ_ n _ _ _=>rows.length-n,⟨[],s.next,rows,rfl,rfl,C.rising,λp R=>(C.inb p R).1,by simp,by simp,by omega,by omega,by simp,h.sl_nil 99 4⟩,?_⟩
   rintro ra rn rc rf T ⟨got,next,rows',rfl,rfl,G,I,y,w,j3,h5,h0,h⟩;refine⟨_,h.r 1,_,h.r 1,?_⟩;have m:=NR (next:=next) G I;have e5:i64.wrap (next+1)=next+1:=aK;refine⟨_,_,_,_,_,_,_,h.mp_get qA ko2 2 rfl (x:=next),?_⟩;refine h.al λb3 _ h=>?_
   refine⟨h.mp_get qA ko2 3 rfl (x:=next),h.r 2,h.r 2,?_⟩;refine h.st 0 rfl rfl λH3 h=>?_
   cases rows' with
   | nil=>
    simp only at m;refine⟨λ_=>?_,λf=>by simp[m]at f⟩
    simp only[pop,Wc]at y w;rw[y,w]at k;exact k _ _ _ h.tl
   | cons p r=>
    obtain⟨n,v⟩:=p;simp only at m
    by_cases en:n=next
    .subst en;rw[V1 rfl]at m;rw[m]at h ⊢;refine⟨λf=>by simp at f,λ_=>?_⟩
     refine⟨_,h.r 2,_,h.r 2,?_⟩;refine h.mp_delete (x:=n) qA ko2 3 rfl λH3 h=>?_
     have h:aA H3 (cellsA b3 (cw v) 99::slA 99 4 ra got.length rc (flat cw got)::holdC hb mb n s.most::ig mb (bT n ((n,v)::r))::F):=h;rw[NS G]at h;simp only[V9]at h5 h0;refine⟨_,_,_,_,_,_,h.q 0,?_⟩;rintro b4 _ rfl rfl;refine h.append1 sl44 1 rfl (by rfl) (by rfl) (by omega) (by omega) λa' c' H4 h=>⟨_,_,_,rfl,?_⟩
     refine⟨_,h.r 2,?_⟩;refine h.st 2 rfl rfl λH5 h=>?_
     refine⟨?_,by show rows.length-(got.length+1)<rows.length-got.length;omega⟩;rw[e5]at h;simp only[pop,if_true]at y w;refine⟨got++[v],n+1,r,by simp,rfl,(W0.1 G).2,λp R=>?_,by rw[y];simp,w,by omega,by omega,by simp;omega,?_⟩
     .have:=(W0.1 G).1 p R;simp only at this;omega
     .rw [dR,ny];exact h.tl
    .rw [V0 en]at m;refine⟨λ_=>?_,λf=>by simp[m]at f⟩
     simp only[pop,V0 en,Wc]at y w;rw[y,w]at k;exact k _ _ _ h.tl
theorem I6{next most:Int}{rows:cy Ev}(h:aA H (holdC hb mb next most::ig mb rows::F))(e:gK rows)(j:∀p∈rows,aF p.1)(m:rows.length<=1000000)
  (k:∀a c b,aA b (slA 2 1 a rows.length c ((aG rows).map aC)::holdC hb mb next most::ig mb rows::F)->K (.slice a rows.length c) b) :
  CF 122 #[PA hb 0] H K:=by
 refine cM 122 28 ⟨_,h.r 0,?_⟩;refine Pj ⟨_,_,rfl,?_⟩;refine Pk h 1 rfl (λx i=>by obtain⟨p,f,rfl⟩:=VB.1 i;exact j p f) (by omega) λa c b d g=>⟨_,_,_,rfl,?_⟩
 rw[NT e]at d;exact k a c b d
theorem Rv{next most:Int}{rows:cy Ev}(h:aA H (holdC hb mb next most::ig mb rows::F))(u:gK rows)(w:∀p∈rows,aF p.1)(y:rows.length<=1000000)
  (k:∀a c f,aA f (slA 99 4 a rows.length c (flat cw (rows.map (·.2)))::holdC hb mb next most::ig mb []::F)->K (.slice a rows.length c) f) :
  CF 123 #[PA hb 0] H K:=by
 refine cN 123 0x11215612399251441c [[(3,sS),(9,sI)]] ?_;refine I6 h u w y λA rc D h=>⟨_,_,_,rfl,?_⟩
 refine⟨λla s lc i f=>∃k:Nat,i=k/\k=s/\k<=rows.length/\aA f (slA 99 4 la k lc (flat cw ((rows.take k).map (·.2)))::slA 2 1 A rows.length rc ((aG rows).map aC)::holdC hb mb next most::ig mb rows::F),
  λ_ _ _ i _=>rows.length-i.toNat,⟨0,rfl,rfl,VX _,h.sl_nil 99 4⟩,?_⟩
 rintro la s lc i B ⟨j,rfl,rfl,E,h⟩;refine⟨λn=>?_,λn=>?_⟩
 .have b:j<rows.length:=by simpa using n
  have d:j<(aG rows).length:=by simpa[aG] using b
  have e:=(h.sl_rd 1 rfl).at (j:=j) d;have e3:i64.wrap ((j:Int)+1)=((j+1:Nat):Int):=aK;have m:aJ (aG rows)[j] rows=some rows[j].2:=nA (EC u) (by
   have:((aG rows)[j],rows[j].2)=rows[j]:=by simp[aG]
   rw[this];exact VF _)
  have t:=h.mp_get1 qA ko2 3 rfl (x:=(aG rows)[j]);rw[m]at t;refine⟨⟨by omega,by omega⟩,_,_,e.1,_,e.2,_,h.r 2,_,_,_,_,_,_,t,?_⟩;rintro b1 _ rfl rfl;refine h.append1 sl44 0 rfl (by rfl) (by rfl) (by omega) (by omega) λC G v h=>⟨_,_,_,rfl,?_⟩
  conv=>whnf
  rw[e3];refine⟨⟨j+1,rfl,rfl,b,?_⟩,by simp only[VD];omega⟩;rw[Wj b,VT,dR];exact h
 .have:j=rows.length:=by
   have:¬((j:Int)<rows.length):=by simpa using n
   omega
  subst this;refine⟨_,h.r 2,?_⟩;refine h.mp_clear qA 3 rfl λv h=>?_
  rw[VZ (VA _)]at h;exact k _ _ _ (h.o [0,2,3] 4)
theorem Rw{next most:Int}{rows:cy Ev}(h:aA H (holdC hb mb next most::ig mb rows::F))
  (k:∀a c d,aA d (holdC a c next most::ig c rows::holdC hb mb next most::ig mb rows::F)->K (PA a 0) d) :
  CF 63 #[PA hb 0] H K:=by
 refine cM 63 28 ?_;refine⟨_,h.r 0,_,h.r 0,_,h.r 0,?_⟩;refine Pl h 1 rfl λe h _=>⟨_,rfl,h.r 1,h.r 1,?_⟩
 refine h.al λb _ h=>?_
 exact k _ _ _ h
end
theorem se(k:IntKind)(f:Nat->Int):∀n i,(bX k f n i).length=n
 | 0,_=>rfl
 | n+1,i=>by simp[bX,se k f n]
theorem ug(k:IntKind)(f:Nat->Int):∀n i j,j<n->aT (bX k f n i) j=some (.int k (f (i+j)))
 | n+1,i,0,_=>rfl
 | n+1,i,j+1,h=>by
  have:=ug k f n (i+1) j (by omega);simp only[bX,aT];rw[this,show i+1+j=i+(j+1) by omega]
theorem I8(k:IntKind)(f:Nat->Int):∀n i,cT (bX k f n i)=true
 | 0,_=>rfl
 | n+1,i=>by
  have:=I8 k f n (i+1);simpa[bX,cT] using this
def fe(f:Nat->Int)(j:Nat)(x:Int):Nat->Int:=λi=>if i=j then x else f i
theorem I9(k:IntKind){f g:Nat->Int}:∀n i,(∀j,i<=j->j<i+n->f j=g j)->bX k f n i=bX k g n i
 | 0,_,_=>rfl
 | n+1,i,h=>by
  simp only[bX];rw[h i (VA _) (by omega),I9 k n (i+1) λj a b=>h j (by omega) (by omega)]
theorem Ah(k:IntKind)(f:Nat->Int)(x:Int):∀n i j,j<n->(bX k f n i).set j (.int k x)=bX k (fe f (i+j) x) n i
 | n+1,i,0,_=>by
  simp only[bX,Yp,WJ];rw[show fe f i x i=x by simp[fe],I9 k (g:=fe f i x) n (i+1) λj a b=>by simp[fe];omega]
 | n+1,i,j+1,h=>by
  simp only[bX,Y6];rw[Ah k f x n (i+1) j (by omega),show i+1+j=i+(j+1) by omega];rw[show fe f (i+(j+1)) x i=f i by simp[fe]]
section
variable {H:aD}{L:List aE}
theorem aA.rda{b e:Nat}{cs:Os}(h:aA H L)(i:Nat)(c:aW i L=cellsA b cs e):bE H b 0 cs:=
 tv λf v a=>by rw[h.rd i c,VQ];exact a
theorem aA.rdv{b e o:Nat}{l vs r:Os}(h:aA H L)(i:Nat)(c:aW i L=cellsA b (l++vs++r) e)(d:o=l.length):bE H b o vs:=
 tv λf v a=>by
  subst d;rw[h.rd i c,VI,yG,Ef (od a)];exact a
theorem aA.rdt{b e o:Nat}{l vs:Os}(h:aA H L)(i:Nat)(a:aW i L=cellsA b (l++vs) e)(c:o=l.length):bE H b o vs:=
 aA.rdv (r:=[]) h i (by rw[a,Wc]) c
theorem aA.sta{Q:aD->Prop}{b e:Nat}{vs cs:Os}(h:aA H L)(i:Nat)(c:aW i L=cellsA b cs e)(d:vs.length=cs.length)(k:∀a,aA a (put i (cellsA b vs e) L)->Q a) :
  eV H b 0 vs/\∀a,a=fM H b 0 vs->Q a:=by
 refine⟨h.can i c 0 vs (by omega),?_⟩;rintro a rfl;have:=h.set i c 0 vs;rw[vL _ _ d]at this;exact k _ this
end
theorem Rz{P:Program}{t e:TypeId}{n:Nat}{f:Nat->Int}{i:Int}(h:P.underlying t=some (.array n e))(b:∀w,(Go.sizeOf e).run P w=.ok 1 w)(d:∀w,(Go.isAgg e).run P w=.ok false w)(h0:0<=i)(c:i<n) :
  md P (Instr.index t (.agg ⟨bX .i64 f n 0⟩) (aB i)) (aB (f i.toNat)):=by
 intro w;have a:=ug .i64 f n 0 i.toNat (by omega);rw[fO]at a;simp only[Instr.index,asIntOf,Sem.run_bind,Sem.run_pure,Result.andThen_ok,ft h];rw[V1 ⟨h0,c⟩];simp only[Sem.run_bind,b,Result.andThen_ok,Wz,part,d];simp[a]
abbrev B64:Int:=18446744073709551616
abbrev cx(z:Int):Int:=z/B64
abbrev wlo(z:Int):Int:=z%B64
abbrev kV(z:Int):Value:=.agg #[aB (cx z),.int .u64 (wlo z)]
abbrev ge(z:Int):Prop:=-170141183460469231731687303715884105728<=z/\z<170141183460469231731687303715884105728
def gP(a b:Int):Int×Int:=if ge (a+b) then (a+b,0) else (0,12)
theorem pp(z:Int):0<=wlo z/\wlo z<B64:=by unfold wlo B64;omega
theorem wz(z:Int):cx z*B64+wlo z=z:=by unfold cx wlo B64;omega
theorem weq{z y:Int}:(cx z=cx y/\wlo z=wlo y)↔z=y:=by
 constructor
 .rintro⟨h1,h2⟩;rw[<-wz z,<-wz y,h1,h2]
 .rintro rfl;exact⟨rfl,rfl⟩
def bZ(v:Int):Int:=if v<0 then 0 else if v=0 then 1 else 1+(bitLen v.toNat:Nat)
theorem pq{v:Int}(h:aF v):0<=bZ v/\bZ v<65:=by
 unfold bZ aF at *
 split
 .omega
 .split
  .omega
  .have:bitLen v.toNat<=63:=by
    unfold bitLen
    split
    .omega
    .rename_i h0;have:=(Nat.log2_lt h0).2 (show v.toNat<2^63 by omega);omega
   omega
def ot(h:Nat->Int):Bool:=(List.range 65).all λi=>decide (0<=h i)
theorem qB{h:Nat->Int}:ot h=true↔∀i,i<65->0<=h i:=by
 simp[ot,Wq]
def jn(h:Nat->Int)(v:Int):(Nat->Int)×Int:=
 if ot h=false then (Z0,10) else if h (bZ v).toNat=9223372036854775807 then (Z0,12) else (fe h (bZ v).toNat (h (bZ v).toNat+1),0)
def wfH(h:Nat->Int):Prop:=∀i,i<65->aF (h i)
theorem uh:wfH Z0:=λ_ _=>by unfold aF;simp
section
variable {F L:List aE}{H:aD}{K:KE}
theorem IB{x y:Int}(b:0<=x)(a:0<=y):pK Tryz.prog 361 #[.int .u64 x,.int .u64 y,.int .u64 0] (.tuple #[.int .u64 ((x+y)%B64),.int .u64 ((x+y)/B64)]):=by
 have e:(callFunc 361 #[.int .u64 x,.int .u64 y,.int .u64 0])=(callFunc 361 #[.int .u64 x,.int .u64 y,.int .u64 0]):=rfl;intro w;have h:(callFunc 361 #[.int .u64 x,.int .u64 y,.int .u64 0]).run Tryz.prog w=.ok (.value (.tuple #[.int .u64 (Int.ofNat ((x.toNat+y.toNat+0)%18446744073709551616)),.int .u64 (Int.ofNat ((x.toNat+y.toNat+0)/18446744073709551616))])) w:=by kernel_rfl
 rw[h];have e1:Int.ofNat ((x.toNat+y.toNat+0)%18446744073709551616)=(x+y)%B64:=by unfold B64;simp only[Int.ofNat_eq_natCast];omega
 have e2:Int.ofNat ((x.toNat+y.toNat+0)/18446744073709551616)=(x+y)/B64:=by unfold B64;simp only[Int.ofNat_eq_natCast];omega
 rw[e1,e2]
theorem idx60{f:Nat->Int}{i:Int}(h0:0<=i)(a:i<65):md Tryz.prog (Instr.index 159 (.agg ⟨bX .i64 f 65 0⟩) (aC i)) (aC (f i.toNat)):=
 Rz (n:=65) Tryz.underlying159 Tryz.sizeOf2 Tryz.isAgg2 h0 (by omega)
theorem R2{f:Nat->Int}(h:aA H F)(k:∀d,aA d F->K (.bool (ot f)) d):CF 367 #[.agg ⟨bX .i64 f 65 0⟩] H K:=by
 refine cN 367 0x1215612399251b4c [[(6,sI)]] ?_;refine h.al λb _ h=>?_
 refine⟨f,h.rda 0 rfl,?_⟩;refine⟨λi d=>∃j:Nat,i=j/\j<=65/\(∀q,q<j->0<=f q)/\aA d F,λi _=>65-i.toNat,⟨0,rfl,by omega,λ_ h=>by omega,h.tl⟩,?_⟩
 rintro i u ⟨j,rfl,v,n,h⟩;refine⟨λe=>?_,λe=>?_⟩
 .have c:j<65:=by have:=V4 e;omega
  refine⟨_,idx60 (by omega) (by omega),?_⟩;rw[VD];refine⟨λa=>?_,λa=>?_⟩
  .have a:=V4 a;have:ot f=false:=by
    rw[Y1];intro s;have:=qB.1 s j c;omega
   rw[this]at k;exact k _ h
  .have a:=V5 a
   conv=>whnf
   rw[show i64.wrap ((j:Int)+1)=((j+1:Nat):Int) by rw[aK];omega];refine⟨⟨j+1,rfl,c,λq t=>?_,h⟩,by simp only[VD];omega⟩
   rcases VV q j with m|m
   .exact n q m
   .obtain rfl:q=j:=by omega
    omega
 .have:j=65:=by have:=V5 e;omega
  subst this;have:ot f=true:=qB.2 n;rw[this]at k;exact k _ h
theorem mG{v:Int}(c:aF v):bV Tryz.prog 277 #[aC v] H (aC (bZ v)):=by
 refine O1 ?_;have hb:=pq c;unfold bZ at hb ⊢;refine⟨λb=>?_,λb=>⟨λa=>?_,λa=>?_⟩⟩
 .rw [V1 (V4 b)];exact⟨rfl,rfl⟩
 .rw [V0 (V5 b),V1 (V4 a)];exact⟨rfl,rfl⟩
 .have d:=V5 b;have f:=V5 a;rw[V0 d,V0 f]at hb ⊢;unfold aF at c;have e:u64.wrap v=((v.toNat:Nat):Int):=by rw[df];omega
  rw[e];refine⟨_,Gy (by omega),?_,rfl⟩;rw[aK (x:=2+_),aK];congr 1;omega
theorem whi_w{z:Int}(h:ge z):aF (cx z):=by unfold ge at h;unfold aF cx B64;omega
theorem fdiv63{v:Int}(h:aF v):Int.fdiv v (2^(min (Int.toNat 63) (i64.bits)))=cx v:=by
 show Int.fdiv v 9223372036854775808=cx v;rw[WT _ (by decide)];unfold aF at h;unfold cx B64;omega
theorem Ai{v:Int}(c:aF v)(h:aA H F)(k:∀a,aA a F->K (kV v) a):CF 276 #[aC v] H K:=by
 refine cM 276 28 ?_;refine h.al λb _ h=>⟨by decide,?_⟩
 rw[fdiv63 c];have e:u64.wrap v=wlo v:=by rw[df]
 conv=>whnf
 rw[e];refine St1 h λ_ h=>?_;refine⟨_,_,Rs1,?_⟩
 exact k _ h.tl
theorem Aj{x y:Int}(m:ge x)(j:ge y)(h:aA H F)(k:∀i,aA i F->K (.tuple #[kV (gP x y).1,aC (gP x y).2]) i) :
  CF 336 #[kV x,kV y] H K:=by
 refine Oh ?_;have n:=pp x;have t:=pp y;have d:=whi_w m;have c:=whi_w j;have v:=wz x;have w:=wz y;have u:(wlo x+wlo y)%B64=wlo (x+y):=by unfold wlo B64;omega
 have eq:i64.wrap ((wlo x+wlo y)/B64)=(wlo x+wlo y)/B64:=by unfold B64 at *;exact aK
 have s:i64.wrap (i64.wrap (cx x+cx y)+(wlo x+wlo y)/B64)=i64.wrap (cx (x+y)):=by
  rw[jM,jM,jM];unfold cx wlo B64;omega
 refine h.al λb _ h=>?_
 refine h.al λb1 _ h=>?_
 refine h.al λb2 _ h=>?_
 refine⟨_,h.r 2,_,h.r 1,_,_,IB n.1 t.1,_,h.r 2,_,h.r 1,_,h.r 2,_,h.r 1,?_⟩;rw[eq,s,u];have a:decide (aX .and .i64 (aX .xor .i64 (cx x) (i64.wrap (cx (x+y)))) (aX .xor .i64 (cx y) (i64.wrap (cx (x+y))))<0)=!decide (ge (x+y)):=by
  rw[Wi,V6,EJ (wb _ _ _) (wb _ _ _),V7,V6,V6,vZ d (qo _),vZ c (qo _),vW,vW,VY,V8];unfold ge at m j ⊢;rw[jM];unfold cx B64;omega
 dsimp only[ID];rw[a];unfold gP at k;refine⟨λf=>?_,λf=>?_⟩
 .have:¬ge (x+y):=V5 (by simpa only[VY] using f);rw[V0 this]at k;refine St3 h λ_ h=>?_;refine⟨_,_,Rs3,?_⟩
  exact k _ h.tl.tl.tl
 .have:ge (x+y):=V4 (by simpa only[Wm] using f);rw[V1 this]at k;have e:i64.wrap (cx (x+y))=cx (x+y):=by have:=whi_w this;unfold aF at this;exact aK
  rw[e];refine St3 h λ_ h=>?_;refine⟨_,_,Rs3,?_⟩
  exact k _ h.tl.tl.tl
end
theorem sum_append(l r:List Int):(l++r).sum=l.sum+r.sum:=by
 induction l with
 | nil=>simp
 | cons a l ih=>simp only[W7,WW,ih];omega
theorem IC{l:List Int}{j:Nat}(h:j<l.length):(l.take (j+1)).sum=(l.take j).sum+l[j]:=by
 rw[Wj h,sum_append];simp
theorem IE:∀{l:List Int},(∀x∈l,aF x)->-(9223372036854775808*(l.length:Int))<=l.sum/\l.sum<=9223372036854775808*(l.length:Int)
 | [],_=>by simp
 | a::l,h=>by
  have b:=h a VM;have d:=IE (l:=l) λx c=>h x (VL _ c)
  unfold aF at b;simp only[WW,V9];omega
theorem wstep{s v:Int}(hs:ge s)(i:aF v)(c:ge (s+v)) :
  i64.wrap (i64.wrap (cx s+cx v)+i64.wrap ((wlo s+wlo v)/B64))=cx (s+v)/\(wlo s+wlo v)%B64=wlo (s+v):=by
 have h:=pp s;have e:=pp v;have d:=wz s;have f:=wz v;refine⟨?_,by unfold wlo B64;omega⟩;have eq:i64.wrap ((wlo s+wlo v)/B64)=(wlo s+wlo v)/B64:=by unfold B64 at *;exact aK
 rw[eq];have a:aF (cx (s+v)):=by unfold ge at c;unfold aF cx B64;omega
 have b:i64.wrap (i64.wrap (cx s+cx v)+(wlo s+wlo v)/B64)=i64.wrap (cx (s+v)):=by
  rw[jM,jM,jM];unfold cx wlo B64;omega
 rw[b];unfold aF at a;exact aK
def rowH(h:Nat->Int):List Int:=(List.range 65).map h
def sumC(h:Nat->Int):Int:=(rowH h).sum
theorem vecL_map(f:Nat->Int)(n i:Nat):bX .i64 f n i=((List.range n).map λj=>f (i+j)).map aB:=by
 induction n generalizing i with
 | zero=>rfl
 | succ n ih=>
  rw[bX,ih,List.range_succ_eq_map];simp only[Wa,Wr,WJ];congr 1;apply WS;intro j _;show aB (f (i+1+j))=aB (f (i+(j+1)));rw[show i+1+j=i+(j+1) by omega]
theorem vecL_row(f:Nat->Int):bX .i64 f 65 0=(rowH f).map aB:=by
 rw[vecL_map];simp[rowH]
theorem rowH_len(f:Nat->Int):(rowH f).length=65:=by simp[rowH]
theorem rowH_mem{f:Nat->Int}{x:Int}(h:x∈rowH f):∃i,i<65/\x=f i:=by
 obtain⟨i,hi,rfl⟩:=VB.1 h;exact⟨i,WB.1 hi,rfl⟩
structure Cl where
 n:Int
 sum:Int
 mn:Int
 mx:Int
 cer:Int
 pos:Int
 h:Nat->Int
def Cl.z:Cl:=⟨0,0,0,0,0,0,Z0⟩
abbrev dx(c:Cl):Os:=[aB c.n,aB (cx c.sum),.int .u64 (wlo c.sum),aB c.mn,aB c.mx,aB c.cer,aB c.pos]++bX .i64 c.h 65 0
abbrev aggC(c:Cl):Value:=.agg ⟨dx c⟩
theorem kW(c:Cl):(dx c).length=72:=by simp[dx,se]
structure WC(c:Cl):Prop where
 n:aF c.n
 sum:ge c.sum
 mn:aF c.mn
 mx:aF c.mx
 cer:aF c.cer
 pos:aF c.pos
 h:wfH c.h
theorem WC.z:WC Cl.z:=⟨by decide,by decide,by decide,by decide,by decide,by decide,uh⟩
def inB(c:Cl):Bool:=(List.range 65).all λi=>decide (c.h i=0)||decide (bZ c.mn<=i/\(i:Int)<=bZ c.mx)
def gh(c:Cl):Bool:=
 !(decide (c.n<0)||decide (c.cer<0)||decide (c.pos<0)||decide (c.mx<c.mn))&&ot c.h&&decide (sumC c.h=c.n) &&
 (if c.n=0 then decide (c.sum=0)&&decide (c.mn=0)&&decide (c.mx=0)
  else !(decide (c.h (bZ c.mn).toNat=0)||decide (c.h (bZ c.mx).toNat=0))&&inB c)
def gQ(c:Cl)(certain:Bool):Cl×Int:=
 if gh c=false then (Cl.z,10) else
 if certain then (if c.cer=9223372036854775807 then (Cl.z,12) else ({ c with cer:=c.cer+1 },0))
 else (if c.pos=9223372036854775807 then (Cl.z,12) else ({ c with pos:=c.pos+1 },0))
def jV(c:Cl)(v:Int):Cl×Int:=
 if gh c=false then (Cl.z,10) else
 if (j0 c.n 1).2≠0 then (Cl.z,12) else
 if (gP c.sum v).2≠0 then (Cl.z,12) else
 if (jn c.h v).2≠0 then (Cl.z,12) else
 let mn:=if c.n=0 then v else c.mn
 let mx:=if c.n=0 then v else c.mx
 ({ c with n:=(j0 c.n 1).1,sum:=(gP c.sum v).1,h:=(jn c.h v).1,mn:=if v<mn then v else mn,mx:=if v>mx then v else mx },0)
theorem IG{c:Cl}(h:WC c)(b:Bool):WC (gQ c b).1:=by
 unfold gQ;have d:=h.cer;have a:=h.pos;unfold aF at d a
 split
 .exact WC.z
 .split
  .split
   .exact WC.z
   .exact⟨h.n,h.sum,h.mn,h.mx,by unfold aF;dsimp only;omega,h.pos,h.h⟩
  .split
   .exact WC.z
   .exact⟨h.n,h.sum,h.mn,h.mx,h.cer,by unfold aF;dsimp only;omega,h.h⟩
theorem addS_wf(a b:Int):aF (j0 a b).1:=by
 unfold j0
 split
 .assumption
 .decide
theorem wadd_wf(a b:Int):ge (gP a b).1:=by
 unfold gP
 split
 .assumption
 .decide
theorem addH_wf{h:Nat->Int}(a:wfH h){v:Int}(e:aF v):wfH (jn h v).1:=by
 unfold jn
 split
 .exact uh
 .split
  .exact uh
  .intro i hi;dsimp only[fe]
   split
   .rename_i d c b;subst b;have:=a _ hi;unfold aF at *;omega
   .exact a i hi
theorem addC_wf{c:Cl}(h:WC c){v:Int}(a:aF v):WC (jV c v).1:=by
 unfold jV
 split
 .exact WC.z
 .split
  .exact WC.z
  .split
   .exact WC.z
   .split
    .exact WC.z
    .refine⟨addS_wf _ _,wadd_wf _ _,?_,?_,h.cer,h.pos,addH_wf h.h a⟩
     .dsimp only;have:=h.mn
      split <;> split <;> assumption
     .dsimp only;have:=h.mx
      split <;> split <;> assumption
section
variable {F L:List aE}{H:aD}{K:KE}
theorem R3{a:KQ}{n c:Nat}{vs:List Int}(y:vs.length=n)(h:aA H F)(B:∀H,aA H F->aP H a (vs.map aC))(v:∀x∈vs,aF x)(I:n<=1000000)
  (k:∀t,aA t F->K (kV vs.sum) t):CF 324 #[.slice a n c] H K:=by
 subst y;refine Om ?_;refine h.al λb _ h=>?_
 refine h.al λb1 _ h=>?_
 refine⟨λi t=>∃j:Nat,i=j/\j<=vs.length/\aA t (cellsA b1 [aC (cx (vs.take j).sum),.int .u64 (wlo (vs.take j).sum)] 157::cellsA b [aC 0,.int .u64 0] 157::F),λi _=>vs.length-i.toNat,⟨0,rfl,VX _,h⟩,?_⟩
 rintro i E ⟨j,rfl,G,h⟩;have f:∀q,ge (vs.take q).sum:=λq=>by
  have:=IE (l:=vs.take q) λx C=>v x (Ww C)
  rw[VU]at this;unfold ge;omega
 refine⟨λu=>?_,λu=>?_⟩
 .have d:j<vs.length:=by have:=V4 u;omega
  have w:=(B _ h.tl.tl).at d;have m:=v _ (VF d);have s:=f (j+1);rw[IC d]at s;have e:=wstep (f j) m s;rw[<-IC d]at e;have A:u64.wrap vs[j]=wlo vs[j]:=by rw[df]
  refine⟨⟨by omega,by omega⟩,_,_,w.1,_,w.2,_,h.r 0,?_⟩;rw[A];refine⟨_,_,IB (pp _).1 (pp _).1,_,h.r 0,by decide,?_⟩;rw[fdiv63 m,e.1,e.2];refine h.sta 0 rfl rfl λD h=>?_
  rw[show i64.wrap ((j:Int)+1)=((j+1:Nat):Int) by rw[aK];omega];exact⟨⟨j+1,rfl,d,h⟩,by simp only[VD];omega⟩
 .have:j=vs.length:=by have:=V5 u;omega
  subst this;rw[VZ (VA _)]at h
  repeat (first|refine St2 h λ_ h=>?_|refine⟨_,_,Rs2,?_⟩)
  exact k _ h.tl.tl
theorem R4{f:Nat->Int}(c:wfH f)(h:aA H F)(k:∀a,aA a F->K (kV (sumC f)) a):CF 275 #[.agg ⟨bX .i64 f 65 0⟩] H K:=by
 refine O4 ?_;refine h.al λb _ h=>?_
 refine h.al λb1 _ h=>⟨by decide,?_⟩
 have e0:cq (some ⟨b,0,none⟩) 0 65 1=some ⟨b,0,none⟩:=rfl;rw[e0];refine R3 (vs:=rowH f) (rowH_len f) h (λH h=>?_) (λx d=>?_) (by decide) λj h=>⟨_,_,rfl,?_⟩
 .have:=h.ce_rd 1 rfl;rw[vecL_row]at this;exact this
 .obtain⟨i,hi,rfl⟩:=rowH_mem d;exact c i hi
 .refine h.sta 0 rfl rfl λe h=>⟨_,_,h.rda 0 rfl,?_⟩
  exact k _ h.tl.tl
theorem IH{f:Nat->Int}(h:aA H F)(k:∀b a,aA a (cellsA b (bX .i64 f 65 0) 159::F)->K (.func (.func 278) #[] #[PA b 0]) a):CF 224 #[.agg ⟨bX .i64 f 65 0⟩] H K:=by
 refine cM 224 28 ?_;exact h.al λb _ h=>k _ _ h
theorem II{l b:Nat}{f:Nat->Int}(A:Nat->aE)(y:aE)(h:aA H (A 0::cellsA b (bX .i64 f 65 0) 159::F))
  (B:∀j,j<65->f j=0->A j=A (j+1))
  (D:∀j,j<65->f j≠0->∀(G:List aE) (v:aD) (n:KE),aA v (A j::G)->(∀a,aA a (A (j+1)::G)->n (.bool true) a)->(∀a,aA a (y::G)->n (.bool false) a)->
   fL Tryz.prog l [aC (j:Nat),aC (f j)] v n)
  (k:∀c,aA c (A 65::cellsA b (bX .i64 f 65 0) 159::F)->K (.tuple #[]) c)
  (C:∀c,aA c (y::cellsA b (bX .i64 f 65 0) 159::F)->K (.tuple #[]) c) :
  CF 278 #[.func (.yield l) #[] #[],PA b 0] H K:=by
 refine cN 278 0x15612399251283994 [[(18,sB)],[(6,sI)]] ?_;refine⟨f,h.rda 1 rfl,?_⟩;refine⟨λi c=>∃j:Nat,i=j/\j<=65/\aA c (A j::cellsA b (bX .i64 f 65 0) 159::F),λi _=>65-i.toNat,⟨0,rfl,by omega,h⟩,?_⟩
 rintro i v ⟨j,rfl,J,h⟩;refine⟨λw=>?_,λw=>?_⟩
 .have d:j<65:=by have:=V4 w;omega
  refine⟨_,idx60 (by omega) (by omega),?_⟩;rw[VD];have e:∀a,aA a (A (j+1)::cellsA b (bX .i64 f 65 0) 159::F)->(∃x:Nat,i64.wrap ((j:Int)+1)=x/\x<=65/\aA a (A x::cellsA b (bX .i64 f 65 0) 159::F))/\65-(i64.wrap ((j:Int)+1)).toNat<65-((j:Int)).toNat:=by
   intro a h;rw[show i64.wrap ((j:Int)+1)=((j+1:Nat):Int) by rw[aK];omega];exact⟨⟨j+1,rfl,d,h⟩,by simp only[VD];omega⟩
  refine λI t=>⟨λs=>?_,λs=>?_⟩
  .have u:f j≠0:=by simpa using s
   refine D j d u _ _ _ h (λa h=>⟨true,rfl,t _ _ ?_⟩) (λa h=>⟨false,rfl,t _ _ ?_⟩)
   .skip
    exact⟨λm=>by simp at m,λ_=>e _ h⟩
   .skip
    exact⟨λ_=>C _ h,λm=>by simp at m⟩
  .have E:f j=0:=by simpa using s
   refine t _ _ ?_;rw[B j d E]at h;exact⟨λm=>by simp at m,λ_=>e _ h⟩
 .have:j=65:=by have:=V5 w;omega
  subst this;exact k _ h
end
theorem IJ(c:Cl){j:Nat}(a:j<65):aT (dx c) (7+j)=some (aB (c.h j)):=by
 refine (yG (l:=[aB c.n,aB (cx c.sum),.int .u64 (wlo c.sum),aB c.mn,aB c.mx,aB c.cer,aB c.pos]) j).trans ?_;rw[ug _ _ _ _ _ a,VQ]
section
variable {F L:List aE}{H:aD}{K:KE}
theorem eqW(x y:Int):gZ Tryz.prog .neq 157 (kV x) (kV y) (!decide (x=y))/\gZ Tryz.prog .eql 157 (kV x) (kV y) (decide (x=y)):=by
 have h:=qn (P:=Tryz.prog) (t:=157) (xs:=[aC (cx x),.int .u64 (wlo x)]) (ys:=[aC (cx y),.int .u64 (wlo y)]) (r:=(cx x == cx y&&(wlo x == wlo y&&true))) (by kernel_rfl);have e:(cx x == cx y&&(wlo x == wlo y&&true))=decide (x=y):=by
  rw[Wi];simp only[Bool.and_true,V7,beq_iff_eq,V6];exact weq
 rw[e]at h;exact⟨h.2,h.1⟩
theorem ui{c:Cl}(wc:WC c)(h:aA H F)(k:∀J,aA J F->K (.bool (gh c)) J):CF 222 #[aggC c] H K:=by
 refine cL 222 (.r (.seq (.r (.cond (.r .no) .no)) (.seq (.r (.blk (.loop [(30,sI)] (.r (.seq (.cond .no .no) (.seq (.blk (.r (.r (.cond (.r .no) .no)))) .reg)))))) (.seq (.r (.cond (.r .no) .no)) (.seq (.r (.cond (.r .no) .no)) (.seq (.regJ [(5,sA),(6,sA)]) (.seq (.r (.cond (.r .no) .no)) (.seq (.r (.blk (.rng [sI,sI] [none,(some .ret)] .reg (.blk (.r (.cond (.r .no) .no)))))) (.r .no))))))))) ?_;unfold gh at k;refine h.al λb _ h=>?_
 refine h.al λb1 _ h=>?_
 refine⟨_,h.r 1,_,λ_=>h.r 1,_,λ_=>h.r 1,_,λ_=>h.r 1,_,λ_=>h.r 1,λP=>?_,λP=>?_⟩
 .rw [P]at k;refine h.sta 0 rfl rfl λB h=>⟨_,h.r 0,?_⟩
  exact k _ h.tl.tl
 rw[P]at k;refine⟨c.h,h.rdt (l:=[_,_,_,_,_,_,_]) 1 rfl rfl,?_⟩;refine⟨λi J=>∃j:Nat,i=j/\j<=65/\(∀q,q<j->0<=c.h q)/\aA J (cellsA b1 [.bool false] 4::cellsA b (dx c) 161::F),λi _=>65-i.toNat,⟨0,rfl,by omega,λ_ h=>by omega,h⟩,?_⟩
 rintro i H1 ⟨j,rfl,O,T,h⟩;refine⟨λx=>?_,λx=>?_⟩
 .have C:j<65:=by have:=V4 x;omega
  refine⟨_,idx60 (by omega) (by omega),?_⟩;rw[VD];refine⟨λy=>?_,λy=>?_⟩
  .have y:=V4 y;have:ot c.h=false:=by
    rw[Y1];intro E;have:=qB.1 E j C;omega
   rw[this]at k;refine h.sta 0 rfl rfl λB h=>⟨_,h.r 0,?_⟩
   exact k _ h.tl.tl
  .have y:=V5 y
   conv=>whnf
   rw[show i64.wrap ((j:Int)+1)=((j+1:Nat):Int) by rw[aK];omega];refine⟨⟨j+1,rfl,C,λq u=>?_,h⟩,by simp only[VD];omega⟩
   rcases VV q j with d|d
   .exact T q d
   .obtain rfl:q=j:=by omega
    omega
 .have I:j=65:=by have:=V5 x;omega
  subst I;have hv:ot c.h=true:=qB.2 T;rw[hv]at k;refine⟨c.h,h.rdt (l:=[_,_,_,_,_,_,_]) 1 rfl rfl,_,h.r 1,?_⟩;refine R4 wc.h h λB h=>⟨_,_,rfl,h.r 1,?_⟩
  refine Ai wc.n h λH3 h=>⟨_,_,rfl,_,(eqW _ _).1,λe=>?_,λe=>?_⟩
  .have:decide (sumC c.h=c.n)=false:=by simpa using e
   rw[this]at k;refine h.sta 0 rfl rfl λB h=>⟨_,h.r 0,?_⟩
   exact k _ h.tl.tl
  have hs:decide (sumC c.h=c.n)=true:=by simpa using e
  rw[hs]at k;simp only[Bool.not_false,Yk]at k;refine⟨_,h.r 1,λm=>?_,λm=>?_⟩
  .rw [V1 (V4 m)]at k;have e0:=(eqW c.sum 0).2;refine⟨_,_,h.rdv (l:=[_]) (vs:=[_,_]) 1 rfl rfl,_,e0,_,λ_=>h.r 1,_,λ_=>h.r 1,?_⟩
   refine h.sta 0 rfl rfl λB h=>⟨_,h.r 0,?_⟩
   exact k _ h.tl.tl
  .rw [V0 (V5 m)]at k;have bl:=pq wc.mn;have bh:=pq wc.mx;intro U V;have fin:∀w hb D,aA D (cellsA w [aC (bZ c.mn)] 3::cellsA hb [aC (bZ c.mx)] 3::cellsA b1 [.bool false] 4::cellsA b (dx c) 161::F)->U w 0 hb 0 D:=by
    intro w hb D h;refine V _ _ _ _ _ ?_;have g1:aL D b (7+(bZ c.mn).toNat)=some (aC (c.h (bZ c.mn).toNat)):=by rw[h.rd 3 rfl];exact IJ c (by omega)
    have g2:aL D b (7+(bZ c.mx).toNat)=some (aC (c.h (bZ c.mx).toNat)):=by rw[h.rd 3 rfl];exact IJ c (by omega)
    refine⟨_,h.r 0,bl,_,g1,_,λ_=>h.r 1,λ_=>bh,_,λ_=>g2,λt=>?_,λt=>?_⟩
    .rw [t]at k;refine h.sta 2 rfl rfl λB h=>⟨_,h.r 2,?_⟩
     exact k _ h.tl.tl.tl.tl
    rw[t]at k;simp only[Bool.not_false,Yk]at k;refine⟨c.h,h.rdt (l:=[_,_,_,_,_,_,_]) 3 rfl rfl,?_⟩;refine IH h λfb L h=>⟨_,_,rfl,rfl,λR M Q hy=>?_⟩
    have h:=h.rng R;refine II (f:=c.h) (λj=>star [cellsA w [aC (bZ c.mn)] 3,cellsA hb [aC (bZ c.mx)] 3,cellsA b1 [.bool false] 4,pt (L.size+1) (.loop R),pur (∀q,q<j->c.h q=0\/bZ c.mn<=q/\(q:Int)<=bZ c.mx)])
     (star [cellsA w [aC (bZ c.mn)] 3,cellsA hb [aC (bZ c.mx)] 3,cellsA b1 [.bool false] 4,pt (L.size+1) (.loop { R with state:=.done,pending:=some .ret }),pur (inB c=false)])
     (F:=pt L.size (.deferred (some []))::cellsA b (dx c) 161::F) ?_ ?_ ?_ ?_ ?_
    .refine aA.shut [_,_,_,_,_] ?_;have h2:=((h.o [3,4,5,0,2,1,6] 7).pur (p:=∀q:Nat,q<0->c.h q=0\/bZ c.mn<=q/\(q:Int)<=bZ c.mx) (λq u=>V2 u (Nat.not_lt_zero q)))
     exact h2.o [1,2,3,4,0] 5
    .intro j O Z;have:(∀q,q<j->c.h q=0\/bZ c.mn<=q/\(q:Int)<=bZ c.mx)=(∀q,q<j+1->c.h q=0\/bZ c.mn<=q/\(q:Int)<=bZ c.mx):=propext ⟨λE q u=>by
      rcases VV q j with d|d
      .exact E q d
      .obtain rfl:q=j:=by omega
       exact .inl Z,λE q u=>E q (by omega)⟩
     simp only[this]
    .intro j O Y G S K1 h kt kf;have h:=aA.open (A:=[_,_,_,_,_]) h;have v:=(aA.consP (h.o [4,0,1,2,3] 5)).1;refine hy _ _ _ ?_;refine⟨_,_,rfl,h.getO 3 rfl,h.getO 3 rfl,h.stl 3 rfl λH7 h=>⟨_,h.r 0,_,λ_=>h.r 1,λs=>?_,λs=>?_⟩⟩
     .refine h.sta 2 rfl rfl λH8 h=>⟨h.getO 3 rfl,kf _ ?_⟩
      have h:=h.setO 3 rfl (.loop { R with state:=.done,pending:=some .ret });have a:inB c=false:=by
       rw[Y1];intro a;unfold inB at a;rw[Wq]at a;have:=a j (WB.2 O);simp only[VN,V6]at this s;omega
      refine aA.shut [_,_,_,_,_] ?_;exact ((h.pur a).o [1,2,3,4,0] 6)
     .refine⟨h.getO 3 rfl,kt _ ?_⟩;have h:=h.setO 3 rfl (.loop R);refine aA.shut [_,_,_,_,_] ?_;have N:∀q,q<j+1->c.h q=0\/bZ c.mn<=q/\(q:Int)<=bZ c.mx:=λq u=>by
       rcases VV q j with d|d
       .exact v q d
       .obtain rfl:q=j:=by omega
        simp only[VK,V8]at s;exact .inr (by omega)
      exact ((h.pur N).o [1,2,3,4,0] 6)
    .intro S h;have h:=aA.open (A:=[_,_,_,_,_]) h;have v:=(aA.consP (h.o [4,0,1,2,3] 5)).1;have a:inB c=true:=by
      unfold inB;rw[Wq];intro q u;have:=v q (WB.1 u);simp only[VN,V6];exact this
     rw[a]at k;refine⟨.ready,none,by decide,by rw[nC M Q];exact h.getO 3 rfl,h.stl 3 rfl λH9 h=>.inl ⟨rfl,?_⟩⟩
     refine h.sta 2 rfl rfl λW h=>⟨h.getO 6 rfl,?_⟩
     have h:=h.setO 6 rfl (.deferred none);exact⟨_,h.r 2,k _ (h.o [7] 8).tl⟩
    .intro S h;have h:=aA.open (A:=[_,_,_,_,_]) h;have a:=(aA.consP (h.o [4,0,1,2,3] 5)).1;rw[a]at k;refine⟨.done,some .ret,by decide,h.getO 3 rfl,h.stl 3 rfl λH9 h=>.inr ⟨rfl,h.getO 6 rfl,?_⟩⟩
     have h:=h.setO 6 rfl (.deferred none);exact⟨_,h.r 2,k _ (h.o [7] 8).tl⟩
   refine⟨_,h.r 1,_,mG wc.mn,_,h.r 1,_,mG wc.mx,?_,?_⟩
   .refine h.al λw _ h=>⟨mG wc.mx,h.r 2,mG wc.mn,h.r 2,?_⟩
    refine h.al λhb _ h=>⟨mG wc.mx,h.r 3,mG wc.mn,h.r 3,?_⟩
    refine h.sta 1 rfl rfl λ_ h=>h.sta 0 rfl rfl λ_ h=>?_
    exact fin _ _ _ (h.o [1,0] 2)
   .refine h.al λw _ h=>⟨mG wc.mx,h.r 2,mG wc.mn,h.r 2,?_⟩
    refine h.al λhb _ h=>⟨mG wc.mx,h.r 3,mG wc.mn,h.r 3,?_⟩
    refine h.sta 0 rfl rfl λ_ h=>h.sta 1 rfl rfl λ_ h=>?_
    exact fin _ _ _ h
end
section
variable {H:aD}{L:List aE}
theorem aA.stv{Q:aD->Prop}{b e n o:Nat}{f:Nat->Int}{j:Nat}{x:Int}(h:aA H L)(i:Nat)(c:aW i L=cellsA b (bX .i64 f n 0) e)(m:j<n)(d:o=0+j)(k:∀a,aA a (put i (cellsA b (bX .i64 (fe f j x) n 0) e) L)->Q a) :
  eV H b o [aB x]/\∀a,a=fM H b o [aB x]->Q a:=by
 subst d;rw[VQ];refine⟨h.can i c j _ (by rw[se];simp;omega),?_⟩;rintro a rfl;have:=h.set i c j [aB x];have e2:cv (bX .i64 f n 0) j [aB x]=bX .i64 (fe f j x) n 0:=by
  show (bX .i64 f n 0).set j (aB x)=_;rw[Ah _ _ _ _ _ _ m,VQ]
 rw[e2]at this;exact k _ this
theorem aA.stt{Q:aD->Prop}{b e o:Nat}{l r vs:Os}(h:aA H L)(i:Nat)(c:aW i L=cellsA b (l++r) e)(d:o=l.length)(f:vs.length=r.length)(k:∀a,aA a (put i (cellsA b (l++vs) e) L)->Q a) :
  eV H b o vs/\∀a,a=fM H b o vs->Q a:=by
 subst d;refine⟨h.can i c _ _ (by rw[V3];omega),?_⟩;rintro a rfl;have:=h.set i c l.length vs;have e2:cv (l++r) l.length vs=l++vs:=by
  have:=tw vs l r 0;rw[WJ]at this;rw[this,vL _ _ f]
 rw[e2]at this;exact k _ this
end
section
variable {F L:List aE}{H:aD}{K:KE}
theorem R5{f:Nat->Int}{v:Int}(u:wfH f)(s:aF v)(h:aA H F)(k:∀n,aA n F->K (.tuple #[.agg ⟨bX .i64 (jn f v).1 65 0⟩,aC (jn f v).2]) n) :
  CF 337 #[.agg ⟨bX .i64 f 65 0⟩,aC v] H K:=by
 refine cM 337 1907996 ?_;unfold jn at k;refine h.al λb _ h=>?_
 refine h.al λb1 _ h=>⟨f,h.rda 1 rfl,?_⟩
 refine R2 h λt h=>⟨_,rfl,λj=>?_,λj=>?_⟩
 .rw [V1 (by simpa using j)]at k;refine h.sta 0 rfl rfl λi h=>⟨_,h.rda 0 rfl,k _ h.tl.tl⟩
 rw[V0 (by simpa using j)]at k;have hb:=pq s;have d:(bZ v).toNat<65:=by omega
 have a:aL t b (0+(bZ v).toNat)=some (aC (f (bZ v).toNat)):=by
  rw[h.rd 1 rfl,VQ,ug _ _ _ _ _ d,VQ]
 refine⟨_,mG s,hb,_,a,λc=>?_,λc=>?_⟩
 .rw [V1 (V4 c)]at k;refine h.sta 0 rfl rfl λi h=>⟨_,h.rda 0 rfl,k _ h.tl.tl⟩
 have e:=V5 c;rw[V0 e]at k;have m:=u _ d;unfold aF at m;refine⟨hb,_,a,hb,?_⟩;rw[aK (x:=f (bZ v).toNat+1)];refine h.stv 1 rfl d rfl λi h=>⟨_,h.rda 1 rfl,?_⟩
 refine h.sta 0 rfl rfl λi h=>⟨_,h.rda 0 rfl,k _ h.tl.tl⟩
theorem IK{c:Cl}{a:Bool}(wc:WC c)(h:aA H F)(k:∀i,aA i F->K (.tuple #[aggC (gQ c a).1,aC (gQ c a).2]) i) :
  CF 291 #[aggC c,.bool a] H K:=by
 refine cN 291 1997721083164 [[(6,sP)]] ?_;unfold gQ at k;have wn:=IG wc;refine h.al λb _ h=>?_
 refine h.al λb1 _ h=>⟨_,_,_,_,_,_,_,_,h.rda 1 rfl,?_⟩
 refine ui wc h λm h=>⟨_,rfl,λe=>?_,λe=>?_⟩
 .rw [V1 (by simpa using e)]at k;refine h.sta 0 rfl rfl λd h=>⟨_,_,_,_,_,_,_,_,h.rda 0 rfl,k _ h.tl.tl⟩
 rw[V0 (by simpa using e)]at k;refine λj f=>⟨λhb=>f _ _ ?_,λhb=>f _ _ ?_⟩
 .rw [V1 hb]at k;refine⟨_,h.r 1,λhm=>?_,λhm=>?_⟩
  .rw [V1 (V4 hm)]at k;refine h.sta 0 rfl rfl λd h=>⟨_,_,_,_,_,_,_,_,h.rda 0 rfl,k _ h.tl.tl⟩
  .have hm:=V5 hm;rw[V0 hm]at k;have:=wc.cer;unfold aF at this;refine⟨_,h.r 1,?_⟩
   conv=>whnf
   rw[aK (x:=c.cer+1)];refine h.st 1 rfl rfl λd h=>?_
   have h:aA d (cellsA b1 (dx Cl.z) 161::cellsA b (dx { c with cer:=c.cer+1 }) 161::F):=h;refine⟨_,_,_,_,_,_,_,_,h.rda 1 rfl,?_⟩;refine h.sta 0 rfl rfl λd h=>⟨_,_,_,_,_,_,_,_,h.rda 0 rfl,k _ h.tl.tl⟩
 .rw [V0 (by rw[hb];decide)]at k;refine⟨_,h.r 1,λhm=>?_,λhm=>?_⟩
  .rw [V1 (V4 hm)]at k;refine h.sta 0 rfl rfl λd h=>⟨_,_,_,_,_,_,_,_,h.rda 0 rfl,k _ h.tl.tl⟩
  .have hm:=V5 hm;rw[V0 hm]at k;have:=wc.pos;unfold aF at this;refine⟨_,h.r 1,?_⟩
   conv=>whnf
   rw[aK (x:=c.pos+1)];refine h.st 1 rfl rfl λd h=>?_
   have h:aA d (cellsA b1 (dx Cl.z) 161::cellsA b (dx { c with pos:=c.pos+1 }) 161::F):=h;refine⟨_,_,_,_,_,_,_,_,h.rda 1 rfl,?_⟩;refine h.sta 0 rfl rfl λd h=>⟨_,_,_,_,_,_,_,_,h.rda 0 rfl,k _ h.tl.tl⟩
theorem R6{c:Cl}{v:Int}(wc:WC c)(j:aF v)(h:aA H F)(k:∀D,aA D F->K (.tuple #[aggC (jV c v).1,aC (jV c v).2]) D) :
  CF 294 #[aggC c,aC v] H K:=by
 refine cN 294 0x1d1d28d1d2174911c [[],[(7,sI),(8,sA)]] ?_;unfold jV at k;refine h.al λb _ h=>?_
 refine h.al λb1 _ h=>⟨_,_,_,_,_,_,_,_,h.rda 1 rfl,?_⟩
 refine ui wc h λM h=>⟨_,rfl,λC=>?_,λC=>?_⟩
 .rw [V1 (by simpa using C)]at k;refine h.sta 0 rfl rfl λf h=>⟨_,_,_,_,_,_,_,_,h.rda 0 rfl,k _ h.tl.tl⟩
 rw[V0 (by simpa using C)]at k;refine⟨_,h.r 1,_,_,Gv wc.n (by decide),λm=>?_,λm=>?_⟩
 .rw [V1 (by simpa using m)]at k;refine h.sta 0 rfl rfl λf h=>⟨_,_,_,_,_,_,_,_,h.rda 0 rfl,k _ h.tl.tl⟩
 rw[V0 (by simpa using m)]at k;intro G I;have a:ge v:=by unfold aF at j;unfold ge;omega
 have fin:∀sb i,aA i (cellsA sb [aC (cx (gP c.sum v).1),.int .u64 (wlo (gP c.sum v).1)] 157::cellsA b1 (dx Cl.z) 161::cellsA b (dx c) 161::F)->G (gP c.sum v).2 sb 0 i:=by
  intro sb i h;refine I _ _ _ _ ?_;refine⟨λx=>?_,λx=>?_⟩
  .rw [V1 (by simpa using x)]at k;refine h.sta 1 rfl rfl λf h=>⟨_,_,_,_,_,_,_,_,h.rda 1 rfl,k _ h.tl.tl.tl⟩
  rw[V0 (by simpa using x)]at k;refine⟨c.h,h.rdt (l:=[_,_,_,_,_,_,_]) 2 rfl rfl,?_⟩;refine R5 wc.h j h λs h=>⟨_,_,rfl,?_⟩
  refine h.al λb2 _ h=>?_
  refine h.sta 0 rfl rfl λN h=>⟨λA=>?_,λA=>?_⟩
  .rw [V1 (by simpa using A)]at k;refine h.sta 2 rfl rfl λf h=>⟨_,_,_,_,_,_,_,_,h.rda 2 rfl,k _ h.tl.tl.tl.tl⟩
  rw[V0 (by simpa using A)]at k;refine⟨_,h.r 3,λt y=>?_⟩
  dsimp only at k;have e:∀(mn mx:Int) B,mn=(if c.n=0 then v else c.mn)->mx=(if c.n=0 then v else c.mx)->aA B (cellsA b2 (bX .i64 (jn c.h v).1 65 0) 159::cellsA sb [aC (cx (gP c.sum v).1),.int .u64 (wlo (gP c.sum v).1)] 157::cellsA b1 (dx Cl.z) 161::cellsA b (dx { c with mn:=mn,mx:=mx }) 161::F)->t B:=by
   intro mn mx B e1 e2 h;refine y _ ?_;rw[<-e1,<-e2]at k;refine⟨_,_,h.rda 1 rfl,_,h.rda 0 rfl,?_⟩;refine h.st 3 rfl rfl λJ h=>⟨h.rda 0 rfl,h.rda 1 rfl,?_⟩
   refine h.st 3 rfl rfl λE h=>⟨h.rda 0 rfl,?_⟩
   have h:aA E (cellsA b2 (bX .i64 (jn c.h v).1 65 0) 159::cellsA sb [aC (cx (gP c.sum v).1),.int .u64 (wlo (gP c.sum v).1)] 157::cellsA b1 (dx Cl.z) 161::cellsA b (dx { c with n:=(j0 c.n 1).1,sum:=(gP c.sum v).1,mn:=mn,mx:=mx }) 161::F):=h;refine h.stt (l:=[_,_,_,_,_,_,_]) 3 rfl rfl rfl λu h=>?_
   have h:aA u (cellsA b2 (bX .i64 (jn c.h v).1 65 0) 159::cellsA sb [aC (cx (gP c.sum v).1),.int .u64 (wlo (gP c.sum v).1)] 157::cellsA b1 (dx Cl.z) 161::cellsA b (dx { c with n:=(j0 c.n 1).1,sum:=(gP c.sum v).1,mn:=mn,mx:=mx,h:=(jn c.h v).1 }) 161::F):=h;refine⟨_,h.r 3,_,h.r 3,?_⟩;refine h.st 3 rfl rfl λL h=>?_
   refine h.st 3 rfl rfl λw h=>?_
   have h:aA w (cellsA b2 (bX .i64 (jn c.h v).1 65 0) 159::cellsA sb [aC (cx (gP c.sum v).1),.int .u64 (wlo (gP c.sum v).1)] 157::cellsA b1 (dx Cl.z) 161::
    cellsA b (dx { c with n:=(j0 c.n 1).1,sum:=(gP c.sum v).1,mn:=if v<mn then v else mn,mx:=if v>mx then v else mx,h:=(jn c.h v).1 }) 161::F):=h
   refine⟨_,_,_,_,_,_,_,_,h.rda 3 rfl,?_⟩;refine h.sta 2 rfl rfl λf h=>⟨_,_,_,_,_,_,_,_,h.rda 2 rfl,k _ h.tl.tl.tl.tl⟩
  refine⟨λd=>?_,λd=>?_⟩
  .have d:=V4 d;refine h.st 3 rfl rfl λJ h=>?_
   refine h.st 3 rfl rfl λE h=>?_
   exact e v v _ (by rw[V1 d]) (by rw[V1 d]) h
  .have d:=V5 d;exact e c.mn c.mx _ (by rw[V0 d]) (by rw[V0 d]) h
 refine⟨_,_,h.rdv (l:=[_]) (vs:=[_,_]) 1 rfl rfl,?_,?_⟩
 .refine Ai j h λf h=>⟨_,_,rfl,h.rdv (l:=[_]) (vs:=[_,_]) 1 rfl rfl,?_,?_⟩
  .refine Aj wc.sum a h λi h=>⟨_,_,_,rfl,?_⟩
   refine h.al λb3 _ h=>?_
   refine h.sta 0 rfl rfl λs h=>fin _ _ h
  .refine h.al λb3 _ h=>⟨h.rdv (l:=[_]) (vs:=[_,_]) 2 rfl rfl,?_⟩
   refine Aj wc.sum a h λi h=>⟨_,_,_,rfl,?_⟩
   refine h.sta 0 rfl rfl λs h=>fin _ _ h
 .refine h.al λb3 _ h=>⟨h.rdv (l:=[_]) (vs:=[_,_]) 2 rfl rfl,?_⟩
  refine Ai j h λf h=>⟨_,_,rfl,h.rdv (l:=[_]) (vs:=[_,_]) 2 rfl rfl,?_⟩
  refine Aj wc.sum a h λi h=>⟨_,_,_,rfl,?_⟩
  refine h.sta 0 rfl rfl λs h=>fin _ _ h
end
structure Ky where
 win:Int
 ser:Fa
deriving DecidableEq
abbrev eM(k:Ky):Os:=[aB k.win,.string k.ser]
abbrev aggK(k:Ky):Value:=.agg ⟨eM k⟩
theorem qC(k:Ky):(eM k).length=2:=rfl
abbrev Ot:=Ky×Cl
abbrev cI(o:Ot):Os:=[aB o.1.win,.string o.1.ser,aB o.2.n,aB (cx o.2.sum),.int .u64 (wlo o.2.sum),aB o.2.mn,aB o.2.mx,aB o.2.cer,aB o.2.pos]++bX .i64 o.2.h 65 0
theorem iX(o:Ot):(cI o).length=74:=by simp[cI,se]
theorem sf(o:Ot):cT (cI o)=true:=vM rfl (I8 _ _ _ _)
theorem ba_beq(x y:Fa):(x.toList == y.toList)=decide (x=y):=by
 rw[Wi,beq_iff_eq,V6,ByteArray.toList_eq,ByteArray.toList_eq]
 constructor
 .intro h
  cases x with|mk a=>cases y with|mk b=>
   cases a;cases b
   simp only at h;rw[h]
 .intro h;rw[h]
def cr(first last:Int):List Int:=(List.range (last-first+1).toNat).map λi:Nat=>first+i
abbrev CM:=List (Ky×Cl)
def fQ(m:CM)(k:Ky):Cl:=(aJ k m).getD Cl.z
def jW(m:CM)(ser:Fa)(ws:List Int):Int:=((ws.filter λw=>(aJ ⟨w,ser⟩ m).isNone).length:Nat)
def qD(most:Int)(m:CM)(first last:Int)(ser:Fa):Bool:=
 if last<first then false else if most<=last-first then false else decide ((m.length:Int)+jW m ser (cr first last)<=most)
def ii(m:CM)(ser:Fa)(certain:Bool):List Int->CM×Int
 | []=>([],0)
 | w::r=>if (gQ (fQ m ⟨w,ser⟩) certain).2≠0 then ([],(gQ (fQ m ⟨w,ser⟩) certain).2)
  else ((⟨w,ser⟩,(gQ (fQ m ⟨w,ser⟩) certain).1)::(ii m ser certain r).1,(ii m ser certain r).2)
def lL(l:CM)(m:CM):CM:=l.foldl (λm p=>mset p.1 p.2 m) m
def jX(most:Int)(m:CM)(first last:Int)(ser:Fa):CM×Int:=
 if last<first then (m,10) else if qD most m first last ser=false then (m,20) else
 if (ii m ser (decide (first=last)) (cr first last)).2≠0 then (m,(ii m ser (decide (first=last)) (cr first last)).2)
 else (lL (ii m ser (decide (first=last)) (cr first last)).1 m,0)
def mH(m:CM)(k:Ky)(v:Int):CM×Int:=
 match aJ k m with
 | none=>(m,19)
 | some c=>if (jV c v).2≠0 then (m,(jV c v).2) else (mset k (jV c v).1 m,0)
def jY(most:Int)(m:CM)(k:Ky)(c:Cl):CM×Int:=
 if (aJ k m).isSome then (m,18) else if gh c=false then (m,10) else if most<=(m.length:Int) then (m,20) else (mset k c m,0)
structure dX(most:Int)(m:CM):Prop where
 m1:1<=most
 m2:most<=1024
 nd:(aG m).Nodup
 wc:∀p∈m,WC p.2
 rt:∀p∈m,gh p.2=true
 wn:∀p∈m,aF p.1.win
 len:(m.length:Int)<=most
theorem dX.cell{most:Int}{m:CM}(h:dX most m)(k:Ky):WC (fQ m k):=by
 unfold fQ
 cases hm:aJ k m with
 | none=>exact WC.z
 | some c=>exact h.wc _ (iv hm)
theorem koK:mj Tryz.prog 154 aggK:=ES Tryz.underlying154 (λx y h=>by
  cases x;cases y;simp only[List.cons.injEq,Value.int.injEq,Value.string.injEq,and_true,true_and]at h;rw[h.1,h.2])
 (λx y=>by
  have h:qm Tryz.prog 154 (eM x) (eM y)=some (x.win == y.win&&(x.ser == y.ser&&true)):=by kernel_rfl
  rw[h];congr 1;rw[Wi];simp only[Bool.and_true,V7,beq_iff_eq,V6,Go.MapKept.bytes_beq]
  cases x;cases y
  simp)
 (λx=>by kernel_rfl) (λx n=>by
  have hb:(x.ser == x.ser)=true:=(Go.MapKept.bytes_beq _ _).2 rfl;unfold Instr.sameBits;simp[Instr.sameBits,hb])
theorem mtC:kA Tryz.prog 272 154 161 aggC Cl.z:=og Tryz.underlying272 (by kernel_rfl)
theorem sl86:SlT Tryz.prog 143 164 74 600:=iP (by kernel_rfl)
abbrev shC(sb mb:Nat)(most:Int):aE:=cellsA sb [aC most,.map (some mb)] 274
abbrev cz(mb:Nat)(m:CM):aE:=mapA aggK aggC mb m
section
variable {sb mb:Nat}{most:Int}{m:CM}{F L:List aE}{H:aD}{K:KE}
theorem IL(h:aA H F)(k1:most<1\/1024<most->K (.tuple #[.pointer none,aC 11]) H)
  (k2:∀sb mb b,dX most []->aA b (shC sb mb most::cz mb []::F)->K (.tuple #[PA sb 0,aC 0]) b):CF 184 #[aC most] H K:=by
 refine cM 184 476 ⟨λa=>k1 (by simpa using a),λa=>?_⟩
 simp only[VK,V8]at a;refine h.alm aggK aggC λmb _ h=>?_
 refine h.al λsb _ h=>?_
 exact k2 _ _ _ ⟨by omega,by omega,List.nodup_nil,by simp,by simp,by simp,by simp;omega⟩ h
theorem R7(h:aA H F)(i j:Nat)(b:aW i F=shC sb mb most)(a:aW j F=cz mb m):bV Tryz.prog 55 #[PA sb 0] H (aC (m.length:Nat)):=
 cM 55 28 ⟨_,h.rd i b _,_,h.mp_len mtC j a,rfl,rfl⟩
theorem u64sub{a b:Int}(c:aF a)(hb:aF b)(h:b<=a):u64.wrap (u64.wrap a-u64.wrap b)=a-b:=by
 unfold aF at c hb;rw[df,df,df];omega
theorem IM{first last:Int}(h:first<=last):((cr first last).length:Int)=last-first+1:=by
 simp only[cr,VH,List.length_range];omega
theorem IP{first last:Int}{j:Nat}(a:j<(cr first last).length):(cr first last)[j]=first+(j:Nat):=by simp[cr]
theorem R8(ok:dX most m){first last:Int}{ser:Fa}(I:aF first)(J:aF last)(h:aA H (shC sb mb most::cz mb m::F))
  (k:∀t,aA t (shC sb mb most::cz mb m::F)->K (.bool (qD most m first last ser)) t) :
  CF 290 #[PA sb 0,aC first,aC last,.string ser] H K:=by
 refine Ow ?_;unfold qD at k;have S:=ok.m1;have R:=ok.m2;have L:=ok.len;refine⟨λE=>?_,λE=>?_⟩
 .rw [V1 (V4 E)]at k;exact k _ h
 have B:=V5 E;rw[V0 B]at k;have em:u64.wrap most=most:=by rw[df];omega
 have P:=u64sub J I (by omega);rw[P];refine⟨_,h.r 0,?_⟩;dsimp only;rw[em];refine⟨λs=>?_,λs=>?_⟩
 .rw [V1 (V4 s)]at k;exact k _ h
 have C:=V5 s;rw[V0 C]at k;have v:=IM (first:=first) (last:=last) (by omega);refine⟨_,h.r 0,_,h.mp_len mtC 1 rfl,?_⟩;refine⟨λn i t=>∃j:Nat,i=j/\j<=(cr first last).length/\n=(m.length:Int)+jW m ser ((cr first last).take j)/\aA t (shC sb mb most::cz mb m::F),λ_ i _=>(cr first last).length-i.toNat,
  ⟨0,rfl,VX _,by simp[jW],h⟩,?_⟩
 rintro n i Q ⟨j,rfl,Y,rfl,h⟩;have e1:i64.wrap (i64.wrap (last-first)+1)=((cr first last).length:Int):=by rw[aK (x:=last-first),aK,v]
 rw[e1];refine⟨λd=>?_,λd=>?_⟩
 .have f:j<(cr first last).length:=by have:=V4 d;omega
  unfold aF at I J;have M:i64.wrap (first+(j:Nat))=(cr first last)[j]:=by rw[IP f,aK]
  have u:∀q,jW m ser ((cr first last).take q)<=q:=λq=>by
   unfold jW;have U:=Y0 (λw=>(aJ (⟨w,ser⟩:Ky) m).isNone) ((cr first last).take q)
   have W:((cr first last).take q).length<=q:=by rw[VU];omega
   omega
  have N:=u j;have O:0<=jW m ser ((cr first last).take j):=by unfold jW;omega
  rw[M];refine⟨_,h.r 0,_,_,_,_,_,_,_,_,_,h.mp_get mtC koK 1 rfl (x:=⟨(cr first last)[j],ser⟩),?_⟩;refine h.al λb _ h=>?_
  refine h.sta 0 rfl (by rw[kW];exact (kW Cl.z).symm) λV h=>?_
  have e3:i64.wrap ((j:Int)+1)=((j+1:Nat):Int):=by rw[aK];omega
  have c:jW m ser ((cr first last).take (j+1))=jW m ser ((cr first last).take j)+(if (aJ (⟨(cr first last)[j],ser⟩:Ky) m).isNone then 1 else 0):=by
   unfold jW;rw[Wj f,List.filter_append,V3]
   by_cases hn:(aJ (⟨(cr first last)[j],ser⟩:Ky) m).isNone=true
   .simp [hn]
   .simp [hn]
  have a:∀n2:Int,n2=(m.length:Int)+jW m ser ((cr first last).take (j+1))->∀y,aA y (shC sb mb most::cz mb m::F)->zf.r1 (λn i t=>∃j:Nat,i=j/\j<=(cr first last).length/\n=(m.length:Int)+jW m ser ((cr first last).take j)/\aA t (shC sb mb most::cz mb m::F)) (λ_ i _=>(cr first last).length-i.toNat) ((m.length:Int)+jW m ser ((cr first last).take j)) (j:Int) Q n2 y:=by
   intro n2 e y h;unfold zf.r1;rw[e3];exact⟨⟨j+1,rfl,f,e,h⟩,by simp only[VD];omega⟩
  refine λT G=>⟨λD=>G _ _ (a _ ?_ _ h.tl),λD=>G _ _ (a _ ?_ _ h.tl)⟩
  .have:(aJ (⟨(cr first last)[j],ser⟩:Ky) m).isNone=true:=by simpa using D
   rw[c,this,aK];simp only[if_true];omega
  .have:(aJ (⟨(cr first last)[j],ser⟩:Ky) m).isNone=false:=by simpa using D
   rw[c,this];simp
 .have A:j=(cr first last).length:=by have:=V5 d;omega
  subst A;rw[VZ (VA _)];refine⟨_,h.r 0,?_⟩;exact k _ h
theorem R9(ok:dX most m){key:Ky}{v:Int}(i:aF v)(h:aA H (shC sb mb most::cz mb m::F))
  (k:∀e,aA e (shC sb mb most::cz mb (mH m key v).1::F)->K (aC (mH m key v).2) e) :
  CF 243 #[PA sb 0,aggK key,aC v] H K:=by
 refine cM 243 18685212 ?_;unfold mH at k;refine h.al λb _ h=>?_
 have j:=h.mp_get mtC koK 2 rfl (x:=key);refine⟨_,h.r 1,_,_,h.rda 0 rfl,_,_,_,_,_,_,_,_,_,j,?_⟩;refine h.al λb1 _ h=>⟨h.mp_get mtC koK 3 rfl (x:=key),h.rda 1 rfl,h.r 2,?_⟩
 refine h.sta 0 rfl rfl λf h=>?_
 cases hm:aJ key m with
 | none=>
  rw[hm]at k;exact⟨λ_=>k _ h.tl.tl,λa=>by simp at a⟩
 | some c=>
  rw[hm]at k h;refine⟨λa=>by simp at a,λ_=>?_⟩
  have wc:WC c:=ok.wc _ (iv hm);have h:aA f (cellsA b1 (dx c) 161::cellsA b (eM key) 154::shC sb mb most::cz mb m::F):=h;refine⟨_,_,_,_,_,_,_,_,h.rda 0 rfl,?_⟩;refine R6 wc i h λs h=>⟨_,_,_,_,_,_,_,_,_,rfl,?_⟩
  refine h.sta 0 rfl (by rw[kW];exact (kW c).symm) λt h=>?_
  dsimp only at k;refine⟨λd=>?_,λd=>?_⟩
  .rw [V1 (by simpa using d)]at k;exact k _ h.tl.tl
  .rw [V0 (by simpa using d)]at k;refine⟨_,h.r 2,_,_,h.rda 1 rfl,_,_,_,_,_,_,_,_,h.rda 0 rfl,?_⟩;refine h.mp_update (x:=key) (v:=(jV c v).1) mtC koK 3 rfl λn h=>?_
   exact k _ h.tl.tl
theorem RA(ok:dX most m){key:Ky}{c:Cl}(wc:WC c)(h:aA H (shC sb mb most::cz mb m::F))
  (k:∀f,aA f (shC sb mb most::cz mb (jY most m key c).1::F)->K (aC (jY most m key c).2) f) :
  CF 206 #[PA sb 0,aggK key,aggC c] H K:=by
 refine cM 206 303815964 ?_;unfold jY at k;refine h.al λb _ h=>?_
 refine h.al λb1 _ h=>?_
 have j:=h.mp_get mtC koK 3 rfl (x:=key);refine⟨_,h.r 2,_,_,h.rda 1 rfl,_,_,_,_,_,_,_,_,_,j,?_⟩;refine h.al λb2 _ h=>⟨h.mp_get mtC koK 4 rfl (x:=key),h.rda 2 rfl,h.r 3,?_⟩
 refine h.sta 0 rfl rfl λi h=>⟨λe=>?_,λe=>?_⟩
 .rw [V1 e]at k;exact k _ h.tl.tl.tl
 rw[V0 (by rw[e];decide)]at k;have h:aA i (cellsA b2 _ 161::cellsA b1 (dx c) 161::cellsA b (eM key) 154::shC sb mb most::cz mb m::F):=h;refine⟨_,_,_,_,_,_,_,_,h.rda 1 rfl,?_⟩;refine ui wc h λs h=>⟨_,rfl,λa=>?_,λa=>?_⟩
 .rw [V1 (by simpa using a)]at k;exact k _ h.tl.tl.tl
 rw[V0 (by simpa using a)]at k;refine⟨_,h.r 3,_,h.mp_len mtC 4 rfl,_,h.r 3,λd=>?_,λd=>?_⟩
 .rw [V1 (V4 d)]at k;exact k _ h.tl.tl.tl
 rw[V0 (V5 d)]at k;refine⟨_,h.r 3,_,_,h.rda 2 rfl,_,_,_,_,_,_,_,_,h.rda 1 rfl,?_⟩;refine h.mp_update (x:=key) (v:=c) mtC koK 4 rfl λn h=>?_
 exact k _ h.tl.tl.tl
end
theorem RG(l r:CM)(m:CM):lL (l++r) m=lL r (lL l m):=by unfold lL;rw[WX]
section
variable {sb mb:Nat}{most:Int}{m:CM}{F L:List aE}{H:aD}{K:KE}
theorem RH(ok:dX most m){first last:Int}{ser:Fa}(M:aF first)(N:aF last)(h:aA H (shC sb mb most::cz mb m::F))
  (k:∀f,aA f (shC sb mb most::cz mb (jX most m first last ser).1::F)->K (aC (jX most m first last ser).2) f) :
  CF 241 #[PA sb 0,aC first,aC last,.string ser] H K:=by
 refine OB ?_;unfold jX at k;have T:=ok.m2;refine⟨λI=>?_,λI=>?_⟩
 .rw [V1 (V4 I)]at k;exact k _ h
 have B:=V5 I;rw[V0 B]at k;refine R8 ok M N h λY h=>⟨_,rfl,λu=>?_,λu=>?_⟩
 .rw [V1 (by simpa using u)]at k;exact k _ h
 have a:qD most m first last ser=true:=by simpa using u
 rw[V0 (by rw[a];decide)]at k;have U:last-first<most:=by
  unfold qD at a;rw[V0 B]at a
  by_cases h2:most<=last-first
  .rw [V1 h2]at a;cases a
  .omega
 have C:=IM (first:=first) (last:=last) (by omega);have G:=M;unfold aF at G;refine⟨λA L w i f=>∃(j:Nat) (done:CM),i=j/\j<=(cr first last).length/\L=done.length/\done.length=j/\
   ii m ser (decide (first=last)) (cr first last)=(done++(ii m ser (decide (first=last)) ((cr first last).drop j)).1,(ii m ser (decide (first=last)) ((cr first last).drop j)).2)/\
   aA f (slA 164 74 A done.length w (flat cI done)::shC sb mb most::cz mb m::F),
  λ_ _ _ i _=>(cr first last).length-i.toNat,⟨0,[],rfl,VX _,rfl,rfl,rfl,h.sl_nil 164 74⟩,?_⟩
 rintro A L w i V ⟨j,done,rfl,Z,rfl,D,e,h⟩;have e1:i64.wrap (i64.wrap (last-first)+1)=((cr first last).length:Int):=by rw[aK (x:=last-first),aK,C]
 rw[e1];refine⟨λn=>?_,λn=>?_⟩
 .have c:j<(cr first last).length:=by have:=V4 n;omega
  unfold aF at N;have P:i64.wrap (first+(j:Nat))=(cr first last)[j]:=by rw[IP c,aK]
  rw[P];rw[Wv c,ii]at e;have wc:=ok.cell ⟨(cr first last)[j],ser⟩;refine h.al λb _ h=>?_
  refine h.sta 0 rfl rfl λR h=>λO Q=>?_
  refine⟨_,h.r 2,_,_,h.rda 0 rfl,_,_,_,_,_,_,_,_,h.mp_get1 mtC koK 3 rfl (x:=⟨(cr first last)[j],ser⟩),?_⟩;have fin:∀cb t,aA t (cellsA cb (dx (gQ (fQ m ⟨(cr first last)[j],ser⟩) (decide (first=last))).1) 161::cellsA b (eM ⟨(cr first last)[j],ser⟩) 154::slA 164 74 A done.length w (flat cI done)::shC sb mb most::cz mb m::F)->
    O cb 0 (gQ (fQ m ⟨(cr first last)[j],ser⟩) (decide (first=last))).2 t:=by
   intro cb t h;refine Q _ _ _ _ ?_;refine⟨λd=>?_,λd=>?_⟩
   .have d:(gQ (fQ m ⟨(cr first last)[j],ser⟩) (decide (first=last))).2≠0:=by simpa using d
    rw[V1 d]at e;rw[e,V1 d]at k;exact k _ h.tl.tl.tl
   .have d:¬(gQ (fQ m ⟨(cr first last)[j],ser⟩) (decide (first=last))).2≠0:=by simpa using d
    rw[V0 d]at e;refine⟨_,_,h.rda 1 rfl,_,_,_,_,_,_,_,_,h.rda 0 rfl,?_⟩;rintro b1 _ rfl rfl;refine h.append1 (ws:=cI (⟨(cr first last)[j],ser⟩,(gQ (fQ m ⟨(cr first last)[j],ser⟩) (decide (first=last))).1)) sl86 2 rfl (iX _) (sf _) (by omega) (by omega) λW c' f h=>⟨_,_,_,rfl,?_⟩
    rw[show i64.wrap ((j:Int)+1)=((j+1:Nat):Int) by rw[aK];omega];have h:=h.tl.tl;refine⟨⟨j+1,done++[(⟨(cr first last)[j],ser⟩,(gQ (fQ m ⟨(cr first last)[j],ser⟩) (decide (first=last))).1)],rfl,c,by simp,by simp[D],?_,?_⟩,by simp only[VD];omega⟩
    .rw [e,VI];rfl
    .rw [dR,ny,V3];exact h
  refine⟨?_,?_⟩
  .refine IK wc h λt h=>⟨_,_,_,_,_,_,_,_,_,rfl,?_⟩
   refine h.al λb2 _ h=>?_
   refine h.sta 0 rfl (by rw[kW];exact (kW Cl.z).symm) λJ h=>fin _ _ h
  .refine h.al λb2 _ h=>⟨h.mp_get1 mtC koK 4 rfl (x:=⟨(cr first last)[j],ser⟩),h.rda 1 rfl,h.r 3,?_⟩
   refine IK wc h λt h=>⟨_,_,_,_,_,_,_,_,_,rfl,?_⟩
   refine h.sta 0 rfl (by rw[kW];exact (kW Cl.z).symm) λJ h=>fin _ _ h
 .have E:j=(cr first last).length:=by have:=V5 n;omega
  subst E;rw[W1,ii,Wc]at e;rw[e,V0 (λS=>S rfl)]at k
  refine⟨λi f=>∃q:Nat,i=q/\q<=done.length/\aA f (slA 164 74 A done.length w (flat cI done)::shC sb mb most::cz mb (lL (done.take q) m)::F),λi _=>done.length-i.toNat,⟨0,rfl,VX _,h⟩,?_⟩
  rintro i R ⟨q,rfl,hq,h⟩;refine⟨λs=>?_,λs=>?_⟩
  .have c:q<done.length:=by have:=V4 s;omega
   have u:=h.sl_rd 0 rfl;have y:=u.els iX c;refine⟨⟨by omega,by omega⟩,_,_,u.some iX (by omega) c,_,_,_,_,_,_,_,_,_,_,y,?_⟩;refine h.al λb5 _ h=>?_
   refine h.sta 0 rfl (by rw[iX];exact (iX (⟨0,⟨#[]⟩⟩,Cl.z)).symm) λt h=>?_
   have h:aA t (cellsA b5 (eM done[q].1++dx done[q].2) 164::slA 164 74 A done.length w (flat cI done)::shC sb mb most::cz mb (lL (done.take q) m)::F):=h;refine⟨_,h.r 2,_,_,h.rdv (l:=[]) 0 rfl rfl,_,_,_,_,_,_,_,_,h.rdt 0 rfl rfl,?_⟩;refine h.mp_update (x:=done[q].1) (v:=done[q].2) mtC koK 3 rfl λJ h=>?_
   rw[show i64.wrap ((q:Int)+1)=((q+1:Nat):Int) by rw[aK];omega];refine⟨⟨q+1,rfl,c,?_⟩,by simp only[VD];omega⟩;rw[Wj c,RG];exact h.tl
  .have:q=done.length:=by have:=V5 s;omega
   subst this;rw[VZ (VA _)]at h;exact k _ h.tl
end
open  Go.Shelf Go.RowKit Go.Lib Go.Sort
def qE(a b:Int):Int:=if a<b then -1 else if b<a then 1 else 0
def ou(x y:Fa):Int:=if Op.bytesLess x.toList y.toList then -1 else if !(Op.bytesLess x.toList y.toList||x.toList == y.toList) then 1 else 0
theorem cmp182(a b:Int)(W:World):Calls Tryz.prog 220 #[.int .i64 a,.int .i64 b] W λe f=>e=.returned (.int .i64 (qE a b))/\f=W:=by
 obtain⟨r,c⟩:∃r,r=qE a b:=⟨_,rfl⟩;rw[<-c];unfold qE at c
 go_enter Tryz.func220,Tryz.ntmps220
 go_wp2
 .rename_i h;have e:r=-1:=by rw[c,V1 h]
  go_ret
  exact⟨by clear c;subst e;rfl,rfl⟩
 .rename_i i _ _ d;have e:r=1:=by rw[c,nO,V1 d]
  go_ret
  exact⟨by clear c;subst e;rfl,rfl⟩
 .rename_i i _ _ d;have e:r=0:=by rw[c,nO,nO]
  go_ret
  exact⟨by clear c;subst e;rfl,rfl⟩
theorem cmp183(x y:Fa)(W:World):Calls Tryz.prog 221 #[.string x,.string y] W λe d=>e=.returned (.int .i64 (ou x y))/\d=W:=by
 obtain⟨r,a⟩:∃r,r=ou x y:=⟨_,rfl⟩;rw[<-a];unfold ou at a
 go_enter Tryz.func221,Tryz.ntmps221
 go_wp2
 .rename_i h;have e:r=-1:=by rw[a,V1 h]
  go_ret
  exact⟨by clear a;subst e;rfl,rfl⟩
 .have c:=‹Op.bytesLess x.toList y.toList=false›;have b:=‹(!x.toList == y.toList)=true›;have e:r=1:=by rw[a,c];simp only[WY,b,if_true,WZ,if_false]
  go_ret
  exact⟨by clear a;subst e;rfl,rfl⟩
 .have c:=‹Op.bytesLess x.toList y.toList=false›;have b:=‹(!x.toList == y.toList)=false›;have e:r=0:=by rw[a,c];simp only[WY,b,if_true,WZ,if_false]
  go_ret
  exact⟨by clear a;subst e;rfl,rfl⟩
def j5(x y:Ky):Int:=if qE x.win y.win≠0 then qE x.win y.win else ou x.ser y.ser
theorem cmp131(x y:Ky)(W:World):Calls Tryz.prog 130 #[.agg #[.int .i64 x.win,.string x.ser],.agg #[.int .i64 y.win,.string y.ser]] W λe b=>e=.returned (.int .i64 (j5 x y))/\∃q c,b=grow (W.drewN q) c:=by
 obtain⟨r,a⟩:∃r,r=j5 x y:=⟨_,rfl⟩;rw[<-a];unfold j5 at a;have i:=λd=>cmp182 x.win y.win d
 have f:=λd=>cmp183 x.ser y.ser d
 generalize qE x.win y.win=ri at *;generalize ou x.ser y.ser=rs at *
 go_enter Tryz.func130,Tryz.ntmps130
 go_wp2_with (first|(go_at_call 220;refine (i _).mono ?_;rintro e b ⟨rfl,rfl⟩)|(go_at_call 221;refine (f _).mono ?_;rintro e b ⟨rfl,rfl⟩))
 .rename_i h;have e:r=ri:=by rw[a,V1 (by simpa using h)]
  go_ret
  exact⟨by clear a;subst e;rfl,0,_,by rw[alloc_eq_grow,alloc_eq_grow,grow_grow];rfl⟩
 .rename_i h;have e:r=rs:=by rw[a,V0 (by simpa using h)]
  go_ret
  exact⟨by clear a;subst e;rfl,0,_,by rw[alloc_eq_grow,alloc_eq_grow,grow_grow];rfl⟩
theorem ltKy(x y:Ky):ltOf j5 x y=(decide (x.win<y.win)||(decide (x.win=y.win)&&Op.bytesLess x.ser.toList y.ser.toList)):=by
 unfold ltOf j5 qE ou
 by_cases h1:x.win<y.win
 .simp [h1]
 .by_cases h2:y.win<x.win
  .have:¬x.win=y.win:=by omega
   simp[h1,h2,this]
  .have:x.win=y.win:=by omega
   rw[V0 h1,V0 h2];simp only[ne_eq,not_true_eq_false,if_false]
   by_cases h3:Op.bytesLess x.ser.toList y.ser.toList=true
   .simp [h1,this,h3]
   .by_cases h4:(!(Op.bytesLess x.ser.toList y.ser.toList||x.ser.toList == y.ser.toList))=true
    .rw [V0 h3,V1 h4];simp[h1,h3]
    .rw [V0 h3,V0 h4];simp[h1,h3]
theorem sg(x y:Ky):ltOf j5 x y=true↔x.win<y.win\/x.win=y.win/\x.ser.toList<y.ser.toList:=by
 rw[ltKy,bytesLess_eq];simp
theorem swoKy:SWO (ltOf j5) where
 irrefl x:=by
  rw[Y1];intro h
  rcases (sg _ _).1 h with h|h
  .omega
  .exact List.lt_irrefl _ h.2
 trans x y z b a:=by
  rw[sg]at *
  rcases b with b|b <;> rcases a with a|a
  .exact .inl (by omega)
  .exact .inl (by omega)
  .exact .inl (by omega)
  .exact .inr ⟨by omega,List.lt_trans b.2 a.2⟩
 ntrans x y z b a:=by
  rw[Y1]at *;intro c;rw[Ne,sg,not_or]at b a;rw[sg]at c;have a1:¬(x.win=y.win/\x.ser.toList<y.ser.toList):=b.2;have a2:¬(y.win=z.win/\y.ser.toList<z.ser.toList):=a.2
  rcases c with c|c
  .omega
  .have e1:x.win=y.win:=by omega
   have e2:y.win=z.win:=by omega
   have b1:¬x.ser.toList<y.ser.toList:=λh=>a1 ⟨e1,h⟩
   have b2:¬y.ser.toList<z.ser.toList:=λh=>a2 ⟨e2,h⟩
   exact List.not_lt.2 (List.le_trans (List.not_lt.1 b2) (List.not_lt.1 b1)) c.2
theorem totKy(x y:Ky)(b:(ltOf j5) x y=false)(a:(ltOf j5) y x=false):x=y:=by
 rw[Y1,Ne,sg,not_or]at b a;have e:x.win=y.win:=by omega
 have b1:¬x.ser.toList<y.ser.toList:=λh=>b.2 ⟨e,h⟩
 have b2:¬y.ser.toList<x.ser.toList:=λh=>a.2 ⟨e.symm,h⟩
 have e2:x.ser.toList=y.ser.toList:=List.le_antisymm (List.not_lt.1 b2) (List.not_lt.1 b1);have:=ba_beq x.ser y.ser;rw[e2]at this;have c:x.ser=y.ser:=by simpa using this
 cases x;cases y
 simp only at e c;rw[e,c]
instance:Inhabited Ky:=⟨⟨0,⟨#[]⟩⟩⟩
theorem RI(pre cs post ys:Os)(c:ys.length=cs.length) :
  Sort.putCells id pre.length ys.toArray (pre++cs++post).toArray=(pre++ys++post).toArray:=by
 apply Array.ext';apply WO;intro j;simp only[Sort.putCells,List.size_toArray];rw[Array.getElem?_toList,Array.getElem?_mapIdx,List.getElem?_toArray];rw[VI,VI]
 by_cases h1:j<pre.length
 .have e1:(pre++(cs++post))[j]?=some pre[j]:=by rw[List.getElem?_append_left h1,List.getElem?_eq_getElem h1]
  have e2:(pre++(ys++post))[j]?=some pre[j]:=by rw[List.getElem?_append_left h1,List.getElem?_eq_getElem h1]
  rw[e1,e2];simp only[We];rw[nO]
 .have e1:(pre++(cs++post))[j]?=(cs++post)[j-pre.length]?:=List.getElem?_append_right (by omega);have e2:(pre++(ys++post))[j]?=(ys++post)[j-pre.length]?:=List.getElem?_append_right (by omega);rw[e1,e2]
  by_cases h2:j<pre.length+ys.length
  .have b:j-pre.length<cs.length:=by omega
   have a:j-pre.length<ys.length:=by omega
   have e3:(cs++post)[j-pre.length]?=some cs[j-pre.length]:=by rw[List.getElem?_append_left b,List.getElem?_eq_getElem b]
   have e4:(ys++post)[j-pre.length]?=some ys[j-pre.length]:=by rw[List.getElem?_append_left a,List.getElem?_eq_getElem a]
   rw[e3,e4];simp only[We];rw[V1 ⟨by omega,h2⟩];simp[a]
  .have e3:(cs++post)[j-pre.length]?=post[j-pre.length-cs.length]?:=List.getElem?_append_right (by omega);have e4:(ys++post)[j-pre.length]?=post[j-pre.length-cs.length]?:=by rw[List.getElem?_append_right (by omega),c]
   rw[e3,e4]
   cases hp:post[j-pre.length-cs.length]? with
   | none=>rfl
   | some v=>
    simp only[We];rw[nO]
theorem IQ{α:Type}[Inhabited α](enc:α->Os)(k:Nat)(c:∀x,(enc x).length=k)(xs:List α):Go.Sort.flatK enc k xs.toArray=(flat enc xs).toArray:=by
 apply Array.ext';apply W3
 .simp [fi c]
 .intro t j i;have a:t<xs.length*k:=by simpa using j
  have k0:0<k:=by
   rcases Yx k with h|h
   .subst h;simp at a
   .exact h
  have d:t/k<xs.length:=by rw[Yb k0];exact a
  have hm:t%k<k:=W6 _ k0;have b:=vK c d (t%k) hm;have f:t/k*k+t%k=t:=Yq t k;rw[f,fO,fO]at b;have e:t%k<(enc xs[t/k]).length:=by rw[c];exact hm
  rw[List.getElem?_eq_getElem (by simpa using i),List.getElem?_eq_getElem e]at b;have b:=Option.some.inj b;simp only[Array.getElem_toList];rw[b];simp[Go.Sort.flatK,d,e]
def ij(x y:Ky):Bool:=!(decide (y.win<x.win)||(decide (y.win=x.win)&&Op.bytesLess y.ser.toList x.ser.toList))
def dY(ks:List Ky):List Ky:=ks.mergeSort ij
theorem kX(ks:List Ky):(dY ks).Perm ks:=List.mergeSort_perm _ _
theorem uj(ks:List Ky):(dY ks).length=ks.length:=(kX ks).length_eq
open  Go.RowKit Go.Sort
section
variable {L:List aE}{H:aD}{K:KE}
theorem RJ:∀args w,(callFunc 130 args).run Tryz.prog w=.ok (.enter 130 args) w:=λargs w=>by kernel_rfl
theorem sortK_eq(ks:List Ky):ks.mergeSort (λx y=>!(ltOf j5) y x)=dY ks:=by
 unfold dY;congr 1;funext x y;rw[ltKy];rfl
theorem RK{a:KQ}{c:Nat}{xs:List Ky}(h:aA H L)(i:Nat)(hA:aW i L=slA 154 2 a xs.length c (flat eM xs))(J:xs.length<4611686018427387904)
  (k:∀O,aA O (put i (slA 154 2 a xs.length c (flat eM (dY xs))) L)->K (.tuple #[]) O) :
  CF 218 #[.slice a xs.length c,.func (.func 130) #[] #[]] H K:=by
 refine .mk λw Y=>?_
 subst Y;have Q:=h.foc i;rw[hA]at Q;obtain⟨hl,⟨rfl,S,rfl,E⟩|⟨b,pre,post,N,fr,rfl,C,A,s,E⟩⟩:=kz Q
 .have V:xs=[]:=WH.1 S;subst V;refine jj (AnyF.slices_SortFunc_none Tryz.sortKA none 0 _ w) ?_;rintro e T ⟨rfl,rfl⟩;refine⟨_,rfl,⟨rfl,rfl,rfl⟩,k _ (aA.back ?_)⟩;rw[show dY []=[] from by simp[dY]];exact rB E
 .have hb:=aQ.get E;have F:b<w.heap.size:=aQ.lt E;have I:(flat eM xs).length=xs.length*2:=fi qC xs;have G:=List.Perm.length_eq (kX xs);have d:(flat eM (dY xs)).length=xs.length*2:=by rw[fi qC,G]
  have P:xs.length*2<=c*2:=Wy _ C;have Z:HoldsK eM 2 w b pre.length xs.toArray:=by
   unfold HoldsK;rw[IQ eM 2 qC];intro j u;have f:j<(flat eM xs).length:=by simpa using u
   refine⟨?_,?_⟩
   case refine_2=>
    have:=s (pre.length+j) (by omega) (by omega);simp only[World.frozen?,hb,Wl,V8];omega
   simp only[World.cell?,hb,Option.isSome_none,WZ,if_false,List.getElem?_toArray];rw[VI,List.getElem?_append_right (by omega),Ya,List.getElem?_append_left f,List.getElem?_eq_getElem f];simp[f]
  have D:CmpLays Tryz.prog 130 #[] eM 2 j5 b pre.length xs.toArray.size w:=λm os dk hs x y=>cmp131 x y _
  refine jj (AnyQ.slices_SortFunc_total Tryz.sortKA 2 Tryz.isAgg154 Tryz.sizeOf154 eM qC (λx v R=>by simp[eM]at R;rcases R with rfl|rfl <;> rfl) j5 swoKy 130 #[] b pre.length c xs.toArray w RJ D Z F (by simpa using J) totKy) ?_
  rintro e T ⟨rfl,n,os,rfl⟩;refine⟨_,rfl,⟨rfl,rfl,rfl⟩,k _ (aA.back ?_)⟩;have W:(xs.toArray.toList.mergeSort λx y=>!(ltOf j5) y x).toArray=(dY xs).toArray:=by rw[<-sortK_eq]
  rw[W];have M:aQ (w.heap.modify b (onCells (putCells id pre.length (flat eM (dY xs)).toArray))) (pt b (.cells (pre++flat eM (dY xs)++post).toArray N fr)*star (del i L)):=by
   refine aQ.upd E ?_ λj u=>?_
   .rw [Array.getElem?_modify,V1 rfl,hb];simp only[We,onCells];rw[RI _ _ _ _ (by rw[I,d])]
   .rw [Array.getElem?_modify,V0 (Ne.symm u)]
  have U:aQ (w.heap.modify b (onCells (putCells id pre.length (flat eM (dY xs)).toArray))++os.toList.toArray) (pt b (.cells (pre++flat eM (dY xs)++post).toArray N fr)*star (del i L)):=
   M.grow λj u=>by rw[Array.getElem?_append_left u]
  have t:=U.frame (B:=slA 154 2 (some ⟨b,pre.length,none⟩) xs.length c (flat eM (dY xs))) λp hp=>⟨d,.inr ⟨b,pre,post,N,fr,rfl,C,A,λ_=>s,hp⟩⟩
  simpa[sortWorldK,grow,putRowK,putRow,mapBlock,Sort.ahead,IQ eM 2 qC] using t
theorem IR{r:Nat}{m:CM}(h:aA H L)(i:Nat)(s:aW i L=mapA aggK aggC r m)
  (k:∀c d,aA d (mapA aggK aggC c m::L)->K (.map (some c)) d) :
  CF 127 #[.map (some r)] H K:=by
 refine .mk λw x=>?_
 subst x;have f:=h.foc i;rw[s]at f;obtain⟨j,b,a,u,n,y,v⟩:=mo f;have A:=AnyW.maps_Clone Tryz.cloneA4 r b a w v.get;refine jj A ?_;rintro e B ⟨rfl,rfl⟩;refine⟨_,rfl,⟨rfl,rfl,rfl⟩,k _ _ ?_⟩;exact (h.push (.map b a)).mono λp t=>⟨j,b,a,u,n,y,t⟩
end
theorem wI(x y:Ky):ij x y=true↔x.win<y.win\/x.win=y.win/\x.ser.toList<=y.ser.toList:=by
 unfold ij;rw[Go.Proofs.bytesLess_eq];simp only[VY,VK,V8,Wl,List.not_lt]
 constructor
 .rintro⟨h1,a⟩
  by_cases h:x.win<y.win
  .exact .inl h
  .rcases a with a|a
   .omega
   .exact .inr ⟨by omega,a⟩
 .rintro (h|h)
  .exact⟨by omega,.inl (by omega)⟩
  .exact⟨by omega,.inr h.2⟩
theorem RM{x y z:Ky}(a:ij x y=true)(b:ij y z=true):ij x z=true:=by
 rw[wI]at *
 rcases a with a|a <;> rcases b with b|b
 .exact .inl (by omega)
 .exact .inl (by omega)
 .exact .inl (by omega)
 .exact .inr ⟨by omega,List.le_trans a.2 b.2⟩
theorem RP(x y:Ky):(ij x y||ij y x)=true:=by
 rw[VN,wI,wI]
 by_cases h1:x.win<y.win
 .exact .inl (.inl h1)
 .by_cases h2:y.win<x.win
  .exact .inr (.inl h2)
  .rcases List.le_total x.ser.toList y.ser.toList with h|h
   .exact .inl (.inr ⟨by omega,h⟩)
   .exact .inr (.inr ⟨by omega,h⟩)
theorem ba_ext{x y:Fa}(h:x.toList=y.toList):x=y:=by
 have:=ba_beq x y;rw[h]at this;simpa using this
theorem RQ{x y:Ky}(a:ij x y=true)(b:ij y x=true):x=y:=by
 rw[wI]at *
 rcases a with a|a <;> rcases b with b|b
 .omega
 .omega
 .omega
 .have:=ba_ext (List.le_antisymm a.2 b.2)
  cases x;cases y
  simp only at this a;rw[this,a.1]
theorem wJ(l:List Ky):(dY l).Pairwise λa b=>ij a b=true:=
 List.pairwise_mergeSort (le:=ij) (λa b c e d=>RM e d) RP l
theorem RR{l c:List Ky}(h:l.Perm c):dY l=dY c:=
 List.Perm.eq_of_pairwise (le:=λa b=>ij a b=true) (λa b _ _ e d=>RQ e d) (wJ l) (wJ c) (((kX l).trans h).trans (kX c).symm)
def bA(m:CM):List Ot:=(dY (aG m)).map λk=>(k,fQ m k)
theorem uk(m:CM):(bA m).length=m.length:=by simp[bA,uj,aG]
def iC(m:CM)(before:Int):List Ot:=(bA m).takeWhile λo=>decide (o.1.win<before)
def lM(m:CM)(l:List Ot):CM:=l.foldl (λm o=>bT o.1 m) m
def nN(m:CM)(before:Int):CM:=lM m (iC m before)
section
variable {sb mb:Nat}{most:Int}{m:CM}{F L:List aE}{H:aD}{K:KE}
theorem RT(h:aA H F)(k:∀c0 a,aA a (cellsA c0 [.map (some mb)] 272::F)->K (.func (.func 219) #[] #[PA c0 0]) a):CF 129 #[.map (some mb)] H K:=by
 refine cM 129 28 ?_;exact h.al λc0 _ h=>k _ _ h
theorem RU{l c0:Nat}(A:List Ky->aE)(h:aA H (A []::cellsA c0 [.map (some mb)] 272::cz mb m::F))
  (y:∀dn key (G:List aE) (n:aD) (s:KE),dn.length<m.length->aA n (A dn::G)->(∀i,aA i (A (dn++[key])::G)->s (.bool true) i)->fL Tryz.prog l [aggK key] n s)
  (k:∀dn c,dn.Perm (aG m)->aA c (A dn::cellsA c0 [.map (some mb)] 272::cz mb m::F)->K (.tuple #[]) c) :
  CF 219 #[.func (.yield l) #[] #[],PA c0 0] H K:=by
 refine cN 219 6017780034900889 [[]] ?_;refine⟨_,h.r 1,?_⟩
 conv=>whnf
 refine h.rg_new mtC 2 rfl λb n h=>⟨b,rfl,?_⟩
 refine⟨λc=>∃dn:CM,aA c (A (aG dn)::cellsA c0 [.map (some mb)] 272::kQ aggK aggC b mb m dn::F),λc=>m.length-oR c b,⟨[],h⟩,?_⟩
 rintro i ⟨dn,h⟩;have u:=h.rg_count 2 rfl;refine h.rg_next 2 rfl (λx=>.inl ⟨rfl,(λd=>by cases d),λ_=>?_⟩) λp v w B h=>.inr ⟨_,_,rfl,(λ_=>?_),λd=>by cases d⟩
 .exact k (aG dn) _ (x.map Prod.fst) (h.rg_map 2 rfl)
 .have a:=h.rg_count 2 rfl;have f:=aA.rg_entry (P:=Tryz.prog) h 2 rfl;refine⟨_,_,_,f,?_⟩;refine h.al λb1 _ h=>?_
  refine h.sta 0 rfl rfl λC h=>⟨_,_,h.rda 0 rfl,?_⟩
  rw[V3]at a;have j:(aG dn).length<m.length:=by simp only[aG,VH];simp at a;omega
  refine y (aG dn) p.1 _ _ _ j (h.o [1,0,2,3] 4) λt h=>⟨true,rfl,(λd=>by cases d),λ_=>?_⟩
  have h:aA t (A (aG dn++[p.1])::cellsA c0 [.map (some mb)] 272::kQ aggK aggC b mb m (dn++[p])::F):=h.o [0,2,3] 4;refine⟨⟨dn++[p],?_⟩,?_⟩
  .have e:aG (dn++[p])=aG dn++[p.1]:=by simp[aG]
   rw[e];exact h
  .have:=h.rg_count 2 rfl;rw[V3]at this;simp only[Wo]at this;show m.length-oR t b<m.length-oR i b;omega
theorem sl225:SlT Tryz.prog 277 154 2 24:=iP (by kernel_rfl)
theorem RV{c0:Nat}(y:m.length<=1000000)(h:aA H (cellsA c0 [.map (some mb)] 272::cz mb m::F))
  (k:∀dn a c f,dn.Perm (aG m)->aA f (slA 154 2 a dn.length c (flat eM dn)::cz mb m::F)->K (.slice a dn.length c) f) :
  CF 271 #[.slice none 0 0,.func (.func 219) #[] #[PA c0 0]] H K:=by
 refine cL 271 (.r (.seq (.r (.blk (.rng [.agg [.int .i64,.str]] [none] .reg (.blk .reg)))) (.r .no))) ?_;refine h.al λb _ h=>⟨rfl,λR d e n=>?_⟩
 rename_i H0;have h:=h.rng R;have h:=h.sl_nil 154 2;refine RU (m:=m) (mb:=mb) (λdn=>exS λp:KQ×Nat=>star [cellsA b [.slice p.1 dn.length p.2] 277,slA 154 2 p.1 dn.length p.2 (flat eM dn),pt (H0.size+1) (.loop R)])
  (F:=pt H0.size (.deferred (some []))::F) ?_ ?_ ?_
 .have h:=h.o [3,0,1,4,5,2] 6;exact cJ.2 ⟨(none,0),aA.shut [_,_,_] h⟩
 .intro dn key G t w j h u;obtain⟨⟨a,c⟩,h⟩:=cJ.1 h;have h:=aA.open (A:=[_,_,_]) h;refine n _ _ _ ?_;refine⟨_,_,rfl,h.getO 2 rfl,?_⟩;refine h.al λb1 _ h=>?_
  refine h.sta 0 rfl rfl λB h=>⟨h.getO 3 rfl,h.stl 3 rfl λC h=>?_⟩
  refine⟨_,_,_,h.r 1,_,_,h.rda 0 rfl,?_⟩;rintro b2 _ rfl rfl
  conv=>whnf
  refine h.append1 (ws:=eM key) sl225 2 rfl rfl rfl (by omega) (by omega) λs v x h=>⟨_,_,_,rfl,?_⟩
  refine h.sta 1 rfl rfl λE h=>⟨h.getO 3 rfl,u _ ?_⟩
  have h:=h.setO 3 rfl (.loop R);refine cJ.2 ⟨(s,v),aA.shut [_,_,_] ?_⟩;rw[dR,ny,V3];exact h.o [1,2,3] 4
 .intro dn t i h;obtain⟨⟨a,c⟩,h⟩:=cJ.1 h;have h:=aA.open (A:=[_,_,_]) h;refine⟨.ready,none,by decide,by rw[nC d e];exact h.getO 2 rfl,h.stl 2 rfl λD h=>⟨rfl,?_⟩⟩
  refine⟨_,_,_,h.r 0,h.getO 5 rfl,?_⟩;have h:=h.setO 5 rfl (.deferred none);exact k dn a c _ i (h.o [1,4] 6)
theorem RY{c0:Nat}(f:m.length<=1000000)(h:aA H (cellsA c0 [.map (some mb)] 272::cz mb m::F))
  (k:∀a c d,aA d (slA 154 2 a m.length c (flat eM (dY (aG m)))::cz mb m::F)->K (.slice a m.length c) d) :
  CF 128 #[.func (.func 219) #[] #[PA c0 0],.func (.func 130) #[] #[]] H K:=by
 refine cM 128 4380 ?_;refine cM 217 28 ?_;refine RV f h λdn a c i e h=>⟨_,_,_,rfl,_,_,_,rfl,?_⟩
 have b:dn.length=m.length:=by rw[e.length_eq];simp[aG]
 refine RK h 0 rfl (by omega) λj h=>⟨rfl,?_⟩
 rw[b,RR e]at h;rw[b];exact k _ _ _ h
theorem IS(h:aA H F)(k:∀c0 a,aA a (cellsA c0 [PA sb 0] 141::F)->K (.func (.func 126) #[] #[PA c0 0]) a):CF 56 #[PA sb 0] H K:=by
 refine cM 56 28 ?_
 conv=>whnf
 exact h.al λc0 _ h=>k _ _ h
theorem IT{l c0:Nat}(O:m.length<=1000000)(A:Nat->aE)(D:Nat->aE)(B:aE)(h:aA H (cellsA c0 [PA sb 0] 141::shC sb mb most::cz mb m::B::F))
  (y:∀G b,aA b (shC sb mb most::cz mb m::B::G)->aA b (A 0::G))
  (Q:∀j (N:j<(bA m).length) (G:List aE) (u:aD) (w:KE),aA u (A j::G)->(∀f,aA f (A (j+1)::G)->w (.bool true) f)->(∀f,aA f (D j::G)->w (.bool false) f)->
   fL Tryz.prog l [aggK (bA m)[j].1,aggC (bA m)[j].2] u w)
  (k:∀b,aA b (A (bA m).length::F)->K (.tuple #[]) b)
  (J:∀j b,j<(bA m).length->aA b (D j::F)->K (.tuple #[]) b) :
  CF 126 #[.func (.yield l) #[] #[],PA c0 0] H K:=by
 refine cN 126 0x11561239925113994 [[(15,sI)]] ?_
 conv=>whnf
 refine⟨_,h.rd 0 rfl _,⟨_,h.r 1,?_⟩⟩;refine IR h 2 rfl λr u h=>⟨_,rfl,?_⟩
 refine RT h λkc f h=>⟨_,_,rfl,?_⟩
 refine RY O h λa c R h=>⟨_,_,_,rfl,?_⟩
 have v:(bA m).length=m.length:=uk m;have P:(dY (aG m)).length=m.length:=by rw[uj];simp[aG]
 have h:=y _ _ (h.o [3,4,5,0,1] 6);refine⟨λt b=>∃j:Nat,t=j/\j<=m.length/\aA b (A j::slA 154 2 a m.length c (flat eM (dY (aG m)))::cz r m::F),λt _=>m.length-t.toNat,⟨0,rfl,VX _,h⟩,?_⟩
 rintro t L ⟨j,rfl,N,h⟩;refine⟨λC=>?_,λC=>?_⟩
 .have n:j<m.length:=by have:=V4 C;omega
  have d:j<(dY (aG m)).length:=by omega
  have E:=h.sl_rd 1 rfl;refine⟨⟨by omega,by omega⟩,_,_,E.some qC (by omega) d,_,_,E.els qC d,?_⟩;refine h.al λb1 _ h=>?_
  refine h.sta 0 rfl rfl λI h=>⟨_,_,h.rda 0 rfl,_,_,h.rda 0 rfl,?_⟩
  refine⟨_,_,_,_,_,_,_,_,h.mp_get1 mtC koK 3 rfl (x:=(dY (aG m))[j]),?_⟩;have e:(bA m)[j]'(by omega)=((dY (aG m))[j],fQ m (dY (aG m))[j]):=by simp[bA]
  have i:=Q j (by omega);rw[e]at i;refine i _ I _ (h.o [1,0,2,3] 4) (λM h=>⟨true,rfl,(λs=>by cases s),λ_=>?_⟩) λM h=>⟨false,rfl,(λ_=>?_),λs=>by cases s⟩
  .conv=>whnf
   rw[show i64.wrap ((j:Int)+1)=((j+1:Nat):Int) by rw[aK];omega];exact⟨⟨j+1,rfl,n,h.o [0,2,3] 4⟩,by simp only[VD];omega⟩
  .exact J j _ (by omega) (h.o [0] 4)
 .have:j=m.length:=by have:=V5 C;omega
  subst this;have:=k L;rw[v]at this;exact this (h.o [0] 3)
theorem RZ(h:aA H (shC sb mb most::cz mb m::F))
  (k:∀a c d,aA d (shC a c most::cz c m::shC sb mb most::cz mb m::F)->K (PA a 0) d) :
  CF 60 #[PA sb 0] H K:=by
 refine cM 60 28 ?_;refine⟨_,h.r 0,_,h.r 0,?_⟩;refine IR h 1 rfl λr e h=>⟨_,rfl,h.r 1,?_⟩
 exact h.al λb _ h=>k _ _ _ h
end
abbrev aZ(s:Fa):List UInt8:=s.data.toList
theorem lN(s:Fa):(aZ s).length=s.size:=W5
theorem wK{s:Fa}{i:Nat}(h:i<(aZ s).length):bAt s i=((aZ s)[i].toNat:Int):=by
 have a:i<s.data.size:=by simpa using h
 unfold bAt;rw[Array.getElem?_eq_getElem a];simp
def lowC(c:UInt8):Bool:=decide (97<=c.toNat)&&decide (c.toNat<=122)
def pu(c:UInt8):Bool:=lowC c||(decide (48<=c.toNat)&&decide (c.toNat<=57))||decide (c.toNat=95)
def valC(c:UInt8):Bool:=decide (33<=c.toNat)&&decide (c.toNat<=126)&&decide (c∉[(44:UInt8),61,123,125])
def jZ(s:Fa):Bool:=decide (1<=s.size)&&decide (s.size<=64)&&lowC ((aZ s).headD 0)&&(aZ s).all pu
def bS.z:bS:=⟨⟨#[]⟩,⟨#[]⟩⟩
def ik(l:bS):Bool:=decide (l.value.size<=64)&&(aZ l.value).all valC&&jZ l.name
def pw(labs:List bS)(i:Nat):Bool:=ik (labs.getD i bS.z)&&(decide (i=0)||Op.bytesLess (labs.getD (i-1) bS.z).name.toList (labs.getD i bS.z).name.toList)
def fx(name:Fa)(labs:List bS):Bool:=jZ name&&decide (labs.length<=8)&&(List.range labs.length).all (pw labs)
theorem Ak{p:Nat->Bool}{n:Nat}:(List.range n).all p=true↔∀i,i<n->p i=true:=by
 rw[Wq];exact⟨λh i hi=>h i (WB.2 hi),λh i hi=>h i (WB.1 hi)⟩
theorem Am{α:Type}{p:α->Bool}{l:List α}(h:∀i (hi:i<l.length),p l[i]=true):l.all p=true:=by
 rw[Wq];intro x a;obtain⟨i,hi,rfl⟩:=Wu a;exact h i hi
theorem wL{α:Type}{p:α->Bool}{l:List α}{i:Nat}(hi:i<l.length)(h:p l[i]=false):l.all p=false:=by
 cases e:l.all p
 .rfl
 .rw [Wq]at e;rw[e _ (VF hi)]at h
  cases h
theorem ov{α:Type}{l:List α}{i:Nat}(d:α)(h:i<l.length):l.getD i d=l[i]:=by
 rw[Yl,List.getElem?_eq_getElem h];rfl
theorem IU{l:List UInt8}(h:0<l.length):l.headD 0=l[0]:=by
 cases l with
 | nil=>simp at h
 | cons a l=>rfl
def cV(c:UInt8)(l:List UInt8):Int:=if l.idxOf c<l.length then (l.idxOf c:Int) else -1
theorem IV(c:UInt8):∀l:List UInt8,Go.Lib.indexByte l c=cV c l
 | []=>rfl
 | b::l=>by
  unfold Go.Lib.indexByte;rw[IV c l];unfold cV;rw[List.idxOf_cons,V9]
  cases e:(b == c) with
  | true=>simp
  | false=>
   simp only[cond_false,WZ,if_false,Nat.add_lt_add_iff_right]
   split
   .rename_i h;rw[V0 (by rw[beq_iff_eq];omega)];omega
   .rfl
theorem idxU_ge(c:UInt8)(l:List UInt8):-1<=cV c l/\cV c l<l.length:=by
 unfold cV;split <;> omega
theorem idxU_mem(c:UInt8)(l:List UInt8):0<=cV c l↔c∈l:=by
 unfold cV;rw[<-List.idxOf_lt_length_iff]
 split <;> rename_i h
 .exact⟨λ_=>h,λ_=>by omega⟩
 .exact⟨λh=>by omega,λa=>V2 a h⟩
section
variable {F L:List aE}{H:aD}{K:KE}
theorem natIdx{s:Fa}{c:Int}:pK Tryz.prog 378 #[.string s,.int .u8 c] (aC (cV c.toNat.toUInt8 (aZ s))):=by
 intro w;have h:(callFunc 378 #[.string s,.int .u8 c]).run Tryz.prog w=(do let v <-Extern.BytealgIndexByte.indexByte #[.string s,.int .u8 c];pure (Next.value v)).run Tryz.prog w:=by kernel_rfl
 rw[h];have a:=Go.Lib.run_indexByteString (P:=Tryz.prog) s c w;simp only[Sem.run_bind,a,IV];rfl
theorem Sa{s:Fa}{c:Int}(k:K (aC (cV c.toNat.toUInt8 (aZ s))) H):CF 325 #[.string s,.int .u8 c] H K:=
 cM 325 28 (cM 362 28 ⟨_,natIdx,_,rfl,k⟩)
theorem IW{s:Fa}:bV Tryz.prog 279 #[.string s] H (.bool (jZ s)):=by
 refine O0 ?_;refine⟨λa=>?_,λa=>?_,λa=>?_,λa=>?_⟩
 .simp only[VK,V8]at a;omega
 .simp only[VK,V8]at a;omega
 .have:jZ s=false:=by
   cases e:jZ s
   .rfl
   .unfold jZ lowC at e;simp only[V7,V6]at e;simp only[VN,V6]at a;obtain⟨⟨⟨e1,e2⟩,e3,e4⟩,-⟩:=e;have w:=lN s;have hb:bAt s 0=((aZ s)[0]'(by omega)).toNat:=wK (by omega);have d:(aZ s).headD 0=(aZ s)[0]'(by omega):=IU (by omega);rw[d]at e3 e4;omega
  rw[this];exact⟨rfl,rfl⟩
 .simp only[VK,V8]at a;obtain⟨⟨⟨c1,c2⟩,c3⟩,c4⟩:=a;have w:=lN s;have hb:bAt s 0=((aZ s)[0]'(by omega)).toNat:=wK (by omega);have d:(aZ s).headD 0=(aZ s)[0]'(by omega):=IU (by omega);have n:jZ s=(aZ s).all pu:=by
   unfold jZ;rw[d];unfold lowC;rw[VS (by omega),VS (by omega),VS (by omega),VS (by omega)];simp
  rw[n];refine⟨λi u=>u=H/\∃j:Nat,i=j/\j<=s.size/\∀q (c:q<(aZ s).length),q<j->pu (aZ s)[q]=true,λi _=>s.size-i.toNat,⟨rfl,0,rfl,by omega,λq _ h=>by omega⟩,?_⟩
  rintro i y ⟨rfl,j,rfl,A,m⟩;refine⟨λa=>?_,λa=>?_⟩
  .have f:j<s.size:=by have:=V4 a;omega
   have b:j<(aZ s).length:=by omega
   refine⟨by omega,?_⟩;rw[VD,wK b];refine⟨λk=>?_,λk=>?_⟩
   .simp only[V7,VN,V6,VY,V8]at k;rw[wL b (by unfold pu lowC;simp only[VK,Wl,V8];omega)];exact⟨rfl,rfl⟩
   .rw [aK (x:=(j:Int)+1)];refine⟨⟨rfl,j+1,by omega,f,λq c v=>?_⟩,by dsimp only;omega⟩
    by_cases hqj:q=j
    .subst hqj;unfold pu lowC;simp only[Wl,VK,V8,Wm,V6]at k;simp only[VN,V7,V6];omega
    .exact m q c (by omega)
  .have t:s.size<=j:=by have:=V5 a;omega
   rw[Am λq c=>m q c (by omega)]
   exact⟨rfl,rfl⟩
theorem Sb{l:bS}(h:aA H F)(k:∀n,aA n F->K (.bool (ik l)) n):CF 280 #[.agg #[.string l.name,.string l.value]] H K:=by
 refine Oz ?_;refine h.al λb _ h=>?_
 refine⟨_,h.r 0,λf=>?_,λf=>?_⟩
 .have:ik l=false:=by
   unfold ik;rw[Wp (by have:=V4 f;omega)];rfl
  rw[<-this];exact k _ h.tl
 .have hs:l.value.size<=64:=by have:=V5 f;omega
  have C:=lN l.value;refine⟨λi n=>∃j:Nat,i=j/\j<=l.value.size/\(∀q (m:q<(aZ l.value).length),q<j->valC (aZ l.value)[q]=true)/\aA n (cellsA b [.string l.name,.string l.value] 421::F),λi _=>l.value.size-i.toNat,⟨0,rfl,by omega,λq _ h=>by omega,h⟩,?_⟩
  rintro i A ⟨j,rfl,B,t,h⟩;refine⟨_,h.r 0,λf=>?_,λf=>?_⟩
  .have s:j<l.value.size:=by have:=V4 f;omega
   have a:j<(aZ l.value).length:=by omega
   refine⟨_,h.r 0,by omega,?_⟩;intro u w;rw[VD,wK a];have c:u (!valC (aZ l.value)[j]) A:=by
    refine w _ _ ?_;refine⟨λd=>?_,λd=>?_⟩
    .have:ik l=false:=by
      unfold ik;rw[wL a (by simpa using d)];simp
     rw[<-this];exact k _ h.tl
    .rw [aK (x:=(j:Int)+1)];refine⟨⟨j+1,by omega,s,λq m y=>?_,h⟩,by dsimp only;omega⟩
     by_cases hqj:q=j
     .subst hqj;simpa using d
     .exact t q m (by omega)
   refine⟨λd=>?_,λd=>?_⟩
   .simp only[VK,V8]at d;refine Sa ⟨_,rfl,?_⟩;have:decide (0<=cV (((aZ l.value)[j].toNat:Int).toNat.toUInt8) (aZ ⟨#[44,61,123,125]⟩))=!valC (aZ l.value)[j]:=by
     rw[Wi,V6,idxU_mem];have e:((aZ l.value)[j].toNat:Int).toNat.toUInt8=(aZ l.value)[j]:=by simp
     rw[e];unfold valC;rw[VS (by omega),VS (by omega)];simp
    dsimp only;rw[this];exact c
   .have:valC (aZ l.value)[j]=false:=by
     unfold valC;simp only[VK,V8]at d;simp only[Wl,V8];omega
    rw[this]at c;exact c
  .have v:l.value.size<=j:=by have:=V5 f;omega
   refine⟨_,h.r 0,_,IW,?_⟩;have:ik l=jZ l.name:=by
    unfold ik;rw[VS hs,Am λq m=>t q m (by omega)]
    simp
   rw[<-this];exact k _ h.tl
theorem qF{name:Fa}{a:KQ}{c:Nat}{labs:List bS}(h:aA H F)(t:∀H,aA H F->aP H a (flat dg labs))
  (k:∀s,aA s F->K (.bool (fx name labs)) s):CF 226 #[.agg #[.string name,.slice a labs.length c]] H K:=by
 refine OE ?_;refine h.al λb _ h=>?_
 refine⟨_,h.r 0,_,IW,_,_,_,λ_=>h.r 0,λd=>?_,λd=>?_⟩
 .have:fx name labs=false:=by
   unfold fx;simp only[VN,VY,V6]at d
   rcases d with d|d
   .rw [d];rfl
   .rw [Wp (p:=labs.length<=8) (by omega)];simp
  rw[<-this];exact k _ h.tl
 .simp only[VK,Wm,V8]at d;obtain⟨c1,c2⟩:=d;have v:fx name labs=(List.range labs.length).all (pw labs):=by
   unfold fx;rw[c1,VS (by omega)];simp
  refine⟨_,_,_,h.r 0,?_⟩;refine⟨λi s=>∃j:Nat,i=j/\j<=labs.length/\(∀q,q<j->pw labs q=true)/\aA s (cellsA b [.string name,.slice a labs.length c] 79::F),λi _=>labs.length-i.toNat,⟨0,rfl,by omega,λq h=>by omega,h⟩,?_⟩
  rintro i E ⟨j,rfl,G,u,h⟩;refine⟨λd=>?_,λd=>?_⟩
  .have f:j<labs.length:=by have:=V4 d;omega
   have m:=t _ h.tl;refine⟨by omega,_,_,m.some iW (by omega) f,_,_,m.els iW f,?_⟩;refine h.al λb2 _ h=>?_
   refine h.st 0 rfl rfl ?_;intro C h;refine⟨_,_,h.q 0,?_⟩;refine Sb (l:=labs[j]) h λD h=>⟨_,rfl,?_⟩
   have m:=t _ h.tl.tl;have w:0<j->i64.wrap ((j:Int)-1)=((j-1:Nat):Int):=λh=>by rw[aK];omega
   have hs:pw labs j=(ik labs[j]&&(decide (j=0)||Op.bytesLess (labs.getD (j-1) bS.z).name.toList labs[j].name.toList)):=by
    unfold pw;rw[ov bS.z f]
   refine⟨a,labs.length,c,λ_=>h.r 1,λn=>?_,_,_,λn=>m.some iW (by omega) f,(labs.getD (j-1) bS.z).name,λn=>?_,labs[j].name,λ_=>h.r 0,λd=>?_,λd=>?_⟩
   .have h0:=V4 n.2;rw[w (by omega)];omega
   .have h0:=V4 n.2;rw[w (by omega),VD];exact m.el0 iW (k:=j-1) (by omega) (by rw[ov bS.z (by omega)];rfl)
   .have:fx name labs=false:=by
     rw[v]
     cases e:(List.range labs.length).all (pw labs)
     .rfl
     .rw [Ak]at e;have e:=e j f;rw[hs]at e;simp only[VN,V7,VY,V6]at e d
      rcases d with d|d
      .rw [d]at e;simp at e
      .rcases e.2 with e2|e2
       .omega
       .rw [d.2]at e2;simp at e2
    rw[<-this];exact k _ h.tl.tl
   .rw [aK (x:=(j:Int)+1)];refine⟨⟨j+1,by omega,f,λq A=>?_,h.tl⟩,by dsimp only;omega⟩
    by_cases hqj:q=j
    .subst hqj;rw[hs];simp only[VK,Wl,Wm,V8]at d;simp only[VN,V7,V6];refine⟨d.1,?_⟩
     rcases d.2 with e|e
     .left;omega
     .right;exact e
    .exact u q (by omega)
  .have y:labs.length<=j:=by have:=V5 d;omega
   have:fx name labs=true:=by rw[v,Ak];exact λq B=>u q (by omega)
   rw[<-this];exact k _ h.tl
end
def fA(l:bS):Fa:=(l.name++(⟨#[61]⟩:Fa))++l.value
def kg(labs:List bS):Fa:=⟨(Go.Lib.join ((labs.map fA).map aZ) [44]).toArray⟩
def gC(name:Fa)(labs:List bS):Fa:=
 if fx name labs then (if labs=[] then name else ((name++(⟨#[123]⟩:Fa))++kg labs)++(⟨#[125]⟩:Fa)) else ⟨#[]⟩
theorem Sc{α:Type}(f:α->Value)(z:Value)(l:List α)(j:Nat)(h:j<l.length) :
  cv ((l.take j).map f++List.replicate (l.length-j) z) j [f l[j]]=(l.take (j+1)).map f++List.replicate (l.length-(j+1)) z:=by
 have e:l.length-j=(l.length-(j+1))+1:=by omega
 rw[e,YB];have a:((l.take j).map f).length=j:=by rw[VH,VU];omega
 have:=tw [f l[j]] ((l.take j).map f) (z::List.replicate (l.length-(j+1)) z) 0;simp only[a,WJ]at this;rw[this,Wj h,VT];simp[cv]
theorem join_le{n:Nat}:∀{xs:List (List UInt8)},(∀x∈xs,x.length<=n)->(Go.Lib.join xs [44]).length<=(n+1)*xs.length
 | [],_=>by simp[Go.Lib.join,List.intercalate]
 | x::r,h=>by
  rw[Go.Lib.join_length];have:∀{l:List (List UInt8)},(∀x∈l,x.length<=n)->Go.Lib.lens l<=n*l.length:=by
   intro l
   induction l with
   | nil=>intro _;simp[Go.Lib.lens]
   | cons y l ih=>
    intro h;have a:=ih λx b=>h x (VL _ b)
    have c:=h y (VM ..);simp only[Go.Lib.lens,Wa,WW,V9,Nat.mul_succ]at a ⊢;omega
  have a:=this h;simp only[V9,VW,VQ,Nat.one_mul,Nat.mul_succ,Wn]at a ⊢;omega
theorem si(x y:Fa):(x++y).size=x.size+y.size:=ByteArray.size_append
theorem sj{s:Fa}(h:jZ s=true):s.size<=64/\1<=s.size:=by
 unfold jZ at h;simp only[V7,V6]at h;omega
theorem sk{l:bS}(h:ik l=true):l.name.size<=64/\l.value.size<=64:=by
 unfold ik at h;simp only[V7,V6]at h;exact⟨(sj h.2).1,h.1.1⟩
theorem Sd(l:bS):(fA l).size=l.name.size+1+l.value.size:=by
 unfold fA;rw[si,si];rfl
structure RightP(name:Fa)(labs:List bS):Prop where
 named:jZ name=true
 len:labs.length<=8
 val:∀l∈labs,ik l=true
 step:∀i,i<labs.length->pw labs i=true
theorem mI{name:Fa}{labs:List bS}(h:fx name labs=true):RightP name labs:=by
 unfold fx at h;simp only[V7,V6,Ak]at h;refine⟨h.1.1,h.1.2,λl a=>?_,h.2⟩
 obtain⟨i,hi,rfl⟩:=Wu a;have:=h.2 i hi;unfold pw at this;rw[ov bS.z hi]at this;simp only[V7]at this;exact this.1
theorem joinL_le{labs:List bS}(h:∀l∈labs,ik l=true):(Go.Lib.join ((labs.map fA).map aZ) [44]).length<=130*labs.length:=by
 have:=join_le (n:=129) (xs:=(labs.map fA).map aZ) (by
  intro x a;rw[Wr,VB]at a;obtain⟨l,b,rfl⟩:=a;have:=sk (h l b);show (aZ (fA l)).length<=129;rw[lN,Sd];omega)
 simpa using this
theorem Se{labs:List bS}:(kg labs).size=(Go.Lib.join ((labs.map fA).map aZ) [44]).length:=by
 unfold kg;show Array.size _=_;simp
theorem rdS_some{H:aD}{a:KQ}{cs:Os}(h:aP H a cs)(b:0<cs.length):a=some ⟨aU a,aS a,none⟩:=(h 0 _ (vJ b)).1
theorem Tryz.joinX:Builder.Extra Tryz.prog Tryz.joinA_ren where
 sizeBuilder:=by kernel_rfl
 liesBuilder:=by kernel_rfl
 t5:=Tryz.underlying5
 a5:=Tryz.isAgg5
 z5:=Tryz.sizeOf5
 v5:=Tryz.zeroValue5
 infoByte:=by kernel_rfl
 cellsByte:=by kernel_rfl
 sizeByte:=by kernel_rfl
 neB5:=by decide
section
variable {F L:List aE}{H:aD}{K:KE}
theorem Join_spec{a:KQ}{c:Nat}{xs:List Fa}(h:aA H L)(d:aP H a (xs.map λs=>.string s))(h0:0<xs.length)(v:xs.length<=1000000)(u:xs.length<=c)
  (m:(Go.Lib.join (xs.map aZ) [44]).length<=1000000000)
  (k:∀i,aA i L->K (.string ⟨(Go.Lib.join (xs.map aZ) [44]).toArray⟩) i):CF 289 #[.slice a xs.length c,.string ⟨#[44]⟩] H K:=by
 refine .mk λw n=>?_
 subst n;have hs:=rdS_some d (by simpa using h0);rw[hs]at d ⊢;have b:∀(j:Nat) x,xs[j]?=some x->w.cell? ⟨aU a,aS a+j,none⟩=some (.string x):=by
  intro j x t;rw[cell?_cellAt];exact (d j (.string x) (by rw[fO,List.getElem?_map,t];rfl)).2
 have f:aU a<w.heap.size:=by
  have:=b 0 xs[0] (List.getElem?_eq_getElem h0);rw[cell?_cellAt]at this;unfold aL at this
  cases e:w.heap[aU a]? with
  | none=>rw[e]at this;cases this
  | some o=>exact (Array.getElem?_eq_some_iff.1 e).1
 refine jj (Any.strings_Join Tryz.joinA Tryz.joinX (aU a) (aS a) c xs ⟨#[44]⟩ w b f (by omega) u (by show (Go.Lib.join (xs.map aZ) [44]).length<=_;omega)) ?_;rintro e y ⟨rfl,hb⟩;exact⟨_,rfl,tA hb,k _ (h.grow (rF hb))⟩
theorem sl294:SlT Tryz.prog 408 9 1 16:=iP (by kernel_rfl)
theorem Sf{name:Fa}{a:KQ}{c:Nat}{labs:List bS}(h:aA H F)(A:∀H,aA H F->aP H a (flat dg labs))
  (k:∀n,aA n F->K (.string (gC name labs)) n):CF 239 #[.agg #[.string name,.slice a labs.length c]] H K:=by
 refine OC ?_;refine h.al λb _ h=>?_
 refine⟨_,_,_,_,h.q 0,?_⟩;refine qF h (λH h=>A H h.tl) λM h=>⟨_,rfl,λf=>?_,λf=>?_⟩
 .have:gC name labs=⟨#[]⟩:=by unfold gC;rw[V0 (by simpa using f)]
  rw[<-this];exact k _ h.tl
 .simp only[Wm]at f;have s:=mI f;refine⟨_,_,_,h.r 0,λm=>?_,λm=>?_⟩
  .have m:=V4 m;have E:labs=[]:=WH.1 (by omega);refine⟨_,h.r 0,?_⟩;have:gC name labs=name:=by unfold gC;rw[V1 f,V1 E]
   rw[<-this];exact k _ h.tl
  .have m:=V5 m;have J:=s.len;refine⟨_,_,_,h.r 0,?_⟩;refine h.mk1 sl294 (z0:=.string ⟨#[]⟩) (by kernel_rfl) (by kernel_rfl) (by omega) (by omega) λpa Q h=>?_
   refine⟨_,_,_,rfl,_,_,_,h.r 1,?_⟩;refine⟨λi n=>∃j:Nat,i=j/\j<=labs.length/\aA n (slA 9 1 pa labs.length labs.length ((labs.take j).map (λl=>.string (fA l))++List.replicate (labs.length-j) (Value.string ⟨#[]⟩))::cellsA b [.string name,.slice a labs.length c] 79::F),
    λi _=>labs.length-i.toNat,⟨0,rfl,by omega,by simpa using h⟩,?_⟩
   rintro i M ⟨j,rfl,N,h⟩;refine⟨λf=>?_,λf=>?_⟩
   .have d:j<labs.length:=by have:=V4 f;omega
    have B:=A _ h.tl.tl;have T:=sk (s.val _ (VF d));refine⟨by omega,_,_,B.some iW (by omega) d,_,_,B.els iW d,?_⟩;refine h.al λb2 _ h=>?_
    refine h.st 0 rfl rfl ?_;intro R h;refine⟨_,h.r 0,?_,_,h.r 0,?_,by omega,?_⟩
    .show (((labs[j].name.size+1:Nat)):Int)<=9223372036854775807;omega
    .show ((((labs[j].name++(⟨#[61]⟩:Fa)).size+labs[j].value.size:Nat)):Int)<=9223372036854775807;rw[si];show ((labs[j].name.size+1+labs[j].value.size:Nat):Int)<=9223372036854775807;omega
    .have u:((labs.take j).map (λl=>Value.string (fA l))++List.replicate (labs.length-j) (Value.string ⟨#[]⟩)).length=labs.length:=by
      rw[V3,VH,VU,List.length_replicate];omega
     obtain⟨I,L,C⟩:=h.sl_set 1 rfl j [.string (fA labs[j])] (by rw[u];simp;omega) (by simp);rw[Sc (λl=>Value.string (fA l)) _ labs j d]at C
     rw[VD];refine⟨_,_,I,L,?_⟩;intro S O;rw[aK (x:=(j:Int)+1)];refine⟨⟨j+1,by omega,d,?_⟩,by dsimp only;omega⟩;rw[O];exact C.tl
   .have v:labs.length<=j:=by have:=V5 f;omega
    have e1:labs.take j=labs:=VZ v;have e2:labs.length-j=0:=by omega
    rw[e1,e2,List.replicate_zero,Wc]at h;have N:=joinL_le s.val;have G:=Se (labs:=labs);have D:=sj s.named;refine⟨_,h.r 1,?_,?_⟩
    .show (((name.size+1:Nat)):Int)<=9223372036854775807;omega
    have t:=h.sl_rd 0 rfl;have w:(labs.map fA).length=labs.length:=VH ..;rw[<-w];refine Join_spec (xs:=labs.map fA) h (by rw[Wr];exact t) (by omega) (by omega) (by omega) (by omega) λP h=>⟨_,rfl,h.r 1,?_,?_,?_⟩
    .show (((name++(⟨#[123]⟩:Fa)).size+(kg labs).size:Nat):Int)<=9223372036854775807;rw[si];show (((name.size+1)+(kg labs).size:Nat):Int)<=9223372036854775807;omega
    .show ((((name++(⟨#[123]⟩:Fa))++kg labs).size+1:Nat):Int)<=9223372036854775807;rw[si,si];show (((name.size+1)+(kg labs).size+1:Nat):Int)<=9223372036854775807;omega
    .have:gC name labs=((name++(⟨#[123]⟩:Fa))++kg labs)++(⟨#[125]⟩:Fa):=by
      unfold gC;rw[V1 ‹_›,V0 (by intro e;rw[e]at m;simp at m)]
     have y:=k _ h.tl.tl;rw[this]at y;exact y
end
theorem An{α:Type}{p:α->Bool}:∀{l:List α} {j:Nat},(∀i (h:i<l.length),i<j->p l[i]=true)->(∀h:j<l.length,p l[j]=false)->l.takeWhile p=l.take j
 | [],j,_,_=>by simp
 | a::r,0,_,h2=>by
  have:p a=false:=h2 (by simp);simp[List.takeWhile,this]
 | a::r,j+1,h1,h2=>by
  have e:p a=true:=h1 0 (by simp) (by omega);simp only[List.takeWhile,e,WL];rw[An (λi h hi=>h1 (i+1) (by simpa using h) (by omega)) λh=>h2 (by simpa using h)]
theorem Sg(m:CM)(l r:List Ot):lM m (l++r)=lM (lM m l) r:=by unfold lM;rw[WX]
section
variable {sb mb:Nat}{most:Int}{m:CM}{F L:List aE}{H:aD}{K:KE}
def clA(sb mb b b1 b2 l:Nat)(most:Int)(m:CM)(before:Int)(R:Loop)(j:Nat)(p:Prop):aE:=exS λq:KQ×Nat=>
 star [cellsA b [PA sb 0] 141,cellsA b1 [aC before] 2,cellsA b2 [.slice q.1 ((bA m).take j).length q.2] 143,slA 164 74 q.1 ((bA m).take j).length q.2 (flat cI ((bA m).take j)),
  shC sb mb most,cz mb (lM m ((bA m).take j)),pt l (.loop R),pur p]
abbrev um(m:CM)(before:Int)(j:Nat):Prop:=∀i (h:i<(bA m).length),i<j->(bA m)[i].1.win<before
theorem Si(M:m.length<=1000000){d:Int}(h:aA H (shC sb mb most::cz mb m::F))
  (k:∀a c s,aA s (slA 164 74 a (iC m d).length c (flat cI (iC m d))::shC sb mb most::cz mb (nN m d)::F)->K (.slice a (iC m d).length c) s) :
  CF 159 #[PA sb 0,aC d] H K:=by
 refine OI ?_;have J:(bA m).length=m.length:=uk m;refine h.al λb _ h=>h.al λb1 _ h=>h.al λb2 _ h=>⟨_,h.r 2,?_⟩
 refine IS h λc0 n h=>⟨_,_,rfl,rfl,λR t u Q=>?_⟩
 have h:=h.rng R;have h:=h.sl_nil 164 74;refine IT (m:=m) (sb:=sb) (mb:=mb) (most:=most) M (λj=>clA sb mb b b1 b2 (n.size+1) most m d R j (um m d j))
  (λj=>clA sb mb b b1 b2 (n.size+1) most m d { R with state:=.done,pending:=some (.exit 0) } j (um m d j/\∀h:j<(bA m).length,¬(bA m)[j].1.win<d))
  (star [slA 164 74 none 0 0 [],cellsA b2 [.slice none 0 0] 143,cellsA b1 [aC d] 2,cellsA b [PA sb 0] 141,pt (n.size+1) (.loop R)]) (F:=pt n.size (.deferred (some []))::F) ?_ ?_ ?_ ?_ ?_
 .have h:=aA.shut [_,_,_,_,_] (h.o [0,4,5,6,1,3,7,8,2] 9);exact h.o [1,2,3,0,4] 5
 .intro G s h;have h:=(aA.open (A:=[_,_,_,_,_]) (h.o [2,0,1] 3)).pur (p:=um m d 0) (λi _ hi=>V2 hi (Nat.not_lt_zero i))
  exact cJ.2 ⟨(none,0),aA.shut [_,_,_,_,_,_,_,_] (h.o [4,3,2,1,6,7,5,0] 8)⟩
 .intro j B G y Z h S I;obtain⟨⟨a,c⟩,h⟩:=cJ.1 h;have h:=aA.open (A:=[_,_,_,_,_,_,_,_]) h;have e:=(aA.consP (h.o [7] 8)).1;refine Q _ _ _ ?_;refine⟨_,_,_,_,_,_,_,_,_,_,rfl,h.getO 6 rfl,?_⟩;refine h.al λb3 _ h=>?_
  refine h.sta 0 rfl rfl λU h=>?_
  refine h.al λb4 _ h=>?_
  refine h.sta 0 rfl (by rw[kW];exact (kW Cl.z).symm) λV h=>⟨h.getO 8 rfl,h.stl 8 rfl λT h=>?_⟩
  refine⟨_,h.r 1,_,h.r 3,λv=>?_,λv=>?_⟩
  .have O:=V4 v;refine⟨h.getO 8 rfl,I _ ?_⟩;have h:=h.setO 8 rfl (.loop { R with state:=.done,pending:=some (.exit 0) });have f:um m d j/\∀h:j<(bA m).length,¬(bA m)[j].1.win<d:=⟨e,λ_=>by omega⟩
   have h:=(h.o [2,3,4,5,6,7,8] 10).pur f;exact cJ.2 ⟨(a,c),aA.shut [_,_,_,_,_,_,_,_] (h.o [1,2,3,4,5,6,7,0] 8)⟩
  .have C:=V5 v;refine⟨_,_,_,h.r 4,_,_,h.rda 1 rfl,_,_,_,_,_,_,_,_,h.rda 0 rfl,?_⟩;rintro b5 _ rfl rfl;have N:((bA m).take j).length<=1000000:=by rw[VU];omega
   refine h.append1 (ws:=cI (bA m)[j]) sl86 5 rfl (iX _) (sf _) (by omega) (by omega) λE L W h=>⟨_,_,_,rfl,?_⟩
   refine h.sta 4 rfl rfl λH7 h=>⟨_,h.r 2,cZ ⟨_,h.r 6,_,_,h.rda 1 rfl,?_⟩⟩
   refine h.mp_delete (x:=(bA m)[j].1) mtC koK 7 rfl λY h=>⟨h.getO 8 rfl,S _ ?_⟩
   have h:=h.setO 8 rfl (.loop R);have f:um m d (j+1):=λi hi P=>by
    rcases VV i j with w|w
    .exact e i hi w
    .obtain rfl:i=j:=by omega
     omega
   have h:=(h.o [2,3,4,5,6,7,8] 10).pur f;refine cJ.2 ⟨(E,L),aA.shut [_,_,_,_,_,_,_,_] ?_⟩;rw[Wj B,dR,ny,Sg,V3];exact h.o [1,2,3,4,5,6,7,0] 8
 .intro y h;obtain⟨⟨a,c⟩,h⟩:=cJ.1 h;have h:=aA.open (A:=[_,_,_,_,_,_,_,_]) h;have e:=(aA.consP (h.o [7] 8)).1;have ec:iC m d=(bA m).take (bA m).length:=An (λi h hi=>VS (e i h hi)) λh=>V2 h (Nat.lt_irrefl _)
  unfold nN at k;rw[ec]at k;refine⟨.ready,none,by decide,by rw[nC t u];exact h.getO 6 rfl,h.stl 6 rfl λD h=>.inl ⟨rfl,?_⟩⟩
  refine⟨_,_,_,h.r 2,h.getO 8 rfl,?_⟩;have h:=h.setO 8 rfl (.deferred none);exact k a c _ (h.o [3,4,5] 9)
 .intro j y B h;obtain⟨⟨a,c⟩,h⟩:=cJ.1 h;have h:=aA.open (A:=[_,_,_,_,_,_,_,_]) h;have e:=(aA.consP (h.o [7] 8)).1;have ec:iC m d=(bA m).take j:=An (λi h hi=>VS (e.1 i h hi)) λh=>Wp (e.2 h)
  unfold nN at k;rw[ec]at k;refine⟨.done,some (.exit 0),by decide,h.getO 6 rfl,h.stl 6 rfl λD h=>.inr ⟨rfl,?_⟩⟩
  refine⟨_,_,_,h.r 2,h.getO 8 rfl,?_⟩;have h:=h.setO 8 rfl (.deferred none);exact k a c _ (h.o [3,4,5] 9)
end
def wNat(z:Int)(p:Nat):Nat:=if p<8 then (cx z%B64).toNat/2^(8*(7-p))%256 else (wlo z).toNat/2^(8*(15-p))%256
def dL(z:Int):List Int:=(List.range 16).map λp=>(wNat z p:Int)
def il(z:Int)(t:Nat):List Int:=(List.range 16).map λp=>if (p<=7/\7<p+t)\/(8<=p/\15<p+t) then (wNat z p:Int) else 0
theorem Sj(z:Int)(t:Nat):(il z t).length=16:=by simp[il]
theorem sq(z:Int):(dL z).length=16:=by simp[dL]
theorem Sk(z:Int):aH (dL z):=by
 intro x a;obtain⟨p,_,rfl⟩:=VB.1 a;unfold wNat
 split <;> omega
theorem Sl(z:Int):il z 0=List.replicate 16 0:=by
 refine W3 (by simp[il]) λi a b=>?_
 have:i<16:=by simpa[il] using a
 simp only[il,Wx,YE,List.getElem_replicate];rw[nO]
theorem Sm(z:Int):il z 8=dL z:=by
 refine W3 (by simp[il,dL]) λi a b=>?_
 have:i<16:=by simpa[il] using a
 simp only[il,dL,Wx,YE];rw[pO]
theorem So(z:Int){t:Nat}(b:t<8):((il z t).set (7-t) (wNat z (7-t):Int)).set (15-t) (wNat z (15-t):Int)=il z (t+1):=by
 refine W3 (by simp[il]) λi a c=>?_
 have hi:i<16:=by simpa[il] using a
 simp only[List.getElem_set,il,Wx,YE]
 by_cases e1:15-t=i
 .rw [V1 e1,pO,e1]
 .rw [V0 e1]
  by_cases e2:7-t=i
  .rw [V1 e2,pO,e2]
  .rw [V0 e2]
   by_cases e3:(i<=7/\7<i+t)\/(8<=i/\15<i+t)
   .rw [V1 e3,pO]
   .rw [V0 e3,nO]
def kh(l:List Int):Nat:=l.foldl (λa b=>a*256%18446744073709551616+b.toNat) 0
theorem wM(l:List Int)(b:Int):kh (l++[b])=kh l*256%18446744073709551616+b.toNat:=by unfold kh;rw[WX];rfl
theorem IY{l:List Int}(h:aH l):kh l<18446744073709551616:=by
 rcases Y7 l with rfl|⟨r,b,rfl⟩
 .exact Yo rfl
 .rw [Y8]at h ⊢;rw[wM];have:=h b (by simp);omega
def jo(bs:List Int):Int:=i64.wrap (kh (bs.take 8):Nat)*B64+(kh (bs.drop 8):Nat)
theorem IZ{a:Nat}{b:Int}(h0:0<=b)(d:b<256):aX .or .u64 (u64.wrap ((a:Int)*2^(min (Int.toNat 8) (u64.bits)))) (u64.wrap b)=((a*256%18446744073709551616+b.toNat:Nat):Int):=by
 have e1:u64.wrap ((a:Int)*2^(min (Int.toNat 8) (u64.bits)))=((a*256%18446744073709551616:Nat):Int):=by
  show u64.wrap ((a:Int)*256)=_;rw[df];omega
 have e2:u64.wrap b=((b.toNat:Nat):Int):=by rw[df];omega
 rw[e1,e2,or64 (by omega) (by omega)];congr 1;have c:a*256%18446744073709551616=2^8*(a%72057594037927936):=by omega
 rw[c];exact (YG (by show b.toNat<256;omega) _).symm
theorem Sp{bs:List Int}(h:aH bs):cx (jo bs)=i64.wrap (kh (bs.take 8):Nat)/\wlo (jo bs)=(kh (bs.drop 8):Nat):=by
 have b:=IY (l:=bs.drop 8) λx a=>h x (WE a)
 unfold jo cx wlo B64;generalize i64.wrap _=q;omega
theorem Ja(bs:List Int)(h:aH bs):ge (jo bs):=by
 have c:=IY (l:=bs.drop 8) λx a=>h x (WE a)
 have b:aF (i64.wrap (kh (bs.take 8):Nat)):=qo _;unfold aF at b;unfold jo ge B64;omega
section
variable {F L:List aE}{H:aD}{K:KE}
theorem Jb{x:Int}(h0:0<=x){t:Nat}(a:t<8):u8.wrap (Int.fdiv x (2^(min (Int.toNat (i64.wrap (8*(t:Int)))) (u64.bits))))=((x.toNat/2^(8*t)%256:Nat):Int):=by
 rw[aK (x:=8*(t:Int))];have e1:min (Int.toNat (8*(t:Int))) u64.bits=8*t:=by show min _ 64=_;omega
 obtain⟨n,rfl⟩:∃n:Nat,x=n:=⟨x.toNat,by omega⟩;rw[e1,rG,oV,VD]
theorem Sq{z:Int}(v:ge z)(h:aA H F)(k:∀a c f,aA f (slA 5 1 a 16 c ((dL z).map U8)::F)->K (.slice a 16 c) f) :
  CF 223 #[kV z] H K:=by
 refine OF ?_;refine h.al λb _ h=>?_
 refine aA.mk1 (c:=16) sl32 (z0:=U8 0) (by kernel_rfl) rfl h (by decide) (by decide) λa x h=>⟨_,_,_,rfl,?_⟩
 have e0:List.replicate 16 (U8 0)=(il z 0).map U8:=by rw[Sl];rfl
 rw[e0]at h;refine⟨λi f=>∃t:Nat,i=t/\t<=8/\aA f (slA 5 1 a 16 16 ((il z t).map U8)::cellsA b [aC (cx z),.int .u64 (wlo z)] 157::F),λi _=>8-i.toNat,⟨0,rfl,by omega,h⟩,?_⟩
 rintro i s ⟨t,rfl,y,h⟩;refine⟨λj=>?_,λj=>?_⟩
 .have d:t<8:=by have:=V4 j;omega
  have e:((il z t).map U8).length=16:=by rw[VH,Sj]
  have e7:i64.wrap (7-(t:Int))=((7-t:Nat):Int):=by rw[aK];omega
  have e15:i64.wrap (15-(t:Int))=((15-t:Nat):Int):=by rw[aK];omega
  have e8:i64.wrap (8*(t:Int))=8*(t:Int):=aK;have m:u64.wrap (cx z)=cx z%B64:=df _;have hm:0<=cx z%B64:=by unfold B64;omega
  have q1:(cx z%B64).toNat/2^(8*t)%256=wNat z (7-t):=by unfold wNat;rw[pO,show 7-(7-t)=t by omega]
  have q2:(wlo z).toNat/2^(8*t)%256=wNat z (15-t):=by unfold wNat;rw[nO,show 15-(15-t)=t by omega]
  refine⟨_,h.r 1,by rw[e8];omega,?_⟩;rw[m,Jb hm d,q1,e7,e15];obtain⟨s1,s2,s3⟩:=h.sl_set 0 rfl (7-t) [U8 (wNat z (7-t))] (by rw[e];simp;omega) (by simp);refine⟨⟨by omega,by omega⟩,_,_,s1,?_⟩;rw[VD];refine⟨s2,?_⟩;rintro u rfl;have h:=s3;refine⟨_,h.r 1,by rw[e8];omega,⟨by omega,by omega⟩,_,_,s1,?_⟩;rw[VD,Jb (pp z).1 d,q2];obtain⟨_,t2,t3⟩:=h.sl_set 0 rfl (15-t) [U8 (wNat z (15-t))] (by rw[oe,e];show 15-t+1<=16;omega) (by simp);refine⟨t2,?_⟩;rintro w rfl;rw[show i64.wrap ((t:Int)+1)=((t+1:Nat):Int) by rw[aK];omega];refine⟨⟨t+1,rfl,d,?_⟩,by simp only[VD];omega⟩;have n:cv (cv ((il z t).map U8) (7-t) [U8 (wNat z (7-t))]) (15-t) [U8 (wNat z (15-t))]=(il z (t+1)).map U8:=by
   rw[<-So z d,Ym,Ym];rfl
  rw[<-n];exact t3
 .have:t=8:=by have:=V5 j;omega
  subst this;rw[Sm]at h;exact k _ _ _ (h.o [0] 2)
theorem Sr{a:KQ}{c n:Nat}{bs:List Int}(v:bs.length=n)(hb:aH bs)(h:aA H F)(u:∀H,aA H F->aP H a (bs.map U8))(A:n<=1000000000)
  (k1:n≠16->∀d,aA d F->K (.tuple #[kV 0,.bool false]) d)
  (k2:n=16->∀d,aA d F->K (.tuple #[kV (jo bs),.bool true]) d):CF 301 #[.slice a n c] H K:=by
 subst v;refine Ov ?_;refine h.al λb _ h=>⟨λk=>?_,λk=>?_⟩
 .have m:bs.length≠16:=by
   intro e;rw[e]at k;simp at k
  refine h.sta 0 rfl rfl λw h=>⟨_,_,h.rda 0 rfl,k1 m _ h.tl⟩
 .have x:bs.length=16:=by simp at k;omega
  refine⟨λhi lo i d=>∃t:Nat,i=t/\t<=8/\hi=(kh (bs.take t):Nat)/\lo=(kh ((bs.drop 8).take t):Nat)/\aA d (cellsA b [aC 0,.int .u64 0] 157::F),λ_ _ i _=>8-i.toNat,⟨0,rfl,by omega,rfl,rfl,h⟩,?_⟩
  rintro hi lo i y ⟨t,rfl,B,rfl,rfl,h⟩;refine⟨λf=>?_,λf=>?_⟩
  .have s:t<8:=by have:=V4 f;omega
   have e8:i64.wrap (8+(t:Int))=((8+t:Nat):Int):=by rw[aK];omega
   have r1:=(u _ h.tl).at (j:=t) (by omega);have r2:=(u _ h.tl).at (j:=8+t) (by omega);have b1:=hb _ (VF (show t<bs.length by omega));have b2:=hb _ (VF (show 8+t<bs.length by omega));rw[e8];refine⟨by decide,⟨by omega,by omega⟩,_,_,r1.1,_,r1.2,by decide,⟨by omega,by omega⟩,_,_,r2.1,_,r2.2,?_⟩;dsimp only;rw[IZ b1.1 b1.2,IZ b2.1 b2.2];rw[show i64.wrap ((t:Int)+1)=((t+1:Nat):Int) by rw[aK];omega];refine⟨⟨t+1,rfl,s,?_,?_,h⟩,by simp only[VD];omega⟩
   .rw [Wj (by omega),wM]
   .have hd:t<(bs.drop 8).length:=by rw[VP];omega
    rw[Wj hd,wM,List.getElem_drop]
  .have:t=8:=by have:=V5 f;omega
   subst this;have e2:(bs.drop 8).take 8=bs.drop 8:=VZ (by rw[VP];omega);rw[e2];obtain⟨w1,w2⟩:=Sp hb;rw[<-w1,<-w2];refine h.sta 0 rfl rfl λw h=>⟨_,_,h.rda 0 rfl,k2 x _ h.tl⟩
end
def gR(h:Nat->Int)(n:Nat):List Nat:=(List.range n).flatMap λi=>if h i=0 then [] else [i,(h i).toNat]
theorem Ao(h:Nat->Int)(n:Nat):gR h (n+1)=gR h n++(if h n=0 then [] else [n,(h n).toNat]):=by
 unfold gR;rw[List.range_succ,W4];simp
theorem wN(h:Nat->Int):∀n,(gR h n).length<=2*n
 | 0=>by simp[gR]
 | n+1=>by
  rw[Ao,V3];have:=wN h n
  split
  .simp only[VW];omega
  .simp only[V9,VW];omega
theorem Jc{h:Nat->Int}(b:wfH h)(n:Nat)(c:n<=65):∀u∈gR h n,u<18446744073709551616:=by
 intro u a;obtain⟨i,hi,a⟩:=Yi.1 a;have hi:=WB.1 hi;have:=b i (by omega);unfold aF at this
 split at a
 .cases a
 .rcases VJ.1 a with rfl|a
  .omega
  .rw [VE]at a;omega
def dm(c:Cl):List Int:=if gh c then eK [c.n.toNat,c.cer.toNat,c.pos.toNat]++cY [c.mn,c.mx]++dd (bF (dL c.sum))++eK [(gR c.h 65).length/2]++eK (gR c.h 65) else []
theorem Ap{c:Cl}(h:gh c=true):0<=c.n/\0<=c.cer/\0<=c.pos/\(∀i,i<65->0<=c.h i):=by
 unfold gh at h;simp only[V7,VY,VK,V8]at h;obtain⟨⟨⟨⟨⟨⟨f,d⟩,e⟩,k⟩,a⟩,j⟩,b⟩:=h;exact⟨by omega,by omega,by omega,qB.1 a⟩
theorem Ss(c:Cl):aH (dm c):=by
 unfold dm
 split
 .exact dD (dD (dD (dD (zu _) (tU _)) (qu _)) (zu _)) (zu _)
 .exact kD
theorem nP(l:List Int):(bF l).size=l.length:=Go.strOfNums_size l
theorem un{c:Cl}(wc:WC c):(dm c).length<=5000:=by
 unfold dm
 split
 .rename_i e;obtain⟨p1,p2,p3,p4⟩:=Ap e;have b:=wc.n;have i:=wc.cer;have f:=wc.pos;unfold aF at b i f;have l1:(eK [c.n.toNat,c.cer.toNat,c.pos.toNat]).length<=30:=tV (by
   intro u a;simp only[VJ,W8,or_false]at a;omega)
  have l2:=mB [c.mn,c.mx];have l3:(dd (bF (dL c.sum))).length<=26:=by
   have:=lI (s:=bF (dL c.sum)) (by rw[nP,sq];decide);rw[nP,sq]at this;omega
  have d:=wN c.h 65;have l4:(eK [(gR c.h 65).length/2]).length<=10:=tV (by
   intro u a;simp only[VJ,W8,or_false]at a;omega)
  have j:=tV (Jc wc.h 65 (VA _));simp only[V3,V9,VW]at *;omega
 .simp
theorem sl285:SlT Tryz.prog 398 155 1 8:=iP (by kernel_rfl)
abbrev U64(n:Nat):Value:=.int .u64 (n:Int)
section
variable {F L:List aE}{H:aD}{K:KE}
theorem wO{v:Int}(h0:0<=v)(h:aF v):u64.wrap v=((v.toNat:Nat):Int):=by unfold aF at h;rw[df];omega
theorem dp{a a2:KQ}{n c m c2 i:Nat}{x y:List Int}(h:aA H L)(j:aW i L=slA 5 1 a n c (x.map U8))(f:n=x.length)(hm:y.length=m)(s:aP H a2 (y.map U8))(t:x.length+y.length<=1000000000)
  (k:∀d e b,aA b (put i (slA 5 1 d (x++y).length e ((x++y).map U8)) L)->K (.slice d (x++y).length e) b) :
  cB Tryz.prog (Builtin.append_ #[43,43] 43 #[.slice a n c,.slice a2 m c2]) H K:=by
 subst f hm;refine h.append sl32 i j s (by simp) (Eu _ _) (by omega) (by omega) λd e b h=>?_
 have:=k d e b;rw[V3,VT]at this;exact this h
theorem Jd{c:Cl}(wc:WC c)(h:aA H F)
  (k:∀a C U,aA U (slA 5 1 a (dm c).length C ((dm c).map U8)::F)->K (.slice a (dm c).length C) U) :
  CF 132 #[aggC c] H K:=by
 refine cL 132 (.r (.seq (.r (.cond (.r .no) .no)) (.r (.r (.r (.r (.seq (.r (.blk (.rng [sI,sI] [none] (.r .reg) (.blk .reg)))) (.r (.r .no))))))))) ?_;have d:=un wc;unfold dm at k d;refine h.al λb _ h=>⟨_,_,_,_,_,_,_,_,h.rda 0 rfl,?_⟩
 refine ui wc h λH1 h=>⟨_,rfl,λJ=>?_,λJ=>?_⟩
 .rw [V0 (by simpa using J)]at k;exact k none 0 _ (h.tl.sl_nil 5 1)
 have V:gh c=true:=by simpa using J
 rw[V1 V]at k d;obtain⟨p1,p2,p3,p4⟩:=Ap V;simp only[V3]at d;have W:=wc.n;have B:=wc.cer;have v:=wc.pos;refine⟨_,h.r 0,_,h.r 0,_,h.r 0,?_⟩;dsimp only
 conv=>whnf
 rw[wO p1 W,wO p2 B,wO p3 v];unfold aF at W B v;refine h.al λb1 _ h=>?_
 refine qv (us:=[c.n.toNat,c.cer.toNat,c.pos.toNat]) h (λH h=>h.ce_rd 0 rfl) (by
   intro u O;simp only[VJ,W8,or_false]at O;omega) (by simp) λa1 c1 H3 h=>⟨_,_,_,rfl,?_⟩
 refine⟨_,h.r 2,_,h.r 2,?_⟩;refine h.al λb2 _ h=>?_
 refine Gr (vs:=[c.mn,c.mx]) h (λH h=>h.ce_rd 0 rfl) (by simp) λa2 c2 H5 h=>⟨_,_,_,rfl,?_⟩
 refine dp h (i:=2) rfl rfl rfl (h.sl_rd 0 rfl) (by omega) λa3 c3 H6 h=>⟨_,_,_,rfl,?_⟩
 refine⟨_,_,h.rdv (l:=[_]) (vs:=[_,_]) 4 rfl rfl,?_⟩;refine Sq wc.sum h λa4 c4 H7 h=>⟨_,_,_,rfl,?_⟩
 have hs:=oX (c:=c4) (bs:=dL c.sum) (slB_is (k:=0) (c:=c4) h |> λhh=>by
  rcases (kz (F:=star _) h).2 with ⟨E,_⟩|⟨b,pre,post,e',fr,E,_⟩
  .exact .inl E
  .exact .inr ⟨_,_,E⟩) (h.sl_rd 0 rfl)
 rw[sq]at hs;refine⟨_,hs,?_⟩;refine h.al λb3 _ h=>?_
 have I:(bF (dL c.sum)).size=16:=by rw[nP,sq]
 have t:dC [bF (dL c.sum)]=dd (bF (dL c.sum)):=by simp[dC]
 have h5:(dd (bF (dL c.sum))).length<=26:=by have:=lI (s:=bF (dL c.sum)) (by omega);omega
 refine wr (ts:=[bF (dL c.sum)]) h (λH h=>h.ce_rd 0 rfl) (λi=>by
   rcases Yx i with rfl|hi
   .simp [dC]
   .rw [VZ (show [bF (dL c.sum)].length<=i from hi),t];omega) (by intro s y;rw[VE]at y;rw[y,I];decide) (by simp) λa5 c5 H9 h=>⟨_,_,_,rfl,?_⟩
 rw[t]at h ⊢;refine dp h (i:=5) rfl rfl rfl (h.sl_rd 0 rfl) (by simp only[V3];omega) λa6 c6 Z h=>⟨_,_,_,rfl,?_⟩
 refine h.al λb4 _ h=>⟨c.h,h.rdt (l:=[_,_,_,_,_,_,_]) 8 rfl rfl,?_⟩
 have h:=h.o [0,6] 9;refine IH h λfb w h=>⟨_,_,rfl,rfl,λR L T hy=>?_⟩
 have h:=h.rng R;have h:=h.sl_nil 155 1;refine II (f:=c.h) (λj=>exS λp:KQ×Nat=>star [cellsA b4 [.slice p.1 (gR c.h j).length p.2] 398,slA 155 1 p.1 (gR c.h j).length p.2 ((gR c.h j).map U64),pt (w.size+1) (.loop R)]) (pur False)
  (F:=pt w.size (.deferred (some []))::slA 5 1 a6 (eK [c.n.toNat,c.cer.toNat,c.pos.toNat]++cY [c.mn,c.mx]++dd (bF (dL c.sum))).length c6 ((eK [c.n.toNat,c.cer.toNat,c.pos.toNat]++cY [c.mn,c.mx]++dd (bF (dL c.sum))).map U8)::F) ?_ ?_ ?_ ?_ ?_
 .exact cJ.2 ⟨(none,0),aA.shut [_,_,_] (h.o [4,0,1,3,2,5] 6)⟩
 .intro j P hz;rw[show gR c.h (j+1)=gR c.h j by rw[Ao,V1 hz,Wc]]
 .intro j P M G x K1 h kt _;obtain⟨⟨a,C⟩,h⟩:=cJ.1 h;have h:=aA.open (A:=[_,_,_]) h;refine hy _ _ _ ?_;have Q:=wN c.h j;have S:=wc.h j P;have N:=p4 j P;refine⟨_,_,rfl,h.getO 2 rfl,h.getO 2 rfl,h.stl 2 rfl λY h=>⟨_,_,_,h.r 0,?_⟩⟩
  conv=>whnf
  rw[wO N S,u64n (show j<18446744073709551616 by omega)];refine h.al λb5 _ h=>?_
  refine h.append (m:=2) (ws:=[U64 j,U64 (c.h j).toNat]) sl285 2 rfl (h.ce_rd 0 rfl) rfl rfl (by omega) (by omega) λa' D h4 h=>⟨_,_,_,rfl,?_⟩
  refine h.sta 1 rfl rfl λj1 h=>⟨h.getO 3 rfl,kt _ ?_⟩
  have h:=h.setO 3 rfl (.loop R);refine cJ.2 ⟨(a',D),aA.shut [_,_,_] ?_⟩;rw[Ao,V0 M,V3,VT];exact h.o [1,2,3] 4
 .intro x h;obtain⟨⟨a,C⟩,h⟩:=cJ.1 h;have h:=aA.open (A:=[_,_,_]) h;refine⟨.ready,none,by decide,by rw[nC L T];exact h.getO 2 rfl,h.stl 2 rfl λh6 h=>⟨rfl,?_⟩⟩
  refine⟨_,_,_,h.r 0,by decide,?_⟩;have Q:=wN c.h 65;have e:u64.wrap (i64.wrap (Int.tdiv ((gR c.h 65).length:Int) 2))=(((gR c.h 65).length/2:Nat):Int):=by
   rw[show Int.tdiv ((gR c.h 65).length:Int) 2=(((gR c.h 65).length/2:Nat):Int) from rfl,aK,u64n (by omega)]
  conv=>whnf
  rw[e];refine h.al λb6 _ h=>?_
  refine qv (us:=[(gR c.h 65).length/2]) h (λH h=>h.ce_rd 0 rfl) (by
    intro u O;rw[VE]at O;omega) (by simp) λa7 c7 h3 h=>⟨_,_,_,rfl,?_⟩
  refine dp h (i:=7) rfl rfl rfl (h.sl_rd 0 rfl) (by simp only[V3];omega) λa8 c8 h0 h=>⟨_,_,_,rfl,?_⟩
  refine⟨_,_,_,h.r 2,?_⟩;refine qv (us:=gR c.h 65) h (λH h=>h.sl_rd 3 rfl) (Jc wc.h 65 (VA _)) (by omega) λa9 c9 h9 h=>⟨_,_,_,rfl,?_⟩
  refine dp h (i:=8) rfl rfl rfl (h.sl_rd 0 rfl) (by simp only[V3];omega) λh8 h1 h7 h=>⟨_,_,_,rfl,h.getO 7 rfl,?_⟩
  have h:=h.setO 7 rfl (.deferred none);exact k _ _ _ (h.o [8] 9)
 .intro x h;exact (aA.consP h).1.elim
end
abbrev iY(l:bS):List Int:=dd l.name++dd l.value
def serB(name:Fa)(labs:List bS):List Int:=(dd name++bR labs.length)++labs.flatMap iY
def iZ(name:Fa)(labs:List bS):List Int:=if fx name labs then serB name labs else []
theorem St(name:Fa)(labs:List bS):aH (serB name labs):=
 dD (dD (qu _) (oU _)) (jy λ_ _=>dD (qu _) (qu _))
theorem Aq(name:Fa)(labs:List bS):aH (iZ name labs):=by
 unfold iZ;split
 .exact St _ _
 .exact kD
theorem Je(s:Fa):dC [s]=dd s:=by simp[dC]
theorem wP(n:Nat):eK [n]=bR n:=by simp[eK]
theorem Jf(l:bS):dC [l.name,l.value]=iY l:=by simp[dC,iY]
theorem Jg{l:bS}(h:ik l=true):(iY l).length<=148:=by
 have:=sk h;have a:=lI (s:=l.name) (by omega);have b:=lI (s:=l.value) (by omega);rw[V3];omega
theorem Jh{labs:List bS}:(∀l∈labs,ik l=true)->(labs.flatMap iY).length<=148*labs.length:=by
 induction labs with
 | nil=>intro _;simp
 | cons a l ih=>
  intro h;have d:=ih λx b=>h x (VL _ b)
  have c:=Jg (h a (VM ..));rw[Wb,V3,V9];omega
def dI:Nat->RS->List bS×RS
 | 0,s=>([],s)
 | n+1,s=>((dI n s).1++[⟨bF (aY 64 (dI n s).2).1,bF (aY 64 (aY 64 (dI n s).2).2).1⟩],(aY 64 (aY 64 (dI n s).2).2).2)
structure SRes where
 name:Fa
 labs:List bS
 e:Int
 rest:RS
def cO(s:RS):SRes:=
 if (dI (bY 8 (aY 64 s).2).1.toNat (bY 8 (aY 64 s).2).2).2.e≠0 then ⟨⟨#[]⟩,[],(dI (bY 8 (aY 64 s).2).1.toNat (bY 8 (aY 64 s).2).2).2.e,(dI (bY 8 (aY 64 s).2).1.toNat (bY 8 (aY 64 s).2).2).2⟩
 else if fx (bF (aY 64 s).1) (dI (bY 8 (aY 64 s).2).1.toNat (bY 8 (aY 64 s).2).2).1 then ⟨bF (aY 64 s).1,(dI (bY 8 (aY 64 s).2).1.toNat (bY 8 (aY 64 s).2).2).1,0,(dI (bY 8 (aY 64 s).2).1.toNat (bY 8 (aY 64 s).2).2).2⟩
 else ⟨⟨#[]⟩,[],10,(dI (bY 8 (aY 64 s).2).1.toNat (bY 8 (aY 64 s).2).2).2⟩
theorem Ar{s:RS}(h:aH s.bs):∀n,aH (dI n s).2.bs
 | 0=>h
 | n+1=>(lJ (lJ (Ar h n)).1).1
theorem As(s:RS):∀n,(dI n s).2.bs.length<=s.bs.length
 | 0=>VA _
 | n+1=>VO (mC _ _).1 (VO (mC _ _).1 (As s n))
theorem At(s:RS):∀n,(dI n s).1.length=n
 | 0=>rfl
 | n+1=>by unfold dI;rw[V3,At s n];rfl
theorem Ji(s:RS):0<=(bY 8 s).1/\(bY 8 s).1<=8:=by
 unfold bY
 split
 .dsimp only;omega
 .split
  .split
   .dsimp only;omega
   .dsimp only;omega
  .dsimp only;omega
  .dsimp only;omega
theorem Au{s:RS}(h:aH s.bs):aH (cO s).rest.bs:=by
 have:=Ar (rU (m:=8) (lJ (m:=64) h).1) (bY 8 (aY 64 s).2).1.toNat
 unfold cO;split
 .exact this
 .split <;> exact this
theorem Av(s:RS):(cO s).rest.bs.length<=s.bs.length:=by
 have:=As (bY 8 (aY 64 s).2).2 (bY 8 (aY 64 s).2).1.toNat
 have b:=rV (aY 64 s).2 8;have a:=(mC s 64).1;unfold cO;split
 .dsimp only;omega
 .split <;> dsimp only <;> omega
theorem Jj{s:RS}(h:(cO s).e=0):fx (cO s).name (cO s).labs=true:=by
 unfold cO at h ⊢
 split at h
 .rename_i a;exact V2 h a
 .rename_i a;rw[V0 a]
  split at h
  .rename_i b;rw[V1 b];exact b
  .simp at h
theorem Jk{name:Fa}{labs:List bS}(h:RightP name labs):(serB name labs).length<=1300:=by
 have a:=sj h.named;have d:=lI (s:=name) (by omega);have e:=ol (u:=labs.length) (by have:=h.len;omega);have c:=Jh h.val;have b:=h.len;unfold serB;rw[V3,V3];omega
theorem wQ(name:Fa)(labs:List bS):(iZ name labs).length<=1300:=by
 unfold iZ;split
 .rename_i h;exact Jk (mI h)
 .simp
section
variable {F L:List aE}{H:aD}{K:KE}
theorem wR{a:KQ}{c:Nat}{s:Fa}(h:aA H F)(j:∀H,aA H F->aP H a [.string s])(hs:s.size<=100000000)
  (k:∀b f d,aA d (slA 5 1 b (dd s).length f ((dd s).map U8)::F)->K (.slice b (dd s).length f) d) :
  CF 131 #[.slice a 1 c] H K:=by
 have m:=lI (s:=s) (by omega);refine wr (ts:=[s]) h j (λi=>?_) (λx e=>by rw[VE]at e;subst e;omega) (by simp) ?_
 .rcases Yx i with rfl|hi
  .simp [dC]
  .rw [VZ (show [s].length<=i from hi),Je];omega
 .rw [Je];exact k
theorem Aw{name:Fa}{a:KQ}{c:Nat}{labs:List bS}(h:aA H F)(E:∀H,aA H F->aP H a (flat dg labs))
  (k:∀t v w,aA w (slA 5 1 t (iZ name labs).length v ((iZ name labs).map U8)::F)->K (.slice t (iZ name labs).length v) w) :
  CF 178 #[.agg #[.string name,.slice a labs.length c]] H K:=by
 refine cN 178 0x1d2821561239925144c [[(3,sS),(23,sI)],[(3,sS)]] ?_;refine h.al λb _ h=>?_
 refine⟨_,_,_,_,h.q 0,?_⟩;refine qF h (λH h=>E H h.tl) λP h=>⟨_,rfl,λf=>?_,λf=>?_⟩
 .have e:iZ name labs=[]:=by unfold iZ;rw[V0 (by simpa using f)]
  rw[e]at k;exact k none 0 _ (h.tl.sl_nil 5 1)
 .simp only[Wm]at f;have n:=mI f;have e:iZ name labs=serB name labs:=by unfold iZ;rw[V1 f]
  rw[e]at k;have Z:=n.len;have J:=sj n.named;have S:=Jk n;have ht:=lI (s:=name) (by omega);have V:=ol (u:=labs.length) (by omega);intro I L;have m:∀(ba:KQ) (bc:Nat) y,aA y (slA 5 1 ba (dd name++bR labs.length).length bc ((dd name++bR labs.length).map U8)::cellsA b [.string name,.slice a labs.length c] 79::F)->I ba (dd name++bR labs.length).length bc y:=by
   intro ba bc y h;refine L _ _ _ _ ?_;refine⟨_,_,_,h.r 1,?_⟩;refine⟨λt N v i w=>∃j:Nat,i=j/\j<=labs.length/\N=((dd name++bR labs.length)++(labs.take j).flatMap iY).length/\
    aA w (slA 5 1 t ((dd name++bR labs.length)++(labs.take j).flatMap iY).length v (((dd name++bR labs.length)++(labs.take j).flatMap iY).map U8)::cellsA b [.string name,.slice a labs.length c] 79::F),
    λ_ _ _ i _=>labs.length-i.toNat,⟨0,rfl,by omega,by simp,by simpa using h⟩,?_⟩
   rintro a1 n1 c1 i P ⟨j,rfl,W,rfl,h⟩;refine⟨λf=>?_,λf=>?_⟩
   .have d:j<labs.length:=by have:=V4 f;omega
    have G:=E _ h.tl.tl;have Y:=sk (n.val _ (VF d));have M:=Jg (n.val _ (VF d));have Q:=Jh (labs:=labs.take j) λl R=>n.val l (Ww R)
    have T:(labs.take j).length<=labs.length:=by rw[VU];omega
    refine⟨by omega,_,_,G.some iW (by omega) d,_,_,G.els iW d,?_⟩;refine h.al λb2 _ h=>?_
    refine h.st 0 rfl rfl ?_;intro A h;refine⟨_,h.r 0,_,h.r 0,?_⟩;refine h.al λb3 _ h=>?_
    refine wr (ts:=[labs[j].name,labs[j].value]) h (λH h=>h.ce_rd 0 rfl) (λi=>?_) ?_ (by simp) λt v U h=>?_
    .have:(dC ([labs[j].name,labs[j].value].take i)).length<=(dC [labs[j].name,labs[j].value]).length:=by
      have:[labs[j].name,labs[j].value]=[labs[j].name,labs[j].value].take i++[labs[j].name,labs[j].value].drop i:=(Wt _ _).symm;rw[show (dC [labs[j].name,labs[j].value]).length=(dC ([labs[j].name,labs[j].value].take i++[labs[j].name,labs[j].value].drop i)).length by rw[<-this]];unfold dC;rw[W4,V3];omega
     rw[Jf]at this;omega
    .intro s hs;simp only[VJ,W8,or_false]at hs
     rcases hs with rfl|rfl <;> omega
    .rw [Jf]at h ⊢;refine⟨_,_,_,rfl,?_⟩;refine dp h (i:=3) rfl rfl rfl (h.sl_rd 0 rfl) (by simp only[V3]at *;omega) λa3 c3 B h=>⟨_,_,_,rfl,?_⟩
     conv=>whnf
     rw[aK (x:=(j:Int)+1)];have e5:((dd name++bR labs.length)++(labs.take (j+1)).flatMap iY)=((dd name++bR labs.length)++(labs.take j).flatMap iY)++iY labs[j]:=by
      rw[jP d,VI _ _ (iY labs[j])]
     refine⟨⟨j+1,by omega,d,by rw[e5],?_⟩,by dsimp only;omega⟩;rw[e5];exact h.o [3,4] 5
   .have C:labs.length<=j:=by have:=V5 f;omega
    have e1:labs.take j=labs:=VZ C;rw[e1]at h ⊢;exact k _ _ _ (h.o [0] 2)
  have O:u64.wrap ((labs.length:Nat):Int)=((labs.length:Nat):Int):=by rw[df];omega
  refine⟨_,h.r 0,_,_,_,h.r 0,?_⟩;dsimp only
  conv=>whnf
  rw[O];refine⟨?_,?_⟩
  .refine h.al λb4 _ h=>⟨h.r 1,?_,?_⟩
   .refine wR h (λH h=>h.ce_rd 0 rfl) (by omega) λa1 c1 A h=>⟨_,_,_,rfl,h.r 2,?_⟩
    refine h.al λb5 _ h=>?_
    refine qv (us:=[labs.length]) h (λH h=>h.ce_rd 0 rfl) (by simp;omega) (by simp) λa2 c2 D h=>⟨_,_,_,rfl,?_⟩
    rw[wP]at h ⊢;refine dp h (i:=2) rfl rfl rfl (h.sl_rd 0 rfl) (by omega) λa3 c3 B h=>⟨_,_,_,rfl,?_⟩
    exact m _ _ _ (h.o [2,4] 5)
   .refine h.al λb5 _ h=>?_
    refine wR h (λH h=>h.ce_rd 1 rfl) (by omega) λa1 c1 A h=>⟨_,_,_,rfl,?_⟩
    refine qv (us:=[labs.length]) h (λH h=>h.ce_rd 1 rfl) (by simp;omega) (by simp) λa2 c2 D h=>⟨_,_,_,rfl,?_⟩
    rw[wP]at h ⊢;refine dp h (i:=1) rfl rfl rfl (h.sl_rd 0 rfl) (by omega) λa3 c3 B h=>⟨_,_,_,rfl,?_⟩
    exact m _ _ _ (h.o [1,4] 5)
  .refine h.al λb5 _ h=>⟨h.r 1,?_⟩
   refine h.al λb4 _ h=>?_
   refine wR h (λH h=>h.ce_rd 0 rfl) (by omega) λa1 c1 A h=>⟨_,_,_,rfl,?_⟩
   refine qv (us:=[labs.length]) h (λH h=>h.ce_rd 2 rfl) (by simp;omega) (by simp) λa2 c2 D h=>⟨_,_,_,rfl,?_⟩
   rw[wP]at h ⊢;refine dp h (i:=1) rfl rfl rfl (h.sl_rd 0 rfl) (by omega) λa3 c3 B h=>⟨_,_,_,rfl,?_⟩
   exact m _ _ _ (h.o [1,4] 5)
theorem Jl{rb:Nat}{s:RS}(h:aA H (crdA rb s::F))(hb:aH s.bs)(V:s.bs.length<=1099511627776)
  (k:∀a c d,aA d (crdA rb (cO s).rest::slA 421 2 a (cO s).labs.length c (flat dg (cO s).labs)::F)->
   K (.tuple #[.agg #[.string (cO s).name,.slice a (cO s).labs.length c],aC (cO s).e]) d):CF 253 #[PA rb 0] H K:=by
 refine cN 253 0x112156123992514421bdc [[(12,sI)]] ?_;refine h.al λb _ h=>?_
 have h:=h.o [1,0] 2;refine nJ (most:=64) h hb V (by unfold aF;decide) λM h=>⟨_,rfl,?_⟩
 have t:=(lJ (m:=64) hb).1;have T:=(mC s 64).1;refine h.al λb1 _ h=>?_
 refine h.st 0 rfl rfl ?_;intro P h;have h:=h.o [1,0,2] 3;refine tP (most:=8) h t (by omega) (by unfold aF;decide) λZ h=>⟨_,rfl,?_⟩
 have B:=rU (m:=8) t;have O:=rV (aY 64 s).2 8;have R:=Ji (aY 64 s).2;unfold cO at k;generalize hcr:bY 8 (aY 64 s).2=C at *;obtain⟨cn,s1⟩:=C;dsimp only at *;obtain⟨n,rfl⟩:∃n:Nat,cn=n:=⟨cn.toNat,by omega⟩;rw[VD]at k;refine⟨λi d=>∃j:Nat,i=j/\j<=n/\∃a c,aA d (crdA rb (dI j s1).2::slA 421 2 a j c (flat dg (dI j s1).1)::cellsA b1 [.string (bF (aY 64 s).1),.slice a j c] 79::cellsA b [.string ⟨#[]⟩,.slice none 0 0] 79::F),
  λi _=>n-i.toNat,⟨0,rfl,by omega,none,0,((h.sl_nil 421 2).o [1,0,2,3] 4)⟩,?_⟩
 rintro i M ⟨j,rfl,hj,a,c,h⟩;have v:=Ar B j;have N:=As s1 j;refine⟨λJ=>?_,λJ=>?_⟩
 .have y:j<n:=by have:=V4 J;omega
  refine nJ (most:=64) h v (by omega) (by unfold aF;decide) λY h=>⟨_,rfl,_,_,_,h.r 2,?_⟩
  have E:=(lJ (m:=64) v).1;have Q:=(mC (dI j s1).2 64).1;refine nJ (most:=64) h E (by omega) (by unfold aF;decide) λP h=>⟨_,rfl,h.r 2,?_⟩
  refine h.al λb2 _ h=>⟨h.r 3,?_⟩
  have w:=At s1 j;refine h.append (m:=1) (ws:=dg ⟨bF (aY 64 (dI j s1).2).1,bF (aY 64 (aY 64 (dI j s1).2).2).1⟩) sl91 2 rfl (h.ce_rd 0 rfl) rfl (Ae _) (by omega) (by omega) λS U W h=>⟨_,_,_,rfl,?_⟩
  refine h.st 3 rfl rfl ?_;intro A h
  conv=>whnf
  rw[aK (x:=(j:Int)+1)];refine⟨⟨j+1,by omega,y,S,U,?_⟩,by dsimp only;omega⟩;have e:flat dg (dI (j+1) s1).1=flat dg (dI j s1).1++dg ⟨bF (aY 64 (dI j s1).2).1,bF (aY 64 (aY 64 (dI j s1).2).2).1⟩:=by
   show flat dg (_++[_])=_;rw[dR];simp[flat]
  rw[e];exact h.o [1,2,3,4] 5
 .have G:j=n:=by have:=V5 J;omega
  subst G;have w:=At s1 j;refine⟨_,mA h,λf=>?_,λf=>?_⟩
  .have f:(dI j s1).2.e≠0:=by simpa using f
   rw[V1 f]at k;refine h.st 3 rfl rfl ?_;intro A h;refine⟨_,_,_,_,h.q 3,?_⟩;exact k none 0 _ (((h.sl_nil 421 2).o [1,0] 5))
  .have f:¬(dI j s1).2.e≠0:=by simpa using f
   rw[V0 f]at k;refine⟨_,_,_,_,h.q 2,?_⟩;have L:CF 226 #[.agg #[.string (bF (aY 64 s).1),.slice a (dI j s1).1.length c]] M (λu d=>u=.bool (fx (bF (aY 64 s).1) (dI j s1).1)/\aA d (crdA rb (dI j s1).2::slA 421 2 a j c (flat dg (dI j s1).1)::cellsA b1 [.string (bF (aY 64 s).1),.slice a j c] 79::cellsA b [.string ⟨#[]⟩,.slice none 0 0] 79::F)):=
    qF h (λH h=>h.sl_rd 1 rfl) λd h=>⟨rfl,h⟩
   rw[w]at L;refine L.mono ?_;rintro u H7 ⟨rfl,h⟩;refine⟨_,rfl,λI=>?_,λI=>?_⟩
   .rw [V0 (by simpa using I)]at k;refine h.st 3 rfl rfl ?_;intro A h;refine⟨_,_,_,_,h.q 3,?_⟩;exact k none 0 _ (((h.sl_nil 421 2).o [1,0] 5))
   .rw [V1 (by simpa using I)]at k;refine⟨_,_,_,_,h.q 2,?_⟩;refine h.st 3 rfl rfl ?_;intro A h;refine⟨_,_,_,_,h.q 3,?_⟩;have D:=k a c _ (by dsimp only;rw[w];exact h.o [0,1] 4);dsimp only at D;rw[w]at D;exact D
end
def gi(c:UInt8)(s:Fa):Fa×Fa×Bool:=
 if 0<=cV c (aZ s) then (s.extract 0 (cV c (aZ s)).toNat,s.extract ((cV c (aZ s)).toNat+1) s.size,true) else (s,⟨#[]⟩,false)
def mJ(c:UInt8)(s:Fa):Fa×Bool:=
 if decide (1<=s.size)&&((s.extract (s.size-1) s.size).toList == (⟨#[c]⟩:Fa).toList) then (s.extract 0 (s.size-1),true) else (s,false)
def ja:Nat->Fa->List Fa
 | 0,s=>[s]
 | n+1,s=>if cV 44 (aZ s)<0 then [s] else s.extract 0 (cV 44 (aZ s)).toNat::ja n (s.extract ((cV 44 (aZ s)).toNat+1) s.size)
def gS(s:Fa):List Fa:=ja s.size s
def sr(acc:Option (List bS))(p:Fa):Option (List bS):=match acc with
 | none=>none
 | some labs=>if (gi 61 p).2.2 && !decide (labs.length=8) then some (labs++[⟨(gi 61 p).1,(gi 61 p).2.1⟩]) else none
def kG(ps:List Fa):Option (List bS):=ps.foldl sr (some [])
def im(t:Fa):Fa×List bS×Bool:=
 if (gi 123 t).2.2 then
  if (mJ 125 (gi 123 t).2.1).2 then match kG (gS (mJ 125 (gi 123 t).2.1).1) with
   | none=>(⟨#[]⟩,[],false)
   | some labs=>if fx (gi 123 t).1 labs then ((gi 123 t).1,labs,true) else (⟨#[]⟩,[],false)
  else (⟨#[]⟩,[],false)
 else if fx (gi 123 t).1 [] then ((gi 123 t).1,[],true) else (⟨#[]⟩,[],false)
theorem Jm(c:UInt8)(s:Fa):-1<=cV c (aZ s)/\cV c (aZ s)<s.size:=by
 have:=idxU_ge c (aZ s);rw[lN]at this;exact this
theorem Su(ps:List Fa):ps.foldl sr none=none:=by
 induction ps with
 | nil=>rfl
 | cons p r ih=>exact ih
theorem Sv{ps:List Fa}{j:Nat}(h:j<ps.length):kG (ps.take (j+1))=sr (kG (ps.take j)) ps[j]:=by
 unfold kG;rw[Wj h,WX];rfl
theorem Sw{ps:List Fa}{j:Nat}(h:kG (ps.take j)=none):kG ps=none:=by
 have:ps=ps.take j++ps.drop j:=(Wt _ _).symm;rw[this];unfold kG at h ⊢;rw[WX,h,Su]
theorem Jo:∀(n:Nat) (s p:Fa),p∈ja n s->p.size<=s.size
 | 0,s,p,h=>by
  have:p=s:=VE.1 h;subst this;exact VA _
 | n+1,s,p,h=>by
  unfold ja at h
  split at h
  .have:p=s:=VE.1 h;subst this;exact VA _
  .rcases VJ.1 h with h|h
   .rw [h,ByteArray.size_extract];omega
   .have:=Jo n _ p h;rw[ByteArray.size_extract,Nat.min_self]at this;omega
theorem Jp(n:Nat)(s:Fa):ja n s≠[]:=by
 cases n with
 | zero=>simp[ja]
 | succ n=>unfold ja;split <;> simp
section
variable {F L:List aE}{H:aD}{K:KE}
theorem Jq{s:Fa}{c:UInt8}(k:K (aC (cV c (aZ s))) H):CF 348 #[.string s,.string ⟨#[c]⟩] H K:=by
 refine Og ⟨λa=>?_,λa=>⟨λhd=>?_,λhd=>?_⟩⟩
 .simp only[VN,V6]at a
  rcases a with a|a
  .exact V2 a (by show ¬((1:Int)=0);omega)
  .have e:(⟨#[c]⟩:Fa)=s:=ba_ext (by simpa using a);have:cV c (aZ s)=0:=by
    rw[<-e];show cV c [c]=0;unfold cV;simp
   rw[<-this];exact k
 .refine⟨⟨by omega,by show (0:Int)<1;omega⟩,?_⟩;refine Oc ⟨_,natIdx,_,rfl,?_⟩;have:(bAt (⟨#[c]⟩:Fa) 0).toNat.toUInt8=c:=by
   show ((c.toNat:Int)).toNat.toUInt8=c;simp
  rw[this];exact k
 .exact V2 (V5 hd) (by show ¬¬((1:Int)=1);omega)
theorem Jr{s:Fa}{c:UInt8}(hs:s.size<=1099511627776)(k:K (.tuple #[.string (gi c s).1,.string (gi c s).2.1,.bool (gi c s).2.2]) H) :
  CF 264 #[.string s,.string ⟨#[c]⟩] H K:=by
 refine O6 (Oq ?_);refine Jq ⟨_,rfl,λa=>?_,λa=>?_⟩
 .have a:=V4 a;have hi:=Jm c s;have b:i64.wrap (cV c (aZ s)+(((⟨#[c]⟩:Fa).size:Nat):Int))=cV c (aZ s)+1:=by
   show i64.wrap (cV c (aZ s)+1)=_;rw[aK]
  rw[b];refine⟨by omega,by omega,_,_,_,rfl,?_⟩;unfold gi at k;rw[V1 a]at k;rw[show (cV c (aZ s)+1).toNat=(cV c (aZ s)).toNat+1 by omega];exact k
 .have a:=V5 a;unfold gi at k;rw[V0 a]at k;exact⟨_,_,_,rfl,k⟩
theorem Sx{s:Fa}{c:UInt8}(hs:s.size<=1099511627776):bV Tryz.prog 265 #[.string s,.string ⟨#[c]⟩] H (.tuple #[.string (mJ c s).1,.bool (mJ c s).2]):=by
 have e:(((⟨#[c]⟩:Fa).size:Nat):Int)=1:=rfl;have d:∀h:1<=s.size,i64.wrap ((s.size:Int)-1)=((s.size-1:Nat):Int):=λh=>by rw[aK];omega
 refine O5 ⟨_,_,Oo ⟨decide (1<=s.size)&&((s.extract (s.size-1) s.size).toList == (⟨#[c]⟩:Fa).toList),Of ⟨λa=>?_,?_,rfl⟩,λa=>?_,λa=>?_⟩,rfl,rfl⟩
 .have a:=V4 a;rw[e]at a ⊢;rw[d (by omega)];omega
 .rw [e]
  by_cases b:1<=s.size
  .rw [d b,VD,VS b,VS (show (1:Int)<=s.size by omega)]
  .rw [Wp b,Wp (show ¬(1:Int)<=s.size by omega),Bool.false_and,Bool.false_and]
 .unfold mJ;rw[V0 (by rw[VY,]at a;rw[a];simp)];exact⟨rfl,rfl⟩
 .have a:(decide (1<=s.size)&&((s.extract (s.size-1) s.size).toList == (⟨#[c]⟩:Fa).toList))=true:=by simpa using a
  have b:1<=s.size:=by
   rw[V7]at a;exact V4 a.1
  unfold mJ;rw[V1 a,e,d b];exact⟨by omega,rfl,rfl⟩
theorem Sy{l c0 c1 c2:Nat}{s:Fa}(hs:s.size<=1099511627776)(A:Nat->aE)(M:Nat->aE)
  (h:aA H (A 0::cellsA c0 [.string ⟨#[44]⟩] 9::cellsA c1 [.string s] 9::cellsA c2 [aC 0] 3::F))
  (N:∀j (S:j<(gS s).length) (G:List aE) (u:aD) (I:KE),aA u (A j::G)->(∀d,aA d (A (j+1)::G)->I (.bool true) d)->(∀d,aA d (M j::G)->I (.bool false) d)->
   fL Tryz.prog l [.string (gS s)[j]] u I)
  (k:∀c,aA c (A (gS s).length::F)->K (.tuple #[]) c)
  (L:∀j c,j<(gS s).length->aA c (M j::F)->K (.tuple #[]) c) :
  CF 350 #[.func (.yield l) #[] #[],PA c0 0,PA c1 0,PA c2 0] H K:=by
 refine Oe ?_;refine⟨_,h.r 1,λb=>V2 (V4 b) (by show ¬((1:Int)=0);omega),λb=>?_⟩
 refine⟨λc=>∃(j n:Nat) (r:Fa),j<(gS s).length/\(gS s).drop j=ja n r/\r.size<=n/\n<=s.size/\aA c (A j::cellsA c0 [.string ⟨#[44]⟩] 9::cellsA c1 [.string r] 9::cellsA c2 [aC 0] 3::F),
  λc=>match aL c c1 0 with|some (.string r)=>r.size|_=>0,⟨0,s.size,s,Yu.2 (Jp _ _),rfl,VA _,VA _,h⟩,?_⟩
 rintro u ⟨j,n,r,f,hd,T,Q,h⟩;have B:=h.rd 2 rfl 0;refine⟨_,h.r 2,_,h.r 1,?_⟩;have hi:=Jm 44 r;have t:(gS s)[j]=(ja n r)[0]'(by rw[<-hd,VP];omega):=by
  simp only[<-hd,List.getElem_drop,WJ]
 refine Od (Jq ⟨_,rfl,_,rfl,λb=>?_,λb=>?_⟩)
 .have b:=V4 b;have e:ja n r=[r]:=by
   cases n with
   | zero=>rfl
   | succ n=>unfold ja;rw[V1 b]
  have w:(gS s).length=j+1:=by
   have:=congrArg List.length hd;rw[e,VP]at this;simp at this;omega
  have e0:(gS s)[j]=r:=by rw[t];simp only[e];rfl
  refine⟨_,h.r 2,?_⟩;have a:=N j f (cellsA c0 [.string ⟨#[44]⟩] 9::cellsA c1 [.string r] 9::cellsA c2 [aC 0] 3::F) u (λu3 x=>∃r4,u3=.bool r4/\K (.tuple #[]) x) h
   (λd h=>⟨true,rfl,k _ (by rw[w];exact h.o [0] 4)⟩)
   (λd h=>⟨false,rfl,L j _ f (h.o [0] 4)⟩)
  rw[e0]at a;exact a
 .have b:=V5 b;have E:∃m,n=m+1:=⟨n-1,by omega⟩;obtain⟨m,rfl⟩:=E;have e:ja (m+1) r=r.extract 0 (cV 44 (aZ r)).toNat::ja m (r.extract ((cV 44 (aZ r)).toNat+1) r.size):=by
   show (if _ then _ else _)=_
   rw[V0 b]
  have P:i64.wrap (cV 44 (aZ r)+0)=cV 44 (aZ r):=by rw[aK];omega
  have C:i64.wrap (cV 44 (aZ r)+(((⟨#[44]⟩:Fa).size:Nat):Int))=cV 44 (aZ r)+1:=by
   show i64.wrap (cV 44 (aZ r)+1)=_;rw[aK]
  have e0:(gS s)[j]=r.extract 0 (cV 44 (aZ r)).toNat:=by rw[t];simp only[e];rfl
  have v:(gS s).drop (j+1)=ja m (r.extract ((cV 44 (aZ r)).toNat+1) r.size):=by
   rw[<-Ys,hd,e];rfl
  have y:j+1<(gS s).length:=by
   have O:=Yu.2 (Jp m (r.extract ((cV 44 (aZ r)).toNat+1) r.size));rw[<-v,VP]at O;omega
  refine⟨_,h.r 2,_,h.r 3,?_⟩;dsimp only;rw[P];refine⟨by omega,?_⟩;have a:=N j f (cellsA c0 [.string ⟨#[44]⟩] 9::cellsA c1 [.string r] 9::cellsA c2 [aC 0] 3::F) u;rw[e0]at a;refine a _ h (λd h=>⟨true,rfl,λD=>V2 D (by simp),λ_=>?_⟩) (λd h=>⟨false,rfl,λ_=>L j _ f (h.o [0] 4),λD=>V2 D (by simp)⟩)
  refine⟨_,h.r 2,_,h.r 1,?_⟩;dsimp only;rw[C];refine⟨by omega,?_⟩;have J:(r.extract ((cV 44 (aZ r)).toNat+1) r.size).size=r.size-((cV 44 (aZ r)).toNat+1):=by
   rw[ByteArray.size_extract,Nat.min_self]
  refine h.st 2 rfl rfl ?_;intro R h;rw[show (cV 44 (aZ r)+1).toNat=(cV 44 (aZ r)).toNat+1 by omega]at h;refine⟨⟨j+1,m,_,y,v,by omega,by omega,h⟩,?_⟩;have i:=h.rd 2 rfl 0;rw[B,i];show ByteArray.size _<ByteArray.size _;rw[J];omega
theorem Js{t:Fa}(W:t.size<=1099511627776)(h:aA H F)
  (k:∀a c I,aA I (slA 421 2 a (im t).2.1.length c (flat dg (im t).2.1)::F)->K (.tuple #[.agg #[.string (im t).1,.slice a (im t).2.1.length c],.bool (im t).2.2]) I) :
  CF 209 #[.string t] H K:=by
 refine cL 209 (.r (.r (.r (.seq (.r (.cond (.r (.seq (.r (.cond (.r .no) .no)) (.r (.blk (.rng [sT] [none,(some .ret)] .reg (.blk (.r (.seq (.r (.cond (.r .no) .no)) .reg)))))))) .no)) (.seq (.r (.cond (.r .no) .no)) (.r .no)))))) ?_;refine h.al λb _ h=>?_
 refine h.al λb1 _ h=>?_
 refine Jr W ⟨_,_,_,rfl,?_⟩;refine h.al λb2 _ h=>?_
 refine h.st 0 rfl rfl ?_;intro H1 h;have S:(gi 123 t).2.1.size<=t.size:=by
  unfold gi;split
  .dsimp only;rw[ByteArray.size_extract];omega
  .exact VX _
 unfold im at k;generalize hC:gi 123 t=C at *;obtain⟨nm,rest,ok⟩:=C;dsimp only at *;refine⟨λd=>?_,λd=>?_⟩
 .subst d;rw[V1 rfl]at k;refine⟨_,_,Sx (by omega),λd=>?_,λd=>?_⟩
  .rw [V0 (by simpa using d)]at k;refine h.st 2 rfl rfl ?_;intro Z h;refine h.st 1 rfl rfl ?_;intro H3 h;refine⟨_,_,_,_,h.q 2,_,h.r 1,?_⟩;exact k none 0 _ ((h.sl_nil 421 2).o [0] 4)
  .rw [V1 (by simpa using d)]at k;have Y:(mJ 125 rest).1.size<=rest.size:=by
    unfold mJ;split
    .dsimp only;rw[ByteArray.size_extract];omega
    .exact VA _
   generalize hf:(mJ 125 rest).1=f at *;refine cM 266 28 (cM 304 28 ?_);refine h.al λc1 _ h=>?_
   refine h.al λc0 _ h=>?_
   refine h.al λc2 B h=>⟨_,_,rfl,_,_,rfl,rfl,λR x E U=>?_⟩
   have h:=h.rng R;refine Sy (s:=f) (by omega)
    (λj=>exS λp:(KQ×Nat)×List bS=>star [cellsA b2 [.string nm,.slice p.1.1 p.2.length p.1.2] 79,slA 421 2 p.1.1 p.2.length p.1.2 (flat dg p.2),cellsA b1 [.bool false] 4,cellsA b [.string ⟨#[]⟩,.slice none 0 0] 79,pt (B.size+1) (.loop R),pur (kG ((gS f).take j)=some p.2/\p.2.length<=8)])
    (λj=>star [cellsA b1 [.bool false] 4,cellsA b [.string ⟨#[]⟩,.slice none 0 0] 79,pt (B.size+1) (.loop { R with state:=.done,pending:=some .ret }),pur (kG ((gS f).take (j+1))=none)])
    (F:=pt B.size (.deferred (some []))::F) ?_ ?_ ?_ ?_
   .refine cJ.2 ⟨((none,0),[]),aA.shut [_,_,_,_,_,_] ?_⟩;exact ((h.sl_nil 421 2).pur (p:=kG ((gS f).take 0)=some []/\([]:List bS).length<=8) ⟨rfl,by simp⟩).o [7,1,8,9,2,0,5,6,4,3] 10
   .intro j y G L K1 h V O;obtain⟨⟨⟨a,c⟩,labs⟩,h⟩:=cJ.1 h;have h:=aA.open (A:=[_,_,_,_,_,_]) h;have v:=(aA.consP (h.o [5,0,1,2,3,4] 6)).1;dsimp only at h;have Q:=Jo f.size f _ (VF (l:=gS f) y);have i:=Sv y;rw[v.1]at i;dsimp only at v;unfold sr at i;dsimp only at i;refine U _ _ _ ?_;refine⟨_,rfl,h.getO 4 rfl,h.getO 4 rfl,h.stl 4 rfl λJ h=>?_⟩
    refine Jr (by omega) ?_;generalize gi 61 (gS f)[j]=D at *;obtain⟨d1,d2,d3⟩:=D;dsimp only at i ⊢;refine⟨_,_,_,rfl,a,labs.length,c,λ_=>h.r 0,λd=>?_,λd=>?_⟩
    .rw [V0 (by
      intro e;simp only[V7,VY,V8]at e;simp only[VN,VY,V6]at d
      rcases d with d|d
      .rw [d]at e;simp at e
      .omega)]at i
     refine h.st 3 rfl rfl ?_;intro w h;refine h.st 2 rfl rfl ?_;intro n h;refine⟨h.getO 4 rfl,O _ ?_⟩;have h:=h.setO 4 rfl (.loop { R with state:=.done,pending:=some .ret });refine aA.shut [_,_,_,_] ?_;exact (h.pur i).o [3,4,5,0] 7
    .simp only[VK,Wm,V8]at d;rw[V1 (by
      simp only[V7,VY,V8];exact⟨d.1,by omega⟩)]at i
     refine⟨_,_,_,h.r 0,?_⟩;refine h.al λb3 _ h=>?_
     refine h.append (m:=1) (ws:=dg ⟨d1,d2⟩) sl91 2 rfl (h.ce_rd 0 rfl) rfl (Ae _) (by omega) (by omega) λN P M h=>⟨_,_,_,rfl,?_⟩
     refine h.st 1 rfl rfl ?_;intro T h;refine⟨h.getO 5 rfl,V _ ?_⟩;have h:=h.setO 5 rfl (.loop R);refine cJ.2 ⟨((N,P),labs++[⟨d1,d2⟩]),aA.shut [_,_,_,_,_,_] ?_⟩;have e:flat dg (labs++[⟨d1,d2⟩])=flat dg labs++dg ⟨d1,d2⟩:=by
      rw[dR];simp[flat]
     dsimp only;rw[e,V3];exact (h.pur (p:=kG ((gS f).take (j+1))=some (labs++[⟨d1,d2⟩])/\labs.length+[(⟨d1,d2⟩:bS)].length<=8) ⟨i,by simp;omega⟩).o [2,3,4,5,6,0] 8
   .intro L h;obtain⟨⟨⟨a,c⟩,labs⟩,h⟩:=cJ.1 h;have h:=aA.open (A:=[_,_,_,_,_,_]) h;have v:=(aA.consP (h.o [5,0,1,2,3,4] 6)).1;rw[Wf]at v;rw[v.1]at k;dsimp only at h k;refine⟨.ready,none,by decide,by rw[nC x E];exact h.getO 4 rfl,h.stl 4 rfl λJ h=>.inl ⟨rfl,?_⟩⟩
    refine⟨_,_,_,_,h.q 0,?_⟩;refine qF h (λH h=>h.sl_rd 1 rfl) λw h=>⟨_,rfl,λd=>?_,λd=>?_⟩
    .rw [V0 (by simpa using d)]at k;refine h.st 3 rfl rfl ?_;intro n h;refine h.st 2 rfl rfl ?_;intro u h;refine⟨h.getO 6 rfl,?_⟩;have h:=h.setO 6 rfl (.deferred none);refine⟨_,_,_,_,h.q 3,_,h.r 2,?_⟩;exact k none 0 _ ((h.sl_nil 421 2).o [0] 8)
    .rw [V1 (by simpa using d)]at k;refine⟨_,_,_,_,h.q 0,?_⟩;refine h.st 3 rfl rfl ?_;intro n h;refine h.st 2 rfl rfl ?_;intro u h;refine⟨h.getO 6 rfl,?_⟩;have h:=h.setO 6 rfl (.deferred none);refine⟨_,_,_,_,h.q 3,_,h.r 2,?_⟩;exact k a c _ (h.o [1] 7)
   .intro j L y h;have h:=aA.open (A:=[_,_,_,_]) h;have v:=(aA.consP (h.o [3,0,1,2] 4)).1;rw[Sw v]at k;refine⟨.done,some .ret,by decide,h.getO 2 rfl,h.stl 2 rfl λJ h=>.inr ⟨rfl,h.getO 4 rfl,?_⟩⟩
    have h:=h.setO 4 rfl (.deferred none);refine⟨_,_,_,_,h.q 1,_,h.r 0,?_⟩;exact k none 0 _ ((h.sl_nil 421 2).o [0] 6)
 .subst d;rw[V0 (by simp)]at k;refine⟨_,_,_,_,h.q 0,?_⟩;refine qF (labs:=[]) h (λH h=>iu H none) λw h=>⟨_,rfl,λd=>?_,λd=>?_⟩
  .rw [V0 (by simpa using d)]at k;refine h.st 2 rfl rfl ?_;intro n h;refine h.st 1 rfl rfl ?_;intro u h;refine⟨_,_,_,_,h.q 2,_,h.r 1,?_⟩;exact k none 0 _ ((h.sl_nil 421 2).o [0] 4)
  .rw [V1 (by simpa using d)]at k;refine⟨_,_,_,_,h.q 0,?_⟩;refine h.st 2 rfl rfl ?_;intro n h;refine h.st 1 rfl rfl ?_;intro u h;refine⟨_,_,_,_,h.q 2,_,h.r 1,?_⟩;exact k none 0 _ ((h.sl_nil 421 2).o [0] 4)
end
end Go.Proofs.YtaaieblnikcndaaGreatDoor
