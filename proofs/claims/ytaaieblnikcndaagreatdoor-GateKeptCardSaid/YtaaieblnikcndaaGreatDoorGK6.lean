/-
  Lemmas for GateKept: part 6 of what it rests on. Conditions: none.
-/
import Derived.Test.YtaaieblnikcndaaGreatDoorGK5
set_option linter.unusedVariables false
set_option linter.unusedSimpArgs false
set_option maxRecDepth 100000
set_option maxHeartbeats 16000000
open Go.IntKind (i64 u64 i8 u8 i32 u32 i16 u16)
namespace Go.Proofs.YtaaieblnikcndaaGreatDoor
open Go
def evOk(e:Ev):Bool:=decide (0<=e.stamp)&&decide (e.stamp<=4611686018427387903)&&fx e.name e.labs
def iD(next:Int)(evs:List Ev):Bool:=decide (1<=evs.length)&&decide (evs.length<=64)&&decide (next<=1099511627776-evs.length)&&evs.all evOk
structure lN(F:List aE)(a:KQ)(evs:List Ev):Prop where
 rd:∀H,aA H F->aP H a (flat cw evs)
 labs:∀e∈evs,∀H,aA H F->aP H e.la (flat df e.labs)
theorem lN.cons{F:List aE}{a:KQ}{evs:List Ev}(h:lN F a evs)(A:aE):lN (A::F) a evs:=
 ⟨λH b=>h.rd H b.tl,λe c H b=>h.labs e c H b.tl⟩
theorem As(x:Fa):ou x x=0:=by
 unfold ou;have h:Op.bytesLess x.toList x.toList=false:=by
  have:=ltKy ⟨0,x⟩ ⟨0,x⟩
  cases e:Op.bytesLess x.toList x.toList
  .rfl
  .exfalso;have a:=(rZ ⟨0,x⟩ ⟨0,x⟩).1 (by rw[this,e];simp)
   rcases a with a|⟨-,a⟩
   .exact Vu a (by show ¬(0:Int)<0;omega)
   .exact List.lt_irrefl _ a
 rw[h];simp
section
variable {F L:List aE}{H:aD}{K:KE}
theorem At{x y:Fa}:bX Tryz.prog 221 #[.string x,.string y] H (aC (ou x y)):=by
 unfold bX;refine .mk λw a=>?_
 subst a;refine jh (cmp183 x y w) ?_;rintro e b ⟨rfl,rfl⟩;exact⟨_,rfl,⟨rfl,rfl,rfl⟩,rfl,rfl⟩
theorem Jj{b:Nat}{x y:Int}(h:aA H F)(i:Nat)(f:aW i F=cellsA b [aC x,aC y] 3):bX Tryz.prog 326 #[.slice (some ⟨b,0,none⟩) 2 2] H (aC (if x≠0 then x else y)):=by
 refine cN 326 0x11215612399251b4c [[(8,sI)]] ?_;refine⟨λi m=>m=H/\(i=0\/i=1/\x=0\/i=2/\x=0/\y=0),λi _=>2-i.toNat,⟨rfl,.inl rfl⟩,?_⟩
 rintro j n ⟨rfl,e⟩;refine⟨λa=>?_,λa=>?_⟩
 .have a:=Vw a;refine⟨by omega,b,0,rfl,?_⟩
  rcases e with rfl|⟨rfl,d⟩|⟨rfl,_⟩
  .refine⟨x,h.rd i f 0,λc=>?_,λc=>?_⟩
   .rw [Vt (by simpa using c)];exact⟨rfl,rfl⟩
   .exact⟨⟨rfl,.inr (.inl ⟨rfl,by simpa using c⟩)⟩,by dsimp only;decide⟩
  .refine⟨y,h.rd i f 1,λc=>?_,λc=>?_⟩
   .rw [Vs (by simpa using d)];exact⟨rfl,rfl⟩
   .exact⟨⟨rfl,.inr (.inr ⟨rfl,d,by simpa using c⟩)⟩,by dsimp only;decide⟩
  .exact Vu a (by decide)
 .have a:=Vx a;have k:x=0/\y=0:=by
   rcases e with rfl|⟨rfl,d⟩|⟨rfl,d⟩
   .exact Vu (by decide) a
   .exact Vu (by decide) a
   .exact d
  rw[k.1,k.2];exact⟨rfl,rfl⟩
theorem Ss{l:bS}(h:aA H F)(k:∀a,aA a F->K (aC 0) a):CF 363 #[.agg #[.string l.name,.string l.value],.agg #[.string l.name,.string l.value]] H K:=by
 refine cM 363 28 ?_;refine h.al λb _ h=>?_
 refine h.al λb1 _ h=>⟨_,h.r 1,_,h.r 0,_,At,?_⟩
 rw[As];exact k _ h.tl.tl
theorem St{l:bS}(h:aA H F)(k:∀a,aA a F->K (aC 0) a):CF 328 #[.agg #[.string l.name,.string l.value],.agg #[.string l.name,.string l.value]] H K:=by
 refine cM 328 28 ?_;refine h.al λb _ h=>?_
 refine h.al λb1 _ h=>⟨_,_,h.q 1,_,_,h.q 0,_,h.r 1,_,h.r 0,?_⟩
 refine Ss h λc h=>⟨_,rfl,h.r 0,h.r 1,_,At,?_⟩
 rw[As];refine h.al λb2 _ h=>⟨_,Jj h 0 rfl,?_⟩
 exact k _ h.tl.tl.tl
theorem Su{a:KQ}{c s:Nat}{labs:List bS}(h:aA H F)(n:∀H,aA H F->aP H a (flat df labs))(u:labs.length<=1000000)(k:∀m,aA m F->K (aC 0) m) :
  CF 327 #[.slice a labs.length c,.slice a labs.length s,.func (.func 328) #[] #[]] H K:=by
 refine cN 327 0x1215612399251d11b4dc [[(13,sI)]] ?_;refine⟨λi m=>∃j:Nat,i=j/\j<=labs.length/\aA m F,λi _=>labs.length-i.toNat,⟨0,rfl,by omega,h⟩,?_⟩
 rintro i v ⟨j,rfl,w,h⟩;refine⟨λe=>?_,λe=>⟨λe=>Vu (Vw e) (by omega),λ_=>k _ h⟩⟩
 have d:j<labs.length:=by have:=Vw e;omega
 have f:=n _ h;refine⟨by omega,_,_,f.some iU (by omega) d,_,_,f.els iU d,?_⟩;refine h.al λb _ h=>?_
 refine h.st 0 rfl rfl ?_;intro t h;have f:=n _ h.tl;refine⟨λe=>Vu (Vw e) (by omega),λ_=>⟨by omega,_,_,f.some iU (by omega) d,_,_,f.els iU d,?_⟩⟩
 refine h.al λb1 _ h=>?_
 refine h.st 0 rfl rfl ?_;intro A h;refine⟨_,_,h.q 1,_,_,h.q 0,rfl,?_⟩;refine St (l:=labs[j]) h λy h=>⟨_,rfl,λe=>Vu e (by simp),λ_=>?_⟩
 conv=>whnf
 rw[aK (x:=(j:Int)+1)];exact⟨⟨j+1,by omega,d,h.tl.tl⟩,by dsimp only;omega⟩
theorem Au{name:Fa}{a:KQ}{c i:Nat}{labs:List bS}(h:aA H F)(f:∀H,aA H F->aP H a (flat df labs))(e:labs.length<=1000000)(k:∀d,aA d F->K (aC 0) d) :
  CF 284 #[.agg #[.string name,.slice a labs.length c],.agg #[.string name,.slice a labs.length i]] H K:=by
 refine cM 284 28 ?_;refine h.al λb _ h=>?_
 refine h.al λb1 _ h=>⟨_,h.r 1,_,h.r 0,_,At,_,_,_,h.r 1,_,_,_,h.r 0,?_⟩
 rw[As];refine Su h (λH h=>f H h.tl.tl) e λj h=>⟨_,rfl,?_⟩
 refine h.al λb2 _ h=>⟨_,Jj h 0 rfl,?_⟩
 exact k _ h.tl.tl.tl
theorem Sv{e:Ev}(h:aA H F)(d:∀H,aA H F->aP H e.la (flat df e.labs))(c:e.labs.length<=1000000)(k:∀a,aA a F->K (.bool true) a):CF 283 #[aggV e,aggV e] H K:=by
 refine cN 283 4745 [[(4,sB)]] ?_;refine h.al λb _ h=>?_
 refine h.al λb1 _ h=>?_
 intro m i;have e1:(decide (e.stamp=e.stamp)&&decide (e.value=e.value))=true:=by simp
 refine⟨_,h.r 1,_,h.r 0,_,λ_=>h.r 1,_,λ_=>h.r 0,_,_,_,_,λ_=>h.q 1,_,_,_,_,λ_=>h.q 0,λ_=>?_,λf=>Vu e1 f⟩
 refine Au h (λH h=>d H h.tl.tl) c λj h=>⟨_,rfl,i _ _ ?_⟩
 exact k _ h.tl.tl
theorem Jk{a:KQ}{c u:Nat}{evs:List Ev}(h:aA H F)(t:lN F a evs)(w:evs.length<=1000000)(s:∀e∈evs,e.labs.length<=1000000)(k:∀n,aA n F->K (.bool true) n) :
  CF 282 #[.slice a evs.length c,.slice a evs.length u,.func (.func 283) #[] #[]] H K:=by
 refine cN 282 0x1d2156123992511b4c [[(17,sI)]] ?_;refine⟨λf=>Vu f (by simp),λ_=>?_⟩
 refine⟨λi n=>∃j:Nat,i=j/\j<=evs.length/\aA n F,λi _=>evs.length-i.toNat,⟨0,rfl,by omega,h⟩,?_⟩
 rintro i y ⟨j,rfl,A,h⟩;refine⟨λf=>?_,λf=>k _ h⟩
 have d:j<evs.length:=by have:=Vw f;omega
 have m:=t.rd _ h;refine⟨by omega,_,_,m.some fH (by omega) d,_,_,_,_,_,_,m.els fH d,?_⟩;refine h.al λb _ h=>?_
 refine h.st 0 rfl rfl ?_;intro v h;have m:=t.rd _ h.tl;refine⟨by omega,_,_,m.some fH (by omega) d,_,_,_,_,_,_,m.els fH d,?_⟩;refine h.al λb1 _ h=>?_
 refine h.st 0 rfl rfl ?_;intro C h;refine⟨_,_,_,_,_,_,h.q 1,_,_,_,_,_,_,h.q 0,rfl,?_⟩;refine Sv (e:=evs[j]) h (λH h=>t.labs _ (V7 d) H h.tl.tl) (s _ (V7 d)) λB h=>⟨_,rfl,λf=>Vu f (by simp),λ_=>?_⟩
 conv=>whnf
 rw[aK (x:=(j:Int)+1)];exact⟨⟨j+1,by omega,d,h.tl.tl⟩,by dsimp only;omega⟩
theorem Jl{next:Int}{a:KQ}{c:Nat}{evs:List Ev}(h:aA H F)(y:lN F a evs)(J:evs.length<=1099511627776)(k:∀t,aA t F->K (.bool (iD next evs)) t) :
  CF 225 #[aC next,.slice a evs.length c] H K:=by
 refine cN 225 0x1d215612399251283c94c [[(41,sB)],[(24,sI)]] ?_;have B:i64.wrap (1099511627776-(evs.length:Int))=1099511627776-(evs.length:Int):=aK
 conv=>whnf
 rw[B];refine⟨λm=>?_,λm=>?_⟩
 .have:iD next evs=false:=by
   simp only[VE,Vy]at m
   cases e:iD next evs
   .rfl
   .unfold iD at e;simp only[Vz,Vy]at e;omega
  rw[this]at k;exact k _ h
 .simp only[VB,V0]at m;have A:iD next evs=evs.all evOk:=by
   unfold iD;rw[VF (by omega),VF (by omega),VF (by omega)];simp
  refine⟨λi t=>∃j:Nat,i=j/\j<=evs.length/\(∀q (u:q<evs.length),q<j->evOk evs[q]=true)/\aA t F,λi _=>evs.length-i.toNat,⟨0,rfl,by omega,λq _ h=>by omega,h⟩,?_⟩
  rintro i L ⟨j,rfl,M,v,h⟩;refine⟨λm=>?_,λm=>?_⟩
  .have d:j<evs.length:=by have:=Vw m;omega
   have w:=y.rd _ h;refine⟨by omega,_,_,w.some fH (by omega) d,_,_,_,_,_,_,w.els fH d,?_⟩;refine h.al λb _ h=>?_
   refine h.st 0 rfl rfl ?_;intro I h;intro G D;have n:∀s,aA s F->G (!evOk evs[j]) s:=by
    intro s h;refine D _ _ ?_;refine⟨λf=>?_,λf=>?_⟩
    .have:iD next evs=false:=by rw[A];exact wL d (by simpa using f)
     rw[this]at k;exact k _ h
    .conv=>whnf
     rw[aK (x:=(j:Int)+1)];refine⟨⟨j+1,by omega,d,λq u C=>?_,h⟩,by dsimp only;omega⟩
     by_cases hqj:q=j
     .subst hqj;simpa using f
     .exact v q u (by omega)
   refine⟨_,h.r 0,_,λ_=>h.r 0,_,_,_,_,λ_=>h.q 0,λf=>?_,λf=>?_⟩
   .refine qF h (λH h=>y.labs _ (V7 d) H h.tl) λs h=>⟨_,rfl,?_⟩
    have e:evOk evs[j]=fx evs[j].name evs[j].labs:=by
     simp only[VB,V0]at f;unfold evOk;rw[VF (by omega),VF (by omega)];simp
    rw[<-e];exact n _ h.tl
   .have e:evOk evs[j]=false:=by
     unfold evOk;simp only[VB,V0]at f;simp only[Wc,V0];omega
    have:=n _ h.tl;rw[e]at this;exact this
  .have E:evs.length<=j:=by have:=Vx m;omega
   have:iD next evs=true:=by rw[A];exact Af λq u=>v q u (by omega)
   conv=>whnf
   rw[this]at k;exact k _ h
end
abbrev fbC(ag ep next:Int)(a:KQ)(n c:Nat):Os:=
 [aC 5,aC ag,aC ep,aC 0,aC 0,aC 0,aC 0,aC next,aC 0,aC 0,.slice a n c,.string (⟨#[]⟩:Fa),.slice none 0 0,.slice none 0 0]
section
variable {F L:List aE}{H:aD}{K:KE}
theorem wS{f0 f1 f2 f3 f4 f5 f6 f7 f8 f9:Int}{n:KQ}{a m:Nat}{s:Fa}{e:KQ}{i j:Nat}{c:KQ}{d f:Nat}(h:aA H F)
  (k:∀t,aA t F->K (.agg #[aC f3,aC f4,aC f5,aC f6,aC f7,aC f8,aC f9]) t) :
  CF 281 ⟨[(.agg #[(aC f0),(aC f1),(aC f2),(aC f3),(aC f4),(aC f5),(aC f6),(aC f7),(aC f8),(aC f9),(.slice n a m),(.string s),(.slice e i j),(.slice c d f)])]⟩ H K:=by
 refine cM 281 28 ?_;refine h.al λb _ h=>?_
 refine h.al λb1 _ h=>?_
 refine⟨_,h.r 1,_,h.r 1,_,h.r 1,_,h.r 1,_,h.r 1,_,h.r 1,_,h.r 1,?_⟩;refine h.st 0 rfl rfl ?_;intro u h;exact⟨_,_,_,_,_,_,_,h.q 0,k _ h.tl.tl⟩
theorem eq314{a b c d e f g:Int}:gY Tryz.prog .eql 468 (.agg #[aC a,aC b,aC c,aC d,aC e,aC f,aC g]) (.agg #[aC a,aC b,aC c,aC d,aC e,aC f,aC g]) true:=by
 have h:=(yO (P:=Tryz.prog) (t:=468) (xs:=[aC a,aC b,aC c,aC d,aC e,aC f,aC g]) (ys:=[aC a,aC b,aC c,aC d,aC e,aC f,aC g])
  (r:=(a == a&&(b == b&&(c == c&&(d == d&&(e == e&&(f == f&&(g == g&&true)))))))) (by kernel_rfl)).1
 simpa using h
theorem eq102{a b c:Int}:gY Tryz.prog .eql 76 (.agg #[aC a,aC b,aC c]) (.agg #[aC a,aC b,aC c]) true:=by
 have h:=(qn (P:=Tryz.prog) (t:=76) (xs:=[aC a,aC b,aC c]) (ys:=[aC a,aC b,aC c]) (r:=(a == a&&(b == b&&(c == c&&true)))) (by kernel_rfl)).1;simpa using h
theorem Av{a b:KQ}{c d:Nat}{xs ys:List Int}(f:a=none\/∃k o,a=some ⟨k,o,none⟩)(h:b=none\/∃k o,b=some ⟨k,o,none⟩)(e:aP H a (xs.map U8))(hb:aP H b (ys.map U8))
  (k:K (.bool ((bF xs).toList == (bF ys).toList)) H):CF 208 #[.slice a xs.length c,.slice b ys.length d] H K:=
 cM 208 28 ⟨_,oV f e,_,oV h hb,k⟩
theorem Sw{ag ep next:Int}{a:KQ}{c:Nat}{evs:List Ev}(h:aA H F)(n:lN F a evs)(j:evs.length<=1000000)(f:∀e∈evs,e.labs.length<=1000000)(k:∀i,aA i F->K (.bool true) i) :
  CF 227 #[.agg ⟨fbC ag ep next a evs.length c⟩,.agg ⟨fbC ag ep next a evs.length c⟩] H K:=by
 refine cN 227 4745 [[(4,sB)]] ?_;refine h.al λb _ h=>?_
 refine h.al λb1 _ h=>?_
 intro v m;refine⟨_,_,_,h.q 1,_,_,_,h.q 0,true,eq102,_,_,_,_,_,_,_,_,_,_,_,_,_,_,_,_,_,_,_,_,λ_=>h.q 1,_,_,_,_,_,_,_,_,_,_,_,_,_,_,_,_,_,_,_,_,λ_=>h.q 0,λ_=>?_,λd=>Vu rfl d⟩
 refine wS h λs h=>⟨_,_,_,_,_,_,_,rfl,λ_=>h.q 0,?_⟩
 refine wS h λu h=>⟨_,_,_,_,_,_,_,rfl,true,eq314,_,_,_,λ_=>h.r 1,_,_,_,λ_=>h.r 0,λ_=>?_,λd=>Vu rfl d⟩
 refine Jk h ((n.cons _).cons _) j f λt h=>⟨_,rfl,_,_,_,_,λ_=>h.q 1,_,_,_,_,λ_=>h.q 0,λ_=>?_,λd=>Vu rfl d⟩
 refine Au (labs:=[]) h (λH h=>iv H none) (by simp) λw h=>⟨_,rfl,_,_,_,λ_=>h.r 1,_,_,_,λ_=>h.r 0,λ_=>?_,λd=>Vu (by simp) d⟩
 refine Av (xs:=[]) (ys:=[]) (.inl rfl) (.inl rfl) (iv _ none) (iv _ none) ⟨_,rfl,m _ _ ?_⟩;have:=k _ h.tl.tl;have e:((bF []).toList == (bF []).toList)=true:=by simp
 rw[e];exact this
theorem Jm{b o:Nat}{e:Nat}{cs:Os}(h:aA H F)(i:Nat)(d:aW i F=cellsA b cs e)(a:aT cs 0=some (aC 5))
  (k:∀p c,aA c (cellsA p [PA b 1,PA b 2,PA b 7] 297::F)->K (.slice (some ⟨p,0,none⟩) 3 3) c):CF 170 #[PA b 0] H K:=by
 refine cN 170 0x121513c13c13c13c217943c13cbc [[(68,sB)]] ?_;refine⟨5,(h.rd i d 0).trans a,λa=>Vu a (by decide),λ_=>⟨λa=>Vu a (by decide),λ_=>⟨λa=>Vu a (by decide),λ_=>⟨λa=>Vu a (by decide),λ_=>?_⟩⟩⟩⟩
 intro j f;refine⟨λ_=>f _ _ ?_,λa=>Vu a (by decide)⟩
 refine⟨λ_=>?_,λa=>Vu a (by decide)⟩
 refine h.al λp _ h=>?_
 exact k _ _ h
def mK(next:Int)(evs:List Ev):Bool:=decide (0<=next)&&decide (next<=4611686018427387903)&&iD next evs
theorem Sx{next:Int}{evs:List Ev}:mK next evs=(decide (0<=next)&&iD next evs):=by
 unfold mK iD;rw[Wb];simp only[Vz,Vy]
 constructor
 .rintro⟨⟨h1,h2⟩,h3⟩;exact⟨h1,h3⟩
 .rintro⟨h1,h3⟩;exact⟨⟨h1,by omega⟩,h3⟩
theorem Jo{next:Int}{a:KQ}{c:Nat}{evs:List Ev}(h:aA H F)(v:lN F a evs)(y:evs.length<=1099511627776)(k:∀j,aA j F->K (.bool (mK next evs)) j) :
  CF 137 #[.agg ⟨fbC 0 0 next a evs.length c⟩] H K:=by
 refine cN 137 0x11d11215612399251d4421517b171b217947b171b9c [[],[],[(88,sB)],[],[],[(43,sI)]] ?_;refine h.al λb _ h=>?_
 refine Jm (o:=0) h 0 rfl rfl λp D h=>⟨_,_,_,rfl,_,λ_=>h.r 1,_,λ_=>h.r 1,_,λ_=>h.r 1,_,λ_=>h.r 1,λd=>Vu d (by simp),λ_=>⟨_,h.r 1,?_⟩⟩
 refine h.al λb1 _ h=>?_
 refine h.st 0 rfl rfl ?_;intro I h;refine Jm (o:=0) h 0 rfl rfl λp1 L h=>⟨_,_,_,rfl,?_⟩
 refine⟨λi j=>(i=0\/i=1\/i=2\/i=3)/\((i=3->0<=next/\next<=4611686018427387903))/\
  aA j (cellsA p1 [PA b1 1,PA b1 2,PA b1 7] 297::cellsA b1 (fbC 0 0 (if i=3 then next else 0) none 0 0) 81::cellsA p [PA b 1,PA b 2,PA b 7] 297::cellsA b (fbC 0 0 next a evs.length c) 81::F),
  λi _=>3-i.toNat,⟨.inl rfl,λh=>Vu h (by decide),h⟩,?_⟩
 rintro i J ⟨hi,f,h⟩;refine⟨λd=>?_,λd=>?_⟩
 .have d:=Vw d
  rcases hi with rfl|rfl|rfl|rfl
  .refine⟨by decide,_,_,rfl,_,h.rd 2 rfl _,⟨_,h.r 3,λ_=>trivial,_,λ_=>h.r 3,λd=>Vu d (by decide),λ_=>⟨by decide,_,_,rfl,_,h.rd 0 rfl _,⟨_,h.r 3,?_⟩⟩⟩⟩
   refine h.st 1 rfl rfl ?_;intro u h;exact⟨⟨.inr (.inl (by decide)),λh=>Vu h (by decide),h⟩,by dsimp only;decide⟩
  .refine⟨by decide,_,_,rfl,_,h.rd 2 rfl _,⟨_,h.r 3,λ_=>trivial,_,λ_=>h.r 3,λd=>Vu d (by decide),λ_=>⟨by decide,_,_,rfl,_,h.rd 0 rfl _,⟨_,h.r 3,?_⟩⟩⟩⟩
   refine h.st 1 rfl rfl ?_;intro u h;exact⟨⟨.inr (.inr (.inl (by decide))),λh=>Vu h (by decide),h⟩,by dsimp only;decide⟩
  .refine⟨by decide,_,_,rfl,_,h.rd 2 rfl _,⟨_,h.r 3,λ_=>trivial,_,λ_=>h.r 3,λd=>?_,λd=>⟨by decide,_,_,rfl,_,h.rd 0 rfl _,⟨_,h.r 3,?_⟩⟩⟩⟩
   .have:mK next evs=false:=by
     simp only[VE,Vy]at d;unfold mK;simp only[Wc,V0];omega
    rw[this]at k;exact k _ h.tl.tl.tl.tl
   .simp only[VB,V0]at d;refine h.st 1 rfl rfl ?_;intro u h;exact⟨⟨.inr (.inr (.inr (by decide))),λ_=>by omega,h⟩,by dsimp only;decide⟩
  .exact Vu d (by decide)
 .have d:=Vx d;have n:i=3:=by
   rcases hi with rfl|rfl|rfl|rfl
   .exact Vu (by decide) d
   .exact Vu (by decide) d
   .exact Vu (by decide) d
   .rfl
  subst n;have f:=f rfl;rw[Vt rfl]at h;have w:mK next evs=iD next evs:=by
   unfold mK;rw[VF f.1,VF f.2];simp
  refine⟨_,h.r 3,?_⟩;intro M C;refine⟨λd=>Vu d (by decide),λ_=>?_⟩
  intro A m;refine⟨λ_=>⟨_,_,_,h.r 3,?_⟩,λd=>Vu d (by decide)⟩
  refine h.st 1 rfl rfl ?_;intro u h;refine⟨_,h.r 3,_,_,_,h.r 3,?_⟩;refine Jl h ((((v.cons _).cons _).cons _).cons _) y λG h=>⟨_,rfl,λd=>?_,λd=>?_⟩
  .have:mK next evs=false:=by rw[w];simpa using d
   rw[this]at k;exact k _ h.tl.tl.tl.tl
  .have hb:iD next evs=true:=by simpa using d
   refine m _ (C _ ?_);refine⟨_,_,_,_,_,_,_,_,_,_,_,_,_,_,_,_,_,_,_,_,h.q 3,_,_,_,_,_,_,_,_,_,_,_,_,_,_,_,_,_,_,_,_,h.q 1,?_⟩;have x:evs.length<=64:=by
    unfold iD at hb;simp only[Vz,Vy]at hb;omega
   have t:∀e∈evs,e.labs.length<=1000000:=by
    intro e B;unfold iD at hb;rw[Vz,Wg]at hb;have s:=hb.2 e B;unfold evOk at s;rw[Vz]at s;have:=(mI s.2).len;omega
   refine Sw h ((((v.cons _).cons _).cons _).cons _) (by omega) t λE h=>⟨_,rfl,?_⟩
   have:mK next evs=true:=by rw[w,hb]
   conv=>whnf
   rw[this]at k;exact k _ h.tl.tl.tl.tl
end
section
variable {F L:List aE}{H:aD}{K:KE}
theorem Sy{a:KQ}{c:Nat}{l:List Ev}(h:aA H F)(n:∀H,aA H F->aP H a (flat cw l))(w:l.length<=1000000)
  (k:∀d e f,aA f (slA 99 4 d l.length e (flat cw l)::F)->K (.slice d l.length e) f):CF 237 #[.slice a l.length c] H K:=by
 refine cM 237 476 ⟨λi=>?_,λi=>?_⟩
 .have:a=none:=by simpa using i
  subst this;have t:=oh (n H h);have:l=[]:=by
   have:=congrArg List.length t;rw[fh fH]at this;exact W9 (by simp at this;omega)
  subst this;exact k none 0 H (h.sl_nil 99 4)
 .refine h.al λb _ h=>?_
  have s:=n _ h.tl;have v:=aA.sl_pt (cs:=[]) h 4 0 rfl
  conv=>whnf
  refine aA.append (m:=l.length) sl44 v 0 rfl s (fh fH l) (lC Aa l) (by omega) (by omega) λd e f u=>⟨_,_,_,rfl,?_⟩
  have j:aA f (slA 99 4 d (0+l.length) e ([]++flat cw l)::F):=u;rw[VL,VZ]at j;have:=k d e f j;rw[<-VL l.length]at this;exact this
theorem Jp{a:KQ}{c:Nat}{l:List Ot}(h:aA H F)(n:∀H,aA H F->aP H a (flat cJ l))(w:l.length<=1000000)
  (k:∀d e f,aA f (slA 164 74 d l.length e (flat cJ l)::F)->K (.slice d l.length e) f):CF 61 #[.slice a l.length c] H K:=by
 refine cM 61 476 ⟨λi=>?_,λi=>?_⟩
 .have:a=none:=by simpa using i
  subst this;have t:=oh (n H h);have:l=[]:=by
   have:=congrArg List.length t;rw[fh iV]at this;exact W9 (by simp at this;omega)
  subst this;exact k none 0 H (h.sl_nil 164 74)
 .refine h.al λb _ h=>?_
  have s:=n _ h.tl;have v:=aA.sl_pt (cs:=[]) h 74 0 rfl
  conv=>whnf
  refine aA.append (m:=l.length) sl86 v 0 rfl s (fh iV l) (lC rY l) (by omega) (by omega) λd e f u=>⟨_,_,_,rfl,?_⟩
  have j:aA f (slA 164 74 d (0+l.length) e ([]++flat cJ l)::F):=u;rw[VL,VZ]at j;have:=k d e f j;rw[<-VL l.length]at this;exact this
theorem Sz{a:KQ}{c:Nat}{l:List Ot}{j:Nat}(u:j<=l.length)(h:aA H (slA 164 74 a l.length c (flat cJ l)::F))
  (k:∀b,aA b (slA 164 74 a (l.length-j) c (flat cJ (l.drop j))::F)->K (.slice a (l.length-j) c) b):CF 73 #[.slice a l.length c,aC 0,aC j] H K:=by
 have s:=h.sl_nc 0 rfl;refine cM 73 18682140 ?_;refine⟨⟨by omega,by omega,by omega,by omega⟩,λd=>?_,λd=>?_⟩
 .have:j=0:=by simp only[Vy]at d;omega
  subst this;exact k H h
 .have hj0:0<j:=by simp only[V0]at d;omega
  refine⟨⟨by omega,by omega,by omega⟩,⟨by omega,by omega,by omega⟩,?_⟩;have f:=h.sl_rd 0 rfl;have hs:=f.some iV (by omega) (k:=0) (by omega);have e0:cq a 0 c 74=a:=by
   unfold cq;rw[nO,hs,VX,iP];simp
  have e:=f.subK (k:=j) (c:=c) (sz:=74) (by rw[fh iV];omega);rw[tt iV]at e;have i:=h.sl_take 0 rfl 0 (by omega);simp only[WY,WU]at i;show cB Tryz.prog (Builtin.append_ #[143,143] 143 #[.slice (cq a 0 c 74) 0 c,.slice (cq a j c 74) (l.length-j) (c-j)]) H _;rw[e0];refine aA.appendIn sl86 i 0 rfl e (by rw[fh iV,VH]) (lC rY _) (by omega) λb n=>⟨_,_,_,rfl,⟨by omega,by omega,by omega⟩,?_⟩
  rw[VL];have m:aA b (slA 164 74 a (0+(l.length-j)) c ([]++flat cJ (l.drop j))::F):=n;rw[VL,VZ]at m;exact aA.clearS sl86 (by kernel_rfl) m 0 rfl (by omega) λ_ v t=>k _ t
theorem S0{a:KQ}{c:Nat}{l:List bS}(h:aA H F)(n:∀H,aA H F->aP H a (flat df l))(w:l.length<=1000000)
  (k:∀d e f,aA f (slA 421 2 d l.length e (flat df l)::F)->K (.slice d l.length e) f):CF 238 #[.slice a l.length c] H K:=by
 refine cM 238 476 ⟨λi=>?_,λi=>?_⟩
 .have:a=none:=by simpa using i
  subst this;have t:=oh (n H h);have:l=[]:=by
   have:=congrArg List.length t;rw[fh iU]at this;exact W9 (by simp at this;omega)
  subst this;exact k none 0 H (h.sl_nil 421 2)
 .refine h.al λb _ h=>?_
  have s:=n _ h.tl;have v:=aA.sl_pt (cs:=[]) h 2 0 rfl
  conv=>whnf
  refine aA.append (m:=l.length) sl91 v 0 rfl s (fh iU l) (lC zZ l) (by omega) (by omega) λd e f u=>⟨_,_,_,rfl,?_⟩
  have j:aA f (slA 421 2 d (0+l.length) e ([]++flat df l)::F):=u;rw[VL,VZ]at j;have:=k d e f j;rw[<-VL l.length]at this;exact this
theorem S1{Q:aE}{a:KQ}{c:Nat}{l:List bS}(h:aA H (Q::F))(i:∀H,aA H (Q::F)->aP H a (flat df l))(f:l.length<=1000000)
  (k:∀Q' b e d,aM Q Q'->KIn Q' b (flat df l)->aA d (Q'::F)->K (.slice b l.length e) d):CF 238 #[.slice a l.length c] H K:=
 S0 h i f λb e d h=>k _ b e d (aM.add _ Q) KIn.sl (gy.2 h)
end
structure Pv where
 stamp:Int
 value:Int
 name:Fa
 labs:List bS
def Ev.p(e:Ev):Pv:=⟨e.stamp,e.value,e.name,e.labs⟩
section
variable {α β:Type}
def eM(f:α->β)(l:cy α):cy β:=l.map λp=>(p.1,f p.2)
def mapH(f:α->β)(s:HS α):HS β:=⟨s.next,s.most,eM f s.rows⟩
theorem S2(f:α->β)(l:cy α):aG (eM f l)=aG l:=by simp[eM,aG,Wh,Function.comp_def]
theorem Aw(f:α->β)(l:cy α):(eM f l).length=l.length:=V8 ..
theorem Jq(f:α->β)(n:Int)(v:α):∀l:cy α,ins n (f v) (eM f l)=eM f (ins n v l)
 | []=>rfl
 | (a,b)::r=>by
  have c:=Jq f n v r;show (if n<a then _ else _)=eM f (if n<a then _ else _)
  split
  .rfl
  .show (a,f b)::ins n (f v) (eM f r)=(a,f b)::eM f (ins n v r);rw[c]
theorem Jr(f:α->β)(n:Int):∀l:cy α,aJ n (eM f l)=(aJ n l).map f
 | []=>rfl
 | (a,b)::r=>by
  have c:=Jr f n r;show aJ n ((a,f b)::eM f r)=_;unfold aJ
  split
  .rfl
  .exact c
theorem S3(f:α->β)(next most n:Int)(v:α)(s:cy α×Int):eA next most n (f v) (eM f s.1,s.2)=(eM f (eA next most n v s).1,(eA next most n v s).2):=by
 unfold eA;have e:(aJ n (eM f s.1)).isSome=(aJ n s.1).isSome:=by rw[Jr];simp
 simp only[e]
 split
 .rfl
 .split
  .rfl
  .dsimp only;rw[Jq]
theorem Js(f:α->β)(next most:Int):∀(l:List α) (n:Int) (s:cy α×Int),fj next most n (l.map f) (eM f s.1,s.2)=(eM f (fj next most n l s).1,(fj next most n l s).2)
 | [],n,s=>rfl
 | v::vs,n,s=>by
  show fj next most (n+1) (vs.map f) (eA next most n (f v) (eM f s.1,s.2))=_;rw[S3];exact Js f next most vs (n+1) _
theorem Jt(f:α->β):∀(l:cy α) (next:Int),pop next (eM f l)=((pop next l).1.map f,(pop next l).2.1,eM f (pop next l).2.2)
 | [],next=>rfl
 | (n,v)::r,next=>by
  have a:=Jt f r (next+1);have e1:pop next (eM f ((n,v)::r))=if n=next then (f v::(pop (next+1) (eM f r)).1,(pop (next+1) (eM f r)).2) else ([],next,eM f ((n,v)::r)):=rfl
  have e2:pop next ((n,v)::r)=if n=next then (v::(pop (next+1) r).1,(pop (next+1) r).2) else ([],next,(n,v)::r):=rfl
  rw[e1,e2,a]
  split <;> rfl
theorem S4(f:α->β)(s:HS α)(first:Int)(items:List α):(mapH f s).offer first (items.map f)=(mapH f (s.offer first items).1,(s.offer first items).2.1.map f,(s.offer first items).2.2):=by
 unfold HS.offer
 split
 .simp
 .have h:=Js f s.next s.most items first (s.rows,0);simp only[mapH,h,Jt]
theorem wT{f:α->β}{l:cy α}:gJ (eM f l)↔gJ l:=by
 unfold gJ eM;rw[Yo]
theorem Ju{f:α->β}{lo next most:Int}{l:cy α}:jM lo next most (eM f l)↔jM lo next most l:=by
 constructor
 .rintro⟨h1,h2⟩;exact⟨wT.1 h1,λp a=>h2 (p.1,f p.2) (V3.2 ⟨p,a,rfl⟩)⟩
 .rintro⟨h1,h2⟩;refine⟨wT.2 h1,λp a=>?_⟩
  obtain⟨q,b,rfl⟩:=V3.1 a;exact h2 q b
theorem ok_mapH{f:α->β}{s:HS α}:(mapH f s).Ok↔s.Ok:=
 ⟨λh=>⟨h.next0,h.most1,h.most2,Ju.1 h.rows⟩,λh=>⟨h.next0,h.most1,h.most2,Ju.2 h.rows⟩⟩
theorem S5{next most n:Int}{v:α}{s:cy α×Int}{p:Int×α}(h:p∈(eA next most n v s).1):p.2=v\/p∈s.1:=by
 unfold eA at h
 split at h
 .exact .inr h
 .split at h
  .exact .inr h
  .rcases tD.1 h with rfl|h
   .exact .inl rfl
   .exact .inr h
theorem Ay{next most:Int}:∀{l:List α} {n:Int} {s:cy α×Int} {p:Int×α},p∈(fj next most n l s).1->p.2∈l\/p∈s.1
 | [],n,s,p,h=>.inr h
 | v::vs,n,s,p,h=>by
  rcases Ay (l:=vs) h with h|h
  .exact .inl (VD _ h)
  .rcases S5 h with h|h
   .exact .inl (h▸VA ..)
   .exact .inr h
theorem Az:∀{l:cy α} {next:Int},(∀v∈(pop next l).1,∃p∈l,p.2=v)/\∀p∈(pop next l).2.2,p∈l
 | [],next=>⟨λv h=>Vu h (by simp[pop]),λp h=>Vu h (by simp[pop])⟩
 | (n,v)::r,next=>by
  have c:=Az (l:=r) (next:=next+1);unfold pop
  split
  .refine⟨λx b=>?_,λp a=>VD _ (c.2 p a)⟩
   rcases V9.1 b with rfl|b
   .exact⟨_,VA ..,rfl⟩
   .obtain⟨p,a,e⟩:=c.1 x b;exact⟨p,VD _ a,e⟩
  .exact⟨λx b=>Vu b (by simp),λp a=>a⟩
theorem un{s:HS α}{first:Int}{items:List α}:(∀v∈(s.offer first items).2.1,v∈items\/∃p∈s.rows,p.2=v)/\∀p∈(s.offer first items).1.rows,p.2∈items\/p∈s.rows:=by
 unfold HS.offer
 split
 .exact⟨λv h=>Vu h (by simp),λp h=>.inr h⟩
 .have b:=Az (l:=(fj s.next s.most first items (s.rows,0)).1) (next:=s.next);refine⟨λv d=>?_,λp a=>Ay (b.2 p a)⟩
  obtain⟨p,c,rfl⟩:=b.1 v d
  rcases Ay c with h|h
  .exact .inl h
  .exact .inr ⟨p,h,rfl⟩
theorem Jv:∀{l:cy α} {next:Int},(pop next l).1.length<=l.length
 | [],_=>V2 _
 | (n,v)::r,next=>by
  have a:=Jv (l:=r) (next:=next+1);unfold pop
  split
  .show (v::(pop (next+1) r).1).length<=_;simp only[V1];omega
  .simp
theorem Jw{next most:Int}:∀{l:List α} {n:Int} {s:cy α×Int},(fj next most n l s).1.length<=s.1.length+l.length
 | [],n,s=>V2 _
 | v::vs,n,s=>by
  have b:=Jw (next:=next) (most:=most) (l:=vs) (n:=n+1) (s:=eA next most n v s);have a:(eA next most n v s).1.length<=s.1.length+1:=by
   unfold eA
   split
   .omega
   .split
    .dsimp only;omega
    .dsimp only;rw[N9];omega
  show (fj next most (n+1) vs (eA next most n v s)).1.length<=_;rw[V1];omega
theorem Jx{s:HS α}{first:Int}{items:List α}:(s.offer first items).2.1.length<=s.rows.length+items.length:=by
 unfold HS.offer
 split
 .simp
 .exact VI Jv Jw
end
abbrev io(Q:aE)(e:Ev):Prop:=KIn Q e.la (flat df e.labs)
def hldA(Q:aE)(hb:Nat)(s:HS Pv):aE:=exS λp:Nat×cy Ev=>star [holdC hb p.1 s.next s.most,ig p.1 p.2,pur (eM Ev.p p.2=s.rows/\∀x∈p.2,io Q x.2)]
section
variable {Q Q':aE}{hb:Nat}{s:HS Pv}{F L:List aE}{H:aD}{K:KE}
theorem kY:aA H (hldA Q hb s::F)↔∃mb rows,(eM Ev.p rows=s.rows/\∀x∈rows,io Q x.2)/\aA H (holdC hb mb s.next s.most::ig mb rows::F):=by
 constructor
 .intro h;obtain⟨⟨mb,rows⟩,h⟩:=cK.1 h;have h:=aA.open (A:=[_,_,_]) h;have a:=aA.consP (h.o [2,0,1] 3);exact⟨mb,rows,a.1,a.2⟩
 .rintro⟨mb,rows,a,h⟩;refine cK.2 ⟨(mb,rows),aA.shut [_,_,_] ?_⟩;exact (h.pur a).o [1,2,0] 3
theorem A0(hs:aM Q Q')(h:aA H (hldA Q hb s::F)):aA H (hldA Q' hb s::F):=by
 obtain⟨mb,rows,a,h⟩:=kY.1 h;exact kY.2 ⟨mb,rows,⟨a.1,λx b=>(a.2 x b).sub hs⟩,h⟩
theorem A7{next most:Int}(h:aA H F)
  (k1:next<0\/1099511627776<next\/most<1\/256<most->K (.tuple #[.pointer none,aC 11]) H)
  (k2:∀hb a,0<=next/\next<=1099511627776/\1<=most/\most<=256->aA a (hldA Q hb ⟨next,most,[]⟩::F)->K (.tuple #[PA hb 0,aC 0]) a) :
  CF 185 #[aC next,aC most] H K:=
 Ri h k1 λhb mb a b h=>k2 hb a b (kY.2 ⟨mb,[],⟨rfl,λx c=>Vu c (by simp)⟩,h⟩)
theorem uo(h:aA H (hldA Q hb s::F)):bX Tryz.prog 124 #[PA hb 0] H (aC s.next):=by
 obtain⟨mb,rows,a,h⟩:=kY.1 h;exact Rk h 0 rfl
theorem Jy{first:Int}{n:KQ}{w:Nat}{items:List Ev}(h:aA H (hldA Q hb s::F))(ok:s.Ok)(B:s.next<=1125899906842624)
  (A:∀H,aA H F->aP H n (flat cw items)) (u:∀e∈items,io Q e) (f:items.length<=1000000)
  (k:∀a c (ready:List Ev) d,ready.map Ev.p=(s.offer first (items.map Ev.p)).2.1->(∀e∈ready,io Q e)->
   aA d (slA 99 4 a ready.length c (flat cw ready)::hldA Q hb (s.offer first (items.map Ev.p)).1::F)->K (.tuple #[.slice a ready.length c,aC (s.offer first (items.map Ev.p)).2.2]) d) :
  CF 153 #[PA hb 0,aC first,.slice n items.length w] H K:=by
 obtain⟨mb,rows,m,h⟩:=kY.1 h;have t:s=mapH Ev.p ⟨s.next,s.most,rows⟩:=by unfold mapH;rw[m.1]
 have i:=S4 Ev.p ⟨s.next,s.most,rows⟩ first items;rw[<-t]at i;rw[i]at k;have j:(⟨s.next,s.most,rows⟩:HS Ev).Ok:=ok_mapH.1 (t▸ok);have hm:=un (s:=⟨s.next,s.most,rows⟩) (first:=first) (items:=items);have b:((⟨s.next,s.most,rows⟩:HS Ev).offer first items).1.most=s.most:=by unfold HS.offer;split <;> rfl
 refine Rl (s:=⟨s.next,s.most,rows⟩) h j B A f λa c d h=>?_
 refine k a c _ d rfl (λe v=>?_) ?_
 .rcases hm.1 e v with h|⟨p,h,rfl⟩
  .exact u e h
  .exact m.2 p h
 .have h:=h.o [1,2,0] 3;have y:aA d (hldA Q hb (mapH Ev.p ((⟨s.next,s.most,rows⟩:HS Ev).offer first items).1)::_):=kY.2 ⟨mb,_,⟨rfl,λx C=>by
   rcases hm.2 x C with h|h
   .exact u _ h
   .exact m.2 x h⟩,by
    show aA d (holdC hb mb _ ((⟨s.next,s.most,rows⟩:HS Ev).offer first items).1.most::_);rw[b];exact h⟩
  exact y.o [1,0] 2
theorem A8(h:aA H (hldA Q hb s::F))(n:gJ s.rows)(m:∀p∈s.rows,aF p.1)(f:s.rows.length<=1000000)
  (k:∀a c d,aA d (slA 2 1 a s.rows.length c ((aG s.rows).map aC)::hldA Q hb s::F)->K (.slice a s.rows.length c) d) :
  CF 122 #[PA hb 0] H K:=by
 obtain⟨mb,rows,e,h⟩:=kY.1 h;rw[<-e.1]at n m f;have b:s.rows.length=rows.length:=by rw[<-e.1,Aw]
 have j:aG s.rows=aG rows:=by rw[<-e.1,S2]
 refine Iv h (wT.1 n) (λp i=>m (p.1,p.2.p) (V3.2 ⟨p,i,rfl⟩)) (by rw[Aw]at f;exact f) λa c d h=>?_
 rw[<-b];refine k a c d ?_;rw[b,j];have h:=h.o [1,2,0] 3;have h:=kY.2 ⟨mb,rows,e,h⟩;exact h.o [1,0] 2
theorem S6(h:aA H (hldA Q hb s::F))(n:gJ s.rows)(m:∀p∈s.rows,aF p.1)(f:s.rows.length<=1000000)
  (k:∀a c (evs:List Ev) d,evs.map Ev.p=s.rows.map (·.2)->(∀e∈evs,io Q e)->aA d (slA 99 4 a evs.length c (flat cw evs)::hldA Q hb s.drain::F)->K (.slice a evs.length c) d) :
  CF 123 #[PA hb 0] H K:=by
 obtain⟨mb,rows,j,h⟩:=kY.1 h;rw[<-j.1]at n m f;refine Rm h (wT.1 n) (λp i=>m (p.1,p.2.p) (V3.2 ⟨p,i,rfl⟩)) (by rw[Aw]at f;exact f) λa c d h=>?_
 have h:=h.o [1,2,0] 3;have v:aA d (hldA Q hb s.drain::_):=kY.2 ⟨mb,[],⟨rfl,λx y=>Vu y (by simp)⟩,h⟩
 have b:(rows.map (·.2)).length=rows.length:=V8 ..;have t:=k a c (rows.map (·.2)) d (by rw[<-j.1];unfold eM;rw[Wh,Wh];rfl) (λe u=>by
  obtain⟨p,w,rfl⟩:=V3.1 u;exact j.2 p w) (by rw[b];exact v.o [1,0] 2)
 rw[b]at t;exact t
theorem Jz(h:aA H (hldA Q hb s::F))
  (k:∀a b,aA b (hldA Q a s::hldA Q hb s::F)->K (PA a 0) b):CF 63 #[PA hb 0] H K:=by
 obtain⟨mb,rows,d,h⟩:=kY.1 h;refine Rn h λa c b h=>k a b ?_
 have h:=h.o [2,3,0,1] 4;have h:=kY.2 ⟨mb,rows,d,h⟩;have h:=h.o [1,2,0] 3;exact kY.2 ⟨c,rows,d,h⟩
end
def gS(e:Pv):Bool:=decide (0<=e.stamp)&&decide (e.stamp<=4611686018427387903)&&fx e.name e.labs
def gT(next:Int)(evs:List Pv):Bool:=decide (0<=next)&&decide (next<=4611686018427387903)&&(decide (1<=evs.length)&&decide (evs.length<=64)&&decide (next<=1099511627776-evs.length)&&evs.all gS)
structure Rp where
 kind:Int
 ag:Int
 ep:Int
 bt:Int
 nx:Int
 st:Int
 nw:Int
 sm:bQ
 evs:List Pv
def cu(k:Int):List Nat:=if k=2 then [1,3,6] else if k=3 then [1,2,7,8,9,10] else if k=4 then [1,2,4,6] else if k=5 then [1,2,4,5,6] else if k=6 then [6] else if k=7 then [4] else []
def zrK(k:Int)(i:Nat)(x:Int):Int:=if i∈cu k then 0 else x
abbrev inM(x least most:Int):Bool:=decide (least<=x)&&decide (x<=most)
def Rp.zeros(r:Rp):Bool:=(decide (zrK r.kind 1 r.ag=0)&&decide (zrK r.kind 2 r.ep=0)&&decide (zrK r.kind 3 r.bt=0)&&decide (zrK r.kind 4 r.nx=0)&&decide (zrK r.kind 5 r.st=0)&&decide (zrK r.kind 6 r.nw=0)) &&
 (decide (zrK r.kind 7 r.sm.asked=0)&&decide (zrK r.kind 8 r.sm.got=0)&&decide (zrK r.kind 9 r.sm.sent=0)&&decide (zrK r.kind 10 r.sm.came=0))
def Rp.lim(r:Rp):Bool:=inM r.ag 0 63&&inM r.ep (if r.kind=3\/r.kind=4\/r.kind=5 then 1 else 0) 1099511627776&&inM r.bt (if r.kind=2 then 1 else 0) 1099511627776&&inM r.nx 0 1099511627776&&inM r.st 0 4611686018427387903&&inM r.nw 0 4611686018427387903&&decide (r.sm.ok)
def Rp.right(r:Rp):Bool:=inM r.kind 1 7&&r.zeros&&(if r.kind=4 then gT r.nx r.evs else decide (r.evs.length=0))&&r.lim
abbrev dg(r:Rp)(a:KQ)(c:Nat):Os:=[aB r.kind,aB r.ag,aB r.ep,aB r.bt,aB r.nx,aB r.st,aB r.nw,aB r.sm.asked,aB r.sm.got,aB r.sm.sent,aB r.sm.came,.slice a r.evs.length c]
theorem kinds{k:Int}(a:¬k<1)(b:¬7<k):k=1\/k=2\/k=3\/k=4\/k=5\/k=6\/k=7:=by omega
section
variable {F L:List aE}{H:aD}{K:KE}
theorem wU{next:Int}{evs:List Ev}:mK next evs=gT next (evs.map Ev.p):=by
 unfold mK iD gT;rw[V8,List.all_map];rfl
theorem ow{x a b:Int}:bX Tryz.prog 138 #[aC x,aC a,aC b] H (.bool (inM x a b)):=cM 138 28 ⟨rfl,rfl⟩
theorem AA{b e:Nat}{k0:Int}{cs:Os}(h:aA H F)(i:Nat)(j:aW i F=cellsA b cs e)(m:aT cs 0=some (aC k0))
  (k:∀a c f,aA f (slA 297 1 a (cu k0).length c ((cu k0).map λi=>PA b i)::F)->K (.slice a (cu k0).length c) f):CF 136 #[PA b 0] H K:=by
 refine cM 136 0x121513c131c13c13c13cbc ?_;have fin:∀(l:List Nat) p f,cu k0=l->aA f (cellsA p (l.map λi=>PA b i) 297::F)->K (.slice (some ⟨p,0,none⟩) l.length l.length) f:=by
  intro l p f e h;subst e;refine k _ _ _ ?_;exact aA.sl_pt h 1 _ (by simp)
 refine⟨k0,(h.rd i j 0).trans m,λd=>?_,λd=>⟨λd=>?_,λd=>⟨λd=>?_,λd=>⟨λd=>?_,λd=>⟨λd=>?_,λd=>⟨λd=>?_,λd=>?_⟩⟩⟩⟩⟩⟩
 .have d:=Vw d;subst d;exact h.al λp _ h=>fin [1,3,6] p _ rfl h
 .have d:=Vw d;subst d;exact h.al λp _ h=>fin [1,2,7,8,9,10] p _ rfl h
 .have d:=Vw d;subst d;exact h.al λp _ h=>fin [1,2,4,6] p _ rfl h
 .have d:=Vw d;subst d;exact h.al λp _ h=>fin [1,2,4,5,6] p _ rfl h
 .have d:=Vw d;subst d;exact h.al λp _ h=>fin [6] p _ rfl h
 .have d:=Vw d;subst d;exact h.al λp _ h=>fin [4] p _ rfl h
 .have e:cu k0=[]:=by
   unfold cu;simp only[V0]at *;simp only[*,if_false]
  have:=k none 0 H (by rw[e];exact h.sl_nil 297 1);rw[e]at this;exact this
def zrL(cs:Os)(is:List Nat):Os:=is.foldl (λcs i=>cv cs i [aC 0]) cs
theorem zrL_len(cs:Os):∀is,(zrL cs is).length=cs.length:=by
 intro is
 induction is generalizing cs with
 | nil=>rfl
 | cons i r ih=>show (zrL (cv cs i [aC 0]) r).length=_;rw[ih,oe]
theorem zrL_take(cs:Os)(is:List Nat)(j:Nat)(h:j<is.length):zrL cs (is.take (j+1))=cv (zrL cs (is.take j)) is[j] [aC 0]:=by
 unfold zrL;rw[Wf h,WF];rfl
theorem AB{k:Int}:∀i∈cu k,i<11:=by
 unfold cu
 split
 .decide
 split
 .decide
 split
 .decide
 split
 .decide
 split
 .decide
 split
 .decide
 .decide
theorem wV(k:Int):(cu k).length<=6:=by
 unfold cu
 split
 .decide
 split
 .decide
 split
 .decide
 split
 .decide
 split
 .decide
 split
 .decide
 .decide
theorem zrL_enc{r:Rp}{a:KQ}{c:Nat}(b:¬r.kind<1)(d:¬7<r.kind):zrL (dg r a c) (cu r.kind) =
  [aC r.kind,aC (zrK r.kind 1 r.ag),aC (zrK r.kind 2 r.ep),aC (zrK r.kind 3 r.bt),aC (zrK r.kind 4 r.nx),aC (zrK r.kind 5 r.st),aC (zrK r.kind 6 r.nw),aC (zrK r.kind 7 r.sm.asked),aC (zrK r.kind 8 r.sm.got),aC (zrK r.kind 9 r.sm.sent),aC (zrK r.kind 10 r.sm.came),.slice a r.evs.length c]:=by
 obtain⟨kind,ag,ep,bt,nx,st,nw,sm,evs⟩:=r;dsimp only at b d
 rcases kinds b d with rfl|rfl|rfl|rfl|rfl|rfl|rfl <;> rfl
theorem eq180{a b c d e f:Int}:gY Tryz.prog .neq 298 (.agg #[aC a,aC b,aC c,aC d,aC e,aC f]) (.agg #[aC 0,aC 0,aC 0,aC 0,aC 0,aC 0])
  (!(decide (a=0)&&decide (b=0)&&decide (c=0)&&decide (d=0)&&decide (e=0)&&decide (f=0))):=by
 have h:=(yO (P:=Tryz.prog) (t:=298) (xs:=[aC a,aC b,aC c,aC d,aC e,aC f]) (ys:=[aC 0,aC 0,aC 0,aC 0,aC 0,aC 0])
  (r:=(a == 0&&(b == 0&&(c == 0&&(d == 0&&(e == 0&&(f == 0&&true))))))) (by kernel_rfl)).2
 have e:(a == 0&&(b == 0&&(c == 0&&(d == 0&&(e == 0&&(f == 0&&true))))))=(decide (a=0)&&decide (b=0)&&decide (c=0)&&decide (d=0)&&decide (e=0)&&decide (f=0)):=by
  rw[Wb];simp only[Vz,beq_iff_eq,Vy,Bool.and_true]
  constructor
  .rintro⟨h1,h2,h3,h4,h5,h6⟩;exact⟨⟨⟨⟨⟨h1,h2⟩,h3⟩,h4⟩,h5⟩,h6⟩
  .rintro⟨⟨⟨⟨⟨h1,h2⟩,h3⟩,h4⟩,h5⟩,h6⟩;exact⟨h1,h2,h3,h4,h5,h6⟩
 rw[e]at h;exact h
theorem eq43{a b c d:Int}:gY Tryz.prog .neq 58 (.agg #[aC a,aC b,aC c,aC d]) (.agg #[aC 0,aC 0,aC 0,aC 0])
  (!(decide (a=0)&&decide (b=0)&&decide (c=0)&&decide (d=0))):=by
 have h:=(qn (P:=Tryz.prog) (t:=58) (xs:=[aC a,aC b,aC c,aC d]) (ys:=[aC 0,aC 0,aC 0,aC 0])
  (r:=(a == 0&&(b == 0&&(c == 0&&(d == 0&&true))))) (by kernel_rfl)).2
 have e:(a == 0&&(b == 0&&(c == 0&&(d == 0&&true))))=(decide (a=0)&&decide (b=0)&&decide (c=0)&&decide (d=0)):=by
  rw[Wb];simp only[Vz,beq_iff_eq,Vy,Bool.and_true]
  constructor
  .rintro⟨h1,h2,h3,h4⟩;exact⟨⟨⟨h1,h2⟩,h3⟩,h4⟩
  .rintro⟨⟨⟨h1,h2⟩,h3⟩,h4⟩;exact⟨h1,h2,h3,h4⟩
 rw[e]at h;exact h
theorem AC{r:Rp}{a:KQ}{c:Nat}{evs:List Ev}(S:r.evs=evs.map Ev.p)(h:aA H F)(ha:lN F a evs)(Z:evs.length<=1099511627776)
  (k:∀L,aA L F->K (.bool r.right) L):CF 64 #[.agg ⟨dg r a c⟩] H K:=by
 have w:r.evs.length=evs.length:=by rw[S,V8]
 refine cN 64 0x1d1215612399251441d2171bb121517421791794749289 [[(2,sB)],[(8,sI)],[(70,sB)],[(70,sB)],[(8,sI),(9,sI)],[],[(21,sI)]] ?_;refine h.al λb _ h=>⟨_,h.r 0,_,λ_=>h.r 0,λy=>?_,λy=>?_⟩
 .have:r.right=false:=by
   unfold Rp.right inM;simp only[VE,Vy]at y;have:(decide (1<=r.kind)&&decide (r.kind<=7))=false:=by
    simp only[Wc,V0];omega
   rw[this];simp
  rw[this]at k;exact k _ h.tl
 simp only[VB,V0]at y;have D:inM r.kind 1 7=true:=by unfold inM;rw[VF (by omega),VF (by omega)];rfl
 refine⟨_,_,_,_,_,_,_,_,_,_,_,_,_,_,h.q 0,?_⟩;refine h.al λb1 _ h=>?_
 refine h.st 0 rfl rfl ?_;intro H2 h;refine AA h 0 rfl rfl λp pc H3 h=>⟨_,_,_,rfl,?_⟩
 refine⟨λi L=>∃j:Nat,i=j/\j<=(cu r.kind).length/\aA L (slA 297 1 p (cu r.kind).length pc ((cu r.kind).map λi=>PA b1 i)::cellsA b1 (zrL (dg r a c) ((cu r.kind).take j)) 61::cellsA b (dg r a c) 61::F),
  λi _=>(cu r.kind).length-i.toNat,⟨0,rfl,by omega,h⟩,?_⟩
 rintro i H4 ⟨j,rfl,hj,h⟩;refine⟨λe=>?_,λe=>?_⟩
 .have e:j<(cu r.kind).length:=by have:=Vw e;omega
  have U:=(h.sl_rd 0 rfl).at e;have hi:=AB _ (V7 e);have ho:=wV r.kind;refine⟨by omega,_,_,U.1,_,U.2,?_⟩;refine h.st 1 rfl (by rw[zrL_len];exact Nat.ble_eq_true_of_le (by show (cu r.kind)[j]+1<=12;omega)) ?_;intro Y h
  conv=>whnf
  rw[aK (x:=(j:Int)+1)];refine⟨⟨j+1,by omega,e,?_⟩,by dsimp only;omega⟩;rw[zrL_take _ _ _ e];exact h
 .have O:(cu r.kind).length<=j:=by have:=Vx e;omega
  rw[VR O,zrL_enc y.1 y.2]at h;refine⟨_,h.r 1,_,h.r 1,_,h.r 1,_,h.r 1,_,h.r 1,_,h.r 1,?_⟩;refine h.al λb3 _ h=>?_
  refine h.st 0 rfl rfl ?_;intro Y h;refine⟨_,_,_,_,_,_,h.q 0,_,eq180,_,_,_,_,λ_=>h.q 2,_,λ_=>eq43,λv=>?_,λv=>?_⟩
  .have:r.right=false:=by
    have:r.zeros=false:=by
     unfold Rp.zeros;rw[Wc];rw[VE,VP,VP]at v;exact v
    unfold Rp.right;rw[this];simp
   rw[this]at k;exact k _ h.tl.tl.tl.tl
  have T:r.zeros=true:=by
   rw[VB,Wd,Wd]at v;unfold Rp.zeros;rw[v.1,v.2];rfl
  have E:r.right=((if r.kind=4 then gT r.nx r.evs else decide (r.evs.length=0))&&r.lim):=by
   unfold Rp.right;rw[D,T];simp
  refine⟨_,h.r 3,?_⟩;intro Jn hJ;have fin:∀u,(if r.kind=4 then gT r.nx r.evs else decide (r.evs.length=0))=true->aA u (cellsA b (dg r a c) 61::F)->Jn u:=by
   intro u hb h;rw[hb,Yc]at E;refine hJ _ ?_;refine⟨_,h.r 0,?_⟩;intro R M;have f:∀ep bt,ep=(if r.kind=3\/r.kind=4\/r.kind=5 then (1:Int) else 0)->bt=(if r.kind=2 then (1:Int) else 0)->R ep bt u:=by
    rintro _ _ rfl rfl;refine M _ _ _ ?_;intro h1 I;refine⟨_,h.r 0,_,ow,_,λ_=>h.r 0,_,λ_=>ow,_,λ_=>h.r 0,_,λ_=>ow,_,λ_=>h.r 0,_,λ_=>ow,_,λ_=>h.r 0,_,λ_=>ow,_,λ_=>h.r 0,_,λ_=>ow,_,_,_,_,λ_=>h.q 0,λJ=>?_,λJ=>?_⟩
    .refine wG (s:=r.sm) h λV h=>⟨_,rfl,I _ _ ?_⟩
     have:r.right=decide r.sm.ok:=by
      rw[E];unfold Rp.lim;rw[J,Yc]
     rw[this]at k;exact k _ h.tl
    .refine I _ _ ?_;have:r.right=false:=by
      rw[E];unfold Rp.lim;rw[Bool.not_eq_true]at J;rw[J,Bool.false_and]
     rw[this]at k;exact k _ h.tl
   refine⟨λd=>?_,λd=>?_⟩
   .have d:=Vw d;exact f _ _ (by rw[nO]) (by rw[Vt d])
   intro N P;have B:=Vx d;have f3:∀t:Bool,t=decide (r.kind=3\/r.kind=4\/r.kind=5)->N t u:=by
    rintro t rfl;refine P _ _ ?_;intro W C;refine⟨λQ=>?_,λQ=>?_⟩
    .refine C _ _ ?_;exact f _ _ (by rw[Vt (Vw Q)]) (by rw[Vs B])
    .refine C _ _ ?_;exact f _ _ (by rw[Vs (Vx Q)]) (by rw[Vs B])
   refine⟨λd=>?_,λd=>?_⟩
   .have n:=Vw d;exact f3 _ (by rw[VF n,VF (.inl n)])
   intro h0 A;have n:=Vx d;refine⟨λd=>?_,λd=>?_⟩
   .have m:=Vw d;refine A _ _ ?_;exact f3 _ (by rw[VF m,VF (.inr (.inl m))])
   .have m:=Vx d;refine A _ _ ?_;refine f3 _ ?_;rw[Wb,Vy,Vy];omega
  refine⟨λd=>?_,λd=>?_⟩
  .have d:=Vw d;refine⟨_,h.r 3,_,_,_,h.r 3,?_⟩;refine h.al λb4 _ h=>?_
   refine h.st 0 rfl rfl ?_;intro u h;refine⟨_,_,_,_,_,_,_,_,_,_,_,_,_,_,_,_,_,_,_,_,h.q 0,?_⟩;rw[w]at h ⊢;refine Jo (evs:=evs) h (((((ha.cons _).cons _).cons _).cons _).cons _) Z λV h=>⟨_,rfl,λhb=>?_,λhb=>?_⟩
   .have:r.right=false:=by
     rw[E,Vt d,S,<-wU];rw[VP]at hb;rw[hb];rfl
    rw[this]at k;exact k _ h.tl.tl.tl.tl.tl
   .refine fin _ ?_ ?_
    .rw [Vt d,S,<-wU];simpa using hb
    .rw [<-w]at h;exact h.o [4] 5
  .have d:=Vx d;refine⟨_,_,_,h.r 3,λG=>?_,λG=>?_⟩
   .have G:=Vw G;have:r.right=false:=by
     rw[E,Vs d,Wj (by omega)];rfl
    rw[this]at k;exact k _ h.tl.tl.tl.tl
   .have G:=Vx G;refine fin _ ?_ (h.o [3] 4);rw[Vs d,VF (by omega)]
end
def u64N(v:Int):Nat:=(u64.wrap v).toNat
def aO(l:List Int):List Int:=l.flatMap λv=>bR (u64N v)
theorem iE(l:List Int):aH (aO l):=j0 λ_ _=>oS _
abbrev Rd(α:Type):=RS->Except Int (α×RS)
def okR{α:Type}(s:RS)(x:α):Except Int (α×RS):=if s.e≠0 then .error s.e else .ok (x,s)
def ei:Rd Int:=λs=>okR (bM s).2 ((bM s).1:Int)
def cH:Rd Int:=λs=>okR (bM s).2 (i64.wrap ((bM s).1:Int))
def gj:Rd Int:=λs=>okR (dE s).2 (dE s).1
def dO(m:Int):Rd Int:=λs=>okR (bY m s).2 (bY m s).1
def upR(m:Int):Rd Int:=λs=>match cH s with
 | .ok (v,s')=>if inM v 0 m then .ok (v,s') else .error 10
 | .error e=>.error e
def iZ:Rd Pv:=λs=>match cH s with
 | .error e=>.error e
 | .ok (a,s1)=>match gj s1 with
  | .error e=>.error e
  | .ok (b,s2)=>okR ⟨(cO s2).e,(cO s2).rest.bs⟩ ⟨a,b,(cO s2).name,(cO s2).labs⟩
def evB(e:Pv):List Int:=(aO [e.stamp]++cY [e.value])++iX e.name e.labs
theorem wW(e:Pv):aH (evB e):=dD (dD (iE _) (tT _)) (Ak _ _)
def Rp.nums(r:Rp)(i:Nat):Int:=match i with|1=>r.ag|2=>r.ep|3=>r.bt|4=>r.nx|5=>r.st|6=>r.nw|7=>r.sm.asked|8=>r.sm.got|9=>r.sm.sent|10=>r.sm.came|_=>0
def Rp.bytes(r:Rp):List Int:=if r.right then (aO [r.kind]++(cu r.kind).flatMap (λi=>aO [r.nums i]))++(if r.kind=4 then aO [(r.evs.length:Int)] else [])++r.evs.flatMap evB else []
theorem sj(v:Int):u64N v<18446744073709551616:=by
 have:=tR v;unfold u64N;omega
theorem wX(v:Int):u64.wrap v=(u64N v:Nat):=by
 have:=tR v;unfold u64N;omega
theorem dK(l:List Int):(aO l).length<=10*l.length:=by
 induction l with
 | nil=>simp[aO]
 | cons v r ih=>
  have:=ol (sj v);unfold aO at ih ⊢;rw[VU,Vv,V1];omega
theorem wY(e:Pv):(evB e).length<=1320:=by
 have a:=dK [e.stamp];have c:=mB [e.value];have b:=wQ e.name e.labs;unfold evB;simp only[Vv,V1,VN]at *;omega
section
variable {F L:List aE}{H:aD}{K KP:KE}{Q:aE}
theorem pu{a:KQ}{c:Nat}{vs:List Int}(h:aA H F)(C:∀H,aA H F->aP H a (vs.map aC))(I:vs.length<=1000000)
  (k:∀m d n,aA n (slA 5 1 m (aO vs).length d ((aO vs).map U8)::F)->K (.slice m (aO vs).length d) n) :
  CF 49 #[.slice a vs.length c] H K:=by
 refine cN 49 0x1121561239925144c [[(3,sS),(8,sI)]] ?_;refine⟨λm y d i n=>∃j:Nat,i=j/\j<=vs.length/\y=(aO (vs.take j)).length/\aA n (slA 5 1 m (aO (vs.take j)).length d ((aO (vs.take j)).map U8)::F),λ_ _ _ i _=>vs.length-i.toNat,
  ⟨0,rfl,VQ _,rfl,h.sl_nil 5 1⟩,?_⟩
 rintro a1 n1 c1 i D ⟨j,rfl,E,rfl,h⟩;refine⟨λs=>?_,λs=>?_⟩
 .have b:j<vs.length:=by have:=Vw s;omega
  have u:=(C _ h.tl).at b;refine⟨by omega,_,_,u.1,vs[j],u.2,?_⟩;dsimp only
  conv=>whnf
  rw[wX];have A:=dK (vs.take j);have w:=ol (sj vs[j]);have B:(vs.take j).length<=vs.length:=by rw[VM];omega
  refine h.al λb1 _ h=>?_
  refine qv (us:=[u64N vs[j]]) h (λH h=>h.ce_rd 0 rfl) (by simp;exact sj _) (by simp) λa2 c2 J h=>⟨_,_,_,rfl,?_⟩
  rw[wP]at h ⊢
  conv=>whnf
  refine dq h (i:=2) rfl rfl rfl (h.sl_rd 0 rfl) (by omega) λa3 c3 G h=>⟨_,_,_,rfl,?_⟩
  conv=>whnf
  rw[aK (x:=(j:Int)+1)];have e:aO (vs.take (j+1))=aO (vs.take j)++bR (u64N vs[j]):=jQ (f:=λv=>bR (u64N v)) b
  rw[<-e]at h ⊢;exact⟨⟨j+1,by omega,b,rfl,h.o [2] 3⟩,by dsimp only;omega⟩
 .have t:vs.length<=j:=by have:=Vx s;omega
  have e:vs.take j=vs:=VR t;rw[e]at h ⊢;exact k _ _ _ h
theorem nR{b:Nat}{v:Int}(h:aA H F)(i:Nat)(e:aW i F=cellsA b [aC v] 2)
  (k:∀a c d,aA d (slA 5 1 a (aO [v]).length c ((aO [v]).map U8)::F)->K (.slice a (aO [v]).length c) d) :
  CF 49 #[.slice (some ⟨b,0,none⟩) 1 1] H K:=
 pu (vs:=[v]) h (λH h=>h.ce_rd i e) (by simp) k
theorem qG{b:Nat}{v:Int}(h:aA H F)(i:Nat)(e:aW i F=cellsA b [aC v] 2)
  (k:∀a c d,aA d (slA 5 1 a (cY [v]).length c ((cY [v]).map U8)::F)->K (.slice a (cY [v]).length c) d) :
  CF 51 #[.slice (some ⟨b,0,none⟩) 1 1] H K:=
 Gi (vs:=[v]) h (λH h=>h.ce_rd i e) (by simp) k
theorem J0{e:Ev}(h:aA H F)(v:∀H,aA H F->aP H e.la (flat df e.labs))
  (k:∀s t f,aA f (slA 5 1 s (evB e.p).length t ((evB e.p).map U8)::F)->K (.slice s (evB e.p).length t) f) :
  CF 125 #[aggV e] H K:=by
 refine cN 125 4748 [[(3,sS)]] ?_;refine h.al λb _ h=>?_
 intro w u;have l1:=dK [e.stamp];have l2:=mB [e.value];have l3:=wQ e.name e.labs;simp only[V1,VN]at l1 l2;have d:∀a c f,aA f (slA 5 1 a (aO [e.stamp]++cY [e.value]).length c ((aO [e.stamp]++cY [e.value]).map U8)::cellsA b (cw e) 99::F)->w a (aO [e.stamp]++cY [e.value]).length c f:=by
  intro a c f h;refine u _ _ _ _ ?_;refine⟨_,_,_,_,h.q 1,?_⟩;refine Ar h (λH h=>v H h.tl.tl) λa2 c2 j h=>⟨_,_,_,rfl,?_⟩
  conv=>whnf
  refine dq h (i:=1) rfl rfl rfl (h.sl_rd 0 rfl) (by rw[Vv];omega) λa3 c3 m h=>⟨_,_,_,rfl,?_⟩
  exact k _ _ _ (h.o [1] 3)
 refine⟨_,h.r 0,_,h.r 0,?_,?_⟩
 .refine h.al λb1 _ h=>⟨h.r 1,?_,?_⟩
  .refine nR h 0 rfl λa1 c1 j h=>⟨_,_,_,rfl,h.r 2,?_⟩
   refine h.al λb2 _ h=>?_
   refine qG h 0 rfl λa2 c2 n h=>⟨_,_,_,rfl,?_⟩
   conv=>whnf
   refine dq h (i:=2) rfl rfl rfl (h.sl_rd 0 rfl) (by omega) λa3 c3 m h=>⟨_,_,_,rfl,?_⟩
   exact d _ _ _ (h.o [2,4] 5)
  .refine h.al λb2 _ h=>?_
   refine nR h 1 rfl λa1 c1 j h=>⟨_,_,_,rfl,?_⟩
   refine qG h 1 rfl λa2 c2 n h=>⟨_,_,_,rfl,?_⟩
   conv=>whnf
   refine dq h (i:=1) rfl rfl rfl (h.sl_rd 0 rfl) (by omega) λa3 c3 m h=>⟨_,_,_,rfl,?_⟩
   exact d _ _ _ (h.o [1,4] 5)
 .refine h.al λb2 _ h=>⟨h.r 1,?_⟩
  refine h.al λb1 _ h=>?_
  refine nR h 0 rfl λa1 c1 j h=>⟨_,_,_,rfl,?_⟩
  refine qG h 2 rfl λa2 c2 n h=>⟨_,_,_,rfl,?_⟩
  conv=>whnf
  refine dq h (i:=1) rfl rfl rfl (h.sl_rd 0 rfl) (by omega) λa3 c3 m h=>⟨_,_,_,rfl,?_⟩
  exact d _ _ _ (h.o [1,4] 5)
abbrev pnV(e:Int):Value:=.iface 50 (aC e)
def sk{α:Type}(rb:Nat)(F:List aE)(enc:α->Value)(K KP:KE):Except Int (α×RS)->Prop
 | .ok (x,s)=>∀H',s.e=0->aH s.bs->s.bs.length<=1099511627776->aA H' (crdA rb s::F)->K (enc x) H'
 | .error e=>∀H',e≠0->aA H' F->KP (pnV e) H'
theorem j8{e:Int}(k:e=0->K (.tuple #[]) H)(kp:e≠0->KP (pnV e) H):CP 203 #[aC e] H K KP:=by
 refine cNP 203 5961 [[]] ?_;refine λc b=>⟨λa=>kp (by simpa using a),λa=>b _ ?_⟩
 exact k (by simpa using a)
theorem uq{rb:Nat}{s:RS}(h:aA H (crdA rb s::F))(hb:aH s.bs)(c:s.bs.length<=1099511627776)(k:sk rb F (λv:Int=>.int .u64 v) K KP (ei s)) :
  CP 207 #[.agg #[PA rb 0]] H K KP:=by
 refine cMP 207 4380 ?_;refine h.al λb _ h=>⟨_,h.r 0,?_⟩
 have h:=h.o [1,0] 2;refine nL h hb c λf h=>⟨_,rfl,_,h.r 1,_,mA h,?_⟩
 have a:=gK hb;have d:=jR s;unfold ei okR at k;refine j8 (λe=>⟨rfl,?_⟩) λe=>?_
 .rw [Vs (by simpa using e)]at k;exact k _ e a (by omega) (h.o [0] 2)
 .rw [Vt e]at k;exact k _ e h.tl.tl
theorem ko{rb:Nat}{s:RS}(h:aA H (crdA rb s::F))(hb:aH s.bs)(a:s.bs.length<=1099511627776)(k:sk rb F aC K KP (cH s)) :
  CP 201 #[.agg #[PA rb 0]] H K KP:=by
 refine cMP 201 28 ?_;refine h.al λb _ h=>⟨_,h.rd 0 rfl 0,?_⟩
 have h:=h.o [1,0] 2;refine uq h hb a ?_;unfold ei okR;unfold cH okR at k
 split
 .rename_i e;rw[Vt e]at k;exact λd c h=>k _ c h.tl
 .rename_i e;rw[Vs e]at k;exact λd c hb a h=>⟨_,rfl,k _ c hb a (h.o [0] 2)⟩
theorem ur{rb:Nat}{s:RS}(h:aA H (crdA rb s::F))(hb:aH s.bs)(c:s.bs.length<=1099511627776)(k:sk rb F aC K KP (gj s)) :
  CP 199 #[.agg #[PA rb 0]] H K KP:=by
 refine cMP 199 4380 ?_;refine h.al λb _ h=>⟨_,h.r 0,?_⟩
 have h:=h.o [1,0] 2;refine wt h hb c λf h=>⟨_,rfl,_,h.r 1,_,mA h,?_⟩
 have a:aH (dE s).2.bs:=gK hb;have d:(dE s).2.bs.length<=s.bs.length:=jR s;unfold gj okR at k;refine j8 (λe=>⟨rfl,?_⟩) λe=>?_
 .rw [Vs (by simpa using e)]at k;exact k _ e a (by omega) (h.o [0] 2)
 .rw [Vt e]at k;exact k _ e h.tl.tl
theorem ut{rb:Nat}{s:RS}{m:Int}(hm:aF m)(h:aA H (crdA rb s::F))(hb:aH s.bs)(c:s.bs.length<=1099511627776)(k:sk rb F aC K KP (dO m s)) :
  CP 200 #[.agg #[PA rb 0],aC m] H K KP:=by
 refine cMP 200 4380 ?_;refine h.al λb _ h=>⟨_,h.r 0,?_⟩
 have h:=h.o [1,0] 2;refine tO (most:=m) h hb c hm λf h=>⟨_,rfl,_,h.r 1,_,mA h,?_⟩
 have a:=rQ (m:=m) hb;have d:=rR s m;unfold dO okR at k;refine j8 (λe=>⟨rfl,?_⟩) λe=>?_
 .rw [Vs (by simpa using e)]at k;exact k _ e a (by omega) (h.o [0] 2)
 .rw [Vt e]at k;exact k _ e h.tl.tl
theorem sq{rb:Nat}{s:RS}{m:Int}(h:aA H (crdA rb s::F))(hb:aH s.bs)(c:s.bs.length<=1099511627776)(k:sk rb F aC K KP (upR m s)) :
  CP 198 #[.agg #[PA rb 0],aC m] H K KP:=by
 refine cNP 198 287405212 [[]] ?_;refine h.al λb _ h=>⟨_,h.rd 0 rfl 0,?_⟩
 have h:=h.o [1,0] 2;refine ko h hb c ?_;unfold upR at k
 cases hr:cH s with
 | error e=>
  rw[hr]at k;exact λi d h=>k _ d h.tl
 | ok p=>
  obtain⟨v,s1⟩:=p;rw[hr]at k;dsimp only at k;intro i d hb c h;refine⟨_,rfl,_,ow,?_⟩;refine λj f=>⟨λa=>?_,λa=>f _ ?_⟩
  .rw [Vs (by rw[VP]at a;rw[a];simp)]at k;exact k _ (by decide) h.tl.tl
  .skip
   rw[Vt (by rw[Wd]at a;exact a)]at k;exact k _ d hb c (h.o [0] 2)
theorem sr{s:RS}(h:(cO s).e=0):(⟨(cO s).e,(cO s).rest.bs⟩:RS)=(cO s).rest:=by
 unfold cO at h ⊢
 split at h
 .rename_i a;exact Vu h a
 .rename_i a;rw[Vs a];have a:(dJ (bY 8 (aZ 64 s).2).1.toNat (bY 8 (aZ 64 s).2).2).2.e=0:=by simpa using a
  generalize dJ (bY 8 (aZ 64 s).2).1.toNat (bY 8 (aZ 64 s).2).2=W at *;obtain⟨w1,w2,w3⟩:=W;dsimp only at a;subst a
  split at h
  .rename_i b;rw[Vt b]
  .simp at h
def EPost(rb:Nat)(Q:aE)(F:List aE)(K KP:KE):Except Int (Pv×RS)->Prop
 | .ok (x,s)=>∀Q' (e:Ev) H',aM Q Q'->io Q' e->e.p=x->s.e=0->aH s.bs->s.bs.length<=1099511627776->aA H' (Q'::crdA rb s::F)->K (aggV e) H'
 | .error e=>∀Q' H',e≠0->aM Q Q'->aA H' (Q'::F)->KP (pnV e) H'
theorem wZ{rb:Nat}{s:RS}(h:aA H (Q::crdA rb s::F))(hb:aH s.bs)(x:s.bs.length<=1099511627776)(k:EPost rb Q F K KP (iZ s)) :
  CP 211 #[.agg #[PA rb 0]] H K KP:=by
 refine cMP 211 69916 ?_;refine h.al λb _ h=>?_
 refine h.al λb1 _ h=>⟨_,h.rd 1 rfl 0,_,h.rd 1 rfl 0,?_⟩
 have h:=h.o [3,0,1,2] 4;refine ko h hb x ?_;unfold iZ at k
 cases hr:cH s with
 | error e=>
  rw[hr]at k;exact λj i h=>k _ _ i (aM.refl Q) (h.o [2] 3)
 | ok p=>
  obtain⟨v,s1⟩:=p;rw[hr]at k;dsimp only at k;intro j B t f h;refine⟨_,rfl,h.rd 2 rfl 0,?_⟩;refine ur h t f ?_
  cases hr:gj s1 with
  | error e=>
   rw[hr]at k;exact λj i h=>k _ _ i (aM.refl Q) (h.o [2] 3)
  | ok p=>
   obtain⟨u,s2⟩:=p;rw[hr]at k;dsimp only at k;intro j A d n h;refine⟨_,rfl,_,h.r 2,?_⟩;refine Jc h d n λa c C h=>⟨_,_,_,_,_,rfl,?_⟩
   have m:=Ap d;have y:=Aq s2;refine h.al λb2 _ h=>?_
   refine h.st 0 rfl rfl ?_;intro E h;unfold okR at k;refine j8 (λe=>?_) λe=>?_
   .rw [Vs (by simpa using e),sr e]at k;refine⟨rfl,_,_,_,_,h.q 0,?_⟩;refine h.st 3 rfl rfl ?_;intro D h;refine⟨_,_,_,_,_,_,h.q 3,?_⟩;have w:(cO s2).rest.e=0:=by rw[<-sr e];exact e
    refine k _ ⟨v,u,(cO s2).name,(cO s2).labs,a,c⟩ _ (aM.add (slA 421 2 a (cO s2).labs.length c (flat df (cO s2).labs)) Q) (KIn.sl (c:=c)) rfl w m (by omega) ?_;have h:=h.o [2,5,1] 6;exact gy.2 h
   .rw [Vt e]at k;have h:=h.o [5] 6;exact k _ _ e (aM.refl Q) h
end
theorem Rp.right_len{r:Rp}(h:r.right=true):r.evs.length<=64:=by
 unfold Rp.right at h;rw[Vz,Vz,Vz]at h;have h:=h.1.2
 split at h
 .unfold gT at h;simp only[Vz,Vy]at h;omega
 .have:=Vw h;omega
theorem ordK_pos{k:Int}:∀i∈cu k,1<=i:=by
 unfold cu
 split
 .decide
 split
 .decide
 split
 .decide
 split
 .decide
 split
 .decide
 split
 .decide
 .decide
theorem encR_get{r:Rp}{a:KQ}{c i:Nat}(b:1<=i)(d:i<11):aT (dg r a c) i=some (aC (r.nums i)):=by
 rcases (by omega:i=1\/i=2\/i=3\/i=4\/i=5\/i=6\/i=7\/i=8\/i=9\/i=10) with rfl|rfl|rfl|rfl|rfl|rfl|rfl|rfl|rfl|rfl <;> rfl
abbrev nmB(r:Rp)(is:List Nat):List Int:=is.flatMap λi=>aO [r.nums i]
theorem J1(r:Rp)(is:List Nat):(nmB r is).length<=10*is.length:=by
 induction is with
 | nil=>simp
 | cons i l ih=>
  have:=dK [r.nums i];unfold nmB at *;rw[VU,Vv,V1];simp only[V1,VN]at this;omega
theorem AD(l:List Pv):(l.flatMap evB).length<=1320*l.length:=by
 induction l with
 | nil=>simp
 | cons i l ih=>
  have:=wY i;rw[VU,Vv,V1];omega
section
variable {F L:List aE}{H:aD}{K KP:KE}{Q:aE}
theorem S7{r:Rp}{a:KQ}{c:Nat}{evs:List Ev}(C:r.evs=evs.map Ev.p)(h:aA H F)(D:lN F a evs)(S:evs.length<=1099511627776)
  (k:∀t f m,aA m (slA 5 1 t r.bytes.length f (r.bytes.map U8)::F)->K (.slice t r.bytes.length f) m):CF 110 #[.agg ⟨dg r a c⟩] H K:=by
 have P:r.evs.length=evs.length:=by rw[C,V8]
 refine cN 110 0x1d1215612399251442174921561239925144c [[(3,sS),(42,sI)],[(3,sS)],[(3,sS),(17,sI)]] ?_;refine h.al λb _ h=>⟨_,_,_,_,_,_,_,_,_,_,_,_,_,_,h.q 0,?_⟩
 refine AC C h (D.cons _) S λY h=>⟨_,rfl,λB=>?_,λB=>?_⟩
 .have e:r.bytes=[]:=by unfold Rp.bytes;rw[Vs (by simpa using B)]
  rw[e]at k;exact k none 0 _ (h.tl.sl_nil 5 1)
 have M:r.right=true:=by simpa using B
 have R:=Rp.right_len M;unfold Rp.bytes at k;rw[Vt M]at k;have V:=dK [r.kind];have lo:=wV r.kind;simp only[V1,VN]at V;refine⟨_,h.r 0,?_⟩;refine h.al λb1 _ h=>?_
 refine nR h 0 rfl λa1 c1 H2 h=>⟨_,_,_,rfl,?_⟩
 refine AA h 2 rfl rfl λp pc H3 h=>⟨_,_,_,rfl,?_⟩
 refine⟨λt y f i m=>∃j:Nat,i=j/\j<=(cu r.kind).length/\y=(aO [r.kind]++nmB r ((cu r.kind).take j)).length/\
  aA m (slA 5 1 t (aO [r.kind]++nmB r ((cu r.kind).take j)).length f ((aO [r.kind]++nmB r ((cu r.kind).take j)).map U8)::slA 297 1 p (cu r.kind).length pc ((cu r.kind).map λi=>PA b i)::cellsA b (dg r a c) 61::F),
  λ_ _ _ i _=>(cu r.kind).length-i.toNat,⟨0,rfl,by omega,by simp,?_⟩,?_⟩
 .rw [show aO [r.kind]++nmB r ((cu r.kind).take 0)=aO [r.kind] by simp[nmB]];exact h.o [1,0,3] 4
 rintro a2 n2 c2 i H4 ⟨j,rfl,N,rfl,h⟩;have w:=J1 r ((cu r.kind).take j);have E:((cu r.kind).take j).length<=(cu r.kind).length:=by rw[VM];omega
 refine⟨λd=>?_,λd=>?_⟩
 .have d:j<(cu r.kind).length:=by have:=Vw d;omega
  have v:=(h.sl_rd 1 rfl).at d;have hi:=AB _ (V7 d);have A:=ordK_pos _ (V7 d)
  conv=>whnf
  refine⟨by omega,_,_,v.1,_,v.2,⟨r.nums (cu r.kind)[j],(h.r 2).trans (encR_get A hi),?_⟩⟩;refine h.al λb3 _ h=>?_
  refine nR h 0 rfl λa3 c3 I h=>⟨_,_,_,rfl,?_⟩
  have l1:=dK [r.nums (cu r.kind)[j]];simp only[V1,VN]at l1;refine dq h (i:=2) rfl rfl rfl (h.sl_rd 0 rfl) (by rw[Vv];omega) λa4 c4 J h=>⟨_,_,_,rfl,?_⟩
  conv=>whnf
  rw[aK (x:=(j:Int)+1)];have e:aO [r.kind]++nmB r ((cu r.kind).take (j+1))=(aO [r.kind]++nmB r ((cu r.kind).take j))++aO [r.nums (cu r.kind)[j]]:=by
   unfold nmB;rw[jQ d,V5]
  rw[<-e]at h ⊢;exact⟨⟨j+1,by omega,d,rfl,h.o [2,3,4] 5⟩,by dsimp only;omega⟩
 .have n:(cu r.kind).length<=j:=by have:=Vx d;omega
  rw[VR n]at h w ⊢;have h:=h.o [0,2] 3;refine⟨_,h.r 1,?_⟩;intro U T;have u:∀(O:List Int) a3 f m,O=(aO [r.kind]++nmB r (cu r.kind))++(if r.kind=4 then aO [(r.evs.length:Int)] else [])->aA m (slA 5 1 a3 O.length f (O.map U8)::cellsA b (dg r a c) 61::F)->U a3 O.length f m:=by
   intro O a3 c3 I L h;refine T _ _ _ _ ?_;have lO:O.length<=80:=by
    rw[L];have l2:=dK [(r.evs.length:Int)];simp only[V1,VN]at l2
    split <;> simp only[Vv,VN] <;> omega
   refine⟨_,_,_,h.r 1,?_⟩;rw[<-L]at k;refine⟨λt y f i m=>∃j:Nat,i=j/\j<=evs.length/\y=(O++(r.evs.take j).flatMap evB).length/\
    aA m (slA 5 1 t (O++(r.evs.take j).flatMap evB).length f ((O++(r.evs.take j).flatMap evB).map U8)::cellsA b (dg r a c) 61::F),
    λ_ _ _ i _=>evs.length-i.toNat,⟨0,rfl,by omega,by simp,by simpa using h⟩,?_⟩
   rintro a4 n4 c4 i J ⟨j,rfl,N,rfl,h⟩;have w:=AD (r.evs.take j);have E:(r.evs.take j).length<=r.evs.length:=by rw[VM];omega
   refine⟨λd=>?_,λd=>?_⟩
   .have d:j<evs.length:=by have:=Vw d;omega
    have v:=D.rd _ h.tl.tl;refine⟨by omega,_,_,v.some fH (by omega) d,_,_,_,_,_,_,v.els fH d,?_⟩;refine h.al λb5 _ h=>?_
    refine h.st 0 rfl rfl ?_;intro Z h;refine⟨_,_,_,_,_,_,h.q 0,?_⟩;refine J0 (e:=evs[j]) h (λH h=>D.labs _ (V7 d) H h.tl.tl.tl) λa6 c6 H8 h=>⟨_,_,_,rfl,?_⟩
    have l1:=wY evs[j].p
    conv=>whnf
    refine dq h (i:=2) rfl rfl rfl (h.sl_rd 0 rfl) (by rw[Vv];omega) λa7 c7 W h=>⟨_,_,_,rfl,?_⟩
    conv=>whnf
    rw[aK (x:=(j:Int)+1)];have G:j<r.evs.length:=by omega
    have Q:r.evs[j]=evs[j].p:=by simp[C]
    have e:O++(r.evs.take (j+1)).flatMap evB=(O++(r.evs.take j).flatMap evB)++evB evs[j].p:=by
     rw[jQ G,V5,Q]
    rw[<-e]at h ⊢;exact⟨⟨j+1,by omega,d,rfl,h.o [2,3] 4⟩,by dsimp only;omega⟩
   .have n:r.evs.length<=j:=by have:=Vx d;omega
    rw[VR n]at h ⊢;exact k _ _ _ (h.o [0] 2)
  refine⟨λs=>?_,λs=>?_⟩
  .have s:=Vw s;refine⟨_,_,_,h.r 1,?_⟩;refine h.al λb6 _ h=>?_
   refine nR h 0 rfl λa3 c3 I h=>⟨_,_,_,rfl,?_⟩
   have l1:=dK [(r.evs.length:Int)];simp only[V1,VN]at l1
   conv=>whnf
   refine dq h (i:=2) rfl rfl rfl (h.sl_rd 0 rfl) (by rw[Vv];omega) λa4 c4 J h=>⟨_,_,_,rfl,?_⟩
   refine u _ _ _ _ (by rw[Vt s]) (h.o [2,3] 4)
  .have s:=Vx s;refine u _ _ _ _ (by rw[Vs s,VT]) h
end
structure Fq where
 kind:Int
 ag:Int:=0
 ep:Int:=0
 bt:Int:=0
 ct:Int:=0
 got:Int:=0
 sent:Int:=0
 next:Int:=0
 stamp:Int:=0
 win:Int:=0
 evs:List Pv:=[]
 sn:Fa:=⟨#[]⟩
 sl:List bS:=[]
 data:List Int:=[]
def aV(k:Int):List Nat:=if k=1 then [1,3] else if k=2 then [1,3,2] else if k=3 then [1,3,4] else if k=4 then [1,2,3,4,5,6] else
 if k=5\/k=6 then [1,2,7] else if k=7 then [1,2,7,8] else if k=8 then [9] else []
def Fq.nums(f:Fq)(i:Nat):Int:=match i with
 | 1=>f.ag|2=>f.ep|3=>f.bt|4=>f.ct|5=>f.got|6=>f.sent|7=>f.next|8=>f.stamp|9=>f.win|_=>0
structure QA where
 ea:KQ:=none
 ec:Nat:=0
 la:KQ:=none
 lc:Nat:=0
 da:KQ:=none
 dc:Nat:=0
abbrev cF(f:Fq)(x:QA):Os:=
 [aB f.kind,aB f.ag,aB f.ep,aB f.bt,aB f.ct,aB f.got,aB f.sent,aB f.next,aB f.stamp,aB f.win,.slice x.ea f.evs.length x.ec,.string f.sn,.slice x.la f.sl.length x.lc,.slice x.da f.data.length x.dc]
structure Fq.Sh(f:Fq)(x:QA):Prop where
 ev:f.kind≠5->f.evs=[]/\x.ea=none/\x.ec=0
 em:f.kind≠8->f.sn=⟨#[]⟩/\f.sl=[]/\x.la=none/\x.lc=0/\f.data=[]/\x.da=none/\x.dc=0
 nm:∀i,1<=i->i<=9->i∉aV f.kind->f.nums i=0
structure lP(F:List aE)(f:Fq)(x:QA)(evs:List Ev):Prop where
 eq:f.evs=evs.map Ev.p
 ev:lN F x.ea evs
 lab:∀H,aA H F->aP H x.la (flat df f.sl)
 dat:∀H,aA H F->aP H x.da (f.data.map U8)
 dA:x.da=none\/∃k o,x.da=some ⟨k,o,none⟩
 sh:f.Sh x
 el:evs.length<=1000000
 ll:∀e∈evs,e.labs.length<=1000000
 sl:f.sl.length<=1000000
 dl:f.data.length<=1000000000
theorem lP.cons{F:List aE}{f:Fq}{x:QA}{evs:List Ev}(h:lP F f x evs)(A:aE):lP (A::F) f x evs:=
 ⟨h.eq,h.ev.cons A,λH a=>h.lab H a.tl,λH a=>h.dat H a.tl,h.dA,h.sh,h.el,h.ll,h.sl,h.dl⟩
theorem lP.len{F:List aE}{f:Fq}{x:QA}{evs:List Ev}(h:lP F f x evs):f.evs.length=evs.length:=by rw[h.eq,V8]
def gU(f:Fq):Bool:=if f.kind=4 then decide (f.got<=f.sent) else if f.kind=5 then gT f.next f.evs else
 if f.kind=6\/f.kind=7 then decide (f.next<=1099511627776) else if f.kind=8 then fx f.sn f.sl&&decide (f.data.length<=4096) else true
def fe(f:Fq):Bool:=inM f.kind 1 8&&(inM f.ag 0 63&&inM f.ep 0 1099511627776)&&(aV f.kind).all (λi=>inM (f.nums i) 0 4611686018427387903)&&gU f
theorem AE{k:Int}:∀i∈aV k,1<=i/\i<=9:=by
 unfold aV
 split
 .decide
 split
 .decide
 split
 .decide
 split
 .decide
 split
 .decide
 split
 .decide
 split
 .decide
 .decide
theorem xa(k:Int):(aV k).length<=6:=by
 unfold aV
 split
 .decide
 split
 .decide
 split
 .decide
 split
 .decide
 split
 .decide
 split
 .decide
 split
 .decide
 .decide
theorem kinds8{k:Int}(a:1<=k)(b:k<=8):k=1\/k=2\/k=3\/k=4\/k=5\/k=6\/k=7\/k=8:=by omega
theorem J2{k:Int}:aV k=[]↔¬(1<=k/\k<=8):=by
 constructor
 .intro h a
  rcases kinds8 a.1 a.2 with rfl|rfl|rfl|rfl|rfl|rfl|rfl|rfl <;> exact Vu h (by decide)
 .intro h;unfold aV;rw[nO,nO,nO,nO,nO,nO,nO]
theorem J3{f:Fq}{x:QA}{i:Nat}(a:1<=i)(b:i<=9):aT (cF f x) i=some (aB (f.nums i)):=by
 rcases (by omega:i=1\/i=2\/i=3\/i=4\/i=5\/i=6\/i=7\/i=8\/i=9) with rfl|rfl|rfl|rfl|rfl|rfl|rfl|rfl|rfl <;> rfl
def pw(f:Fq)(is:List Nat):Os:=is.foldl (λcs i=>cv cs i [aB (f.nums i)]) (cF { kind:=f.kind } {})
theorem S8(f:Fq):∀is,(pw f is).length=14:=by
 have:∀(is:List Nat) (cs:Os),cs.length=14->(is.foldl (λcs i=>cv cs i [aB (f.nums i)]) cs).length=14:=by
  intro is
  induction is with
  | nil=>intro cs h;exact h
  | cons i is ih=>intro cs h;exact ih _ (by rw[oe];exact h)
 exact λis=>this is _ rfl
theorem S9(f:Fq)(is:List Nat)(i:Nat):pw f (is++[i])=cv (pw f is) i [aB (f.nums i)]:=by
 unfold pw;rw[WF];rfl
theorem SB{f:Fq}(c:1<=f.kind)(b:f.kind<=8)(a:∀i,1<=i->i<=9->i∉aV f.kind->f.nums i=0) :
  pw f (aV f.kind)=[aB f.kind,aB f.ag,aB f.ep,aB f.bt,aB f.ct,aB f.got,aB f.sent,aB f.next,aB f.stamp,aB f.win,.slice none 0 0,.string ⟨#[]⟩,.slice none 0 0,.slice none 0 0]:=by
 obtain⟨kind,ag,ep,bt,ct,got,sent,next,stamp,win,evs,sn,sl,data⟩:=f;dsimp only at c b;have n1:1∉aV kind->ag=0:=a 1 (by decide) (by decide);have n2:2∉aV kind->ep=0:=a 2 (by decide) (by decide);have n3:3∉aV kind->bt=0:=a 3 (by decide) (by decide);have n4:4∉aV kind->ct=0:=a 4 (by decide) (by decide);have n5:5∉aV kind->got=0:=a 5 (by decide) (by decide);have n6:6∉aV kind->sent=0:=a 6 (by decide) (by decide);have n7:7∉aV kind->next=0:=a 7 (by decide) (by decide);have n8:8∉aV kind->stamp=0:=a 8 (by decide) (by decide);have n9:9∉aV kind->win=0:=a 9 (by decide) (by decide)
 clear a
 rcases kinds8 c b with rfl|rfl|rfl|rfl|rfl|rfl|rfl|rfl
 .rw [n2 (by decide),n4 (by decide),n5 (by decide),n6 (by decide),n7 (by decide),n8 (by decide),n9 (by decide)];rfl
 .rw [n4 (by decide),n5 (by decide),n6 (by decide),n7 (by decide),n8 (by decide),n9 (by decide)];rfl
 .rw [n2 (by decide),n5 (by decide),n6 (by decide),n7 (by decide),n8 (by decide),n9 (by decide)];rfl
 .rw [n7 (by decide),n8 (by decide),n9 (by decide)];rfl
 .rw [n3 (by decide),n4 (by decide),n5 (by decide),n6 (by decide),n8 (by decide),n9 (by decide)];rfl
 .rw [n3 (by decide),n4 (by decide),n5 (by decide),n6 (by decide),n8 (by decide),n9 (by decide)];rfl
 .rw [n3 (by decide),n4 (by decide),n5 (by decide),n6 (by decide),n9 (by decide)];rfl
 .rw [n1 (by decide),n2 (by decide),n3 (by decide),n4 (by decide),n5 (by decide),n6 (by decide),n7 (by decide),n8 (by decide)];rfl
section
variable {F L:List aE}{H:aD}{K:KE}
theorem xb{b e:Nat}{k0:Int}{cs:Os}(h:aA H F)(i:Nat)(B:aW i F=cellsA b cs e)(D:aT cs 0=some (aC k0))
  (k:∀a c j,(a.isNone=true↔aV k0=[])->aA j (slA 297 1 a (aV k0).length c ((aV k0).map λi=>PA b i)::F)->K (.slice a (aV k0).length c) j):CF 170 #[PA b 0] H K:=by
 refine cN 170 0x121513c13c13c13c217943c13cbc [[(68,sB)]] ?_;have fin:∀(l:List Nat) p j,aV k0=l->l≠[]->aA j (cellsA p (l.map λi=>PA b i) 297::F)->K (.slice (some ⟨p,0,none⟩) l.length l.length) j:=by
  intro l p j e A h;subst e;refine k _ _ _ ⟨λx=>(by cases x),λx=>Vu x A⟩ ?_
  exact aA.sl_pt h 1 _ (by simp)
 refine⟨k0,(h.rd i B 0).trans D,λd=>?_,λd=>⟨λd=>?_,λd=>⟨λd=>?_,λd=>⟨λd=>?_,λd=>?_⟩⟩⟩⟩
 .obtain rfl:=Vw d;exact h.al λp _ h=>fin [1,3] p _ rfl (by decide) h
 .obtain rfl:=Vw d;exact h.al λp _ h=>fin [1,3,2] p _ rfl (by decide) h
 .obtain rfl:=Vw d;exact h.al λp _ h=>fin [1,3,4] p _ rfl (by decide) h
 .obtain rfl:=Vw d;exact h.al λp _ h=>fin [1,2,3,4,5,6] p _ rfl (by decide) h
 simp only[V0]at *;intro E C;have m:∀t:Bool,t=decide (k0=5\/k0=6)->E t H:=by
  intro t w;refine C _ _ ⟨λf=>?_,λf=>⟨λn=>?_,λn=>⟨λs=>?_,λs=>?_⟩⟩⟩
  .rw [f]at w;have u:=Vw w.symm;refine h.al λp _ h=>fin [1,2,7] p _ ?_ (by decide) h
   rcases u with rfl|rfl <;> rfl
  .obtain rfl:=Vw n;exact h.al λp _ h=>fin [1,2,7,8] p _ rfl (by decide) h
  .obtain rfl:=Vw s;exact h.al λp _ h=>fin [9] p _ rfl (by decide) h
  .rw [f]at w;have u:=Vx w.symm;simp only[V0]at *;have e:aV k0=[]:=by
    unfold aV;simp only[*,if_false]
   have:=k none 0 H ⟨λ_=>e,λ_=>rfl⟩ (by rw[e];exact h.sl_nil 297 1)
   rw[e]at this;exact this
 refine⟨λv=>m _ ?_,λv=>m _ ?_⟩
 .rw [v];exact (VF (.inl (Vw v))).symm
 .have y:=Vx v;exact decide_eq_decide.2 ⟨λh=>.inr h,λh=>h.resolve_left y⟩
end
theorem batchP_B{next:Int}{evs:List Ev}(h:0<=next/\next<=4611686018427387903):gT next (evs.map Ev.p)=iD next evs:=by
 rw[<-wU,Sx,VF h.1,Yc]
section
variable {F L:List aE}{H:aD}{K:KE}{f:Fq}{x:QA}{evs:List Ev}
theorem SE(h:aA H F)(r:lP F f x evs)(k:∀d,aA d F->K (.bool true) d) :
  CF 227 #[.agg ⟨cF f x⟩,.agg ⟨cF f x⟩] H K:=by
 refine cN 227 4745 [[(4,sB)]] ?_;refine h.al λb _ h=>?_
 refine h.al λb1 _ h=>?_
 intro n i;have r2:=(r.cons (cellsA b (cF f x) 81)).cons (cellsA b1 (cF f x) 81);have c:=r.len;refine⟨_,_,_,h.q 1,_,_,_,h.q 0,true,eq102,_,_,_,_,_,_,_,_,_,_,_,_,_,_,_,_,_,_,_,_,λ_=>h.q 1,_,_,_,_,_,_,_,_,_,_,_,_,_,_,_,_,_,_,_,_,λ_=>h.q 0,λ_=>?_,λa=>Vu rfl a⟩
 refine wS h λm h=>⟨_,_,_,_,_,_,_,rfl,λ_=>h.q 0,?_⟩
 refine wS h λj h=>⟨_,_,_,_,_,_,_,rfl,true,eq314,_,_,_,λ_=>h.r 1,_,_,_,λ_=>h.r 0,λ_=>?_,λa=>Vu rfl a⟩
 rw[c]at *;refine Jk h r2.ev r.el r.ll λt h=>⟨_,rfl,_,_,_,_,λ_=>h.q 1,_,_,_,_,λ_=>h.q 0,λ_=>?_,λa=>Vu rfl a⟩
 refine Au h r2.lab r.sl λs h=>⟨_,rfl,_,_,_,λ_=>h.r 1,_,_,_,λ_=>h.r 0,λ_=>?_,λa=>Vu (by simp) a⟩
 refine Av r.dA r.dA (r2.dat _ h) (r2.dat _ h) ⟨_,rfl,i _ _ ?_⟩;have:=k _ h.tl.tl;have e:((bF f.data).toList == (bF f.data).toList)=true:=by simp
 rw[e];exact this
theorem J4(h:aA H F)(r:lP F f x evs)(k:∀s,aA s F->K (.bool (fe f)) s):CF 137 #[.agg ⟨cF f x⟩] H K:=by
 refine cN 137 0x11d11215612399251d4421517b171b217947b171b9c [[],[],[(88,sB)],[],[],[(43,sI)]] ?_;have W:=r.len;refine h.al λb _ h=>?_
 refine xb h 0 rfl rfl λp pc H1 hp h=>⟨_,_,_,rfl,_,λ_=>h.r 1,_,λ_=>h.r 1,_,λ_=>h.r 1,_,λ_=>h.r 1,λc=>?_,λc=>?_⟩
 .have:fe f=false:=by
   unfold fe;simp only[VE,Vy]at c
   rcases c with (((c|c)|c)|c)|c
   .have h0:=J2.1 (hp.1 c);have:inM f.kind 1 8=false:=by
     rw[Wc,V0,V0];omega
    rw[this];rfl
   .have:inM f.ag 0 63=false:=by rw[Wc,V0,V0];omega
    rw[this];simp
   .have:inM f.ag 0 63=false:=by rw[Wc,V0,V0];omega
    rw[this];simp
   .have:inM f.ep 0 1099511627776=false:=by rw[Wc,V0,V0];omega
    rw[this];simp
   .have:inM f.ep 0 1099511627776=false:=by rw[Wc,V0,V0];omega
    rw[this];simp
  rw[this]at k;exact k _ h.tl.tl
 simp only[VB,V0]at c;obtain⟨⟨⟨⟨P,r0⟩,j2⟩,l0⟩,l6⟩:=c;have A:1<=f.kind/\f.kind<=8:=by
  apply Classical.byContradiction;intro hn;rw[hp.2 (J2.2 hn)]at P
  cases P
 have E:(inM f.kind 1 8&&(inM f.ag 0 63&&inM f.ep 0 1099511627776))=true:=by
  simp only[Vz,Vy];omega
 refine⟨_,h.r 1,?_⟩;refine h.al λb1 _ h=>?_
 refine h.st 0 rfl rfl ?_;intro H2 h;have h:aA H2 (cellsA b1 (pw f []) 81::slA 297 1 p (aV f.kind).length pc ((aV f.kind).map λi=>PA b i)::cellsA b (cF f x) 81::F):=h
 refine xb (k0:=f.kind) h 0 rfl rfl λp1 G H3 h9 h=>⟨_,_,_,rfl,?_⟩
 have lo:=xa f.kind;refine⟨λi s=>∃j:Nat,i=j/\j<=(aV f.kind).length/\(∀q,q<j->∀M:q<(aV f.kind).length,inM (f.nums (aV f.kind)[q]) 0 4611686018427387903=true)/\
  aA s (slA 297 1 p1 (aV f.kind).length G ((aV f.kind).map λi=>PA b1 i)::cellsA b1 (pw f ((aV f.kind).take j)) 81::slA 297 1 p (aV f.kind).length pc ((aV f.kind).map λi=>PA b i)::cellsA b (cF f x) 81::F),
  λi _=>(aV f.kind).length-i.toNat,⟨0,rfl,by omega,λq M=>Vu M (by omega),h⟩,?_⟩
 rintro i H4 ⟨j,rfl,hj,B,h⟩;refine⟨λa=>?_,λa=>?_⟩
 .have a:j<(aV f.kind).length:=by have:=Vw a;omega
  have hr:=(h.sl_rd 2 rfl).at a;have O:=(h.sl_rd 0 rfl).at a;have hi:=AE _ (V7 a);have T:∀{s},aA s (slA 297 1 p1 (aV f.kind).length G ((aV f.kind).map λi=>PA b1 i)::cellsA b1 (pw f ((aV f.kind).take j)) 81::slA 297 1 p (aV f.kind).length pc ((aV f.kind).map λi=>PA b i)::cellsA b (cF f x) 81::F)->
   aL s b (aV f.kind)[j]=some (aC (f.nums (aV f.kind)[j])):=λh=>(h.r 3).trans (J3 hi.1 hi.2)
  refine⟨by omega,_,_,hr.1,_,hr.2,⟨_,T h,λ_=>trivial,_,λ_=>T h,λc=>?_,λc=>?_⟩⟩
  .have:fe f=false:=by
    unfold fe;have e:(aV f.kind).all (λi=>inM (f.nums i) 0 4611686018427387903)=false:=by
     refine wL a ?_;simp only[VE,Vy]at c;rw[Wc,V0,V0];omega
    rw[e];simp
   rw[this]at k;exact k _ h.tl.tl.tl.tl
  .simp only[VB,V0]at c;refine⟨by omega,_,_,O.1,_,O.2,⟨_,T h,?_⟩⟩;refine h.st 1 rfl (by rw[S8];exact Nat.ble_eq_true_of_le (by show (aV f.kind)[j]+1<=14;omega)) ?_;intro H5 h;have hw:i64.wrap ((j:Int)+1)=((j+1:Nat):Int):=by rw[aK];omega
   refine⟨⟨j+1,hw,a,λq M U=>?_,?_⟩,by rw[hw];dsimp only;omega⟩
   .rcases VO q j with h1|h1
    .exact B q h1 U
    .obtain rfl:q=j:=by omega
     rw[Vz,Vy,Vy];omega
   .rw [Wf a,S9];exact h
 have Z:j=(aV f.kind).length:=by have:=Vx a;omega
 subst Z;have C:(aV f.kind).all (λi=>inM (f.nums i) 0 4611686018427387903)=true:=by
  rw[Wg];intro i hi;obtain⟨q,M,rfl⟩:=Wn hi;exact B q M M
 have hR:fe f=gU f:=by unfold fe;rw[E,C];simp
 rw[hR]at k;rw[VW,SB A.1 A.2 r.sh.nm]at h;have Q:∀i∈aV f.kind,0<=f.nums i/\f.nums i<=4611686018427387903:=by
  intro i hi;have:=Wg.1 C i hi;rw[Vz,Vy,Vy]at this;exact this
 refine⟨_,h.r 3,?_⟩;intro Jn hJ;have fin:gU f=true->∀s,aA s (slA 297 1 p1 (aV f.kind).length G ((aV f.kind).map λi=>PA b1 i)::cellsA b1 (cF f x) 81::slA 297 1 p (aV f.kind).length pc ((aV f.kind).map λi=>PA b i)::cellsA b (cF f x) 81::F)->Jn s:=by
  intro h2 s h;refine hJ _ ?_;refine⟨_,_,_,_,_,_,_,_,_,_,_,_,_,_,_,_,_,_,_,_,h.q 3,_,_,_,_,_,_,_,_,_,_,_,_,_,_,_,_,_,_,_,_,h.q 1,?_⟩;rw[h2]at k;refine SE h ((((r.cons _).cons _).cons _).cons _) λH7 h=>⟨_,rfl,?_⟩
  exact k _ h.tl.tl.tl.tl
 have d:f.kind≠5->f.kind≠8->[aC f.kind,aC f.ag,aC f.ep,aC f.bt,aC f.ct,aC f.got,aC f.sent,aC f.next,aC f.stamp,aC f.win,.slice none 0 0,.string ⟨#[]⟩,.slice none 0 0,.slice none 0 0]=cF f x:=by
  intro m w;obtain⟨e1,e2,e3⟩:=r.sh.ev m;obtain⟨d1,d2,d3,d4,d5,d6,d7⟩:=r.sh.em w;unfold cF;rw[e1,e2,e3,d1,d2,d3,d4,d5,d6,d7];rfl
 refine⟨λn=>?_,λn=>?_⟩
 .have n:=Vw n;refine⟨_,h.r 3,_,h.r 3,λL=>?_,λL=>?_⟩
  .have e:gU f=false:=by unfold gU;rw[Vt n];have:=Vw L;exact Wj (by omega)
   rw[e]at k;exact k _ h.tl.tl.tl.tl
  .rw [d (by omega) (by omega)]at h;refine fin ?_ _ h;unfold gU;rw[Vt n];have:=Vx L;exact VF (by omega)
 have n:=Vx n;intro j1 y;refine⟨λm=>?_,λm=>?_⟩
 .have m:=Vw m;have Y:0<=f.next/\f.next<=4611686018427387903:=Q 7 (by rw[m];decide);have v:gU f=iD f.next evs:=by unfold gU;rw[Vs n,Vt m,r.eq,batchP_B Y]
  refine⟨_,_,_,h.r 3,?_⟩;refine h.st 1 rfl rfl ?_;intro H5 h;refine⟨_,h.r 3,_,_,_,h.r 3,?_⟩;rw[W];refine Jl h ((((r.ev.cons _).cons _).cons _).cons _) (by have:=r.el;omega) λH6 h=>⟨_,rfl,λhb=>?_,λhb=>y _ ?_⟩
  .rw [v,show iD f.next evs=false by simpa using hb]at k;exact k _ h.tl.tl.tl.tl
  .refine fin (by rw[v];simpa using hb) _ ?_;obtain⟨d1,d2,d3,d4,d5,d6,d7⟩:=r.sh.em (by omega);have e:cF f x=[aC f.kind,aC f.ag,aC f.ep,aC f.bt,aC f.ct,aC f.got,aC f.sent,aC f.next,aC f.stamp,aC f.win,.slice x.ea f.evs.length x.ec,.string ⟨#[]⟩,.slice none 0 0,.slice none 0 0]:=by
    unfold cF;rw[d1,d2,d3,d4,d5,d6,d7];rfl
   rw[e]at h ⊢;exact h
 have m:=Vx m;intro h3 h7;have D:∀t:Bool,t=decide (f.kind=6\/f.kind=7)->h3 t H4:=by
  intro t S;refine h7 _ _ ?_;intro j3 J;refine⟨λI=>?_,λI=>?_⟩
  .rw [I]at S;have u:=Vw S.symm;refine⟨_,h.r 3,λL=>?_,λL=>J _ (y _ ?_)⟩
   .have e:gU f=false:=by unfold gU;rw[Vs n,Vs m,Vt u];have:=Vw L;exact Wj (by omega)
    rw[e]at k;exact k _ h.tl.tl.tl.tl
   .rw [d (by omega) (by omega)]at h;refine fin ?_ _ h;unfold gU;rw[Vs n,Vs m,Vt u];have:=Vx L;exact VF (by omega)
  rw[I]at S;have u:=Vx S.symm;intro l5 N;refine⟨λw=>?_,λw=>N _ (J _ (y _ ?_))⟩
  .have w:=Vw w;have v:gU f=(fx f.sn f.sl&&decide (f.data.length<=4096)):=by unfold gU;rw[Vs n,Vs m,Vs u,Vt w]
   refine⟨_,_,_,_,h.q 3,_,_,_,h.r 3,?_⟩;refine h.st 1 rfl rfl ?_;intro H5 h;refine h.st 1 rfl rfl ?_;intro H6 h;refine⟨_,_,_,_,h.q 3,?_⟩;refine qF h (λH h=>r.lab H h.tl.tl.tl.tl) λH7 h=>⟨_,rfl,_,_,_,λ_=>h.r 3,λhb=>?_,λhb=>N _ (J _ (y _ ?_))⟩
   .have e:gU f=false:=by
     rw[v,Wc];simp only[VE,VP,Vy]at hb
     rcases hb with hb|hb
     .exact .inl hb
     .exact .inr (Wj (by omega))
    rw[e]at k;exact k _ h.tl.tl.tl.tl
   .simp only[VB,Wd,V0]at hb;refine fin (by rw[v,hb.1,VF (by omega)];rfl) _ ?_;obtain⟨e1,e2,e3⟩:=r.sh.ev (by omega);have e:cF f x=[aC f.kind,aC f.ag,aC f.ep,aC f.bt,aC f.ct,aC f.got,aC f.sent,aC f.next,aC f.stamp,aC f.win,.slice none 0 0,.string f.sn,.slice x.la f.sl.length x.lc,.slice x.da f.data.length x.dc]:=by
     unfold cF;rw[e1,e2,e3];rfl
    rw[e]at h ⊢;exact h
  .have w:=Vx w;rw[d m w]at h;refine fin ?_ _ h;unfold gU;rw[Vs n,Vs m,Vs u,Vs w]
 refine⟨λR=>D _ ?_,λR=>D _ ?_⟩
 .rw [R];exact (VF (.inl (Vw R))).symm
 .have V:=Vx R;exact decide_eq_decide.2 ⟨λh=>.inr h,λh=>h.resolve_left V⟩
end
abbrev nmF(f:Fq)(is:List Nat):List Int:=is.flatMap λi=>aO [f.nums i]
def mL(f:Fq):List Int:=if f.kind=5 then aO [(f.evs.length:Int)]++f.evs.flatMap evB else if f.kind=8 then iX f.sn f.sl++dd (bF f.data) else []
def j9(f:Fq):List Int:=(aO [f.kind]++nmF f (aV f.kind))++mL f
def cA(f:Fq):List Int:=if fe f=false then [] else if 65536<(eK (j9 f)).length then [] else eK (j9 f)
def frmE(f:Fq):Int:=if fe f=false then 10 else if 65536<(eK (j9 f)).length then 17 else 0
theorem usB_one(v:Int):aO [v]=bR (u64N v):=by simp[aO]
theorem J5{f:Fq}(h:fe f=true):gU f=true:=by
 unfold fe at h;rw[Vz]at h;exact h.2
theorem J6{f:Fq}(h:fe f=true)(a:f.kind=5):f.evs.length<=64:=by
 have h:=J5 h;unfold gU at h;rw[nO,Vt a]at h;unfold gT at h;simp only[Vz,Vy]at h;omega
theorem SG{f:Fq}(h:fe f=true)(a:f.kind=8):f.data.length<=4096:=by
 have h:=J5 h;unfold gU at h;rw[nO,nO,nO,Vt a]at h;simp only[Vz,Vy]at h;omega
theorem J7(f:Fq)(is:List Nat):(nmF f is).length<=10*is.length:=by
 induction is with
 | nil=>simp
 | cons i l ih=>
  have:=dK [f.nums i];unfold nmF at *;rw[VU,Vv,V1];simp only[V1,VN]at this;omega
section
variable {F L:List aE}{H:aD}{K:KE}{f:Fq}{x:QA}{evs:List Ev}
theorem SN{b o c:Nat}{y:Fy}(h:aA H F)(m:aP H (some ⟨b,o,none⟩) [dX y])(n:aP H y.a (y.bs.map U8))(s:y.bs.length<=100000000)
  (k:∀d e f,aA f (slA 5 1 d y.bs.length e (y.bs.map U8)::F)->K (.slice d y.bs.length e) f) :
  CF 255 #[.slice (some ⟨b,o,none⟩) 1 c,.slice none 0 0] H K:=by
 refine cN 255 0x1dd12172174949215612399251217494411215612399251144c [[(9,sI),(72,sI)],[],[(5,sI),(44,sI)],[],[(5,sI)]] ⟨λj=>Vu j (by decide),λ_=>⟨λ_=>?_,λj=>Vu j (by decide)⟩⟩
 refine⟨by decide,_,_,rfl,_,_,_,(m 0 _ rfl).2,?_⟩;have h:=h.sl_nil 5 1;refine dq (x:=[]) (y:=y.bs) h (i:=0) rfl rfl rfl n (by simp only[VN];omega) λd e f h=>⟨_,_,_,rfl,?_⟩
 rw[VZ]at h;have:=k d e f h;exact this
theorem SP{b c:Nat}{y:Fy}(h:aA H F)(i:Nat)(n:aW i F=cellsA b [dX y] 43)(u:∀H,aA H F->aP H y.a (y.bs.map U8))(hb:aH y.bs)(v:y.bs.length<=100000000)
  (k:∀f j s,aA s (slA 5 1 f (eK y.bs).length j ((eK y.bs).map U8)::F)->K (.slice f (eK y.bs).length j) s) :
  CF 179 #[.slice (some ⟨b,0,none⟩) 1 c] H K:=by
 have t:=zE (c:=c) (parts:=[y]) (h.ce_rd i n) (λz d=>by rw[V6]at d;subst d;exact u _ h) (by simp) (λz d=>by rw[V6]at d;subst d;omega)
 rw[show ([y]:List Fy).flatMap Fy.bs=y.bs by simp]at t;refine cM 179 4380 ⟨_,t,?_⟩;obtain⟨s0,s1⟩:=zC y.bs;have e:=G2 s0 s1;refine SN h (h.ce_rd i n) (u _ h) v λf j A h=>⟨_,_,_,rfl,by decide,by decide,by decide,?_⟩
 refine h.al λb1 B h=>?_
 refine aA.append (m:=4) (ws:=(le4 (kS y.bs)).map U8) rS h 1 rfl (h.ce_rd 0 (by rw[<-e];rfl)) (by simp[le4]) (nE (λ_=>rfl) _) (by omega) (by omega) λa3 c3 w x=>⟨_,_,_,rfl,?_⟩
 have:=k a3 c3 w;unfold eK at this;rw[Vv,show (le4 (kS y.bs)).length=4 from rfl]at this;refine this ?_;rw[VJ];exact x.tl
theorem xc{b:Nat}{v:Int}(h:aA H F)(i:Nat)(e:aW i F=cellsA b [.int .u64 (u64.wrap v)] 155)
  (k:∀a c d,aA d (slA 5 1 a (aO [v]).length c ((aO [v]).map U8)::F)->K (.slice a (aO [v]).length c) d):CF 111 #[.slice (some ⟨b,0,none⟩) 1 1] H K:=by
 rw[usB_one]at k;refine zk h (λH h=>?_) (sj v) k
 rw[<-wX];exact h.ce_rd i e
theorem AF(h:aA H F)(r:lP F f x evs)
  (k:∀B c d,aA d (slA 5 1 B (cA f).length c ((cA f).map U8)::F)->K (.tuple #[.slice B (cA f).length c,aC (frmE f)]) d) :
  CF 82 #[.agg ⟨cF f x⟩] H K:=by
 refine cN 82 0x1d121561239925144215171156123992511144171491dc [[(4,sS)],[(4,sS),(49,sI)],[(4,sS)],[(4,sS),(20,sI)]] ?_;have h7:=r.len;refine h.al λb _ h=>⟨_,_,_,_,_,_,_,_,_,_,_,_,_,_,_,_,_,_,_,_,h.q 0,?_⟩
 refine J4 h (r.cons _) λH1 h=>⟨_,rfl,λG=>?_,λG=>?_⟩
 .have e:cA f=[]:=by unfold cA;rw[Vt (by simpa using G)]
  have e2:frmE f=10:=by unfold frmE;rw[Vt (by simpa using G)]
  rw[e,e2]at k;exact k none 0 _ (h.tl.sl_nil 5 1)
 have I:fe f=true:=by simpa using G
 have l0:=dK [f.kind];have lo:=xa f.kind;simp only[V1,VN]at l0;refine⟨_,h.r 0,?_⟩;refine h.al λb1 _ h=>?_
 refine xc h 0 rfl λa1 c1 H2 h=>⟨_,_,_,rfl,?_⟩
 refine xb h 2 rfl rfl λp pc H3 _ h=>⟨_,_,_,rfl,?_⟩
 refine⟨λB J c i d=>∃j:Nat,i=j/\j<=(aV f.kind).length/\J=(aO [f.kind]++nmF f ((aV f.kind).take j)).length/\
  aA d (slA 5 1 B (aO [f.kind]++nmF f ((aV f.kind).take j)).length c ((aO [f.kind]++nmF f ((aV f.kind).take j)).map U8)::slA 297 1 p (aV f.kind).length pc ((aV f.kind).map λi=>PA b i)::cellsA b (cF f x) 81::F),
  λ_ _ _ i _=>(aV f.kind).length-i.toNat,⟨0,rfl,by omega,by simp,?_⟩,?_⟩
 .rw [show aO [f.kind]++nmF f ((aV f.kind).take 0)=aO [f.kind] by simp[nmF]];exact h.o [1,0,3] 4
 rintro a2 n2 c2 i H4 ⟨j,rfl,V,rfl,h⟩;have v:=J7 f ((aV f.kind).take j);have R:((aV f.kind).take j).length<=(aV f.kind).length:=by rw[VM];omega
 refine⟨λa=>?_,λa=>?_⟩
 .have a:j<(aV f.kind).length:=by have:=Vw a;omega
  have D:=(h.sl_rd 1 rfl).at a;have hi:=AE _ (V7 a)
  conv=>whnf
  refine⟨by omega,_,_,D.1,_,D.2,⟨f.nums (aV f.kind)[j],(h.r 2).trans (J3 hi.1 hi.2),?_⟩⟩;refine h.al λb3 _ h=>?_
  refine xc h 0 rfl λa3 c3 U h=>⟨_,_,_,rfl,?_⟩
  have l1:=dK [f.nums (aV f.kind)[j]];simp only[V1,VN]at l1;refine dq h (i:=2) rfl rfl rfl (h.sl_rd 0 rfl) (by rw[Vv];omega) λa4 c4 N h=>⟨_,_,_,rfl,?_⟩
  have E:i64.wrap ((j:Int)+1)=((j+1:Nat):Int):=by rw[aK];omega
  have e:aO [f.kind]++nmF f ((aV f.kind).take (j+1))=(aO [f.kind]++nmF f ((aV f.kind).take j))++aO [f.nums (aV f.kind)[j]]:=by
   unfold nmF;rw[jQ a,V5]
  rw[<-e]at h;refine⟨⟨j+1,E,a,by rw[e],h.o [2,3,4] 5⟩,by rw[E];dsimp only;omega⟩
 have A:(aV f.kind).length<=j:=by have:=Vx a;omega
 rw[VR A]at h v ⊢;have h:=h.o [0,2] 3;refine⟨_,h.r 1,?_⟩;intro Jn hJ;have e0:cA f=if 65536<(eK (j9 f)).length then [] else eK (j9 f):=by unfold cA;rw[Vs (by rw[I];decide)]
 have e1:frmE f=if 65536<(eK (j9 f)).length then 17 else 0:=by unfold frmE;rw[Vs (by rw[I];decide)]
 have fin:∀(t:List Int) a3 c d,mL f=t->t.length<=100000->aH t->aA d (slA 5 1 a3 ((aO [f.kind]++nmF f (aV f.kind))++t).length c (((aO [f.kind]++nmF f (aV f.kind))++t).map U8)::cellsA b (cF f x) 81::F)->
   Jn a3 ((aO [f.kind]++nmF f (aV f.kind))++t).length c d:=by
  intro t a3 c d ht h3 M h;have L:j9 f=(aO [f.kind]++nmF f (aV f.kind))++t:=by unfold j9;rw[ht]
  rw[<-L]at h ⊢;have lb:(j9 f).length<=100100:=by rw[L,Vv,Vv];omega
  have Q:aH (j9 f):=by
   rw[L];exact dD (dD (iE _) (j0 λi _=>iE _)) M
  refine hJ _ _ _ _ ?_;refine h.al λb4 _ h=>?_
  refine SP (y:=⟨a3,c,j9 f⟩) h 0 rfl (λH h=>h.sl_rd 1 rfl) Q (by dsimp only;omega) λa5 c5 N h=>⟨_,_,_,rfl,λw=>?_,λw=>?_⟩
  .have w:=Vw w;dsimp only at w;rw[e0,e1,pO,pO]at k;exact k none 0 _ (h.tl.tl.tl.tl.sl_nil 5 1)
  .have w:=Vx w;dsimp only at w;rw[e0,e1,nO,nO]at k;exact k _ _ _ (h.o [0] 4)
 refine⟨λn=>?_,λn=>?_⟩
 .have n:=Vw n;have h0:=J6 I n;have m:mL f=aO [(f.evs.length:Int)]++f.evs.flatMap evB:=by unfold mL;rw[Vt n]
  refine⟨_,_,_,h.r 1,?_⟩;refine h.al λb5 _ h=>?_
  refine xc h 0 rfl λa4 c4 U h=>⟨_,_,_,rfl,?_⟩
  have l1:=dK [(f.evs.length:Int)];simp only[V1,VN]at l1;refine dq h (i:=2) rfl rfl rfl (h.sl_rd 0 rfl) (by rw[Vv];omega) λa5 c5 N h=>⟨_,_,_,rfl,?_⟩
  have h:=h.o [2,3] 4;refine⟨_,_,_,h.r 1,?_⟩;obtain⟨O,P⟩:∃O,(aO [f.kind]++nmF f (aV f.kind))++aO [(f.evs.length:Int)]=O:=⟨_,rfl⟩;have lO:O.length<=80:=by rw[<-P];simp only[Vv];omega
  rw[P]at h ⊢;refine⟨λB J c i d=>∃j:Nat,i=j/\j<=evs.length/\J=(O++(f.evs.take j).flatMap evB).length/\
    aA d (slA 5 1 B (O++(f.evs.take j).flatMap evB).length c ((O++(f.evs.take j).flatMap evB).map U8)::cellsA b (cF f x) 81::F),
    λ_ _ _ i _=>evs.length-i.toNat,⟨0,rfl,by omega,by simp,by rw[show O++(f.evs.take 0).flatMap evB=O by simp];exact h⟩,?_⟩
  rintro a6 n6 c6 i Y ⟨j,rfl,V,rfl,h⟩;have v:=AD (f.evs.take j);have R:(f.evs.take j).length<=f.evs.length:=by rw[VM];omega
  refine⟨λa=>?_,λa=>?_⟩
  .have a:j<evs.length:=by have:=Vw a;omega
   have D:=r.ev.rd _ h.tl.tl;refine⟨by omega,_,_,D.some fH (by omega) a,_,_,_,_,_,_,D.els fH a,?_⟩;refine h.al λb6 _ h=>?_
   refine h.st 0 rfl rfl ?_;intro H8 h;refine⟨_,h.r 0,?_⟩;refine h.al λb7 _ h=>?_
   refine xc h 0 rfl λa7 c7 H9 h=>⟨_,_,_,rfl,?_⟩
   have m1:=dK [evs[j].stamp];simp only[V1,VN]at m1;refine dq h (i:=3) rfl rfl rfl (h.sl_rd 0 rfl) (by rw[Vv];omega) λa8 c8 h4 h=>⟨_,_,_,rfl,?_⟩
   have h:=h.o [2,3,4] 5;refine⟨_,h.r 0,?_⟩;refine h.al λb8 _ h=>?_
   refine qG h 0 rfl λa9 c9 Z h=>⟨_,_,_,rfl,?_⟩
   have m2:=mB [evs[j].value];simp only[V1,VN]at m2;refine dq h (i:=3) rfl rfl rfl (h.sl_rd 0 rfl) (by simp only[Vv];omega) λj1 h9 j3 h=>⟨_,_,_,rfl,?_⟩
   have h:=h.o [2,3,4] 5;refine⟨_,_,_,_,h.q 0,?_⟩;refine Ar h (λH h=>r.ev.labs _ (V7 a) H h.tl.tl.tl) λh6 l6 j2 h=>⟨_,_,_,rfl,?_⟩
   have m3:=wQ evs[j].name evs[j].labs;refine dq h (i:=2) rfl rfl rfl (h.sl_rd 0 rfl) (by simp only[Vv];omega) λr0 l5 h1 h=>⟨_,_,_,rfl,?_⟩
   have E:i64.wrap ((j:Int)+1)=((j+1:Nat):Int):=by rw[aK];omega
   have S:j<f.evs.length:=by omega
   have W:f.evs[j]=evs[j].p:=by simp[r.eq]
   have e:O++(f.evs.take (j+1)).flatMap evB=(((O++(f.evs.take j).flatMap evB)++aO [evs[j].stamp])++cY [evs[j].value])++iX evs[j].name evs[j].labs:=by
    rw[jQ S,W];unfold evB;simp only[V5];rfl
   rw[<-e]at h;exact⟨⟨j+1,E,a,by rw[e],h.o [2,3] 4⟩,by rw[E];dsimp only;omega⟩
  .have A:f.evs.length<=j:=by have:=Vx a;omega
   rw[VR A]at h v ⊢;have T:O++f.evs.flatMap evB=(aO [f.kind]++nmF f (aV f.kind))++mL f:=by rw[m,<-P,V5]
   rw[T]at h;have:=fin _ _ _ _ rfl (by rw[m,Vv];omega) (by rw[m];exact dD (iE _) (j0 λe _=>wW e)) h
   rw[<-T]at this;exact this
 have n:=Vx n;intro h2 C;refine⟨λu=>?_,λu=>?_⟩
 .have u:=Vw u;have hd:=SG I u;have m:mL f=iX f.sn f.sl++dd (bF f.data):=by unfold mL;rw[Vs n,Vt u]
  refine⟨_,_,_,_,h.q 1,?_⟩;refine Ar h (λH h=>r.lab H h.tl.tl) λa3 c3 U h=>⟨_,_,_,rfl,?_⟩
  have m3:=wQ f.sn f.sl;refine dq h (i:=1) rfl rfl rfl (h.sl_rd 0 rfl) (by simp only[Vv];omega) λa4 c4 N h=>⟨_,_,_,rfl,?_⟩
  have h:=h.o [1,2] 3;refine⟨_,_,_,h.r 1,_,oV r.dA (r.dat _ h.tl.tl),?_⟩;refine h.al λb5 _ h=>?_
  have hz:(bF f.data).size=f.data.length:=nQ _;refine wR h (λH h=>h.ce_rd 0 rfl) (by omega) λa5 c5 Y h=>⟨_,_,_,rfl,?_⟩
  have m4:=lI (s:=bF f.data) (by omega);refine dq h (i:=2) rfl rfl rfl (h.sl_rd 0 rfl) (by simp only[Vv];omega) λa6 c6 H8 h=>⟨_,_,_,rfl,?_⟩
  refine C _ _ _ _ ?_;have h:=h.o [2,3] 4;rw[V5,<-m]at h ⊢;exact fin _ _ _ _ rfl (by rw[m,Vv];omega) (by rw[m];exact dD (Ak _ _) (qu _)) h
 .have u:=Vx u;refine C _ _ _ _ ?_;have m:mL f=[]:=by unfold mL;rw[Vs n,Vs u]
  have:=fin [] a2 c2 H4 m (by simp) kC;rw[VT]at this;exact this h
end
def ja:Nat->Rd (List Int)
 | 0,s=>.ok ([],s)
 | n+1,s=>match ja n s with
  | .error e=>.error e
  | .ok (vs,s1)=>match cH s1 with
   | .error e=>.error e
   | .ok (v,s2)=>.ok (vs++[v],s2)
def kZ:Nat->Rd (List Pv)
 | 0,s=>.ok ([],s)
 | n+1,s=>match kZ n s with
  | .error e=>.error e
  | .ok (vs,s1)=>match iZ s1 with
   | .error e=>.error e
   | .ok (v,s2)=>.ok (vs++[v],s2)
def atV(k:Int)(vs:List Int)(i:Nat):Int:=if i∈cu k then vs.getD ((cu k).idxOf i) 0 else 0
def ld(k:Int)(vs:List Int)(evs:List Pv):Rp:=⟨k,atV k vs 1,atV k vs 2,atV k vs 3,atV k vs 4,atV k vs 5,atV k vs 6,⟨atV k vs 7,atV k vs 8,atV k vs 9,atV k vs 10⟩,evs⟩
def evsR(k:Int):Rd (List Pv):=λs=>if k=4 then (match dO 64 s with
 | .error e=>.error e
 | .ok (n,s3)=>kZ n.toNat s3) else .ok ([],s)
def recR(bs:List Int):Except Int Rp:=match ei ⟨0,bs⟩ with
 | .error e=>.error e
 | .ok (k,s1)=>if k<1\/7<k then .error 16 else match ja (cu k).length s1 with
  | .error e=>.error e
  | .ok (vs,s2)=>match evsR k s2 with
   | .error e=>.error e
   | .ok (evs,s4)=>if (dF s4).e≠0 then .error (dF s4).e else if (ld k vs evs).right then .ok (ld k vs evs) else .error 10
theorem AG:∀{n:Nat} {s:RS} {vs:List Int} {a:RS},ja n s=.ok (vs,a)->vs.length=n
 | 0,s,vs,a,h=>by cases h;rfl
 | n+1,s,vs,a,h=>by
  unfold ja at h
  split at h
  .cases h
  .rename_i c s1 b
   split at h
   .cases h
   .cases h
    rw[Vv,AG b];rfl
theorem J8:∀{n:Nat} {s:RS} {vs:List Pv} {a:RS},kZ n s=.ok (vs,a)->vs.length=n
 | 0,s,vs,a,h=>by cases h;rfl
 | n+1,s,vs,a,h=>by
  unfold kZ at h
  split at h
  .cases h
  .rename_i c s1 b
   split at h
   .cases h
   .cases h
    rw[Vv,J8 b];rfl
theorem AH{s:RS}{e:Int}:∀{n j:Nat},ja j s=.error e->j<=n->ja n s=.error e
 | 0,j,h,hj=>by
  obtain rfl:j=0:=by omega
  exact h
 | n+1,j,h,hj=>by
  rcases VO n j with a|a
  .obtain rfl:j=n+1:=by omega
   exact h
  .unfold ja;rw[AH h a]
theorem J9{s:RS}{e:Int}:∀{n j:Nat},kZ j s=.error e->j<=n->kZ n s=.error e
 | 0,j,h,hj=>by
  obtain rfl:j=0:=by omega
  exact h
 | n+1,j,h,hj=>by
  rcases VO n j with a|a
  .obtain rfl:j=n+1:=by omega
   exact h
  .unfold kZ;rw[J9 h a]
def stL:Os->List Nat->List Int->Os
 | cs,i::is,v::vs=>stL (cv cs i [aB v]) is vs
 | cs,_,_=>cs
theorem AI:∀(is:List Nat) (vs:List Int) (cs:Os),(stL cs is vs).length=cs.length
 | [],_,_=>rfl
 | _::_,[],_=>rfl
 | i::is,v::vs,cs=>by
  show (stL (cv cs i [aB v]) is vs).length=_;rw[AI is vs,oe]
theorem JA:∀{is:List Nat} {vs:List Int} {cs:Os} {i:Nat} {v:Int},is.length=vs.length->stL cs (is++[i]) (vs++[v])=cv (stL cs is vs) i [aB v]
 | [],[],cs,i,v,_=>rfl
 | a::is,b::vs,cs,i,v,h=>by
  show stL (cv cs a [aB b]) (is++[i]) (vs++[v])=cv (stL (cv cs a [aB b]) is vs) i [aB v];exact JA (by simpa using h)
 | [],b::vs,cs,i,v,h=>by simp at h
 | a::is,[],cs,i,v,h=>by simp at h
abbrev zR(k:Int):Os:=[aB k,aB 0,aB 0,aB 0,aB 0,aB 0,aB 0,aB 0,aB 0,aB 0,aB 0,.slice none 0 0]
theorem stL_fill{k:Int}{vs:List Int}(i:¬k<1)(j:¬7<k)(h:vs.length=(cu k).length):stL (zR k) (cu k) vs=dg (ld k vs []) none 0:=by
 rcases kinds i j with rfl|rfl|rfl|rfl|rfl|rfl|rfl
 .match vs,h with
  | [],_=>rfl
 .match vs,h with
  | [a,b,c],_=>rfl
 .match vs,h with
  | [a,b,c,d,e,f],_=>rfl
 .match vs,h with
  | [a,b,c,d],_=>rfl
 .match vs,h with
  | [a,b,c,d,e],_=>rfl
 .match vs,h with
  | [a],_=>rfl
 .match vs,h with
  | [a],_=>rfl
section
variable {F L:List aE}{H:aD}{K KP:KE}{Q:aE}
theorem JB:gY Tryz.prog .eql 20 .nilIface .nilIface true:=by
 intro b a w
 cases b <;> cases a <;> kernel_rfl
theorem eqPn{e:Int}:gY Tryz.prog .eql 20 (pnV e) .nilIface false:=by
 intro b a w
 kernel_rfl
theorem assertPn{e:Int}:lZ Tryz.prog (Instr.typeAssert (pnV e) 20 50 true) (.tuple #[(aC e),(.bool true)]):=by
 intro w
 kernel_rfl
theorem JC(k:K (aC 0) H):CF 197 #[.nilIface] H K:=
 cM 197 304646796286996 ⟨true,JB,λ_=>k,λh=>Vu h (by simp)⟩
theorem JD{e:Int}(k:K (aC e) H):CF 197 #[pnV e] H K:=
 cM 197 304646796286996 ⟨false,eqPn,λh=>Vu h (by simp),λ_=>⟨e,true,assertPn,λ_=>k,λh=>Vu h (by simp)⟩⟩
theorem SQ{b b1:Nat}{e:Int}{cs:Os}{v1:Int}{i:FrameMode->aD->Prop}(m:e≠0)(a:cs.length=12)(h:aA H (cellsA b1 [aC v1] 50::cellsA b cs 61::F))
  (k:∀d,aA d (cellsA b1 [aC e] 50::cellsA b (zR 0) 61::F)->i (bi (pnV e) true) d):cC Tryz.prog 210 [(PA b1 0),(PA b 0)] (bi (pnV e) false) H i:=by
 have hd:cC Tryz.prog 210 [(PA b1 0),(PA b 0)] (bi (pnV e) false) H λf d=>f=bi (pnV e) true/\aA d (cellsA b1 [aC e] 50::cellsA b (zR 0) 61::F):=by
  refine rK.defq (.inr ⟨rfl,rfl⟩) ?_;unfold rK.code;refine JD ⟨_,rfl,?_⟩;refine h.st 0 rfl rfl ?_;intro u h;refine⟨_,h.r 0,?_⟩;intro x s;refine⟨λ_=>?_,λt=>Vu t (by simpa using m)⟩
  refine h.st 1 rfl (by rw[a];rfl) ?_;intro v h;refine s _ ?_
  skip
  rw[vK _ cs (by rw[a];rfl)]at h;exact h
 intro w j;refine (hd w j).mono λn A y c=>?_
 cases n <;> simp only at c ⊢
 exact⟨c.1,c.2.1▸k _ c.2.2⟩
theorem SR{b b1:Nat}{cs:Os}{v1:Int}{e:FrameMode->aD->Prop}(h:aA H (cellsA b1 [aC v1] 50::cellsA b cs 61::F))
  (k:∀c,aA c (cellsA b1 [aC 0] 50::cellsA b cs 61::F)->e .returning c):cC Tryz.prog 210 [(PA b1 0),(PA b 0)] .returning H e:=by
 have hd:cC Tryz.prog 210 [(PA b1 0),(PA b 0)] .returning H λd c=>d=.returning/\aA c (cellsA b1 [aC 0] 50::cellsA b cs 61::F):=by
  refine rK.defq (.inl ⟨rfl,rfl,rfl⟩) ?_;unfold rK.code;refine JC ⟨_,rfl,?_⟩;refine h.st 0 rfl rfl ?_;intro n h;refine⟨_,h.r 0,?_⟩;intro s j;refine⟨λm=>Vu m (by simp),λ_=>j _ ?_⟩
  skip
  exact h
 intro w f;refine (hd w f).mono λi u t a=>?_
 cases i <;> simp only at a ⊢
 exact⟨a.1,a.2.1▸k _ a.2.2⟩
end
section
variable {F L:List aE}{H:aD}{K KP:KE}{Q:aE}
def RdPost(Q:aE)(F:List aE)(K:KE):Except Int Rp->Prop
 | .ok r=>∀Q' evs a' c' H',aM Q Q'->r.evs=evs.map Ev.p->(∀e∈evs,io Q' e)->aA H' (Q'::slA 99 4 a' evs.length c' (flat cw evs)::F)->K (.tuple #[.agg ⟨dg r a' c'⟩,aC 0]) H'
 | .error e=>∀Q' H',e≠0->aM Q Q'->aA H' (Q'::F)->K (.tuple #[.agg ⟨zR 0⟩,aC e]) H'
theorem encR_evs{r:Rp}{evs:List Ev}{a:KQ}{c:Nat}(b:r.evs=evs.map Ev.p):dg r a c=[aC r.kind,aC r.ag,aC r.ep,aC r.bt,aC r.nx,aC r.st,aC r.nw,aC r.sm.asked,aC r.sm.got,aC r.sm.sent,aC r.sm.came,.slice a evs.length c]:=by
 unfold dg;rw[b,V8]
theorem AJ(s:RS):0<=(bY 64 s).1/\(bY 64 s).1<=64:=by
 unfold bY
 split
 .dsimp only;omega
 .split
  .split
   .dsimp only;omega
   .dsimp only;omega
  .dsimp only;omega
  .dsimp only;omega
theorem SU{a:KQ}{c:Nat}{bs:List Int}(h:aA H (Q::F))(ha:∀H,aA H (Q::F)->aP H a (bs.map U8))(hb:aH bs)(hl:bs.length<=1099511627776)
  (k:RdPost Q F K (recR bs)):CF 107 #[.slice a bs.length c] H K:=by
 refine OG ?_;refine h.al λb _ h=>?_
 refine h.al λb1 _ h=>?_
 have pan:∀e Q' L cs v1,recR bs=.error e->e≠0->aM Q Q'->cs.length=12->aA L (cellsA b1 [aC v1] 50::cellsA b cs 61::Q'::F)->
   bJ 210 X.calls=true/\cC Tryz.prog 210 [(PA b1 0),(PA b 0)] (bi (pnV e) false) L λu16 V=>u16=bi (pnV e) true/\
    ∃M G P N J D R O E I B C A y,bE V b 0 [(aC M),(aC G),(aC P),(aC N),(aC J),(aC D),(aC R),(aC O),(aC E),(aC I),(aC B),(.slice C A y)]/\
    ∃W,aL V b1 0=some (aC W)/\
    K (.tuple #[(.agg #[(aC M),(aC G),(aC P),(aC N),(aC J),(aC D),(aC R),(aC O),(aC E),(aC I),(aC B),(.slice C A y)]),(aC W)]) V:=by
  intro e Q' L cs v1 hr f hs hcs h;refine⟨rfl,SQ f hcs h λH2 h=>⟨rfl,_,_,_,_,_,_,_,_,_,_,_,_,_,_,h.q 1,_,h.r 0,?_⟩⟩
  rw[hr]at k;exact k Q' _ f hs h.tl.tl
 refine rN h (λH h=>ha H h.tl.tl) hl λrb H2 h=>⟨_,rfl,?_⟩
 refine h.al λb2 _ h=>?_
 refine h.st 0 rfl rfl ?_;intro H3 h;refine⟨_,h.q 0,?_⟩;have h:=h.o [1,0,2,3,4] 5;refine uq h hb hl ?_;unfold recR at k pan
 cases hr0:ei ⟨0,bs⟩ with
 | error e=>
  rw[hr0]at pan;exact λL f h=>pan _ Q _ _ _ rfl f (aM.refl Q) rfl (h.o [1,2] 3)
 | ok p=>
 obtain⟨s,s1⟩:=p;rw[hr0]at pan k;dsimp only at pan k;intro H4 he1 y2 hl1 h;refine⟨_,rfl,?_⟩;intro Jn hJ;refine⟨λhc=>?_,λhc=>hJ _ ?_⟩
 .simp only[VE,Vy]at hc;rw[Vt hc]at pan;exact pan _ Q _ _ _ rfl (by decide) (aM.refl Q) rfl (h.o [2,3] 4)
 simp only[VB,V0]at hc;rw[nO]at pan k;have u8:i64.wrap s=s:=aK;rw[u8];refine h.st 3 rfl rfl ?_;intro H5 h;refine AA h 3 rfl rfl λp pc H6 h=>⟨_,_,_,rfl,?_⟩
 have ho:=wV s;refine⟨λi L=>∃(j:Nat) (U:List Int) (s2:RS),i=j/\j<=(cu s).length/\ja j s1=.ok (U,s2)/\s2.e=0/\aH s2.bs/\s2.bs.length<=1099511627776/\
  aA L (crdA rb s2::slA 297 1 p (cu s).length pc ((cu s).map λi=>PA b i)::cellsA b2 [PA rb 0] 388::cellsA b1 [aC 0] 50::cellsA b (stL (zR s) ((cu s).take j) U) 61::Q::F),
  λi _=>(cu s).length-i.toNat,⟨0,[],s1,rfl,by omega,rfl,he1,y2,hl1,h.o [1,0,2,3,4] 5⟩,?_⟩
 rintro i H7 ⟨j,U,s2,rfl,hj,h1,he2,h7,h6,h⟩;have hvl:=AG h1;refine⟨λd=>?_,λd=>?_⟩
 .have d:j<(cu s).length:=by have:=Vw d;omega
  have j1:=(h.sl_rd 1 rfl).at d;have hi:=AB _ (V7 d);refine⟨by omega,_,_,j1.1,_,j1.2,_,h.q 2,?_⟩;refine ko h h7 h6 ?_;have w:ja (j+1) s1=match cH s2 with|.error e=>.error e|.ok (v,s2)=>.ok (U++[v],s2):=by
   rw[ja,h1] <;> rfl
  cases hr2:cH s2 with
  | error e=>
   rw[hr2]at w;rw[AH w d]at pan;exact λL f h=>pan _ Q _ _ _ rfl f (aM.refl Q) (by rw[AI];rfl) (h.o [2,3] 4)
  | ok q=>
  obtain⟨v,s3⟩:=q;rw[hr2]at w;intro H8 h9 h3 h0 h;refine⟨_,rfl,cZ ?_⟩;refine h.st 4 rfl (by rw[AI];exact Nat.ble_eq_true_of_le (by show (cu s)[j]+1<=12;omega)) ?_;intro H9 h;rw[aK (x:=(j:Int)+1)];refine⟨⟨j+1,_,s3,by omega,d,w,h9,h3,h0,?_⟩,by dsimp only;omega⟩;rw[Wf d,JA (by rw[VM];omega)];exact h
 have j3:j=(cu s).length:=by have:=Vx d;omega
 subst j3;rw[h1]at pan k;dsimp only at pan k;rw[VW,stL_fill (by omega) (by omega) hvl]at h;refine⟨_,h.r 4,?_⟩;intro r9 l5;have fin:∀(Q':aE) (evs:List Ev) (S:KQ) (T:Nat) (s4:RS) L,aM Q Q'->evsR s s2=.ok (evs.map Ev.p,s4)->(∀e∈evs,io Q' e)->evs.length<=64->aH s4.bs->s4.bs.length<=1099511627776->
   aA L (crdA rb s4::slA 99 4 S evs.length T (flat cw evs)::cellsA b2 [PA rb 0] 388::cellsA b1 [aC 0] 50::cellsA b (dg (ld s U (evs.map Ev.p)) S T) 61::Q'::F)->r9 L:=by
  intro Q' evs S T s4 y3 t u Z hlen h5 h2 h;rw[u]at pan k;dsimp only at pan k;refine l5 _ ?_;refine⟨_,h.r 2,?_⟩;refine wu h λl6 h=>⟨_,rfl,?_⟩
  refine j8 (λf=>⟨rfl,?_⟩) λf=>?_
  .rw [Vs (by simpa using f)]at pan k;refine⟨_,_,_,_,_,_,_,_,_,_,_,_,_,_,h.q 4,?_⟩;have hEv:lN (crdA rb (dF s4)::slA 99 4 S evs.length T (flat cw evs)::cellsA b2 [PA rb 0] 388::cellsA b1 [aC 0] 50::cellsA b (dg (ld s U (evs.map Ev.p)) S T) 61::Q'::F) S evs:=
    ⟨λH h=>h.sl_rd 1 rfl,λe f H h=>(Z e f).at h 5 rfl⟩
   refine AC (r:=ld s U (evs.map Ev.p)) rfl h hEv (by omega) λH12 h=>⟨_,rfl,?_⟩
   intro Jn2 hJ2;refine⟨λhr=>?_,λhr=>hJ2 _ ?_⟩
   .rw [Vs (by simpa using hr)]at pan;exact pan _ Q' _ _ _ rfl (by decide) t rfl (h.o [3,4] 5)
   .rw [Vt (by simpa using hr)]at k;refine⟨_,_,_,_,_,_,_,_,_,_,_,_,_,_,h.q 4,?_⟩;refine h.st 4 rfl rfl ?_;intro H13 h;refine h.st 3 rfl rfl ?_;intro H14 h;have h:=h.o [3,4,0,1,2,5] 6;refine⟨rfl,SR h λH15 h=>⟨rfl,_,_,_,_,_,_,_,_,_,_,_,_,_,_,h.q 1,_,h.r 0,?_⟩⟩
    exact k Q' evs S T _ t rfl Z (h.o [5,3] 6)
  .rw [Vt f]at pan;exact pan _ Q' _ _ _ rfl f t rfl (h.o [3,4] 5)
 refine⟨λhk=>?_,λhk=>?_⟩
 .have hk:s=4:=Vw hk;have u:evsR s s2=match dO 64 s2 with|.error e=>.error e|.ok (n,s3)=>kZ n.toNat s3:=by
   unfold evsR;rw[Vt hk] <;> rfl
  refine⟨_,h.q 2,?_⟩;refine ut (by unfold aF;decide) h h7 h6 ?_
  cases hr2:dO 64 s2 with
  | error e=>
   rw[hr2]at u;rw[u]at pan;exact λL f h=>pan _ Q _ _ _ rfl f (aM.refl Q) rfl (h.o [2,3] 4)
  | ok q=>
  obtain⟨n,s3⟩:=q;rw[hr2]at u;dsimp only at u;have hn64:0<=n/\n<=64:=by
   unfold dO okR at hr2
   split at hr2
   .cases hr2
   .cases hr2
    exact AJ _
  intro H8 h9 h3 h0 h;refine⟨_,rfl,?_⟩;refine⟨λi L=>∃(j:Nat) (evs:List Ev) (Q':aE) (S:KQ) (T:Nat) (s4:RS),i=j/\(j:Int)<=n/\kZ j s3=.ok (evs.map Ev.p,s4)/\aM Q Q'/\(∀e∈evs,io Q' e)/\aH s4.bs/\s4.bs.length<=1099511627776/\
   aA L (Q'::crdA rb s4::slA 99 4 S evs.length T (flat cw evs)::cellsA b2 [PA rb 0] 388::cellsA b1 [aC 0] 50::cellsA b (dg (ld s U (evs.map Ev.p)) S T) 61::F),
   λi _=>n.toNat-i.toNat,⟨0,[],Q,none,0,s3,rfl,by omega,rfl,aM.refl Q,λe f=>Vu f (by simp),h3,h0,(h.sl_nil 99 4).o [6,1,0,3,4,5] 7⟩,?_⟩
  rintro i H9 ⟨j,evs,Q',S,T,s4,rfl,hj,h4,t,h8,h5,h2,h⟩;have hel:=J8 h4;rw[V8]at hel;refine⟨λd=>?_,λd=>?_⟩
  .have d:=Vw d;refine⟨_,_,_,h.r 5,_,h.q 3,?_⟩;refine wZ h h5 h2 ?_;have w:kZ (j+1) s3=match iZ s4 with|.error e=>.error e|.ok (v,s2)=>.ok (evs.map Ev.p++[v],s2):=by
    rw[kZ,h4] <;> rfl
   cases hr4:iZ s4 with
   | error e=>
    rw[hr4]at w;rw[u,J9 w (by omega)]at pan;exact λQ2 L f Y h=>pan _ Q2 _ _ _ rfl f (t.trans Y) rfl (h.o [3,4,0] 5)
   | ok q=>
   obtain⟨pv,s5⟩:=q;rw[hr4]at w;intro Q2 ev y3 Y j2 l0 he5 hb5 r8 h;subst l0;refine⟨_,_,_,_,_,_,rfl,h.r 5,?_⟩;refine h.al λb4 _ h=>⟨h.r 6,?_⟩
   have hfl:(ld s U (evs.map Ev.p)).evs.length=evs.length:=V8 ..;rw[hfl];refine h.append (m:=1) (ws:=cw ev) sl44 3 rfl (h.ce_rd 0 rfl) rfl (Aa ev) (by omega) (by omega) λa5 c5 l6 h=>⟨_,_,_,rfl,?_⟩
   refine h.st 6 rfl rfl ?_;intro H12 h;rw[aK (x:=(j:Int)+1)];refine⟨⟨j+1,evs++[ev],Q2,a5,c5,s5,by omega,by omega,by rw[w,VJ];rfl,t.trans Y,λe f=>?_,hb5,r8,?_⟩,by dsimp only;omega⟩
   .rcases VK.1 f with f|f
    .exact (h8 e f).sub Y
    .rw [V6]at f;subst f;exact j2
   .have e:flat cw (evs++[ev])=flat cw evs++cw ev:=by rw[dS];simp[flat]
    have e2:dg (ld s U ((evs++[ev]).map Ev.p)) a5 c5=cv (dg (ld s U (evs.map Ev.p)) S T) 11 [.slice a5 (evs.length+1) c5]:=by
     rw[encR_evs (r:=ld s U ((evs++[ev]).map Ev.p)) rfl,Vv];rfl
    rw[e,e2,Vv];exact h.o [1,2,3,4,5,6] 7
  .have j3:=Vx d;have r0:j=n.toNat:=by omega
   subst r0;refine fin Q' evs S T s4 _ t (by rw[u,h4]) h8 (by omega) h5 h2 ?_;exact h.o [1,2,3,4,5,0] 6
 .have hk:¬s=4:=Vx hk;have u:evsR s s2=.ok ([],s2):=by unfold evsR;rw[Vs hk]
  refine fin Q [] none 0 s2 _ (aM.refl Q) u (λe f=>Vu f (by simp)) (by simp) h7 h6 ?_
  exact (h.sl_nil 99 4).o [1,0,3,4,5,6] 7
end
abbrev pnF(e:Int):Value:=.iface 335 (.agg #[aC e])
def px:Rd Int:=λs=>match ei s with
 | .error e=>.error e
 | .ok (u,s')=>if u<1\/8<u then .error 16 else .ok (u,s')
def serQ:Rd (Fa×List bS):=λs=>okR ⟨(cO s).e,(cO s).rest.bs⟩ ((cO s).name,(cO s).labs)
def evQ:Rd Pv:=λs=>okR ⟨(cO (dE (bM s).2).2).e,(cO (dE (bM s).2).2).rest.bs⟩
 ⟨i64.wrap ((bM s).1:Int),(dE (bM s).2).1,(cO (dE (bM s).2).2).name,(cO (dE (bM s).2).2).labs⟩
def jA:Nat->Rd (List Pv)
 | 0,s=>.ok ([],s)
 | n+1,s=>match jA n s with
  | .error e=>.error e
  | .ok (vs,s1)=>match evQ s1 with
   | .error e=>.error e
   | .ok (v,s2)=>.ok (vs++[v],s2)
theorem AK:∀{n:Nat} {s:RS} {vs:List Pv} {a:RS},jA n s=.ok (vs,a)->vs.length=n
 | 0,s,vs,a,h=>by cases h;rfl
 | n+1,s,vs,a,h=>by
  unfold jA at h
  split at h
  .cases h
  .rename_i c s1 b
   split at h
   .cases h
   .cases h
    rw[Vv,AK b];rfl
theorem JE{s:RS}{e:Int}:∀{n j:Nat},jA j s=.error e->j<=n->jA n s=.error e
 | 0,j,h,hj=>by
  obtain rfl:j=0:=by omega
  exact h
 | n+1,j,h,hj=>by
  rcases VO n j with a|a
  .obtain rfl:j=n+1:=by omega
   exact h
  .unfold jA;rw[JE h a]
def mM:Rd (List Pv):=λs=>match dO 64 s with
 | .error e=>.error e
 | .ok (n,s1)=>jA n.toNat s1
section
variable {F L:List aE}{H:aD}{K KP:KE}{Q:aE}
theorem su{e:Int}(k:e=0->K (.tuple #[]) H)(kp:e≠0->KP (pnF e) H):CP 172 #[aC e] H K KP:=
 cNP 172 5961 [[]] λc b=>⟨λa=>kp (by simpa using a),λa=>b _ (k (by simpa using a))⟩
def FPost{α:Type}(rb:Nat)(F:List aE)(enc:α->Value)(K KP:KE):Except Int (α×RS)->Prop
 | .ok (x,s)=>∀H',s.e=0->aH s.bs->s.bs.length<=1099511627776->aA H' (crdA rb s::F)->K (enc x) H'
 | .error e=>∀H',e≠0->aA H' F->KP (pnF e) H'
theorem SW{rb:Nat}{s:RS}(h:aA H (crdA rb s::F))(hb:aH s.bs)(d:s.bs.length<=1099511627776)(k:FPost rb F aC K KP (px s)) :
  CP 169 #[PA rb 0] H K KP:=by
 refine cNP 169 4582372508 [[]] ?_;refine nL h hb d λj h=>⟨_,rfl,_,mA h,?_⟩
 have b:=gK hb;have f:=jR s;have c:=wq hb;unfold px ei okR at k;refine su (λe=>⟨rfl,?_⟩) λe=>?_
 .rw [Vs (by simpa using e)]at k;dsimp only at k;intro m i;refine⟨λa=>?_,λa=>i _ ?_⟩
  .simp only[VE,Vy]at a;rw[Vt a]at k;exact k _ (by decide) h.tl
  .simp only[VB,V0]at a;rw[nO]at k;have:=k _ e b (by omega) h;rw[<-aK (x:=(((bM s).1:Nat):Int)) (by omega) (by omega)]at this;exact this
 .rw [Vt e]at k;exact k _ e h.tl
def SPost(rb:Nat)(F:List aE)(K KP:KE):Except Int ((Fa×List bS)×RS)->Prop
 | .ok (x,s)=>∀a c H',s.e=0->aH s.bs->s.bs.length<=1099511627776->aA H' (crdA rb s::slA 421 2 a x.2.length c (flat df x.2)::F)->K (.agg #[.string x.1,.slice a x.2.length c]) H'
 | .error e=>∀H',e≠0->aA H' F->KP (pnF e) H'
theorem JG{rb:Nat}{s:RS}(h:aA H (crdA rb s::F))(hb:aH s.bs)(i:s.bs.length<=1099511627776)(k:SPost rb F K KP (serQ s)) :
  CP 175 #[PA rb 0] H K KP:=by
 refine cMP 175 4380 ?_;refine h.al λb _ h=>?_
 have h:=h.o [1,0] 2;refine Jc h hb i λa c m h=>⟨_,_,_,_,_,rfl,?_⟩
 have d:=Ap hb;have j:=Aq s;refine h.al λb2 _ h=>?_
 refine h.st 0 rfl rfl ?_;intro t h;unfold serQ okR at k;refine su (λe=>?_) λe=>?_
 .rw [Vs (by simpa using e),sr e]at k;refine⟨rfl,_,_,_,_,h.q 0,?_⟩;refine h.st 3 rfl rfl ?_;intro n h;refine⟨_,_,_,_,h.q 3,?_⟩;have f:(cO s).rest.e=0:=by rw[<-sr e];exact e
  exact k _ _ _ f d (by omega) (h.o [1,2] 4)
 .rw [Vt e]at k;exact k _ e (h.o [] 4)
def EsPost(rb:Nat)(Q:aE)(F:List aE)(K KP:KE):Except Int (List Pv×RS)->Prop
 | .ok (x,s)=>∀Q' (evs:List Ev) a c H',aM Q Q'->x=evs.map Ev.p->(∀e∈evs,io Q' e)->s.e=0->aH s.bs->s.bs.length<=1099511627776->
   aA H' (Q'::crdA rb s::slA 99 4 a evs.length c (flat cw evs)::F)->K (.slice a evs.length c) H'
 | .error e=>∀Q' H',e≠0->aM Q Q'->aA H' (Q'::F)->KP (pnF e) H'
theorem SX{rb:Nat}{s:RS}(h:aA H (Q::crdA rb s::F))(hb:aH s.bs)(hl:s.bs.length<=1099511627776)(k:EsPost rb Q F K KP (mM s)) :
  CP 174 #[PA rb 0] H K KP:=by
 refine cNP 174 0x111121561239925111144c [[(3,sS),(12,sI)]] ?_;have h:=h.o [1,0] 2;refine tO h hb hl (by unfold aF;decide) λH1 h=>⟨_,rfl,_,mA h,?_⟩
 have I:=rQ (m:=64) hb;have O:=rR s 64;unfold mM dO okR at k;refine su (λe=>⟨rfl,?_⟩) λe=>?_
 case refine_2=>
  rw[Vt e]at k;exact k Q _ e (aM.refl Q) h.tl
 rw[Vs (by simpa using e)]at k;dsimp only at k;have C:=AJ s;obtain⟨n,T⟩:∃n,(bY 64 s).1=n:=⟨_,rfl⟩;obtain⟨s3,E⟩:∃s3,(bY 64 s).2=s3:=⟨_,rfl⟩;rw[T,E]at k;rw[T]at C;rw[E]at h e I O;rw[T];refine⟨λla W lc i Y=>∃(j:Nat) (evs:List Ev) (Q':aE) (s4:RS),i=j/\(j:Int)<=n/\W=evs.length/\jA j s3=.ok (evs.map Ev.p,s4)/\aM Q Q'/\(∀e∈evs,io Q' e)/\s4.e=0/\aH s4.bs/\s4.bs.length<=1099511627776/\
   aA Y (Q'::crdA rb s4::slA 99 4 la evs.length lc (flat cw evs)::F),
   λ_ _ _ i _=>n.toNat-i.toNat,⟨0,[],Q,s3,rfl,by omega,rfl,rfl,aM.refl Q,λe f=>Vu f (by simp),e,I,by omega,(h.sl_nil 99 4).o [2,1,0] 3⟩,?_⟩
 rintro la W lc i H2 ⟨j,evs,Q',s4,rfl,hj,rfl,y,t,B,M,x,G,h⟩;have N:=AK y;rw[V8]at N;refine⟨λw=>?_,λw=>?_⟩
 .have w:=Vw w;refine h.al λb _ h=>?_
  have h:=h.o [2,0,1,3] 4;refine nL h x G λH3 h=>⟨_,rfl,?_⟩
  have J:=gK x;have h0:=jR s4;refine h.st 1 rfl rfl ?_;intro H4 h;refine wt h J (by omega) λH5 h=>⟨_,rfl,?_⟩
  have L:aH (dE (bM s4).2).2.bs:=gK J;have h1:(dE (bM s4).2).2.bs.length<=(bM s4).2.bs.length:=jR _;refine h.st 1 rfl rfl ?_;intro H6 h;refine JG h L (by omega) ?_;have d:jA (j+1) s3=match evQ s4 with|.error e=>.error e|.ok (v,s2)=>.ok (evs.map Ev.p++[v],s2):=by
   rw[jA,y] <;> rfl
  unfold evQ at d;unfold serQ;unfold okR at d ⊢
  by_cases f:(cO (dE (bM s4).2).2).e=0
  case neg=>
   rw[Vt f]at d ⊢;dsimp only at d;rw[JE d (by omega)]at k;exact λY f h=>k Q' _ f t (h.o [1] 3)
  rw[Vs (by simpa using f)]at d ⊢;dsimp only at d;intro a c H7 R A D h;dsimp only at R A D h;refine⟨_,_,_,_,rfl,?_⟩;refine h.st 2 rfl rfl ?_;intro H8 h;refine⟨_,_,_,_,_,_,h.q 2,?_⟩;obtain⟨ev,u⟩:∃ev:Ev,ev=⟨i64.wrap ((bM s4).1:Int),(dE (bM s4).2).1,(cO (dE (bM s4).2).2).name,(cO (dE (bM s4).2).2).labs,a,c⟩:=⟨_,rfl⟩;refine h.al λb4 S h=>?_
  have h:aA S (cellsA b4 (cw ev) 99::crdA rb ⟨(cO (dE (bM s4).2).2).e,(cO (dE (bM s4).2).2).rest.bs⟩::slA 421 2 a ev.labs.length c (flat df ev.labs)::cellsA b (cw ev) 99::Q'::slA 99 4 la evs.length lc (flat cw evs)::F):=by rw[u];exact h
  refine h.append (m:=1) (ws:=cw ev) sl44 5 rfl (h.ce_rd 0 (by rw[u];rfl)) rfl (Aa ev) (by omega) (by omega) λa5 c5 H9 h=>⟨_,_,_,rfl,?_⟩
  have V:i64.wrap ((j:Int)+1)=((j+1:Nat):Int):=by rw[aK];omega
  have P:(cO (dE (bM s4).2).2).rest.e=0:=by rw[<-sr f];exact f
  rw[sr f]at d h;have ep:ev.p=⟨i64.wrap ((bM s4).1:Int),(dE (bM s4).2).1,(cO (dE (bM s4).2).2).name,(cO (dE (bM s4).2).2).labs⟩:=by rw[u];rfl
  refine⟨⟨j+1,evs++[ev],slA 421 2 a ev.labs.length c (flat df ev.labs)*Q',_,V,by omega,by simp,by rw[d,VJ,VS,ep];rfl,t.trans (aM.add _ Q'),λe f=>?_,P,A,D,?_⟩,by rw[V];dsimp only;omega⟩
  .rcases VK.1 f with f|f
   .exact (B e f).sub (aM.add _ Q')
   .rw [V6]at f;rw[f];have e1:ev.la=a:=by rw[u]
    unfold io;rw[e1];exact KIn.sl (c:=c)
  .have e:flat cw (evs++[ev])=flat cw evs++cw ev:=by rw[dS];simp[flat]
   rw[e,Vv];have h:=h.o [2,4,1,5] 6;exact gy.2 h
 .have Z:=Vx w;have U:j=n.toNat:=by omega
  subst U;rw[y]at k;exact k Q' evs _ _ _ t rfl B M x G h
end
def Fq.set(f:Fq)(i:Nat)(v:Int):Fq:=match i with
 | 1=>{ f with ag:=v }|2=>{ f with ep:=v }|3=>{ f with bt:=v }|4=>{ f with ct:=v }|5=>{ f with got:=v }
 | 6=>{ f with sent:=v }|7=>{ f with next:=v }|8=>{ f with stamp:=v }|9=>{ f with win:=v }|_=>f
theorem encQ_set{f:Fq}{x:QA}{i:Nat}{v:Int}(a:1<=i)(b:i<=9):cv (cF f x) i [aB v]=cF (f.set i v) x:=by
 rcases (by omega:i=1\/i=2\/i=3\/i=4\/i=5\/i=6\/i=7\/i=8\/i=9) with rfl|rfl|rfl|rfl|rfl|rfl|rfl|rfl|rfl <;> rfl
theorem SY{f:Fq}{i j:Nat}{v:Int}(h:j≠i):(f.set i v).nums j=f.nums j:=by
 unfold Fq.set
 split <;> (unfold Fq.nums;split <;> first|rfl|exact Vu rfl h)
theorem set_keep(f:Fq)(i:Nat)(v:Int):(f.set i v).kind=f.kind/\(f.set i v).evs=f.evs/\(f.set i v).sn=f.sn/\(f.set i v).sl=f.sl/\(f.set i v).data=f.data:=by
 unfold Fq.set
 split <;> exact⟨rfl,rfl,rfl,rfl,rfl⟩
def jb:Fq->List Nat->List Int->Fq
 | f,i::is,v::vs=>jb (f.set i v) is vs
 | f,_,_=>f
theorem JH:∀{is:List Nat} {vs:List Int} {f:Fq} {i:Nat} {v:Int},is.length=vs.length->jb f (is++[i]) (vs++[v])=(jb f is vs).set i v
 | [],[],f,i,v,_=>rfl
 | a::is,b::vs,f,i,v,h=>by
  show jb (f.set a b) (is++[i]) (vs++[v])=_;exact JH (by simpa using h)
 | [],_::_,_,_,_,h=>by simp at h
 | _::_,[],_,_,_,h=>by simp at h
theorem xd:∀(is:List Nat) (vs:List Int) (f:Fq),(jb f is vs).kind=f.kind/\(jb f is vs).evs=f.evs/\(jb f is vs).sn=f.sn/\(jb f is vs).sl=f.sl/\(jb f is vs).data=f.data
 | [],_,f=>⟨rfl,rfl,rfl,rfl,rfl⟩
 | _::_,[],f=>⟨rfl,rfl,rfl,rfl,rfl⟩
 | i::is,v::vs,f=>by
  obtain⟨a1,a2,a3,a4,a5⟩:=set_keep f i v;obtain⟨b1,b2,b3,b4,b5⟩:=xd is vs (f.set i v);exact⟨b1.trans a1,b2.trans a2,b3.trans a3,b4.trans a4,b5.trans a5⟩
theorem JI{j:Nat}:∀(is:List Nat) (vs:List Int) (f:Fq),j∉is->(jb f is vs).nums j=f.nums j
 | [],_,f,_=>rfl
 | _::_,[],f,_=>rfl
 | i::is,v::vs,f,h=>by
  show (jb (f.set i v) is vs).nums j=_;rw[JI is vs _ λa=>h (VD _ a),SY λa=>h (by rw[a];exact VA ..)]
def mN(f:Fq):RS->Except Int (Fq×RS):=λs=>
 if f.kind=5 then match mM s with
  | .error e=>.error e
  | .ok (l,s')=>.ok ({ f with evs:=l },s')
 else if f.kind=8 then match serQ s with
  | .error e=>.error e
  | .ok (x,s1)=>okR (aZ 4096 s1).2 { f with sn:=x.1,sl:=x.2,data:=(aZ 4096 s1).1 }
 else .ok (f,s)
def endQ:Except Int (Fq×RS)->Except Int Fq
 | .error e=>.error e
 | .ok (f,s)=>if (dF s).e≠0 then .error (dF s).e else if fe f then .ok f else .error 10
def nS(bs:List Int):Except Int Fq:=match px ⟨0,bs⟩ with
 | .error e=>.error e
 | .ok (kd,s1)=>match ja (aV kd).length s1 with
  | .error e=>.error e
  | .ok (vs,s2)=>endQ (mN (jb { kind:=kd } (aV kd) vs) s2)
abbrev zF:Os:=cF { kind:=0 } {}
section
variable {F L:List aE}{H:aD}{K KP:KE}{Q:aE}
theorem eqPnF{e:Int}:gY Tryz.prog .eql 20 (pnF e) .nilIface false:=by
 intro b a w
 kernel_rfl
theorem SZ{e:Int}:lZ Tryz.prog (Instr.typeAssert (pnF e) 20 335 true) (.tuple #[.agg #[aC e],.bool true]):=by
 intro w
 kernel_rfl
theorem Ta{b b1:Nat}{e:Int}{cs:Os}{v1:Int}{m:FrameMode->aD->Prop}(a:cs.length=14)(h:aA H (cellsA b1 [aC v1] 50::cellsA b cs 81::F))
  (k:∀d,aA d (cellsA b1 [aC e] 50::cellsA b zF 81::F)->m (bi (pnF e) true) d):cC Tryz.prog 167 [(PA b 0),(PA b1 0)] (bi (pnF e) false) H m:=by
 have hd:cC Tryz.prog 167 [(PA b 0),(PA b1 0)] (bi (pnF e) false) H λj d=>j=bi (pnF e) true/\aA d (cellsA b1 [aC e] 50::cellsA b zF 81::F):=by
  refine rM.defq (.inr ⟨rfl,rfl⟩) ?_;unfold rM.code;refine⟨_,eqPnF,λA v=>⟨λi=>Vu i (by simp),λ_=>⟨_,_,SZ,λt f=>⟨λ_=>?_,λi=>Vu i (by simp)⟩⟩⟩⟩
  refine h.al λb2 _ h=>?_
  refine h.st 0 rfl rfl ?_;intro x h;refine⟨_,h.r 0,?_⟩;refine h.st 2 rfl (by rw[a];rfl) ?_;intro y h;refine⟨h.r 0,?_⟩;refine h.st 1 rfl rfl ?_;intro s h;refine f _ (v _ ?_);have h:=h.o [1,2] 3;have e2:cv cs 0 zF=zF:=vK _ cs (by rw[a];rfl);have h:aA s (cellsA b1 [aC e] 50::cellsA b (cv cs 0 zF) 81::F):=h;rw[e2]at h;exact h
 intro w n;refine (hd w n).mono λu C B c=>?_
 cases u <;> simp only at c ⊢
 exact⟨c.1,c.2.1▸k _ c.2.2⟩
theorem Tb{b b1:Nat}{cs:Os}{v1:Int}{e:FrameMode->aD->Prop}(h:aA H (cellsA b1 [aC v1] 50::cellsA b cs 81::F))
  (k:∀c,aA c (cellsA b1 [aC v1] 50::cellsA b cs 81::F)->e .returning c):cC Tryz.prog 167 [(PA b 0),(PA b1 0)] .returning H e:=by
 have hd:cC Tryz.prog 167 [(PA b 0),(PA b1 0)] .returning H λd c=>d=.returning/\aA c (cellsA b1 [aC v1] 50::cellsA b cs 81::F):=by
  refine rM.defq (.inl ⟨rfl,rfl,rfl⟩) ?_;unfold rM.code;exact⟨_,JB,λn j=>⟨λ_=>j _ h,λm=>Vu m (by simp)⟩⟩
 intro w f;refine (hd w f).mono λi t s a=>?_
 cases i <;> simp only at a ⊢
 exact⟨a.1,a.2.1▸k _ a.2.2⟩
def QPost(Q:aE)(F:List aE)(K:KE):Except Int Fq->Prop
 | .ok f=>∀Q' x evs H',aM Q Q'->f.evs=evs.map Ev.p->(∀e∈evs,io Q' e)->f.Sh x->aA H' (Q'::slA 99 4 x.ea evs.length x.ec (flat cw evs)::F)->K (.tuple #[.agg ⟨cF f x⟩,aC 0]) H'
 | .error e=>∀Q' H',e≠0->aM Q Q'->aA H' (Q'::F)->K (.tuple #[.agg ⟨zF⟩,aC e]) H'
theorem kindR_ok{s a:RS}{kd:Int}(h:px s=.ok (kd,a)):1<=kd/\kd<=8:=by
 unfold px at h
 split at h
 .cases h
 .split at h
  .cases h
  .cases h;omega
theorem numF_sh{kd:Int}{vs:List Int}{x:QA}(a:kd≠5->x.ea=none/\x.ec=0)(b:kd≠8->x.la=none/\x.lc=0/\x.da=none/\x.dc=0):(jb { kind:=kd } (aV kd) vs).Sh x:=by
 obtain⟨a1,a2,a3,a4,a5⟩:=xd (aV kd) vs { kind:=kd };refine⟨λh=>⟨a2,a (by rwa[a1]at h)⟩,λh=>?_,λi d c h=>?_⟩
 .obtain⟨b1,b2,b3,b4⟩:=b (by rwa[a1]at h);exact⟨a3,a4,b1,b2,a5,b3,b4⟩
 .rw [a1]at h;rw[JI _ _ _ h]
  rcases (by omega:i=1\/i=2\/i=3\/i=4\/i=5\/i=6\/i=7\/i=8\/i=9) with rfl|rfl|rfl|rfl|rfl|rfl|rfl|rfl|rfl <;> rfl
end
structure En where
 epoch:Int
 boot:Int
 time:Int
deriving DecidableEq
def En.z:En:=⟨0,0,0⟩
abbrev encE(e:En):Os:=[.int .i64 e.epoch,.int .i64 e.boot,.int .i64 e.time]
abbrev aggE(e:En):Value:=.agg #[.int .i64 e.epoch,.int .i64 e.boot,.int .i64 e.time]
def aR:Nat->List En->List (Int×En)
 | _,[]=>[]
 | i,e::r=>if 0<e.epoch then ((i:Int),e)::aR (i+1) r else aR (i+1) r
theorem py{i:Nat}:∀{l:List En} {p:Int×En},p∈aR i l->(i:Int)<=p.1/\p.1<i+l.length/\0<p.2.epoch
 | [],p,h=>by simp[aR]at h
 | e::r,p,h=>by
  simp only[aR]at h;have a:=py (i:=i+1) (l:=r) (p:=p);simp only[V1]
  split at h
  .rcases V9.1 h with rfl|h
   .rename_i b;simp only;omega
   .have:=a h;omega
  .have:=a h;omega
theorem xe{i:Nat}:∀{l:List En},(aG (aR i l)).Pairwise (·< ·)
 | []=>by simp[aR]
 | e::r=>by
  simp only[aR]
  split
  .simp only[aG,VS,Wt];refine⟨λa b=>?_,xe⟩
   obtain⟨p,c,rfl⟩:=V3.1 b;have:=py c;omega
  .exact xe
theorem xf{i:Nat}{l:List En}:(aG (aR i l)).Nodup:=xe.imp (λh=>by omega)
theorem Tc{i:Nat}{l:List En}:sortI (aG (aR i l))=aG (aR i l):=yG (xe.imp (λh=>by omega))
theorem AM{i:Nat}:∀{l:List En} {k:Nat},aJ ((i+k:Nat):Int) (aR i l)=match l[k]? with|some e=>if 0<e.epoch then some e else none|none=>none
 | [],k=>by simp[aR,aJ]
 | e::r,0=>by
  have b:aJ ((i+0:Nat):Int) (aR (i+1) r)=none:=fu.2 λh=>by
   obtain⟨p,c,d⟩:=V3.1 h;have:=py c;omega
  simp only[aR,List.getElem?_cons_zero]
  split
  .simp [aJ]
  .exact b
 | e::r,k+1=>by
  have a:=AM (i:=i+1) (l:=r) (k:=k);rw[show i+1+k=i+(k+1) by omega]at a;simp only[aR,List.getElem?_cons_succ]
  split
  .simp only[aJ];rw[nO];exact a
  .exact a
theorem AN{i:Nat}{x:En}(c:0<x.epoch):∀{l:List En} {k:Nat},k<l.length->(aR i (l.set k x)).Perm (mset ((i+k:Nat):Int) x (aR i l))
 | e::r,0,_=>by
  have hd:bT ((i+0:Nat):Int) (aR (i+1) r)=aR (i+1) r:=kO (fu.2 λh=>by
   obtain⟨p,d,f⟩:=V3.1 h;have:=py d;omega)
  simp only[Yh,aR,Vt c];have e2:bT ((i+0:Nat):Int) (if 0<e.epoch then ((i:Int),e)::aR (i+1) r else aR (i+1) r)=aR (i+1) r:=by
   split
   .have:bT ((i+0:Nat):Int) (((i:Int),e)::aR (i+1) r)=bT ((i+0:Nat):Int) (aR (i+1) r):=by simp[bT]
    rw[this,hd]
   .exact hd
  unfold mset;rw[e2];exact .refl _
 | e::r,k+1,h=>by
  have a:=AN (i:=i+1) c (l:=r) (k:=k) (by simpa using h);rw[show i+1+k=i+(k+1) by omega]at a;simp only[Y0,aR]
  split
  .refine (a.cons _).trans ?_;unfold mset;have:bT ((i+(k+1):Nat):Int) (((i:Int),e)::aR (i+1) r)=((i:Int),e)::bT ((i+(k+1):Nat):Int) (aR (i+1) r):=by
    have b:¬(i:Int)=((i+(k+1):Nat):Int):=by omega
    simp[bT,Wa,b];omega
   rw[this];exact .swap _ _ _
  .exact a
theorem JJ{i:Nat}:∀{l:List En},(aR i l).length=(l.filter λe=>decide (0<e.epoch)).length
 | []=>rfl
 | e::r=>by
  simp only[aR,Wa];have:=JJ (i:=i+1) (l:=r)
  by_cases h:0<e.epoch <;> simp[h,this]
abbrev bad(agent boot now:Int):Prop:=agent<0\/63<agent\/boot<1\/1099511627776<boot\/now<0\/4611686018427387903<now
def bg(rows:List En)(agent:Int):En:=if agent<0 then En.z else (rows[agent.toNat]?).getD En.z
structure fQ(rows:List En):Prop where
 len:rows.length=64
 ep:∀e∈rows,0<=e.epoch/\e.epoch<=1099511627776
 in64:∀e∈rows,aF e.boot/\aF e.time
 zero:∀e∈rows,¬0<e.epoch->e=En.z
abbrev full(most:Int)(rows:List En):Prop:=most<=((aR 0 rows).length:Int)
def grant(most:Int)(rows:List En)(agent boot now:Int):List En×En×Bool×Int:=
 if bad agent boot now then (rows,En.z,false,11) else
 let x:=bg rows agent
 if 0<x.epoch/\x.boot=boot then (rows,x,false,0)
 else if 0<x.epoch/\boot<x.boot then (rows,En.z,false,22)
 else if x.epoch=1099511627776 then (rows,En.z,false,17)
 else if x.epoch=0/\full most rows then (rows,En.z,false,20)
 else (rows.set agent.toNat ⟨x.epoch+1,boot,now⟩,⟨x.epoch+1,boot,now⟩,true,0)
def gC(most:Int)(rows:List En)(agent:Int)(e:En):List En×Int:=
 if bad agent e.boot e.time\/e.epoch<1\/1099511627776<e.epoch then (rows,11)
 else if 0<(bg rows agent).epoch then (rows,18)
 else if full most rows then (rows,20)
 else (rows.set agent.toNat e,0)
theorem fQ.at{rows:List En}(h:fQ rows)(agent:Int):0<=(bg rows agent).epoch/\(bg rows agent).epoch<=1099511627776/\aF (bg rows agent).boot/\aF (bg rows agent).time:=by
 unfold bg
 split
 .simp [En.z,aF]
 cases he:rows[agent.toNat]? with
 | none=>simp[En.z,aF]
 | some e=>exact⟨(h.ep e (VY he)).1,(h.ep e (VY he)).2,h.in64 e (VY he)⟩
theorem fQ.set{rows:List En}(h:fQ rows){k:Nat}{x:En}(c:0<x.epoch/\x.epoch<=1099511627776)(b:aF x.boot/\aF x.time):fQ (rows.set k x) where
 len:=by simp[h.len]
 ep e a:=by
  rcases Yu a with a|rfl
  .exact h.ep e a
  .omega
 in64 e a:=by
  rcases Yu a with a|rfl
  .exact h.in64 e a
  .exact b
 zero e a:=by
  rcases Yu a with a|rfl
  .exact h.zero e a
  .omega
theorem grant_ok{most:Int}{rows:List En}(h:fQ rows)(agent boot now:Int):fQ (grant most rows agent boot now).1:=by
 unfold grant;have:=h.at agent
 split
 .exact h
 .rename_i hb;simp only[bad,not_or,Int.not_lt]at hb;simp only
  split
  .exact h
  .split
   .exact h
   .split
    .exact h
    .split
     .exact h
     .exact h.set ⟨by simp only;omega,by simp only;omega⟩ ⟨by simp only[aF];omega,by simp only[aF];omega⟩
theorem setR_ok{most:Int}{rows:List En}(h:fQ rows)(agent:Int)(e:En):fQ (gC most rows agent e).1:=by
 unfold gC
 split
 .exact h
 .rename_i hb;simp only[bad,not_or,Int.not_lt]at hb
  split
  .exact h
  .split
   .exact h
   .exact h.set ⟨by omega,by omega⟩ ⟨by simp only[aF];omega,by simp only[aF];omega⟩
theorem AO{rows:List En}(agent:Int):aJ agent (aR 0 rows)=if 0<(bg rows agent).epoch then some (bg rows agent) else none:=by
 by_cases h0:agent<0
 .have:aJ agent (aR 0 rows)=none:=fu.2 λh=>by
   obtain⟨p,a,b⟩:=V3.1 h;have:=py a;omega
  rw[this,bg,Vt h0];rfl
 .have:=AM (i:=0) (l:=rows) (k:=agent.toNat);rw[show ((0+agent.toNat:Nat):Int)=agent by omega]at this;rw[this];unfold bg;rw[Vs h0]
  cases rows[agent.toNat]? with
  | none=>simp[En.z]
  | some e=>simp
theorem fQ.rowZ{rows:List En}(h:fQ rows)(agent:Int)(h0:¬0<(bg rows agent).epoch):bg rows agent=En.z:=by
 unfold bg at h0 ⊢
 split
 .rfl
 rename_i a;rw[Vs a]at h0
 cases he:rows[agent.toNat]? with
 | none=>rfl
 | some e=>rw[he]at h0;exact h.zero e (VY he) h0
theorem uu{rows:List En}(h:fQ rows){agent:Int}:(aJ agent (aR 0 rows)).getD En.z=bg rows agent:=by
 rw[AO]
 split
 .rfl
 .rename_i a;exact (h.rowZ agent a).symm
theorem xg{rows:List En}(h:fQ rows){agent:Int}:(aJ agent (aR 0 rows)).isSome=decide (0<(bg rows agent).epoch):=by
 rw[AO]
 split
 .rename_i a;simp[a]
 .rename_i a;simp[a]
theorem Td:fQ (List.replicate 64 En.z) where
 len:=by simp
 ep e he:=by rw[YB he];decide
 in64 e he:=by rw[YB he];simp[En.z,aF]
 zero e he _:=YB he
theorem xh{rows:List En}(h:fQ rows):(aR 0 rows).length<=64:=by
 rw[JJ];exact VI (Ys _ _) (Nat.le_of_eq h.len)
namespace Ro
theorem mt56:kA Tryz.prog 256 2 149 aggE En.z:=og Tryz.underlying256 (by kernel_rfl)
theorem ko2:mj Tryz.prog 2 aB:=vO Tryz.underlying2
abbrev rollC(rb mb:Nat)(most:Int):aE:=cellsA rb [aB most,.map (some mb)] 259
abbrev mapE(mb:Nat)(rows:List En):aE:=mapA aB aggE mb (aR 0 rows)
section
variable {rb mb sb:Nat}{most:Int}{rows:List En}{F:List aE}{H:aD}{K:KE}
theorem JK{a b n:Int}:bX Tryz.prog 229 #[aB a,aB b,aB n] H (.bool (!decide (bad a b n))):=by
 refine cM 229 28 ⟨congrArg Value.bool ?_,rfl⟩;rw[Wb];simp only[Vz,Vy,VP,V0];omega
theorem New_spec(h:aA H F)(k1:most<1\/64<most->K (.tuple #[.pointer none,aB 11]) H)
  (k2:¬(most<1\/64<most)->∀rb mb b,aA b (rollC rb mb most::mapE mb (List.replicate 64 En.z)::F)->K (.tuple #[.pointer (some ⟨rb,0,none⟩),aB 0]) b) :
  CF 183 #[aB most] H K:=by
 refine cM 183 476 ⟨λa=>k1 (by simpa using a),λa=>?_⟩
 refine h.alm aB aggE λmb _ h=>?_
 refine h.al λrb _ h=>?_
 exact k2 (by simp at a;omega) _ _ _ h
end
section
variable {rb mb sb:Nat}{most:Int}{rows:List En}{F:List aE}{H:aD}{K:KE}
theorem Of_spec(ok:fQ rows){agent:Int}(h:aA H (rollC rb mb most::mapE mb rows::F))
  (k:∀b,aA b (rollC rb mb most::mapE mb rows::F)->K (.tuple #[aggE (bg rows agent),.bool (decide (0<(bg rows agent).epoch))]) b) :
  CF 142 #[.pointer (some ⟨rb,0,none⟩),aB agent] H K:=by
 refine cM 142 284 ?_;refine h.al λ_ _ h=>?_;refine⟨_,Ra2,?_⟩
 have a:=h.mp_get mt56 ko2 2 rfl (x:=agent);rw[uu ok,xg ok]at a;refine⟨_,_,_,_,a,?_⟩
 repeat (first|refine h.al λ_ _ h=>?_|refine St2 h λ_ h=>?_|refine⟨_,_,_,Rs2,?_⟩)
 exact k _ h.tl.tl
theorem Is_spec(ok:fQ rows){agent epoch:Int}(h:aA H (rollC rb mb most::mapE mb rows::F))
  (k:∀b,aA b (rollC rb mb most::mapE mb rows::F)->K (.bool (decide (0<(bg rows agent).epoch)&&decide ((bg rows agent).epoch=epoch))) b) :
  CF 141 #[.pointer (some ⟨rb,0,none⟩),aB agent,aB epoch] H K:=by
 refine cM 141 284 ?_;refine⟨_,Ra2,?_⟩;have a:=h.mp_get mt56 ko2 1 rfl (x:=agent);rw[uu ok,xg ok]at a;refine⟨_,_,_,_,a,?_⟩;refine h.al λ_ _ h=>?_;refine St2 h λ_ h=>?_;refine⟨_,λ_=>Ra2,?_⟩
 exact k _ h.tl
theorem Grant_spec(ok:fQ rows){agent boot now:Int}(h:aA H (rollC rb mb most::mapE mb rows::F))
  (k:∀s,aA s (rollC rb mb most::mapE mb (grant most rows agent boot now).1::F)->
   K (.tuple #[aggE (grant most rows agent boot now).2.1,.bool (grant most rows agent boot now).2.2.1,aB (grant most rows agent boot now).2.2.2]) s) :
  CF 143 #[.pointer (some ⟨rb,0,none⟩),aB agent,aB boot,aB now] H K:=by
 refine cM 143 0x1d12513c13c13cb11c ?_;refine h.al λ_ _ h=>?_
 refine⟨_,JK,λj=>?_,λj=>?_⟩
 .have hb:bad agent boot now:=by simpa using j
  have e:grant most rows agent boot now=(rows,En.z,false,11):=Vt hb;rw[e]at k;refine St1 h λ_ h=>?_;refine⟨_,_,_,Rs1,?_⟩
  exact k _ h.tl
 .have hb:¬bad agent boot now:=by simpa using j
  have h0:0<=agent:=by simp only[bad,not_or,Int.not_lt]at hb;omega
  refine⟨_,Ra2,?_⟩;have n:=h.mp_get mt56 ko2 2 rfl (x:=agent);rw[uu ok,xg ok]at n;refine⟨_,_,_,_,n,?_⟩;refine h.al λ_ _ h=>?_;refine St2 h λ_ h=>?_;refine⟨_,λ_=>Ra2,?_⟩
  have y:=ok.at agent;have u:=xh ok;refine⟨λd=>?_,λd=>?_⟩
  .simp only[Vz,Vy]at d;have e:grant most rows agent boot now=(rows,bg rows agent,false,0):=by unfold grant;rw[Vs hb];exact Vt d
   rw[e]at k
   repeat (first|refine St2 h λ_ h=>?_|refine⟨_,_,_,Rs2,?_⟩)
   exact k _ h.tl.tl
  have n1:¬(0<(bg rows agent).epoch/\(bg rows agent).boot=boot):=λa=>by simp[a.1,a.2]at d
  refine⟨_,λ_=>Ra2,?_⟩
  refine⟨λc=>?_,λc=>?_⟩
  .simp only[Vz,Vy]at c;have e:grant most rows agent boot now=(rows,En.z,false,22):=by unfold grant;rw[Vs hb];simp only;rw[Vs n1,Vt c]
   rw[e]at k;refine St2 h λ_ h=>?_;refine⟨_,_,_,Rs2,?_⟩
   exact k _ h.tl.tl
  have n2:¬(0<(bg rows agent).epoch/\boot<(bg rows agent).boot):=λa=>by simp[a.1,a.2]at c
  refine⟨_,λ_=>Ra2,?_⟩
  refine⟨λf=>?_,λf=>?_⟩
  .simp only[Vz,Vy]at f;have e:grant most rows agent boot now=(rows,En.z,false,17):=by unfold grant;rw[Vs hb];simp only;rw[Vs n1,Vs n2,pO]
   rw[e]at k;refine St2 h λ_ h=>?_;refine⟨_,_,_,Rs2,?_⟩
   exact k _ h.tl.tl
  have n3:¬((bg rows agent).epoch=1099511627776):=λa=>by simp[a]at f
  refine⟨λ_=>trivial,?_⟩;refine⟨_,λ_=>Ra3,?_⟩
  refine⟨_,λ_=>h.mp_len mt56 3 rfl,?_⟩
  refine⟨λ_=>trivial,?_⟩;refine⟨_,λ_=>Ra3,?_⟩
  refine⟨λb=>?_,λb=>?_⟩
  .simp only[Vz,VP,V0,Vy]at b;have e:grant most rows agent boot now=(rows,En.z,false,20):=by unfold grant;rw[Vs hb];simp only;rw[Vs n1,Vs n2,Vs n3,Vt ⟨by omega,b.2⟩]
   rw[e]at k;refine St2 h λ_ h=>?_;refine⟨_,_,_,Rs2,?_⟩
   exact k _ h.tl.tl
  have n4:¬((bg rows agent).epoch=0/\full most rows):=λa=>by
   have w:most<=((aR 0 rows).length:Int):=a.2;simp[a.1,w]at b
  have e:grant most rows agent boot now=(rows.set agent.toNat ⟨(bg rows agent).epoch+1,boot,now⟩,⟨(bg rows agent).epoch+1,boot,now⟩,true,0):=by
   unfold grant;rw[Vs hb];simp only;rw[Vs n1,Vs n2,Vs n3,Vs n4]
  rw[e]at k;have t:i64.wrap ((bg rows agent).epoch+1)=(bg rows agent).epoch+1:=aK;have m:agent.toNat<rows.length:=by simp only[bad,not_or,Int.not_lt]at hb;rw[ok.len];omega
  have hs:=AN (i:=0) (x:=⟨(bg rows agent).epoch+1,boot,now⟩) (by simp only;omega) m;rw[show ((0+agent.toNat:Nat):Int)=agent by omega]at hs;simp only[mapE]at k;rw[nC hs,<-t]at k
  repeat (first|refine⟨_,Ra3,?_⟩|refine St3 h λ_ h=>?_|refine⟨_,_,_,Rs3,?_⟩)
  refine h.mp_update (α:=En) (v:=⟨_,_,_⟩) mt56 ko2 3 rfl λ_ h=>?_
  repeat (first|refine St3 h λ_ h=>?_|refine⟨_,_,_,Rs3,?_⟩)
  exact k _ h.tl.tl
theorem Set_spec(ok:fQ rows){agent:Int}{x:En}(h:aA H (rollC rb mb most::mapE mb rows::F))
  (k:∀j,aA j (rollC rb mb most::mapE mb (gC most rows agent x).1::F)->K (aB (gC most rows agent x).2) j) :
  CF 260 #[.pointer (some ⟨rb,0,none⟩),aB agent,aggE x] H K:=by
 refine cM 260 488750364 ?_;refine h.al λ_ _ h=>?_;refine⟨_,Ra1,?_⟩;refine⟨_,Ra1,?_⟩
 refine⟨_,JK,?_⟩;refine⟨_,λ_=>Ra1,?_⟩;refine⟨_,λ_=>Ra1,?_⟩
 refine⟨λc=>?_,λc=>?_⟩
 .have e:gC most rows agent x=(rows,11):=Vt (by
   simp only[VE,VP,Wd,Vy,Bool.not_not]at c;omega)
  rw[e]at k;exact k _ h.tl
 .have n1:¬(bad agent x.boot x.time\/x.epoch<1\/1099511627776<x.epoch):=by
   simp only[VB,Bool.not_not,V0]at c;omega
  refine⟨_,Ra2,?_⟩;have f:=h.mp_get mt56 ko2 2 rfl (x:=agent);rw[uu ok,xg ok]at f;refine⟨_,_,_,_,f,?_⟩;refine h.al λ_ _ h=>?_;refine St2 h λ_ h=>?_
  refine⟨λb=>?_,λb=>?_⟩
  .have e:gC most rows agent x=(rows,18):=by unfold gC;rw[Vs n1,Vt (by simpa using b)]
   rw[e]at k;exact k _ h.tl.tl
  have n2:¬0<(bg rows agent).epoch:=by simpa using b
  refine⟨_,Ra3,?_⟩;refine⟨_,h.mp_len mt56 3 rfl,?_⟩;refine⟨_,Ra3,?_⟩;refine⟨λa=>?_,λa=>?_⟩
  .have e:gC most rows agent x=(rows,20):=by unfold gC;rw[Vs n1,Vs n2,Vt (by simpa using a)]
   rw[e]at k;exact k _ h.tl.tl
  have n3:¬full most rows:=by simpa using a
  have e:gC most rows agent x=(rows.set agent.toNat x,0):=by unfold gC;rw[Vs n1,Vs n2,Vs n3]
  rw[e]at k;refine⟨_,Ra3,?_⟩;refine⟨_,_,_,Rs3,?_⟩;refine h.mp_update (α:=En) (v:=x) mt56 ko2 3 rfl λ_ h=>?_
  have d:agent.toNat<rows.length:=by simp only[bad,not_or,Int.not_lt]at n1;rw[ok.len];omega
  have hs:=AN (i:=0) (x:=x) (by omega) d;rw[show ((0+agent.toNat:Nat):Int)=agent by simp only[bad,not_or,Int.not_lt]at n1;omega]at hs;refine k _ ?_;show aA _ (rollC rb mb most::mapA aB aggE mb (aR 0 (rows.set agent.toNat x))::F);rw[nC hs];exact h.tl.tl
end
section
variable {rb mb sb:Nat}{most:Int}{rows:List En}{F:List aE}{H:aD}{K:KE}
theorem Clone_spec(h:aA H (rollC rb mb most::mapE mb rows::F))
  (k:∀b a c,aA c (rollC b a most::mapE a rows::rollC rb mb most::mapE mb rows::F)->K (.pointer (some ⟨b,0,none⟩)) c) :
  CF 58 #[.pointer (some ⟨rb,0,none⟩)] H K:=by
 refine cM 58 28 ?_;refine⟨_,Ra1,?_⟩;refine⟨_,Ra1,?_⟩;refine Ga h 1 rfl λc h _=>⟨_,rfl,?_⟩
 refine⟨h.r 1,?_⟩;refine h.al λ_ _ h=>?_
 exact k _ _ _ h
theorem All_spec(h:aA H F)(k:∀c0 a,aA a (cellsA c0 [.pointer (some ⟨rb,0,none⟩)] 139::F)->K (.func (.func 114) #[] #[.pointer (some ⟨c0,0,none⟩)]) a) :
  CF 53 #[.pointer (some ⟨rb,0,none⟩)] H K:=by
 refine cM 53 28 ?_;refine h.al λ_ _ h=>?_
 exact k _ _ h
theorem All1_spec{l c0:Nat}(ok:fQ rows)(A:Nat->aE)(C:aE)
  (h:aA H (A 0::cellsA c0 [.pointer (some ⟨rb,0,none⟩)] 139::rollC rb mb most::mapE mb rows::F))
  (J:∀j (E:j<(aR 0 rows).length) (G:List aE) (u:aD) (v:KE),aA u (A j::G)->(∀f,aA f (A (j+1)::G)->v (.bool true) f)->(∀f,aA f (C::G)->v (.bool false) f)->
   fJ Tryz.prog l [aB (aR 0 rows)[j].1,aggE (aR 0 rows)[j].2] u v)
  (k:∀e,aA e (A (aR 0 rows).length::cellsA c0 [.pointer (some ⟨rb,0,none⟩)] 139::rollC rb mb most::mapE mb rows::F)->K (.tuple #[]) e)
  (P:∀e,aA e (C::cellsA c0 [.pointer (some ⟨rb,0,none⟩)] 139::rollC rb mb most::mapE mb rows::F)->K (.tuple #[]) e) :
  CF 114 #[.func (.yield l) #[] #[],.pointer (some ⟨c0,0,none⟩)] H K:=by
 refine cN 114 0x11561239925113994 [[(15,sI)]] ?_;have N:=xh ok;refine⟨_,Ra3,?_⟩;refine⟨_,Ra3,?_⟩;refine Ga h 3 rfl λu I _=>⟨_,rfl,?_⟩
 refine OX ⟨_,_,rfl,?_⟩;refine OY I 0 rfl (λx Q=>?_) (by omega) λa c f D _=>⟨_,_,_,rfl,?_⟩
 .obtain⟨p,L,rfl⟩:=V3.1 Q;have:=py L;have:=ok.len;unfold aF;omega
 rw[Tc]at D;refine⟨λt e=>∃j:Nat,t=j/\j<=(aR 0 rows).length/\aA e (A j::slA 2 1 a (aR 0 rows).length c ((aG (aR 0 rows)).map aB)::mapA aB aggE H.size (aR 0 rows)::cellsA c0 [.pointer (some ⟨rb,0,none⟩)] 139::rollC rb mb most::mapE mb rows::F),
  λt _=>(aR 0 rows).length-t.toNat,⟨0,rfl,VQ _,D.o [2,0,1] 3⟩,?_⟩
 rintro t O ⟨j,rfl,E,s⟩;refine⟨λw=>?_,λw=>?_⟩
 .have b:j<(aR 0 rows).length:=by have:=Vw w;omega
  have d:=(s.sl_rd 1 rfl).at (j:=j) (by simpa[aG] using b);have m:(aG (aR 0 rows))[j]'(by simpa[aG] using b)=(aR 0 rows)[j].1:=by simp[aG]
  rw[m]at d;have i:=s.mp_get1 mt56 ko2 2 rfl (x:=(aR 0 rows)[j].1);have n:((aR 0 rows)[j].1,(aR 0 rows)[j].2)∈aR 0 rows:=V7 b;rw[mi xf n]at i;refine⟨⟨by omega,by omega⟩,_,_,d.1,_,d.2,_,_,_,i,?_⟩;refine J j b _ O _ s (λM y=>⟨true,rfl,λB=>(by cases B),λ_=>?_⟩) λM y=>⟨false,rfl,λ_=>?_,λB=>(by cases B)⟩
  .conv=>whnf
   rw[aK];exact⟨⟨j+1,rfl,b,y⟩,by simp only;omega⟩
  .exact P _ (y.o [0] 3)
 .obtain rfl:j=(aR 0 rows).length:=by have:=Vx w;omega
  exact k _ (s.o [0] 3)
end
end Ro
end Go.Proofs.YtaaieblnikcndaaGreatDoor
