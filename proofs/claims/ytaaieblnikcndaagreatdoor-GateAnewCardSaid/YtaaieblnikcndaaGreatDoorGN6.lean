/-
  Lemmas for GateAnew: part 6 of what it rests on. Conditions: none.
-/
import Derived.Test.YtaaieblnikcndaaGreatDoorGN5
set_option linter.unusedVariables false
set_option linter.unusedSimpArgs false
set_option maxRecDepth 100000
set_option maxHeartbeats 16000000
open Go.IntKind (i64 u64 i8 u8 i32 u32 i16 u16)
namespace Go.Proofs.YtaaieblnikcndaaGreatDoor
open Go
def evOk(e:Ev):Bool:=decide (0<=e.stamp)&&decide (e.stamp<=4611686018427387903)&&fx e.name e.labs
def iD(next:Int)(evs:List Ev):Bool:=decide (1<=evs.length)&&decide (evs.length<=64)&&decide (next<=1099511627776-evs.length)&&evs.all evOk
structure lP(F:List aE)(a:KQ)(evs:List Ev):Prop where
 rd:∀H,aA H F->aP H a (flat cw evs)
 labs:∀e∈evs,∀H,aA H F->aP H e.la (flat dg e.labs)
theorem lP.cons{F:List aE}{a:KQ}{evs:List Ev}(h:lP F a evs)(A:aE):lP (A::F) a evs:=
 ⟨λH b=>h.rd H b.tl,λe c H b=>h.labs e c H b.tl⟩
theorem Ay(x:Fa):ou x x=0:=by
 unfold ou;have h:Op.bytesLess x.toList x.toList=false:=by
  have:=ltKy ⟨0,x⟩ ⟨0,x⟩
  cases e:Op.bytesLess x.toList x.toList
  .rfl
  .exfalso;have a:=(sg ⟨0,x⟩ ⟨0,x⟩).1 (by rw[this,e];simp)
   rcases a with a|⟨-,a⟩
   .exact V2 a (by show ¬(0:Int)<0;omega)
   .exact List.lt_irrefl _ a
 rw[h];simp
section
variable {F L:List aE}{H:aD}{K:KE}
theorem Az{x y:Fa}:bV Tryz.prog 221 #[.string x,.string y] H (aC (ou x y)):=by
 unfold bV;refine .mk λw a=>?_
 subst a;refine jj (cmp183 x y w) ?_;rintro e b ⟨rfl,rfl⟩;exact⟨_,rfl,⟨rfl,rfl,rfl⟩,rfl,rfl⟩
theorem Jt{b:Nat}{x y:Int}(h:aA H F)(i:Nat)(f:aW i F=cellsA b [aC x,aC y] 3):bV Tryz.prog 326 #[.slice (some ⟨b,0,none⟩) 2 2] H (aC (if x≠0 then x else y)):=by
 refine cN 326 0x11215612399251b4c [[(8,sI)]] ?_;refine⟨λi m=>m=H/\(i=0\/i=1/\x=0\/i=2/\x=0/\y=0),λi _=>2-i.toNat,⟨rfl,.inl rfl⟩,?_⟩
 rintro j n ⟨rfl,k⟩;refine⟨λa=>?_,λa=>?_⟩
 .have a:=V4 a;refine⟨by omega,b,0,rfl,?_⟩
  rcases k with rfl|⟨rfl,d⟩|⟨rfl,_⟩
  .refine⟨x,h.rd i f 0,λc=>?_,λc=>?_⟩
   .rw [V1 (by simpa using c)];exact⟨rfl,rfl⟩
   .exact⟨⟨rfl,.inr (.inl ⟨rfl,by simpa using c⟩)⟩,by dsimp only;decide⟩
  .refine⟨y,h.rd i f 1,λc=>?_,λc=>?_⟩
   .rw [V0 (by simpa using d)];exact⟨rfl,rfl⟩
   .exact⟨⟨rfl,.inr (.inr ⟨rfl,d,by simpa using c⟩)⟩,by dsimp only;decide⟩
  .exact V2 a (by decide)
 .have a:=V5 a;have e:x=0/\y=0:=by
   rcases k with rfl|⟨rfl,d⟩|⟨rfl,d⟩
   .exact V2 (by decide) a
   .exact V2 (by decide) a
   .exact d
  rw[e.1,e.2];exact⟨rfl,rfl⟩
theorem Sz{l:bS}(h:aA H F)(k:∀a,aA a F->K (aC 0) a):CF 363 #[.agg #[.string l.name,.string l.value],.agg #[.string l.name,.string l.value]] H K:=by
 refine cM 363 28 ?_;refine h.al λb _ h=>?_
 refine h.al λb1 _ h=>⟨_,h.r 1,_,h.r 0,_,Az,?_⟩
 rw[Ay];exact k _ h.tl.tl
theorem S0{l:bS}(h:aA H F)(k:∀a,aA a F->K (aC 0) a):CF 328 #[.agg #[.string l.name,.string l.value],.agg #[.string l.name,.string l.value]] H K:=by
 refine cM 328 28 ?_;refine h.al λb _ h=>?_
 refine h.al λb1 _ h=>⟨_,_,h.q 1,_,_,h.q 0,_,h.r 1,_,h.r 0,?_⟩
 refine Sz h λc h=>⟨_,rfl,h.r 0,h.r 1,_,Az,?_⟩
 rw[Ay];refine h.al λb2 _ h=>⟨_,Jt h 0 rfl,?_⟩
 exact k _ h.tl.tl.tl
theorem S1{a:KQ}{c s:Nat}{labs:List bS}(h:aA H F)(n:∀H,aA H F->aP H a (flat dg labs))(A:labs.length<=1000000)(k:∀m,aA m F->K (aC 0) m) :
  CF 327 #[.slice a labs.length c,.slice a labs.length s,.func (.func 328) #[] #[]] H K:=by
 refine cN 327 0x1215612399251d11b4dc [[(13,sI)]] ?_;refine⟨λi m=>∃j:Nat,i=j/\j<=labs.length/\aA m F,λi _=>labs.length-i.toNat,⟨0,rfl,by omega,h⟩,?_⟩
 rintro i w ⟨j,rfl,y,h⟩;refine⟨λe=>?_,λe=>⟨λe=>V2 (V4 e) (by omega),λ_=>k _ h⟩⟩
 have d:j<labs.length:=by have:=V4 e;omega
 have f:=n _ h;refine⟨by omega,_,_,f.some iW (by omega) d,_,_,f.els iW d,?_⟩;refine h.al λb _ h=>?_
 refine h.st 0 rfl rfl ?_;intro t h;have f:=n _ h.tl;refine⟨λe=>V2 (V4 e) (by omega),λ_=>⟨by omega,_,_,f.some iW (by omega) d,_,_,f.els iW d,?_⟩⟩
 refine h.al λb1 _ h=>?_
 refine h.st 0 rfl rfl ?_;intro u h;refine⟨_,_,h.q 1,_,_,h.q 0,rfl,?_⟩;refine S0 (l:=labs[j]) h λv h=>⟨_,rfl,λe=>V2 e (by simp),λ_=>?_⟩
 conv=>whnf
 rw[aK (x:=(j:Int)+1)];exact⟨⟨j+1,by omega,d,h.tl.tl⟩,by dsimp only;omega⟩
theorem A0{name:Fa}{a:KQ}{c i:Nat}{labs:List bS}(h:aA H F)(f:∀H,aA H F->aP H a (flat dg labs))(e:labs.length<=1000000)(k:∀d,aA d F->K (aC 0) d) :
  CF 284 #[.agg #[.string name,.slice a labs.length c],.agg #[.string name,.slice a labs.length i]] H K:=by
 refine cM 284 28 ?_;refine h.al λb _ h=>?_
 refine h.al λb1 _ h=>⟨_,h.r 1,_,h.r 0,_,Az,_,_,_,h.r 1,_,_,_,h.r 0,?_⟩
 rw[Ay];refine S1 h (λH h=>f H h.tl.tl) e λj h=>⟨_,rfl,?_⟩
 refine h.al λb2 _ h=>⟨_,Jt h 0 rfl,?_⟩
 exact k _ h.tl.tl.tl
theorem S2{e:Ev}(h:aA H F)(f:∀H,aA H F->aP H e.la (flat dg e.labs))(i:e.labs.length<=1000000)(k:∀a,aA a F->K (.bool true) a):CF 283 #[aggV e,aggV e] H K:=by
 refine cN 283 4745 [[(4,sB)]] ?_;refine h.al λb _ h=>?_
 refine h.al λb1 _ h=>?_
 intro j d;have e1:(decide (e.stamp=e.stamp)&&decide (e.value=e.value))=true:=by simp
 refine⟨_,h.r 1,_,h.r 0,_,λ_=>h.r 1,_,λ_=>h.r 0,_,_,_,_,λ_=>h.q 1,_,_,_,_,λ_=>h.q 0,λ_=>?_,λc=>V2 e1 c⟩
 refine A0 h (λH h=>f H h.tl.tl) i λm h=>⟨_,rfl,d _ _ ?_⟩
 exact k _ h.tl.tl
theorem Ju{a:KQ}{c u:Nat}{evs:List Ev}(h:aA H F)(s:lP F a evs)(C:evs.length<=1000000)(t:∀e∈evs,e.labs.length<=1000000)(k:∀n,aA n F->K (.bool true) n) :
  CF 282 #[.slice a evs.length c,.slice a evs.length u,.func (.func 283) #[] #[]] H K:=by
 refine cN 282 0x1d2156123992511b4c [[(17,sI)]] ?_;refine⟨λf=>V2 f (by simp),λ_=>?_⟩
 refine⟨λi n=>∃j:Nat,i=j/\j<=evs.length/\aA n F,λi _=>evs.length-i.toNat,⟨0,rfl,by omega,h⟩,?_⟩
 rintro i A ⟨j,rfl,B,h⟩;refine⟨λf=>?_,λf=>k _ h⟩
 have d:j<evs.length:=by have:=V4 f;omega
 have m:=s.rd _ h;refine⟨by omega,_,_,m.some fI (by omega) d,_,_,_,_,_,_,m.els fI d,?_⟩;refine h.al λb _ h=>?_
 refine h.st 0 rfl rfl ?_;intro v h;have m:=s.rd _ h.tl;refine⟨by omega,_,_,m.some fI (by omega) d,_,_,_,_,_,_,m.els fI d,?_⟩;refine h.al λb1 _ h=>?_
 refine h.st 0 rfl rfl ?_;intro w h;refine⟨_,_,_,_,_,_,h.q 1,_,_,_,_,_,_,h.q 0,rfl,?_⟩;refine S2 (e:=evs[j]) h (λH h=>s.labs _ (VF d) H h.tl.tl) (t _ (VF d)) λy h=>⟨_,rfl,λf=>V2 f (by simp),λ_=>?_⟩
 conv=>whnf
 rw[aK (x:=(j:Int)+1)];exact⟨⟨j+1,by omega,d,h.tl.tl⟩,by dsimp only;omega⟩
theorem Jv{next:Int}{a:KQ}{c:Nat}{evs:List Ev}(h:aA H F)(v:lP F a evs)(M:evs.length<=1099511627776)(k:∀t,aA t F->K (.bool (iD next evs)) t) :
  CF 225 #[aC next,.slice a evs.length c] H K:=by
 refine cN 225 0x1d215612399251283c94c [[(41,sB)],[(24,sI)]] ?_;have G:i64.wrap (1099511627776-(evs.length:Int))=1099511627776-(evs.length:Int):=aK
 conv=>whnf
 rw[G];refine⟨λm=>?_,λm=>?_⟩
 .have:iD next evs=false:=by
   simp only[VN,V6]at m
   cases e:iD next evs
   .rfl
   .unfold iD at e;simp only[V7,V6]at e;omega
  rw[this]at k;exact k _ h
 .simp only[VK,V8]at m;have A:iD next evs=evs.all evOk:=by
   unfold iD;rw[VS (by omega),VS (by omega),VS (by omega)];simp
  refine⟨λi t=>∃j:Nat,i=j/\j<=evs.length/\(∀q (s:q<evs.length),q<j->evOk evs[q]=true)/\aA t F,λi _=>evs.length-i.toNat,⟨0,rfl,by omega,λq _ h=>by omega,h⟩,?_⟩
  rintro i J ⟨j,rfl,L,y,h⟩;refine⟨λm=>?_,λm=>?_⟩
  .have d:j<evs.length:=by have:=V4 m;omega
   have w:=v.rd _ h;refine⟨by omega,_,_,w.some fI (by omega) d,_,_,_,_,_,_,w.els fI d,?_⟩;refine h.al λb _ h=>?_
   refine h.st 0 rfl rfl ?_;intro I h;intro B D;have n:∀u,aA u F->B (!evOk evs[j]) u:=by
    intro u h;refine D _ _ ?_;refine⟨λf=>?_,λf=>?_⟩
    .have:iD next evs=false:=by rw[A];exact wL d (by simpa using f)
     rw[this]at k;exact k _ h
    .conv=>whnf
     rw[aK (x:=(j:Int)+1)];refine⟨⟨j+1,by omega,d,λq s E=>?_,h⟩,by dsimp only;omega⟩
     by_cases hqj:q=j
     .subst hqj;simpa using f
     .exact y q s (by omega)
   refine⟨_,h.r 0,_,λ_=>h.r 0,_,_,_,_,λ_=>h.q 0,λf=>?_,λf=>?_⟩
   .refine qF h (λH h=>v.labs _ (VF d) H h.tl) λu h=>⟨_,rfl,?_⟩
    have e:evOk evs[j]=fx evs[j].name evs[j].labs:=by
     simp only[VK,V8]at f;unfold evOk;rw[VS (by omega),VS (by omega)];simp
    rw[<-e];exact n _ h.tl
   .have e:evOk evs[j]=false:=by
     unfold evOk;simp only[VK,V8]at f;simp only[Wl,V8];omega
    have:=n _ h.tl;rw[e]at this;exact this
  .have C:evs.length<=j:=by have:=V5 m;omega
   have:iD next evs=true:=by rw[A];exact Am λq s=>y q s (by omega)
   conv=>whnf
   rw[this]at k;exact k _ h
end
abbrev fbC(ag ep next:Int)(a:KQ)(n c:Nat):Os:=
 [aC 5,aC ag,aC ep,aC 0,aC 0,aC 0,aC 0,aC next,aC 0,aC 0,.slice a n c,.string (⟨#[]⟩:Fa),.slice none 0 0,.slice none 0 0]
section
variable {F L:List aE}{H:aD}{K:KE}
theorem wS{f0 f1 f2 f3 f4 f5 f6 f7 f8 f9:Int}{f:KQ}{a c:Nat}{s:Fa}{j:KQ}{m d:Nat}{i:KQ}{e n:Nat}(h:aA H F)
  (k:∀t,aA t F->K (.agg #[aC f3,aC f4,aC f5,aC f6,aC f7,aC f8,aC f9]) t) :
  CF 281 ⟨[(.agg #[(aC f0),(aC f1),(aC f2),(aC f3),(aC f4),(aC f5),(aC f6),(aC f7),(aC f8),(aC f9),(.slice f a c),(.string s),(.slice j m d),(.slice i e n)])]⟩ H K:=by
 refine cM 281 28 ?_;refine h.al λb _ h=>?_
 refine h.al λb1 _ h=>?_
 refine⟨_,h.r 1,_,h.r 1,_,h.r 1,_,h.r 1,_,h.r 1,_,h.r 1,_,h.r 1,?_⟩;refine h.st 0 rfl rfl ?_;intro u h;exact⟨_,_,_,_,_,_,_,h.q 0,k _ h.tl.tl⟩
theorem eq314{a b c d e f g:Int}:gZ Tryz.prog .eql 468 (.agg #[aC a,aC b,aC c,aC d,aC e,aC f,aC g]) (.agg #[aC a,aC b,aC c,aC d,aC e,aC f,aC g]) true:=by
 have h:=(yS (P:=Tryz.prog) (t:=468) (xs:=[aC a,aC b,aC c,aC d,aC e,aC f,aC g]) (ys:=[aC a,aC b,aC c,aC d,aC e,aC f,aC g])
  (r:=(a == a&&(b == b&&(c == c&&(d == d&&(e == e&&(f == f&&(g == g&&true)))))))) (by kernel_rfl)).1
 simpa using h
theorem eq102{a b c:Int}:gZ Tryz.prog .eql 76 (.agg #[aC a,aC b,aC c]) (.agg #[aC a,aC b,aC c]) true:=by
 have h:=(qn (P:=Tryz.prog) (t:=76) (xs:=[aC a,aC b,aC c]) (ys:=[aC a,aC b,aC c]) (r:=(a == a&&(b == b&&(c == c&&true)))) (by kernel_rfl)).1;simpa using h
theorem A7{a b:KQ}{c d:Nat}{xs ys:List Int}(f:a=none\/∃k o,a=some ⟨k,o,none⟩)(e:b=none\/∃k o,b=some ⟨k,o,none⟩)(h:aP H a (xs.map U8))(hb:aP H b (ys.map U8))
  (k:K (.bool ((bF xs).toList == (bF ys).toList)) H):CF 208 #[.slice a xs.length c,.slice b ys.length d] H K:=
 cM 208 28 ⟨_,oX f h,_,oX e hb,k⟩
theorem S3{ag ep next:Int}{a:KQ}{c:Nat}{evs:List Ev}(h:aA H F)(m:lP F a evs)(n:evs.length<=1000000)(f:∀e∈evs,e.labs.length<=1000000)(k:∀i,aA i F->K (.bool true) i) :
  CF 227 #[.agg ⟨fbC ag ep next a evs.length c⟩,.agg ⟨fbC ag ep next a evs.length c⟩] H K:=by
 refine cN 227 4745 [[(4,sB)]] ?_;refine h.al λb _ h=>?_
 refine h.al λb1 _ h=>?_
 intro s j;refine⟨_,_,_,h.q 1,_,_,_,h.q 0,true,eq102,_,_,_,_,_,_,_,_,_,_,_,_,_,_,_,_,_,_,_,_,λ_=>h.q 1,_,_,_,_,_,_,_,_,_,_,_,_,_,_,_,_,_,_,_,_,λ_=>h.q 0,λ_=>?_,λd=>V2 rfl d⟩
 refine wS h λu h=>⟨_,_,_,_,_,_,_,rfl,λ_=>h.q 0,?_⟩
 refine wS h λv h=>⟨_,_,_,_,_,_,_,rfl,true,eq314,_,_,_,λ_=>h.r 1,_,_,_,λ_=>h.r 0,λ_=>?_,λd=>V2 rfl d⟩
 refine Ju h ((m.cons _).cons _) n f λw h=>⟨_,rfl,_,_,_,_,λ_=>h.q 1,_,_,_,_,λ_=>h.q 0,λ_=>?_,λd=>V2 rfl d⟩
 refine A0 (labs:=[]) h (λH h=>iu H none) (by simp) λt h=>⟨_,rfl,_,_,_,λ_=>h.r 1,_,_,_,λ_=>h.r 0,λ_=>?_,λd=>V2 (by simp) d⟩
 refine A7 (xs:=[]) (ys:=[]) (.inl rfl) (.inl rfl) (iu _ none) (iu _ none) ⟨_,rfl,j _ _ ?_⟩;have:=k _ h.tl.tl;have e:((bF []).toList == (bF []).toList)=true:=by simp
 rw[e];exact this
theorem Jw{b o:Nat}{e:Nat}{cs:Os}(h:aA H F)(i:Nat)(f:aW i F=cellsA b cs e)(a:aT cs 0=some (aC 5))
  (k:∀p c,aA c (cellsA p [PA b 1,PA b 2,PA b 7] 297::F)->K (.slice (some ⟨p,0,none⟩) 3 3) c):CF 170 #[PA b 0] H K:=by
 refine cN 170 0x121513c13c13c13c217943c13cbc [[(68,sB)]] ?_;refine⟨5,(h.rd i f 0).trans a,λa=>V2 a (by decide),λ_=>⟨λa=>V2 a (by decide),λ_=>⟨λa=>V2 a (by decide),λ_=>⟨λa=>V2 a (by decide),λ_=>?_⟩⟩⟩⟩
 intro j d;refine⟨λ_=>d _ _ ?_,λa=>V2 a (by decide)⟩
 refine⟨λ_=>?_,λa=>V2 a (by decide)⟩
 refine h.al λp _ h=>?_
 exact k _ _ h
def mK(next:Int)(evs:List Ev):Bool:=decide (0<=next)&&decide (next<=4611686018427387903)&&iD next evs
theorem S4{next:Int}{evs:List Ev}:mK next evs=(decide (0<=next)&&iD next evs):=by
 unfold mK iD;rw[Wi];simp only[V7,V6]
 constructor
 .rintro⟨⟨h1,h2⟩,h3⟩;exact⟨h1,h3⟩
 .rintro⟨h1,h3⟩;exact⟨⟨h1,by omega⟩,h3⟩
theorem Jx{next:Int}{a:KQ}{c:Nat}{evs:List Ev}(h:aA H F)(w:lP F a evs)(B:evs.length<=1099511627776)(k:∀j,aA j F->K (.bool (mK next evs)) j) :
  CF 137 #[.agg ⟨fbC 0 0 next a evs.length c⟩] H K:=by
 refine cN 137 0x11d11215612399251d4421517b171b217947b171b9c [[],[],[(88,sB)],[],[],[(43,sI)]] ?_;refine h.al λb _ h=>?_
 refine Jw (o:=0) h 0 rfl rfl λp J h=>⟨_,_,_,rfl,_,λ_=>h.r 1,_,λ_=>h.r 1,_,λ_=>h.r 1,_,λ_=>h.r 1,λd=>V2 d (by simp),λ_=>⟨_,h.r 1,?_⟩⟩
 refine h.al λb1 _ h=>?_
 refine h.st 0 rfl rfl ?_;intro E h;refine Jw (o:=0) h 0 rfl rfl λp1 G h=>⟨_,_,_,rfl,?_⟩
 refine⟨λi j=>(i=0\/i=1\/i=2\/i=3)/\((i=3->0<=next/\next<=4611686018427387903))/\
  aA j (cellsA p1 [PA b1 1,PA b1 2,PA b1 7] 297::cellsA b1 (fbC 0 0 (if i=3 then next else 0) none 0 0) 81::cellsA p [PA b 1,PA b 2,PA b 7] 297::cellsA b (fbC 0 0 next a evs.length c) 81::F),
  λi _=>3-i.toNat,⟨.inl rfl,λh=>V2 h (by decide),h⟩,?_⟩
 rintro i I ⟨hi,f,h⟩;refine⟨λd=>?_,λd=>?_⟩
 .have d:=V4 d
  rcases hi with rfl|rfl|rfl|rfl
  .refine⟨by decide,_,_,rfl,_,h.rd 2 rfl _,⟨_,h.r 3,λ_=>trivial,_,λ_=>h.r 3,λd=>V2 d (by decide),λ_=>⟨by decide,_,_,rfl,_,h.rd 0 rfl _,⟨_,h.r 3,?_⟩⟩⟩⟩
   refine h.st 1 rfl rfl ?_;intro m h;exact⟨⟨.inr (.inl (by decide)),λh=>V2 h (by decide),h⟩,by dsimp only;decide⟩
  .refine⟨by decide,_,_,rfl,_,h.rd 2 rfl _,⟨_,h.r 3,λ_=>trivial,_,λ_=>h.r 3,λd=>V2 d (by decide),λ_=>⟨by decide,_,_,rfl,_,h.rd 0 rfl _,⟨_,h.r 3,?_⟩⟩⟩⟩
   refine h.st 1 rfl rfl ?_;intro m h;exact⟨⟨.inr (.inr (.inl (by decide))),λh=>V2 h (by decide),h⟩,by dsimp only;decide⟩
  .refine⟨by decide,_,_,rfl,_,h.rd 2 rfl _,⟨_,h.r 3,λ_=>trivial,_,λ_=>h.r 3,λd=>?_,λd=>⟨by decide,_,_,rfl,_,h.rd 0 rfl _,⟨_,h.r 3,?_⟩⟩⟩⟩
   .have:mK next evs=false:=by
     simp only[VN,V6]at d;unfold mK;simp only[Wl,V8];omega
    rw[this]at k;exact k _ h.tl.tl.tl.tl
   .simp only[VK,V8]at d;refine h.st 1 rfl rfl ?_;intro m h;exact⟨⟨.inr (.inr (.inr (by decide))),λ_=>by omega,h⟩,by dsimp only;decide⟩
  .exact V2 d (by decide)
 .have d:=V5 d;have t:i=3:=by
   rcases hi with rfl|rfl|rfl|rfl
   .exact V2 (by decide) d
   .exact V2 (by decide) d
   .exact V2 (by decide) d
   .rfl
  subst t;have f:=f rfl;rw[V1 rfl]at h;have v:mK next evs=iD next evs:=by
   unfold mK;rw[VS f.1,VS f.2];simp
  refine⟨_,h.r 3,?_⟩;intro D x;refine⟨λd=>V2 d (by decide),λ_=>?_⟩
  intro y u;refine⟨λ_=>⟨_,_,_,h.r 3,?_⟩,λd=>V2 d (by decide)⟩
  refine h.st 1 rfl rfl ?_;intro m h;refine⟨_,h.r 3,_,_,_,h.r 3,?_⟩;refine Jv h ((((w.cons _).cons _).cons _).cons _) B λL h=>⟨_,rfl,λd=>?_,λd=>?_⟩
  .have:mK next evs=false:=by rw[v];simpa using d
   rw[this]at k;exact k _ h.tl.tl.tl.tl
  .have hb:iD next evs=true:=by simpa using d
   refine u _ (x _ ?_);refine⟨_,_,_,_,_,_,_,_,_,_,_,_,_,_,_,_,_,_,_,_,h.q 3,_,_,_,_,_,_,_,_,_,_,_,_,_,_,_,_,_,_,_,_,h.q 1,?_⟩;have A:evs.length<=64:=by
    unfold iD at hb;simp only[V7,V6]at hb;omega
   have s:∀e∈evs,e.labs.length<=1000000:=by
    intro e C;unfold iD at hb;rw[V7,Wq]at hb;have n:=hb.2 e C;unfold evOk at n;rw[V7]at n;have:=(mI n.2).len;omega
   refine S3 h ((((w.cons _).cons _).cons _).cons _) (by omega) s λM h=>⟨_,rfl,?_⟩
   have:mK next evs=true:=by rw[v,hb]
   conv=>whnf
   rw[this]at k;exact k _ h.tl.tl.tl.tl
end
section
variable {F L:List aE}{H:aD}{K:KE}
theorem S5{a:KQ}{c:Nat}{l:List Ev}(h:aA H F)(i:∀H,aA H F->aP H a (flat cw l))(w:l.length<=1000000)
  (k:∀e f d,aA d (slA 99 4 e l.length f (flat cw l)::F)->K (.slice e l.length f) d):CF 237 #[.slice a l.length c] H K:=by
 refine cM 237 476 ⟨λn=>?_,λn=>?_⟩
 .have:a=none:=by simpa using n
  subst this;have u:=oh (i H h);have:l=[]:=by
   have:=congrArg List.length u;rw[fi fI]at this;exact WK (by simp at this;omega)
  subst this;exact k none 0 H (h.sl_nil 99 4)
 .refine h.al λb _ h=>?_
  have t:=i _ h.tl;have s:=aA.sl_pt (cs:=[]) h 4 0 rfl
  conv=>whnf
  refine aA.append (m:=l.length) sl44 s 0 rfl t (fi fI l) (lC Af l) (by omega) (by omega) λe f d v=>⟨_,_,_,rfl,?_⟩
  have j:aA d (slA 99 4 e (0+l.length) f ([]++flat cw l)::F):=v;rw[VQ,Wh]at j;have:=k e f d j;rw[<-VQ l.length]at this;exact this
theorem Jy{a:KQ}{c:Nat}{l:List Ot}(h:aA H F)(i:∀H,aA H F->aP H a (flat cI l))(w:l.length<=1000000)
  (k:∀e f d,aA d (slA 164 74 e l.length f (flat cI l)::F)->K (.slice e l.length f) d):CF 61 #[.slice a l.length c] H K:=by
 refine cM 61 476 ⟨λn=>?_,λn=>?_⟩
 .have:a=none:=by simpa using n
  subst this;have u:=oh (i H h);have:l=[]:=by
   have:=congrArg List.length u;rw[fi iX]at this;exact WK (by simp at this;omega)
  subst this;exact k none 0 H (h.sl_nil 164 74)
 .refine h.al λb _ h=>?_
  have t:=i _ h.tl;have s:=aA.sl_pt (cs:=[]) h 74 0 rfl
  conv=>whnf
  refine aA.append (m:=l.length) sl86 s 0 rfl t (fi iX l) (lC sf l) (by omega) (by omega) λe f d v=>⟨_,_,_,rfl,?_⟩
  have j:aA d (slA 164 74 e (0+l.length) f ([]++flat cI l)::F):=v;rw[VQ,Wh]at j;have:=k e f d j;rw[<-VQ l.length]at this;exact this
theorem S6{a:KQ}{c:Nat}{l:List Ot}{j:Nat}(v:j<=l.length)(h:aA H (slA 164 74 a l.length c (flat cI l)::F))
  (k:∀b,aA b (slA 164 74 a (l.length-j) c (flat cI (l.drop j))::F)->K (.slice a (l.length-j) c) b):CF 73 #[.slice a l.length c,aC 0,aC j] H K:=by
 have t:=h.sl_nc 0 rfl;refine cM 73 18682140 ?_;refine⟨⟨by omega,by omega,by omega,by omega⟩,λd=>?_,λd=>?_⟩
 .have:j=0:=by simp only[V6]at d;omega
  subst this;exact k H h
 .have hj0:0<j:=by simp only[V8]at d;omega
  refine⟨⟨by omega,by omega,by omega⟩,⟨by omega,by omega,by omega⟩,?_⟩;have e:=h.sl_rd 0 rfl;have hs:=e.some iX (by omega) (k:=0) (by omega);have e0:cq a 0 c 74=a:=by
   unfold cq;rw[nO,hs,We,iQ];simp
  have i:=e.subK (k:=j) (c:=c) (sz:=74) (by rw[fi iX];omega);rw[tu iX]at i;have m:=h.sl_take 0 rfl 0 (by omega);simp only[Yg,Yc]at m;show cB Tryz.prog (Builtin.append_ #[143,143] 143 #[.slice (cq a 0 c 74) 0 c,.slice (cq a j c 74) (l.length-j) (c-j)]) H _;rw[e0];refine aA.appendIn sl86 m 0 rfl i (by rw[fi iX,VP]) (lC sf _) (by omega) λb s=>⟨_,_,_,rfl,⟨by omega,by omega,by omega⟩,?_⟩
  rw[VQ];have f:aA b (slA 164 74 a (0+(l.length-j)) c ([]++flat cI (l.drop j))::F):=s;rw[VQ,Wh]at f;exact aA.clearS sl86 (by kernel_rfl) f 0 rfl (by omega) λ_ u n=>k _ n
theorem S7{a:KQ}{c:Nat}{l:List bS}(h:aA H F)(i:∀H,aA H F->aP H a (flat dg l))(w:l.length<=1000000)
  (k:∀e f d,aA d (slA 421 2 e l.length f (flat dg l)::F)->K (.slice e l.length f) d):CF 238 #[.slice a l.length c] H K:=by
 refine cM 238 476 ⟨λn=>?_,λn=>?_⟩
 .have:a=none:=by simpa using n
  subst this;have u:=oh (i H h);have:l=[]:=by
   have:=congrArg List.length u;rw[fi iW]at this;exact WK (by simp at this;omega)
  subst this;exact k none 0 H (h.sl_nil 421 2)
 .refine h.al λb _ h=>?_
  have t:=i _ h.tl;have s:=aA.sl_pt (cs:=[]) h 2 0 rfl
  conv=>whnf
  refine aA.append (m:=l.length) sl91 s 0 rfl t (fi iW l) (lC Ae l) (by omega) (by omega) λe f d v=>⟨_,_,_,rfl,?_⟩
  have j:aA d (slA 421 2 e (0+l.length) f ([]++flat dg l)::F):=v;rw[VQ,Wh]at j;have:=k e f d j;rw[<-VQ l.length]at this;exact this
theorem S8{Q:aE}{a:KQ}{c:Nat}{l:List bS}(h:aA H (Q::F))(f:∀H,aA H (Q::F)->aP H a (flat dg l))(i:l.length<=1000000)
  (k:∀Q' b e d,aM Q Q'->KIn Q' b (flat dg l)->aA d (Q'::F)->K (.slice b l.length e) d):CF 238 #[.slice a l.length c] H K:=
 S7 h f i λb e d h=>k _ b e d (aM.add _ Q) KIn.sl (gu.2 h)
end
structure Pv where
 stamp:Int
 value:Int
 name:Fa
 labs:List bS
def Ev.p(e:Ev):Pv:=⟨e.stamp,e.value,e.name,e.labs⟩
section
variable {α β:Type}
def eQ(f:α->β)(l:cy α):cy β:=l.map λp=>(p.1,f p.2)
def mapH(f:α->β)(s:HS α):HS β:=⟨s.next,s.most,eQ f s.rows⟩
theorem S9(f:α->β)(l:cy α):aG (eQ f l)=aG l:=by simp[eQ,aG,Wr,Function.comp_def]
theorem A8(f:α->β)(l:cy α):(eQ f l).length=l.length:=VH ..
theorem Jz(f:α->β)(n:Int)(v:α):∀l:cy α,ins n (f v) (eQ f l)=eQ f (ins n v l)
 | []=>rfl
 | (a,b)::r=>by
  have c:=Jz f n v r;show (if n<a then _ else _)=eQ f (if n<a then _ else _)
  split
  .rfl
  .show (a,f b)::ins n (f v) (eQ f r)=(a,f b)::eQ f (ins n v r);rw[c]
theorem J0(f:α->β)(n:Int):∀l:cy α,aJ n (eQ f l)=(aJ n l).map f
 | []=>rfl
 | (a,b)::r=>by
  have c:=J0 f n r;show aJ n ((a,f b)::eQ f r)=_;unfold aJ
  split
  .rfl
  .exact c
theorem SB(f:α->β)(next most n:Int)(v:α)(s:cy α×Int):ei next most n (f v) (eQ f s.1,s.2)=(eQ f (ei next most n v s).1,(ei next most n v s).2):=by
 unfold ei;have e:(aJ n (eQ f s.1)).isSome=(aJ n s.1).isSome:=by rw[J0];simp
 simp only[e]
 split
 .rfl
 .split
  .rfl
  .dsimp only;rw[Jz]
theorem J1(f:α->β)(next most:Int):∀(l:List α) (n:Int) (s:cy α×Int),fk next most n (l.map f) (eQ f s.1,s.2)=(eQ f (fk next most n l s).1,(fk next most n l s).2)
 | [],n,s=>rfl
 | v::vs,n,s=>by
  show fk next most (n+1) (vs.map f) (ei next most n (f v) (eQ f s.1,s.2))=_;rw[SB];exact J1 f next most vs (n+1) _
theorem J2(f:α->β):∀(l:cy α) (next:Int),pop next (eQ f l)=((pop next l).1.map f,(pop next l).2.1,eQ f (pop next l).2.2)
 | [],next=>rfl
 | (n,v)::r,next=>by
  have a:=J2 f r (next+1);have e1:pop next (eQ f ((n,v)::r))=if n=next then (f v::(pop (next+1) (eQ f r)).1,(pop (next+1) (eQ f r)).2) else ([],next,eQ f ((n,v)::r)):=rfl
  have e2:pop next ((n,v)::r)=if n=next then (v::(pop (next+1) r).1,(pop (next+1) r).2) else ([],next,(n,v)::r):=rfl
  rw[e1,e2,a]
  split <;> rfl
theorem SE(f:α->β)(s:HS α)(first:Int)(items:List α):(mapH f s).offer first (items.map f)=(mapH f (s.offer first items).1,(s.offer first items).2.1.map f,(s.offer first items).2.2):=by
 unfold HS.offer
 split
 .simp
 .have h:=J1 f s.next s.most items first (s.rows,0);simp only[mapH,h,J2]
theorem wT{f:α->β}{l:cy α}:gK (eQ f l)↔gK l:=by
 unfold gK eQ;rw[Yw]
theorem J3{f:α->β}{lo next most:Int}{l:cy α}:jL lo next most (eQ f l)↔jL lo next most l:=by
 constructor
 .rintro⟨h1,h2⟩;exact⟨wT.1 h1,λp a=>h2 (p.1,f p.2) (VB.2 ⟨p,a,rfl⟩)⟩
 .rintro⟨h1,h2⟩;refine⟨wT.2 h1,λp a=>?_⟩
  obtain⟨q,b,rfl⟩:=VB.1 a;exact h2 q b
theorem ok_mapH{f:α->β}{s:HS α}:(mapH f s).Ok↔s.Ok:=
 ⟨λh=>⟨h.next0,h.most1,h.most2,J3.1 h.rows⟩,λh=>⟨h.next0,h.most1,h.most2,J3.2 h.rows⟩⟩
theorem SG{next most n:Int}{v:α}{s:cy α×Int}{p:Int×α}(h:p∈(ei next most n v s).1):p.2=v\/p∈s.1:=by
 unfold ei at h
 split at h
 .exact .inr h
 .split at h
  .exact .inr h
  .rcases tE.1 h with rfl|h
   .exact .inl rfl
   .exact .inr h
theorem AA{next most:Int}:∀{l:List α} {n:Int} {s:cy α×Int} {p:Int×α},p∈(fk next most n l s).1->p.2∈l\/p∈s.1
 | [],n,s,p,h=>.inr h
 | v::vs,n,s,p,h=>by
  rcases AA (l:=vs) h with h|h
  .exact .inl (VL _ h)
  .rcases SG h with h|h
   .exact .inl (h▸VM ..)
   .exact .inr h
theorem AB:∀{l:cy α} {next:Int},(∀v∈(pop next l).1,∃p∈l,p.2=v)/\∀p∈(pop next l).2.2,p∈l
 | [],next=>⟨λv h=>V2 h (by simp[pop]),λp h=>V2 h (by simp[pop])⟩
 | (n,v)::r,next=>by
  have c:=AB (l:=r) (next:=next+1);unfold pop
  split
  .refine⟨λx a=>?_,λp b=>VL _ (c.2 p b)⟩
   rcases VJ.1 a with rfl|a
   .exact⟨_,VM ..,rfl⟩
   .obtain⟨p,b,e⟩:=c.1 x a;exact⟨p,VL _ b,e⟩
  .exact⟨λx a=>V2 a (by simp),λp b=>b⟩
theorem uo{s:HS α}{first:Int}{items:List α}:(∀v∈(s.offer first items).2.1,v∈items\/∃p∈s.rows,p.2=v)/\∀p∈(s.offer first items).1.rows,p.2∈items\/p∈s.rows:=by
 unfold HS.offer
 split
 .exact⟨λv h=>V2 h (by simp),λp h=>.inr h⟩
 .have b:=AB (l:=(fk s.next s.most first items (s.rows,0)).1) (next:=s.next);refine⟨λv d=>?_,λp a=>AA (b.2 p a)⟩
  obtain⟨p,c,rfl⟩:=b.1 v d
  rcases AA c with h|h
  .exact .inl h
  .exact .inr ⟨p,h,rfl⟩
theorem J4:∀{l:cy α} {next:Int},(pop next l).1.length<=l.length
 | [],_=>VA _
 | (n,v)::r,next=>by
  have a:=J4 (l:=r) (next:=next+1);unfold pop
  split
  .show (v::(pop (next+1) r).1).length<=_;simp only[V9];omega
  .simp
theorem J5{next most:Int}:∀{l:List α} {n:Int} {s:cy α×Int},(fk next most n l s).1.length<=s.1.length+l.length
 | [],n,s=>VA _
 | v::vs,n,s=>by
  have a:=J5 (next:=next) (most:=most) (l:=vs) (n:=n+1) (s:=ei next most n v s);have b:(ei next most n v s).1.length<=s.1.length+1:=by
   unfold ei
   split
   .omega
   .split
    .dsimp only;omega
    .dsimp only;rw[NP];omega
  show (fk next most (n+1) vs (ei next most n v s)).1.length<=_;rw[V9];omega
theorem J6{s:HS α}{first:Int}{items:List α}:(s.offer first items).2.1.length<=s.rows.length+items.length:=by
 unfold HS.offer
 split
 .simp
 .exact VO J4 J5
end
abbrev io(Q:aE)(e:Ev):Prop:=KIn Q e.la (flat dg e.labs)
def hldA(Q:aE)(hb:Nat)(s:HS Pv):aE:=exS λp:Nat×cy Ev=>star [holdC hb p.1 s.next s.most,ig p.1 p.2,pur (eQ Ev.p p.2=s.rows/\∀x∈p.2,io Q x.2)]
section
variable {Q Q':aE}{hb:Nat}{s:HS Pv}{F L:List aE}{H:aD}{K:KE}
theorem kY:aA H (hldA Q hb s::F)↔∃mb rows,(eQ Ev.p rows=s.rows/\∀x∈rows,io Q x.2)/\aA H (holdC hb mb s.next s.most::ig mb rows::F):=by
 constructor
 .intro h;obtain⟨⟨mb,rows⟩,h⟩:=cJ.1 h;have h:=aA.open (A:=[_,_,_]) h;have a:=aA.consP (h.o [2,0,1] 3);exact⟨mb,rows,a.1,a.2⟩
 .rintro⟨mb,rows,a,h⟩;refine cJ.2 ⟨(mb,rows),aA.shut [_,_,_] ?_⟩;exact (h.pur a).o [1,2,0] 3
theorem AC(hs:aM Q Q')(h:aA H (hldA Q hb s::F)):aA H (hldA Q' hb s::F):=by
 obtain⟨mb,rows,a,h⟩:=kY.1 h;exact kY.2 ⟨mb,rows,⟨a.1,λx b=>(a.2 x b).sub hs⟩,h⟩
theorem AD{next most:Int}(h:aA H F)
  (k1:next<0\/1099511627776<next\/most<1\/256<most->K (.tuple #[.pointer none,aC 11]) H)
  (k2:∀hb a,0<=next/\next<=1099511627776/\1<=most/\most<=256->aA a (hldA Q hb ⟨next,most,[]⟩::F)->K (.tuple #[PA hb 0,aC 0]) a) :
  CF 185 #[aC next,aC most] H K:=
 Rs h k1 λhb mb a c h=>k2 hb a c (kY.2 ⟨mb,[],⟨rfl,λx b=>V2 b (by simp)⟩,h⟩)
theorem uq(h:aA H (hldA Q hb s::F)):bV Tryz.prog 124 #[PA hb 0] H (aC s.next):=by
 obtain⟨mb,rows,a,h⟩:=kY.1 h;exact Rt h 0 rfl
theorem J7{first:Int}{n:KQ}{y:Nat}{items:List Ev}(h:aA H (hldA Q hb s::F))(ok:s.Ok)(v:s.next<=1125899906842624)
  (w:∀H,aA H F->aP H n (flat cw items)) (u:∀e∈items,io Q e) (i:items.length<=1000000)
  (k:∀a c (ready:List Ev) d,ready.map Ev.p=(s.offer first (items.map Ev.p)).2.1->(∀e∈ready,io Q e)->
   aA d (slA 99 4 a ready.length c (flat cw ready)::hldA Q hb (s.offer first (items.map Ev.p)).1::F)->K (.tuple #[.slice a ready.length c,aC (s.offer first (items.map Ev.p)).2.2]) d) :
  CF 153 #[PA hb 0,aC first,.slice n items.length y] H K:=by
 obtain⟨mb,rows,j,h⟩:=kY.1 h;have t:s=mapH Ev.p ⟨s.next,s.most,rows⟩:=by unfold mapH;rw[j.1]
 have f:=SE Ev.p ⟨s.next,s.most,rows⟩ first items;rw[<-t]at f;rw[f]at k;have m:(⟨s.next,s.most,rows⟩:HS Ev).Ok:=ok_mapH.1 (t▸ok);have hm:=uo (s:=⟨s.next,s.most,rows⟩) (first:=first) (items:=items);have b:((⟨s.next,s.most,rows⟩:HS Ev).offer first items).1.most=s.most:=by unfold HS.offer;split <;> rfl
 refine Ru (s:=⟨s.next,s.most,rows⟩) h m v w i λa c d h=>?_
 refine k a c _ d rfl (λe B=>?_) ?_
 .rcases hm.1 e B with h|⟨p,h,rfl⟩
  .exact u e h
  .exact j.2 p h
 .have h:=h.o [1,2,0] 3;have A:aA d (hldA Q hb (mapH Ev.p ((⟨s.next,s.most,rows⟩:HS Ev).offer first items).1)::_):=kY.2 ⟨mb,_,⟨rfl,λx C=>by
   rcases hm.2 x C with h|h
   .exact u _ h
   .exact j.2 x h⟩,by
    show aA d (holdC hb mb _ ((⟨s.next,s.most,rows⟩:HS Ev).offer first items).1.most::_);rw[b];exact h⟩
  exact A.o [1,0] 2
theorem AE(h:aA H (hldA Q hb s::F))(m:gK s.rows)(n:∀p∈s.rows,aF p.1)(i:s.rows.length<=1000000)
  (k:∀a c d,aA d (slA 2 1 a s.rows.length c ((aG s.rows).map aC)::hldA Q hb s::F)->K (.slice a s.rows.length c) d) :
  CF 122 #[PA hb 0] H K:=by
 obtain⟨mb,rows,e,h⟩:=kY.1 h;rw[<-e.1]at m n i;have b:s.rows.length=rows.length:=by rw[<-e.1,A8]
 have f:aG s.rows=aG rows:=by rw[<-e.1,S9]
 refine I6 h (wT.1 m) (λp j=>n (p.1,p.2.p) (VB.2 ⟨p,j,rfl⟩)) (by rw[A8]at i;exact i) λa c d h=>?_
 rw[<-b];refine k a c d ?_;rw[b,f];have h:=h.o [1,2,0] 3;have h:=kY.2 ⟨mb,rows,e,h⟩;exact h.o [1,0] 2
theorem SN(h:aA H (hldA Q hb s::F))(m:gK s.rows)(t:∀p∈s.rows,aF p.1)(i:s.rows.length<=1000000)
  (k:∀a c (evs:List Ev) b,evs.map Ev.p=s.rows.map (·.2)->(∀e∈evs,io Q e)->aA b (slA 99 4 a evs.length c (flat cw evs)::hldA Q hb s.drain::F)->K (.slice a evs.length c) b) :
  CF 123 #[PA hb 0] H K:=by
 obtain⟨mb,rows,f,h⟩:=kY.1 h;rw[<-f.1]at m t i;refine Rv h (wT.1 m) (λp j=>t (p.1,p.2.p) (VB.2 ⟨p,j,rfl⟩)) (by rw[A8]at i;exact i) λa c b h=>?_
 have h:=h.o [1,2,0] 3;have v:aA b (hldA Q hb s.drain::_):=kY.2 ⟨mb,[],⟨rfl,λx y=>V2 y (by simp)⟩,h⟩
 have d:(rows.map (·.2)).length=rows.length:=VH ..;have n:=k a c (rows.map (·.2)) b (by rw[<-f.1];unfold eQ;rw[Wr,Wr];rfl) (λe w=>by
  obtain⟨p,u,rfl⟩:=VB.1 w;exact f.2 p u) (by rw[d];exact v.o [1,0] 2)
 rw[d]at n;exact n
theorem J8(h:aA H (hldA Q hb s::F))
  (k:∀a b,aA b (hldA Q a s::hldA Q hb s::F)->K (PA a 0) b):CF 63 #[PA hb 0] H K:=by
 obtain⟨mb,rows,d,h⟩:=kY.1 h;refine Rw h λa c b h=>k a b ?_
 have h:=h.o [2,3,0,1] 4;have h:=kY.2 ⟨mb,rows,d,h⟩;have h:=h.o [1,2,0] 3;exact kY.2 ⟨c,rows,d,h⟩
end
def gT(e:Pv):Bool:=decide (0<=e.stamp)&&decide (e.stamp<=4611686018427387903)&&fx e.name e.labs
def gU(next:Int)(evs:List Pv):Bool:=decide (0<=next)&&decide (next<=4611686018427387903)&&(decide (1<=evs.length)&&decide (evs.length<=64)&&decide (next<=1099511627776-evs.length)&&evs.all gT)
structure Rp where
 kind:Int
 ag:Int
 ep:Int
 bt:Int
 nx:Int
 st:Int
 nw:Int
 sm:bQ
 evs:List Pv
def cu(k:Int):List Nat:=if k=2 then [1,3,6] else if k=3 then [1,2,7,8,9,10] else if k=4 then [1,2,4,6] else if k=5 then [1,2,4,5,6] else if k=6 then [6] else if k=7 then [4] else []
def zrK(k:Int)(i:Nat)(x:Int):Int:=if i∈cu k then 0 else x
abbrev inM(x least most:Int):Bool:=decide (least<=x)&&decide (x<=most)
def Rp.zeros(r:Rp):Bool:=(decide (zrK r.kind 1 r.ag=0)&&decide (zrK r.kind 2 r.ep=0)&&decide (zrK r.kind 3 r.bt=0)&&decide (zrK r.kind 4 r.nx=0)&&decide (zrK r.kind 5 r.st=0)&&decide (zrK r.kind 6 r.nw=0)) &&
 (decide (zrK r.kind 7 r.sm.asked=0)&&decide (zrK r.kind 8 r.sm.got=0)&&decide (zrK r.kind 9 r.sm.sent=0)&&decide (zrK r.kind 10 r.sm.came=0))
def Rp.lim(r:Rp):Bool:=inM r.ag 0 63&&inM r.ep (if r.kind=3\/r.kind=4\/r.kind=5 then 1 else 0) 1099511627776&&inM r.bt (if r.kind=2 then 1 else 0) 1099511627776&&inM r.nx 0 1099511627776&&inM r.st 0 4611686018427387903&&inM r.nw 0 4611686018427387903&&decide (r.sm.ok)
def Rp.right(r:Rp):Bool:=inM r.kind 1 7&&r.zeros&&(if r.kind=4 then gU r.nx r.evs else decide (r.evs.length=0))&&r.lim
abbrev de(r:Rp)(a:KQ)(c:Nat):Os:=[aB r.kind,aB r.ag,aB r.ep,aB r.bt,aB r.nx,aB r.st,aB r.nw,aB r.sm.asked,aB r.sm.got,aB r.sm.sent,aB r.sm.came,.slice a r.evs.length c]
theorem kinds{k:Int}(a:¬k<1)(b:¬7<k):k=1\/k=2\/k=3\/k=4\/k=5\/k=6\/k=7:=by omega
section
variable {F L:List aE}{H:aD}{K:KE}
theorem wU{next:Int}{evs:List Ev}:mK next evs=gU next (evs.map Ev.p):=by
 unfold mK iD gU;rw[VH,List.all_map];rfl
theorem ow{x a b:Int}:bV Tryz.prog 138 #[aC x,aC a,aC b] H (.bool (inM x a b)):=cM 138 28 ⟨rfl,rfl⟩
theorem AF{b e:Nat}{k0:Int}{cs:Os}(h:aA H F)(i:Nat)(j:aW i F=cellsA b cs e)(m:aT cs 0=some (aC k0))
  (k:∀a c f,aA f (slA 297 1 a (cu k0).length c ((cu k0).map λi=>PA b i)::F)->K (.slice a (cu k0).length c) f):CF 136 #[PA b 0] H K:=by
 refine cM 136 0x121513c131c13c13c13cbc ?_;have fin:∀(l:List Nat) p f,cu k0=l->aA f (cellsA p (l.map λi=>PA b i) 297::F)->K (.slice (some ⟨p,0,none⟩) l.length l.length) f:=by
  intro l p f e h;subst e;refine k _ _ _ ?_;exact aA.sl_pt h 1 _ (by simp)
 refine⟨k0,(h.rd i j 0).trans m,λd=>?_,λd=>⟨λd=>?_,λd=>⟨λd=>?_,λd=>⟨λd=>?_,λd=>⟨λd=>?_,λd=>⟨λd=>?_,λd=>?_⟩⟩⟩⟩⟩⟩
 .have d:=V4 d;subst d;exact h.al λp _ h=>fin [1,3,6] p _ rfl h
 .have d:=V4 d;subst d;exact h.al λp _ h=>fin [1,2,7,8,9,10] p _ rfl h
 .have d:=V4 d;subst d;exact h.al λp _ h=>fin [1,2,4,6] p _ rfl h
 .have d:=V4 d;subst d;exact h.al λp _ h=>fin [1,2,4,5,6] p _ rfl h
 .have d:=V4 d;subst d;exact h.al λp _ h=>fin [6] p _ rfl h
 .have d:=V4 d;subst d;exact h.al λp _ h=>fin [4] p _ rfl h
 .have e:cu k0=[]:=by
   unfold cu;simp only[V8]at *;simp only[*,if_false]
  have:=k none 0 H (by rw[e];exact h.sl_nil 297 1);rw[e]at this;exact this
def zrL(cs:Os)(is:List Nat):Os:=is.foldl (λcs i=>cv cs i [aC 0]) cs
theorem zrL_len(cs:Os):∀is,(zrL cs is).length=cs.length:=by
 intro is
 induction is generalizing cs with
 | nil=>rfl
 | cons i r ih=>show (zrL (cv cs i [aC 0]) r).length=_;rw[ih,oe]
theorem zrL_take(cs:Os)(is:List Nat)(j:Nat)(h:j<is.length):zrL cs (is.take (j+1))=cv (zrL cs (is.take j)) is[j] [aC 0]:=by
 unfold zrL;rw[Wj h,WX];rfl
theorem AG{k:Int}:∀i∈cu k,i<11:=by
 unfold cu
 split
 .decide
 split
 .decide
 split
 .decide
 split
 .decide
 split
 .decide
 split
 .decide
 .decide
theorem wV(k:Int):(cu k).length<=6:=by
 unfold cu
 split
 .decide
 split
 .decide
 split
 .decide
 split
 .decide
 split
 .decide
 split
 .decide
 .decide
theorem zrL_enc{r:Rp}{a:KQ}{c:Nat}(d:¬r.kind<1)(b:¬7<r.kind):zrL (de r a c) (cu r.kind) =
  [aC r.kind,aC (zrK r.kind 1 r.ag),aC (zrK r.kind 2 r.ep),aC (zrK r.kind 3 r.bt),aC (zrK r.kind 4 r.nx),aC (zrK r.kind 5 r.st),aC (zrK r.kind 6 r.nw),aC (zrK r.kind 7 r.sm.asked),aC (zrK r.kind 8 r.sm.got),aC (zrK r.kind 9 r.sm.sent),aC (zrK r.kind 10 r.sm.came),.slice a r.evs.length c]:=by
 obtain⟨kind,ag,ep,bt,nx,st,nw,sm,evs⟩:=r;dsimp only at d b
 rcases kinds d b with rfl|rfl|rfl|rfl|rfl|rfl|rfl <;> rfl
theorem eq180{a b c d e f:Int}:gZ Tryz.prog .neq 298 (.agg #[aC a,aC b,aC c,aC d,aC e,aC f]) (.agg #[aC 0,aC 0,aC 0,aC 0,aC 0,aC 0])
  (!(decide (a=0)&&decide (b=0)&&decide (c=0)&&decide (d=0)&&decide (e=0)&&decide (f=0))):=by
 have h:=(yS (P:=Tryz.prog) (t:=298) (xs:=[aC a,aC b,aC c,aC d,aC e,aC f]) (ys:=[aC 0,aC 0,aC 0,aC 0,aC 0,aC 0])
  (r:=(a == 0&&(b == 0&&(c == 0&&(d == 0&&(e == 0&&(f == 0&&true))))))) (by kernel_rfl)).2
 have e:(a == 0&&(b == 0&&(c == 0&&(d == 0&&(e == 0&&(f == 0&&true))))))=(decide (a=0)&&decide (b=0)&&decide (c=0)&&decide (d=0)&&decide (e=0)&&decide (f=0)):=by
  rw[Wi];simp only[V7,beq_iff_eq,V6,Bool.and_true]
  constructor
  .rintro⟨h1,h2,h3,h4,h5,h6⟩;exact⟨⟨⟨⟨⟨h1,h2⟩,h3⟩,h4⟩,h5⟩,h6⟩
  .rintro⟨⟨⟨⟨⟨h1,h2⟩,h3⟩,h4⟩,h5⟩,h6⟩;exact⟨h1,h2,h3,h4,h5,h6⟩
 rw[e]at h;exact h
theorem eq43{a b c d:Int}:gZ Tryz.prog .neq 58 (.agg #[aC a,aC b,aC c,aC d]) (.agg #[aC 0,aC 0,aC 0,aC 0])
  (!(decide (a=0)&&decide (b=0)&&decide (c=0)&&decide (d=0))):=by
 have h:=(qn (P:=Tryz.prog) (t:=58) (xs:=[aC a,aC b,aC c,aC d]) (ys:=[aC 0,aC 0,aC 0,aC 0])
  (r:=(a == 0&&(b == 0&&(c == 0&&(d == 0&&true))))) (by kernel_rfl)).2
 have e:(a == 0&&(b == 0&&(c == 0&&(d == 0&&true))))=(decide (a=0)&&decide (b=0)&&decide (c=0)&&decide (d=0)):=by
  rw[Wi];simp only[V7,beq_iff_eq,V6,Bool.and_true]
  constructor
  .rintro⟨h1,h2,h3,h4⟩;exact⟨⟨⟨h1,h2⟩,h3⟩,h4⟩
  .rintro⟨⟨⟨h1,h2⟩,h3⟩,h4⟩;exact⟨h1,h2,h3,h4⟩
 rw[e]at h;exact h
theorem AH{r:Rp}{a:KQ}{c:Nat}{evs:List Ev}(S:r.evs=evs.map Ev.p)(h:aA H F)(ha:lP F a evs)(hl:evs.length<=1099511627776)
  (k:∀J,aA J F->K (.bool r.right) J):CF 64 #[.agg ⟨de r a c⟩] H K:=by
 have I:r.evs.length=evs.length:=by rw[S,VH]
 refine cN 64 0x1d1215612399251441d2171bb121517421791794749289 [[(2,sB)],[(8,sI)],[(70,sB)],[(70,sB)],[(8,sI),(9,sI)],[],[(21,sI)]] ?_;refine h.al λb _ h=>⟨_,h.r 0,_,λ_=>h.r 0,λG=>?_,λG=>?_⟩
 .have:r.right=false:=by
   unfold Rp.right inM;simp only[VN,V6]at G;have:(decide (1<=r.kind)&&decide (r.kind<=7))=false:=by
    simp only[Wl,V8];omega
   rw[this];simp
  rw[this]at k;exact k _ h.tl
 simp only[VK,V8]at G;have E:inM r.kind 1 7=true:=by unfold inM;rw[VS (by omega),VS (by omega)];rfl
 refine⟨_,_,_,_,_,_,_,_,_,_,_,_,_,_,h.q 0,?_⟩;refine h.al λb1 _ h=>?_
 refine h.st 0 rfl rfl ?_;intro H2 h;refine AF h 0 rfl rfl λp pc H3 h=>⟨_,_,_,rfl,?_⟩
 refine⟨λi J=>∃j:Nat,i=j/\j<=(cu r.kind).length/\aA J (slA 297 1 p (cu r.kind).length pc ((cu r.kind).map λi=>PA b1 i)::cellsA b1 (zrL (de r a c) ((cu r.kind).take j)) 61::cellsA b (de r a c) 61::F),
  λi _=>(cu r.kind).length-i.toNat,⟨0,rfl,by omega,h⟩,?_⟩
 rintro i H4 ⟨j,rfl,hj,h⟩;refine⟨λe=>?_,λe=>?_⟩
 .have e:j<(cu r.kind).length:=by have:=V4 e;omega
  have U:=(h.sl_rd 0 rfl).at e;have hi:=AG _ (VF e);have ho:=wV r.kind;refine⟨by omega,_,_,U.1,_,U.2,?_⟩;refine h.st 1 rfl (by rw[zrL_len];exact Nat.ble_eq_true_of_le (by show (cu r.kind)[j]+1<=12;omega)) ?_;intro W h
  conv=>whnf
  rw[aK (x:=(j:Int)+1)];refine⟨⟨j+1,by omega,e,?_⟩,by dsimp only;omega⟩;rw[zrL_take _ _ _ e];exact h
 .have O:(cu r.kind).length<=j:=by have:=V5 e;omega
  rw[VZ O,zrL_enc G.1 G.2]at h;refine⟨_,h.r 1,_,h.r 1,_,h.r 1,_,h.r 1,_,h.r 1,_,h.r 1,?_⟩;refine h.al λb3 _ h=>?_
  refine h.st 0 rfl rfl ?_;intro W h;refine⟨_,_,_,_,_,_,h.q 0,_,eq180,_,_,_,_,λ_=>h.q 2,_,λ_=>eq43,λu=>?_,λu=>?_⟩
  .have:r.right=false:=by
    have:r.zeros=false:=by
     unfold Rp.zeros;rw[Wl];rw[VN,VY,VY]at u;exact u
    unfold Rp.right;rw[this];simp
   rw[this]at k;exact k _ h.tl.tl.tl.tl
  have N:r.zeros=true:=by
   rw[VK,Wm,Wm]at u;unfold Rp.zeros;rw[u.1,u.2];rfl
  have D:r.right=((if r.kind=4 then gU r.nx r.evs else decide (r.evs.length=0))&&r.lim):=by
   unfold Rp.right;rw[E,N];simp
  refine⟨_,h.r 3,?_⟩;intro V Y;have fin:∀v,(if r.kind=4 then gU r.nx r.evs else decide (r.evs.length=0))=true->aA v (cellsA b (de r a c) 61::F)->V v:=by
   intro v hb h;rw[hb,Yk]at D;refine Y _ ?_;refine⟨_,h.r 0,?_⟩;intro M P;have f:∀ep bt,ep=(if r.kind=3\/r.kind=4\/r.kind=5 then (1:Int) else 0)->bt=(if r.kind=2 then (1:Int) else 0)->M ep bt v:=by
    rintro _ _ rfl rfl;refine P _ _ _ ?_;intro Z A;refine⟨_,h.r 0,_,ow,_,λ_=>h.r 0,_,λ_=>ow,_,λ_=>h.r 0,_,λ_=>ow,_,λ_=>h.r 0,_,λ_=>ow,_,λ_=>h.r 0,_,λ_=>ow,_,λ_=>h.r 0,_,λ_=>ow,_,_,_,_,λ_=>h.q 0,λL=>?_,λL=>?_⟩
    .refine wG (s:=r.sm) h λH7 h=>⟨_,rfl,A _ _ ?_⟩
     have:r.right=decide r.sm.ok:=by
      rw[D];unfold Rp.lim;rw[L,Yk]
     rw[this]at k;exact k _ h.tl
    .refine A _ _ ?_;have:r.right=false:=by
      rw[D];unfold Rp.lim;rw[Bool.not_eq_true]at L;rw[L,Bool.false_and]
     rw[this]at k;exact k _ h.tl
   refine⟨λd=>?_,λd=>?_⟩
   .have d:=V4 d;exact f _ _ (by rw[nO]) (by rw[V1 d])
   intro Q R;have y:=V5 d;have f3:∀t:Bool,t=decide (r.kind=3\/r.kind=4\/r.kind=5)->Q t v:=by
    rintro t rfl;refine R _ _ ?_;intro h0 C;refine⟨λT=>?_,λT=>?_⟩
    .refine C _ _ ?_;exact f _ _ (by rw[V1 (V4 T)]) (by rw[V0 y])
    .refine C _ _ ?_;exact f _ _ (by rw[V0 (V5 T)]) (by rw[V0 y])
   refine⟨λd=>?_,λd=>?_⟩
   .have m:=V4 d;exact f3 _ (by rw[VS m,VS (.inl m)])
   intro h1 B;have m:=V5 d;refine⟨λd=>?_,λd=>?_⟩
   .have n:=V4 d;refine B _ _ ?_;exact f3 _ (by rw[VS n,VS (.inr (.inl n))])
   .have n:=V5 d;refine B _ _ ?_;refine f3 _ ?_;rw[Wi,V6,V6];omega
  refine⟨λd=>?_,λd=>?_⟩
  .have d:=V4 d;refine⟨_,h.r 3,_,_,_,h.r 3,?_⟩;refine h.al λb4 _ h=>?_
   refine h.st 0 rfl rfl ?_;intro v h;refine⟨_,_,_,_,_,_,_,_,_,_,_,_,_,_,_,_,_,_,_,_,h.q 0,?_⟩;rw[I]at h ⊢;refine Jx (evs:=evs) h (((((ha.cons _).cons _).cons _).cons _).cons _) hl λH7 h=>⟨_,rfl,λhb=>?_,λhb=>?_⟩
   .have:r.right=false:=by
     rw[D,V1 d,S,<-wU];rw[VY]at hb;rw[hb];rfl
    rw[this]at k;exact k _ h.tl.tl.tl.tl.tl
   .refine fin _ ?_ ?_
    .rw [V1 d,S,<-wU];simpa using hb
    .rw [<-I]at h;exact h.o [4] 5
  .have d:=V5 d;refine⟨_,_,_,h.r 3,λw=>?_,λw=>?_⟩
   .have w:=V4 w;have:r.right=false:=by
     rw[D,V0 d,Wp (by omega)];rfl
    rw[this]at k;exact k _ h.tl.tl.tl.tl
   .have w:=V5 w;refine fin _ ?_ (h.o [3] 4);rw[V0 d,VS (by omega)]
end
def u64N(v:Int):Nat:=(u64.wrap v).toNat
def aN(l:List Int):List Int:=l.flatMap λv=>bR (u64N v)
theorem iE(l:List Int):aH (aN l):=jy λ_ _=>oU _
abbrev Rd(α:Type):=RS->Except Int (α×RS)
def okR{α:Type}(s:RS)(x:α):Except Int (α×RS):=if s.e≠0 then .error s.e else .ok (x,s)
def dZ:Rd Int:=λs=>okR (bM s).2 ((bM s).1:Int)
def cH:Rd Int:=λs=>okR (bM s).2 (i64.wrap ((bM s).1:Int))
def gj:Rd Int:=λs=>okR (dE s).2 (dE s).1
def dM(m:Int):Rd Int:=λs=>okR (bY m s).2 (bY m s).1
def upR(m:Int):Rd Int:=λs=>match cH s with
 | .ok (v,s')=>if inM v 0 m then .ok (v,s') else .error 10
 | .error e=>.error e
def jb:Rd Pv:=λs=>match cH s with
 | .error e=>.error e
 | .ok (a,s1)=>match gj s1 with
  | .error e=>.error e
  | .ok (b,s2)=>okR ⟨(cO s2).e,(cO s2).rest.bs⟩ ⟨a,b,(cO s2).name,(cO s2).labs⟩
def evB(e:Pv):List Int:=(aN [e.stamp]++cY [e.value])++iZ e.name e.labs
theorem wW(e:Pv):aH (evB e):=dD (dD (iE _) (tU _)) (Aq _ _)
def Rp.nums(r:Rp)(i:Nat):Int:=match i with|1=>r.ag|2=>r.ep|3=>r.bt|4=>r.nx|5=>r.st|6=>r.nw|7=>r.sm.asked|8=>r.sm.got|9=>r.sm.sent|10=>r.sm.came|_=>0
def Rp.bytes(r:Rp):List Int:=if r.right then (aN [r.kind]++(cu r.kind).flatMap (λi=>aN [r.nums i]))++(if r.kind=4 then aN [(r.evs.length:Int)] else [])++r.evs.flatMap evB else []
theorem su(v:Int):u64N v<18446744073709551616:=by
 have:=tS v;unfold u64N;omega
theorem wX(v:Int):u64.wrap v=(u64N v:Nat):=by
 have:=tS v;unfold u64N;omega
theorem dJ(l:List Int):(aN l).length<=10*l.length:=by
 induction l with
 | nil=>simp[aN]
 | cons v r ih=>
  have:=ol (su v);unfold aN at ih ⊢;rw[Wb,V3,V9];omega
theorem wY(e:Pv):(evB e).length<=1320:=by
 have b:=dJ [e.stamp];have c:=mB [e.value];have a:=wQ e.name e.labs;unfold evB;simp only[V3,V9,VW]at *;omega
section
variable {F L:List aE}{H:aD}{K KP:KE}{Q:aE}
theorem px{a:KQ}{c:Nat}{vs:List Int}(h:aA H F)(A:∀H,aA H F->aP H a (vs.map aC))(J:vs.length<=1000000)
  (k:∀m n d,aA d (slA 5 1 m (aN vs).length n ((aN vs).map U8)::F)->K (.slice m (aN vs).length n) d) :
  CF 49 #[.slice a vs.length c] H K:=by
 refine cN 49 0x1121561239925144c [[(3,sS),(8,sI)]] ?_;refine⟨λm w n i d=>∃j:Nat,i=j/\j<=vs.length/\w=(aN (vs.take j)).length/\aA d (slA 5 1 m (aN (vs.take j)).length n ((aN (vs.take j)).map U8)::F),λ_ _ _ i _=>vs.length-i.toNat,
  ⟨0,rfl,VX _,rfl,h.sl_nil 5 1⟩,?_⟩
 rintro a1 n1 c1 i E ⟨j,rfl,I,rfl,h⟩;refine⟨λt=>?_,λt=>?_⟩
 .have b:j<vs.length:=by have:=V4 t;omega
  have u:=(A _ h.tl).at b;refine⟨by omega,_,_,u.1,vs[j],u.2,?_⟩;dsimp only
  conv=>whnf
  rw[wX];have B:=dJ (vs.take j);have y:=ol (su vs[j]);have C:(vs.take j).length<=vs.length:=by rw[VU];omega
  refine h.al λb1 _ h=>?_
  refine qv (us:=[u64N vs[j]]) h (λH h=>h.ce_rd 0 rfl) (by simp;exact su _) (by simp) λa2 c2 D h=>⟨_,_,_,rfl,?_⟩
  rw[wP]at h ⊢
  conv=>whnf
  refine dp h (i:=2) rfl rfl rfl (h.sl_rd 0 rfl) (by omega) λa3 c3 G h=>⟨_,_,_,rfl,?_⟩
  conv=>whnf
  rw[aK (x:=(j:Int)+1)];have e:aN (vs.take (j+1))=aN (vs.take j)++bR (u64N vs[j]):=jP (f:=λv=>bR (u64N v)) b
  rw[<-e]at h ⊢;exact⟨⟨j+1,by omega,b,rfl,h.o [2] 3⟩,by dsimp only;omega⟩
 .have s:vs.length<=j:=by have:=V5 t;omega
  have e:vs.take j=vs:=VZ s;rw[e]at h ⊢;exact k _ _ _ h
theorem nQ{b:Nat}{v:Int}(h:aA H F)(i:Nat)(e:aW i F=cellsA b [aC v] 2)
  (k:∀a d c,aA c (slA 5 1 a (aN [v]).length d ((aN [v]).map U8)::F)->K (.slice a (aN [v]).length d) c) :
  CF 49 #[.slice (some ⟨b,0,none⟩) 1 1] H K:=
 px (vs:=[v]) h (λH h=>h.ce_rd i e) (by simp) k
theorem qG{b:Nat}{v:Int}(h:aA H F)(i:Nat)(e:aW i F=cellsA b [aC v] 2)
  (k:∀a d c,aA c (slA 5 1 a (cY [v]).length d ((cY [v]).map U8)::F)->K (.slice a (cY [v]).length d) c) :
  CF 51 #[.slice (some ⟨b,0,none⟩) 1 1] H K:=
 Gr (vs:=[v]) h (λH h=>h.ce_rd i e) (by simp) k
theorem J9{e:Ev}(h:aA H F)(w:∀H,aA H F->aP H e.la (flat dg e.labs))
  (k:∀s t f,aA f (slA 5 1 s (evB e.p).length t ((evB e.p).map U8)::F)->K (.slice s (evB e.p).length t) f) :
  CF 125 #[aggV e] H K:=by
 refine cN 125 4748 [[(3,sS)]] ?_;refine h.al λb _ h=>?_
 intro u v;have l1:=dJ [e.stamp];have l2:=mB [e.value];have l3:=wQ e.name e.labs;simp only[V9,VW]at l1 l2;have d:∀a c f,aA f (slA 5 1 a (aN [e.stamp]++cY [e.value]).length c ((aN [e.stamp]++cY [e.value]).map U8)::cellsA b (cw e) 99::F)->u a (aN [e.stamp]++cY [e.value]).length c f:=by
  intro a c f h;refine v _ _ _ _ ?_;refine⟨_,_,_,_,h.q 1,?_⟩;refine Aw h (λH h=>w H h.tl.tl) λa2 c2 j h=>⟨_,_,_,rfl,?_⟩
  conv=>whnf
  refine dp h (i:=1) rfl rfl rfl (h.sl_rd 0 rfl) (by rw[V3];omega) λa3 c3 m h=>⟨_,_,_,rfl,?_⟩
  exact k _ _ _ (h.o [1] 3)
 refine⟨_,h.r 0,_,h.r 0,?_,?_⟩
 .refine h.al λb1 _ h=>⟨h.r 1,?_,?_⟩
  .refine nQ h 0 rfl λa1 c1 j h=>⟨_,_,_,rfl,h.r 2,?_⟩
   refine h.al λb2 _ h=>?_
   refine qG h 0 rfl λa2 c2 n h=>⟨_,_,_,rfl,?_⟩
   conv=>whnf
   refine dp h (i:=2) rfl rfl rfl (h.sl_rd 0 rfl) (by omega) λa3 c3 m h=>⟨_,_,_,rfl,?_⟩
   exact d _ _ _ (h.o [2,4] 5)
  .refine h.al λb2 _ h=>?_
   refine nQ h 1 rfl λa1 c1 j h=>⟨_,_,_,rfl,?_⟩
   refine qG h 1 rfl λa2 c2 n h=>⟨_,_,_,rfl,?_⟩
   conv=>whnf
   refine dp h (i:=1) rfl rfl rfl (h.sl_rd 0 rfl) (by omega) λa3 c3 m h=>⟨_,_,_,rfl,?_⟩
   exact d _ _ _ (h.o [1,4] 5)
 .refine h.al λb2 _ h=>⟨h.r 1,?_⟩
  refine h.al λb1 _ h=>?_
  refine nQ h 0 rfl λa1 c1 j h=>⟨_,_,_,rfl,?_⟩
  refine qG h 2 rfl λa2 c2 n h=>⟨_,_,_,rfl,?_⟩
  conv=>whnf
  refine dp h (i:=1) rfl rfl rfl (h.sl_rd 0 rfl) (by omega) λa3 c3 m h=>⟨_,_,_,rfl,?_⟩
  exact d _ _ _ (h.o [1,4] 5)
abbrev pnV(e:Int):Value:=.iface 50 (aC e)
def sw{α:Type}(rb:Nat)(F:List aE)(enc:α->Value)(K KP:KE):Except Int (α×RS)->Prop
 | .ok (x,s)=>∀H',s.e=0->aH s.bs->s.bs.length<=1099511627776->aA H' (crdA rb s::F)->K (enc x) H'
 | .error e=>∀H',e≠0->aA H' F->KP (pnV e) H'
theorem j6{e:Int}(k:e=0->K (.tuple #[]) H)(kp:e≠0->KP (pnV e) H):CP 203 #[aC e] H K KP:=by
 refine cNP 203 5961 [[]] ?_;refine λc b=>⟨λa=>kp (by simpa using a),λa=>b _ ?_⟩
 exact k (by simpa using a)
theorem ur{rb:Nat}{s:RS}(h:aA H (crdA rb s::F))(hb:aH s.bs)(d:s.bs.length<=1099511627776)(k:sw rb F (λv:Int=>.int .u64 v) K KP (dZ s)) :
  CP 207 #[.agg #[PA rb 0]] H K KP:=by
 refine cMP 207 4380 ?_;refine h.al λb _ h=>⟨_,h.r 0,?_⟩
 have h:=h.o [1,0] 2;refine nK h hb d λf h=>⟨_,rfl,_,h.r 1,_,mA h,?_⟩
 have a:=gL hb;have c:=jQ s;unfold dZ okR at k;refine j6 (λe=>⟨rfl,?_⟩) λe=>?_
 .rw [V0 (by simpa using e)]at k;exact k _ e a (by omega) (h.o [0] 2)
 .rw [V1 e]at k;exact k _ e h.tl.tl
theorem kj{rb:Nat}{s:RS}(h:aA H (crdA rb s::F))(hb:aH s.bs)(c:s.bs.length<=1099511627776)(k:sw rb F aC K KP (cH s)) :
  CP 201 #[.agg #[PA rb 0]] H K KP:=by
 refine cMP 201 28 ?_;refine h.al λb _ h=>⟨_,h.rd 0 rfl 0,?_⟩
 have h:=h.o [1,0] 2;refine ur h hb c ?_;unfold dZ okR;unfold cH okR at k
 split
 .rename_i e;rw[V1 e]at k;exact λd a h=>k _ a h.tl
 .rename_i e;rw[V0 e]at k;exact λd a hb c h=>⟨_,rfl,k _ a hb c (h.o [0] 2)⟩
theorem ut{rb:Nat}{s:RS}(h:aA H (crdA rb s::F))(hb:aH s.bs)(d:s.bs.length<=1099511627776)(k:sw rb F aC K KP (gj s)) :
  CP 199 #[.agg #[PA rb 0]] H K KP:=by
 refine cMP 199 4380 ?_;refine h.al λb _ h=>⟨_,h.r 0,?_⟩
 have h:=h.o [1,0] 2;refine wt h hb d λf h=>⟨_,rfl,_,h.r 1,_,mA h,?_⟩
 have a:aH (dE s).2.bs:=gL hb;have c:(dE s).2.bs.length<=s.bs.length:=jQ s;unfold gj okR at k;refine j6 (λe=>⟨rfl,?_⟩) λe=>?_
 .rw [V0 (by simpa using e)]at k;exact k _ e a (by omega) (h.o [0] 2)
 .rw [V1 e]at k;exact k _ e h.tl.tl
theorem uu{rb:Nat}{s:RS}{m:Int}(hm:aF m)(h:aA H (crdA rb s::F))(hb:aH s.bs)(d:s.bs.length<=1099511627776)(k:sw rb F aC K KP (dM m s)) :
  CP 200 #[.agg #[PA rb 0],aC m] H K KP:=by
 refine cMP 200 4380 ?_;refine h.al λb _ h=>⟨_,h.r 0,?_⟩
 have h:=h.o [1,0] 2;refine tP (most:=m) h hb d hm λf h=>⟨_,rfl,_,h.r 1,_,mA h,?_⟩
 have a:=rU (m:=m) hb;have c:=rV s m;unfold dM okR at k;refine j6 (λe=>⟨rfl,?_⟩) λe=>?_
 .rw [V0 (by simpa using e)]at k;exact k _ e a (by omega) (h.o [0] 2)
 .rw [V1 e]at k;exact k _ e h.tl.tl
theorem sx{rb:Nat}{s:RS}{m:Int}(h:aA H (crdA rb s::F))(hb:aH s.bs)(d:s.bs.length<=1099511627776)(k:sw rb F aC K KP (upR m s)) :
  CP 198 #[.agg #[PA rb 0],aC m] H K KP:=by
 refine cNP 198 287405212 [[]] ?_;refine h.al λb _ h=>⟨_,h.rd 0 rfl 0,?_⟩
 have h:=h.o [1,0] 2;refine kj h hb d ?_;unfold upR at k
 cases hr:cH s with
 | error e=>
  rw[hr]at k;exact λi c h=>k _ c h.tl
 | ok p=>
  obtain⟨v,s1⟩:=p;rw[hr]at k;dsimp only at k;intro i c hb d h;refine⟨_,rfl,_,ow,?_⟩;refine λj f=>⟨λa=>?_,λa=>f _ ?_⟩
  .rw [V0 (by rw[VY]at a;rw[a];simp)]at k;exact k _ (by decide) h.tl.tl
  .skip
   rw[V1 (by rw[Wm]at a;exact a)]at k;exact k _ c hb d (h.o [0] 2)
theorem sy{s:RS}(h:(cO s).e=0):(⟨(cO s).e,(cO s).rest.bs⟩:RS)=(cO s).rest:=by
 unfold cO at h ⊢
 split at h
 .rename_i a;exact V2 h a
 .rename_i a;rw[V0 a];have a:(dI (bY 8 (aY 64 s).2).1.toNat (bY 8 (aY 64 s).2).2).2.e=0:=by simpa using a
  generalize dI (bY 8 (aY 64 s).2).1.toNat (bY 8 (aY 64 s).2).2=W at *;obtain⟨w1,w2,w3⟩:=W;dsimp only at a;subst a
  split at h
  .rename_i b;rw[V1 b]
  .simp at h
def EPost(rb:Nat)(Q:aE)(F:List aE)(K KP:KE):Except Int (Pv×RS)->Prop
 | .ok (x,s)=>∀Q' (e:Ev) H',aM Q Q'->io Q' e->e.p=x->s.e=0->aH s.bs->s.bs.length<=1099511627776->aA H' (Q'::crdA rb s::F)->K (aggV e) H'
 | .error e=>∀Q' H',e≠0->aM Q Q'->aA H' (Q'::F)->KP (pnV e) H'
theorem wZ{rb:Nat}{s:RS}(h:aA H (Q::crdA rb s::F))(hb:aH s.bs)(y:s.bs.length<=1099511627776)(k:EPost rb Q F K KP (jb s)) :
  CP 211 #[.agg #[PA rb 0]] H K KP:=by
 refine cMP 211 69916 ?_;refine h.al λb _ h=>?_
 refine h.al λb1 _ h=>⟨_,h.rd 1 rfl 0,_,h.rd 1 rfl 0,?_⟩
 have h:=h.o [3,0,1,2] 4;refine kj h hb y ?_;unfold jb at k
 cases hr:cH s with
 | error e=>
  rw[hr]at k;exact λi w h=>k _ _ w (aM.refl Q) (h.o [2] 3)
 | ok p=>
  obtain⟨v,s1⟩:=p;rw[hr]at k;dsimp only at k;intro i x m t h;refine⟨_,rfl,h.rd 2 rfl 0,?_⟩;refine ut h m t ?_
  cases hr:gj s1 with
  | error e=>
   rw[hr]at k;exact λi w h=>k _ _ w (aM.refl Q) (h.o [2] 3)
  | ok p=>
   obtain⟨u,s2⟩:=p;rw[hr]at k;dsimp only at k;intro i A d j h;refine⟨_,rfl,_,h.r 2,?_⟩;refine Jl h d j λa c C h=>⟨_,_,_,_,_,rfl,?_⟩
   have f:=Au d;have B:=Av s2;refine h.al λb2 _ h=>?_
   refine h.st 0 rfl rfl ?_;intro D h;unfold okR at k;refine j6 (λe=>?_) λe=>?_
   .rw [V0 (by simpa using e),sy e]at k;refine⟨rfl,_,_,_,_,h.q 0,?_⟩;refine h.st 3 rfl rfl ?_;intro E h;refine⟨_,_,_,_,_,_,h.q 3,?_⟩;have n:(cO s2).rest.e=0:=by rw[<-sy e];exact e
    refine k _ ⟨v,u,(cO s2).name,(cO s2).labs,a,c⟩ _ (aM.add (slA 421 2 a (cO s2).labs.length c (flat dg (cO s2).labs)) Q) (KIn.sl (c:=c)) rfl n f (by omega) ?_;have h:=h.o [2,5,1] 6;exact gu.2 h
   .rw [V1 e]at k;have h:=h.o [5] 6;exact k _ _ e (aM.refl Q) h
end
theorem Rp.right_len{r:Rp}(h:r.right=true):r.evs.length<=64:=by
 unfold Rp.right at h;rw[V7,V7,V7]at h;have h:=h.1.2
 split at h
 .unfold gU at h;simp only[V7,V6]at h;omega
 .have:=V4 h;omega
theorem ordK_pos{k:Int}:∀i∈cu k,1<=i:=by
 unfold cu
 split
 .decide
 split
 .decide
 split
 .decide
 split
 .decide
 split
 .decide
 split
 .decide
 .decide
theorem encR_get{r:Rp}{a:KQ}{c i:Nat}(b:1<=i)(d:i<11):aT (de r a c) i=some (aC (r.nums i)):=by
 rcases (by omega:i=1\/i=2\/i=3\/i=4\/i=5\/i=6\/i=7\/i=8\/i=9\/i=10) with rfl|rfl|rfl|rfl|rfl|rfl|rfl|rfl|rfl|rfl <;> rfl
abbrev nmB(r:Rp)(is:List Nat):List Int:=is.flatMap λi=>aN [r.nums i]
theorem JA(r:Rp)(is:List Nat):(nmB r is).length<=10*is.length:=by
 induction is with
 | nil=>simp
 | cons i l ih=>
  have:=dJ [r.nums i];unfold nmB at *;rw[Wb,V3,V9];simp only[V9,VW]at this;omega
theorem AI(l:List Pv):(l.flatMap evB).length<=1320*l.length:=by
 induction l with
 | nil=>simp
 | cons i l ih=>
  have:=wY i;rw[Wb,V3,V9];omega
section
variable {F L:List aE}{H:aD}{K KP:KE}{Q:aE}
theorem SP{r:Rp}{a:KQ}{c:Nat}{evs:List Ev}(E:r.evs=evs.map Ev.p)(h:aA H F)(D:lP F a evs)(T:evs.length<=1099511627776)
  (k:∀t m f,aA f (slA 5 1 t r.bytes.length m (r.bytes.map U8)::F)->K (.slice t r.bytes.length m) f):CF 110 #[.agg ⟨de r a c⟩] H K:=by
 have V:r.evs.length=evs.length:=by rw[E,VH]
 refine cN 110 0x1d1215612399251442174921561239925144c [[(3,sS),(42,sI)],[(3,sS)],[(3,sS),(17,sI)]] ?_;refine h.al λb _ h=>⟨_,_,_,_,_,_,_,_,_,_,_,_,_,_,h.q 0,?_⟩
 refine AH E h (D.cons _) T λH1 h=>⟨_,rfl,λG=>?_,λG=>?_⟩
 .have e:r.bytes=[]:=by unfold Rp.bytes;rw[V0 (by simpa using G)]
  rw[e]at k;exact k none 0 _ (h.tl.sl_nil 5 1)
 have M:r.right=true:=by simpa using G
 have R:=Rp.right_len M;unfold Rp.bytes at k;rw[V1 M]at k;have U:=dJ [r.kind];have lo:=wV r.kind;simp only[V9,VW]at U;refine⟨_,h.r 0,?_⟩;refine h.al λb1 _ h=>?_
 refine nQ h 0 rfl λa1 c1 Y h=>⟨_,_,_,rfl,?_⟩
 refine AF h 2 rfl rfl λp pc Z h=>⟨_,_,_,rfl,?_⟩
 refine⟨λt A m i f=>∃j:Nat,i=j/\j<=(cu r.kind).length/\A=(aN [r.kind]++nmB r ((cu r.kind).take j)).length/\
  aA f (slA 5 1 t (aN [r.kind]++nmB r ((cu r.kind).take j)).length m ((aN [r.kind]++nmB r ((cu r.kind).take j)).map U8)::slA 297 1 p (cu r.kind).length pc ((cu r.kind).map λi=>PA b i)::cellsA b (de r a c) 61::F),
  λ_ _ _ i _=>(cu r.kind).length-i.toNat,⟨0,rfl,by omega,by simp,?_⟩,?_⟩
 .rw [show aN [r.kind]++nmB r ((cu r.kind).take 0)=aN [r.kind] by simp[nmB]];exact h.o [1,0,3] 4
 rintro a2 n2 c2 i H4 ⟨j,rfl,S,rfl,h⟩;have u:=JA r ((cu r.kind).take j);have B:((cu r.kind).take j).length<=(cu r.kind).length:=by rw[VU];omega
 refine⟨λd=>?_,λd=>?_⟩
 .have d:j<(cu r.kind).length:=by have:=V4 d;omega
  have w:=(h.sl_rd 1 rfl).at d;have hi:=AG _ (VF d);have y:=ordK_pos _ (VF d)
  conv=>whnf
  refine⟨by omega,_,_,w.1,_,w.2,⟨r.nums (cu r.kind)[j],(h.r 2).trans (encR_get y hi),?_⟩⟩;refine h.al λb3 _ h=>?_
  refine nQ h 0 rfl λa3 c3 I h=>⟨_,_,_,rfl,?_⟩
  have l1:=dJ [r.nums (cu r.kind)[j]];simp only[V9,VW]at l1;refine dp h (i:=2) rfl rfl rfl (h.sl_rd 0 rfl) (by rw[V3];omega) λa4 c4 J h=>⟨_,_,_,rfl,?_⟩
  conv=>whnf
  rw[aK (x:=(j:Int)+1)];have e:aN [r.kind]++nmB r ((cu r.kind).take (j+1))=(aN [r.kind]++nmB r ((cu r.kind).take j))++aN [r.nums (cu r.kind)[j]]:=by
   unfold nmB;rw[jP d,VI]
  rw[<-e]at h ⊢;exact⟨⟨j+1,by omega,d,rfl,h.o [2,3,4] 5⟩,by dsimp only;omega⟩
 .have s:(cu r.kind).length<=j:=by have:=V5 d;omega
  rw[VZ s]at h u ⊢;have h:=h.o [0,2] 3;refine⟨_,h.r 1,?_⟩;intro N Q;have v:∀(O:List Int) a3 m f,O=(aN [r.kind]++nmB r (cu r.kind))++(if r.kind=4 then aN [(r.evs.length:Int)] else [])->aA f (slA 5 1 a3 O.length m (O.map U8)::cellsA b (de r a c) 61::F)->N a3 O.length m f:=by
   intro O a3 c3 I L h;refine Q _ _ _ _ ?_;have lO:O.length<=80:=by
    rw[L];have l2:=dJ [(r.evs.length:Int)];simp only[V9,VW]at l2
    split <;> simp only[V3,VW] <;> omega
   refine⟨_,_,_,h.r 1,?_⟩;rw[<-L]at k;refine⟨λt A m i f=>∃j:Nat,i=j/\j<=evs.length/\A=(O++(r.evs.take j).flatMap evB).length/\
    aA f (slA 5 1 t (O++(r.evs.take j).flatMap evB).length m ((O++(r.evs.take j).flatMap evB).map U8)::cellsA b (de r a c) 61::F),
    λ_ _ _ i _=>evs.length-i.toNat,⟨0,rfl,by omega,by simp,by simpa using h⟩,?_⟩
   rintro a4 n4 c4 i J ⟨j,rfl,S,rfl,h⟩;have u:=AI (r.evs.take j);have B:(r.evs.take j).length<=r.evs.length:=by rw[VU];omega
   refine⟨λd=>?_,λd=>?_⟩
   .have d:j<evs.length:=by have:=V4 d;omega
    have w:=D.rd _ h.tl.tl;refine⟨by omega,_,_,w.some fI (by omega) d,_,_,_,_,_,_,w.els fI d,?_⟩;refine h.al λb5 _ h=>?_
    refine h.st 0 rfl rfl ?_;intro W h;refine⟨_,_,_,_,_,_,h.q 0,?_⟩;refine J9 (e:=evs[j]) h (λH h=>D.labs _ (VF d) H h.tl.tl.tl) λa6 c6 H8 h=>⟨_,_,_,rfl,?_⟩
    have l1:=wY evs[j].p
    conv=>whnf
    refine dp h (i:=2) rfl rfl rfl (h.sl_rd 0 rfl) (by rw[V3];omega) λa7 c7 H9 h=>⟨_,_,_,rfl,?_⟩
    conv=>whnf
    rw[aK (x:=(j:Int)+1)];have C:j<r.evs.length:=by omega
    have P:r.evs[j]=evs[j].p:=by simp[E]
    have e:O++(r.evs.take (j+1)).flatMap evB=(O++(r.evs.take j).flatMap evB)++evB evs[j].p:=by
     rw[jP C,VI,P]
    rw[<-e]at h ⊢;exact⟨⟨j+1,by omega,d,rfl,h.o [2,3] 4⟩,by dsimp only;omega⟩
   .have s:r.evs.length<=j:=by have:=V5 d;omega
    rw[VZ s]at h ⊢;exact k _ _ _ (h.o [0] 2)
  refine⟨λn=>?_,λn=>?_⟩
  .have n:=V4 n;refine⟨_,_,_,h.r 1,?_⟩;refine h.al λb6 _ h=>?_
   refine nQ h 0 rfl λa3 c3 I h=>⟨_,_,_,rfl,?_⟩
   have l1:=dJ [(r.evs.length:Int)];simp only[V9,VW]at l1
   conv=>whnf
   refine dp h (i:=2) rfl rfl rfl (h.sl_rd 0 rfl) (by rw[V3];omega) λa4 c4 J h=>⟨_,_,_,rfl,?_⟩
   refine v _ _ _ _ (by rw[V1 n]) (h.o [2,3] 4)
  .have n:=V5 n;refine v _ _ _ _ (by rw[V0 n,Wc]) h
end
structure Fq where
 kind:Int
 ag:Int:=0
 ep:Int:=0
 bt:Int:=0
 ct:Int:=0
 got:Int:=0
 sent:Int:=0
 next:Int:=0
 stamp:Int:=0
 win:Int:=0
 evs:List Pv:=[]
 sn:Fa:=⟨#[]⟩
 sl:List bS:=[]
 data:List Int:=[]
def aV(k:Int):List Nat:=if k=1 then [1,3] else if k=2 then [1,3,2] else if k=3 then [1,3,4] else if k=4 then [1,2,3,4,5,6] else
 if k=5\/k=6 then [1,2,7] else if k=7 then [1,2,7,8] else if k=8 then [9] else []
def Fq.nums(f:Fq)(i:Nat):Int:=match i with
 | 1=>f.ag|2=>f.ep|3=>f.bt|4=>f.ct|5=>f.got|6=>f.sent|7=>f.next|8=>f.stamp|9=>f.win|_=>0
structure QA where
 ea:KQ:=none
 ec:Nat:=0
 la:KQ:=none
 lc:Nat:=0
 da:KQ:=none
 dc:Nat:=0
abbrev cG(f:Fq)(x:QA):Os:=
 [aB f.kind,aB f.ag,aB f.ep,aB f.bt,aB f.ct,aB f.got,aB f.sent,aB f.next,aB f.stamp,aB f.win,.slice x.ea f.evs.length x.ec,.string f.sn,.slice x.la f.sl.length x.lc,.slice x.da f.data.length x.dc]
structure Fq.Sh(f:Fq)(x:QA):Prop where
 ev:f.kind≠5->f.evs=[]/\x.ea=none/\x.ec=0
 em:f.kind≠8->f.sn=⟨#[]⟩/\f.sl=[]/\x.la=none/\x.lc=0/\f.data=[]/\x.da=none/\x.dc=0
 nm:∀i,1<=i->i<=9->i∉aV f.kind->f.nums i=0
structure lQ(F:List aE)(f:Fq)(x:QA)(evs:List Ev):Prop where
 eq:f.evs=evs.map Ev.p
 ev:lP F x.ea evs
 lab:∀H,aA H F->aP H x.la (flat dg f.sl)
 dat:∀H,aA H F->aP H x.da (f.data.map U8)
 dA:x.da=none\/∃k o,x.da=some ⟨k,o,none⟩
 sh:f.Sh x
 el:evs.length<=1000000
 ll:∀e∈evs,e.labs.length<=1000000
 sl:f.sl.length<=1000000
 dl:f.data.length<=1000000000
theorem lQ.cons{F:List aE}{f:Fq}{x:QA}{evs:List Ev}(h:lQ F f x evs)(A:aE):lQ (A::F) f x evs:=
 ⟨h.eq,h.ev.cons A,λH a=>h.lab H a.tl,λH a=>h.dat H a.tl,h.dA,h.sh,h.el,h.ll,h.sl,h.dl⟩
theorem lQ.len{F:List aE}{f:Fq}{x:QA}{evs:List Ev}(h:lQ F f x evs):f.evs.length=evs.length:=by rw[h.eq,VH]
def gV(f:Fq):Bool:=if f.kind=4 then decide (f.got<=f.sent) else if f.kind=5 then gU f.next f.evs else
 if f.kind=6\/f.kind=7 then decide (f.next<=1099511627776) else if f.kind=8 then fx f.sn f.sl&&decide (f.data.length<=4096) else true
def ff(f:Fq):Bool:=inM f.kind 1 8&&(inM f.ag 0 63&&inM f.ep 0 1099511627776)&&(aV f.kind).all (λi=>inM (f.nums i) 0 4611686018427387903)&&gV f
theorem AJ{k:Int}:∀i∈aV k,1<=i/\i<=9:=by
 unfold aV
 split
 .decide
 split
 .decide
 split
 .decide
 split
 .decide
 split
 .decide
 split
 .decide
 split
 .decide
 .decide
theorem xa(k:Int):(aV k).length<=6:=by
 unfold aV
 split
 .decide
 split
 .decide
 split
 .decide
 split
 .decide
 split
 .decide
 split
 .decide
 split
 .decide
 .decide
theorem kinds8{k:Int}(a:1<=k)(b:k<=8):k=1\/k=2\/k=3\/k=4\/k=5\/k=6\/k=7\/k=8:=by omega
theorem JB{k:Int}:aV k=[]↔¬(1<=k/\k<=8):=by
 constructor
 .intro h a
  rcases kinds8 a.1 a.2 with rfl|rfl|rfl|rfl|rfl|rfl|rfl|rfl <;> exact V2 h (by decide)
 .intro h;unfold aV;rw[nO,nO,nO,nO,nO,nO,nO]
theorem JC{f:Fq}{x:QA}{i:Nat}(a:1<=i)(b:i<=9):aT (cG f x) i=some (aB (f.nums i)):=by
 rcases (by omega:i=1\/i=2\/i=3\/i=4\/i=5\/i=6\/i=7\/i=8\/i=9) with rfl|rfl|rfl|rfl|rfl|rfl|rfl|rfl|rfl <;> rfl
def py(f:Fq)(is:List Nat):Os:=is.foldl (λcs i=>cv cs i [aB (f.nums i)]) (cG { kind:=f.kind } {})
theorem SQ(f:Fq):∀is,(py f is).length=14:=by
 have:∀(is:List Nat) (cs:Os),cs.length=14->(is.foldl (λcs i=>cv cs i [aB (f.nums i)]) cs).length=14:=by
  intro is
  induction is with
  | nil=>intro cs h;exact h
  | cons i is ih=>intro cs h;exact ih _ (by rw[oe];exact h)
 exact λis=>this is _ rfl
theorem SR(f:Fq)(is:List Nat)(i:Nat):py f (is++[i])=cv (py f is) i [aB (f.nums i)]:=by
 unfold py;rw[WX];rfl
theorem SU{f:Fq}(b:1<=f.kind)(c:f.kind<=8)(a:∀i,1<=i->i<=9->i∉aV f.kind->f.nums i=0) :
  py f (aV f.kind)=[aB f.kind,aB f.ag,aB f.ep,aB f.bt,aB f.ct,aB f.got,aB f.sent,aB f.next,aB f.stamp,aB f.win,.slice none 0 0,.string ⟨#[]⟩,.slice none 0 0,.slice none 0 0]:=by
 obtain⟨kind,ag,ep,bt,ct,got,sent,next,stamp,win,evs,sn,sl,data⟩:=f;dsimp only at b c;have n1:1∉aV kind->ag=0:=a 1 (by decide) (by decide);have n2:2∉aV kind->ep=0:=a 2 (by decide) (by decide);have n3:3∉aV kind->bt=0:=a 3 (by decide) (by decide);have n4:4∉aV kind->ct=0:=a 4 (by decide) (by decide);have n5:5∉aV kind->got=0:=a 5 (by decide) (by decide);have n6:6∉aV kind->sent=0:=a 6 (by decide) (by decide);have n7:7∉aV kind->next=0:=a 7 (by decide) (by decide);have n8:8∉aV kind->stamp=0:=a 8 (by decide) (by decide);have n9:9∉aV kind->win=0:=a 9 (by decide) (by decide)
 clear a
 rcases kinds8 b c with rfl|rfl|rfl|rfl|rfl|rfl|rfl|rfl
 .rw [n2 (by decide),n4 (by decide),n5 (by decide),n6 (by decide),n7 (by decide),n8 (by decide),n9 (by decide)];rfl
 .rw [n4 (by decide),n5 (by decide),n6 (by decide),n7 (by decide),n8 (by decide),n9 (by decide)];rfl
 .rw [n2 (by decide),n5 (by decide),n6 (by decide),n7 (by decide),n8 (by decide),n9 (by decide)];rfl
 .rw [n7 (by decide),n8 (by decide),n9 (by decide)];rfl
 .rw [n3 (by decide),n4 (by decide),n5 (by decide),n6 (by decide),n8 (by decide),n9 (by decide)];rfl
 .rw [n3 (by decide),n4 (by decide),n5 (by decide),n6 (by decide),n8 (by decide),n9 (by decide)];rfl
 .rw [n3 (by decide),n4 (by decide),n5 (by decide),n6 (by decide),n9 (by decide)];rfl
 .rw [n1 (by decide),n2 (by decide),n3 (by decide),n4 (by decide),n5 (by decide),n6 (by decide),n7 (by decide),n8 (by decide)];rfl
section
variable {F L:List aE}{H:aD}{K:KE}
theorem xb{b e:Nat}{k0:Int}{cs:Os}(h:aA H F)(i:Nat)(C:aW i F=cellsA b cs e)(E:aT cs 0=some (aC k0))
  (k:∀a c j,(a.isNone=true↔aV k0=[])->aA j (slA 297 1 a (aV k0).length c ((aV k0).map λi=>PA b i)::F)->K (.slice a (aV k0).length c) j):CF 170 #[PA b 0] H K:=by
 refine cN 170 0x121513c13c13c13c217943c13cbc [[(68,sB)]] ?_;have fin:∀(l:List Nat) p j,aV k0=l->l≠[]->aA j (cellsA p (l.map λi=>PA b i) 297::F)->K (.slice (some ⟨p,0,none⟩) l.length l.length) j:=by
  intro l p j e D h;subst e;refine k _ _ _ ⟨λx=>(by cases x),λx=>V2 x D⟩ ?_
  exact aA.sl_pt h 1 _ (by simp)
 refine⟨k0,(h.rd i C 0).trans E,λd=>?_,λd=>⟨λd=>?_,λd=>⟨λd=>?_,λd=>⟨λd=>?_,λd=>?_⟩⟩⟩⟩
 .obtain rfl:=V4 d;exact h.al λp _ h=>fin [1,3] p _ rfl (by decide) h
 .obtain rfl:=V4 d;exact h.al λp _ h=>fin [1,3,2] p _ rfl (by decide) h
 .obtain rfl:=V4 d;exact h.al λp _ h=>fin [1,3,4] p _ rfl (by decide) h
 .obtain rfl:=V4 d;exact h.al λp _ h=>fin [1,2,3,4,5,6] p _ rfl (by decide) h
 simp only[V8]at *;intro A B;have n:∀t:Bool,t=decide (k0=5\/k0=6)->A t H:=by
  intro t w;refine B _ _ ⟨λf=>?_,λf=>⟨λu=>?_,λu=>⟨λm=>?_,λm=>?_⟩⟩⟩
  .rw [f]at w;have s:=V4 w.symm;refine h.al λp _ h=>fin [1,2,7] p _ ?_ (by decide) h
   rcases s with rfl|rfl <;> rfl
  .obtain rfl:=V4 u;exact h.al λp _ h=>fin [1,2,7,8] p _ rfl (by decide) h
  .obtain rfl:=V4 m;exact h.al λp _ h=>fin [9] p _ rfl (by decide) h
  .rw [f]at w;have s:=V5 w.symm;simp only[V8]at *;have e:aV k0=[]:=by
    unfold aV;simp only[*,if_false]
   have:=k none 0 H ⟨λ_=>e,λ_=>rfl⟩ (by rw[e];exact h.sl_nil 297 1)
   rw[e]at this;exact this
 refine⟨λv=>n _ ?_,λv=>n _ ?_⟩
 .rw [v];exact (VS (.inl (V4 v))).symm
 .have y:=V5 v;exact decide_eq_decide.2 ⟨λh=>.inr h,λh=>h.resolve_left y⟩
end
theorem batchP_B{next:Int}{evs:List Ev}(h:0<=next/\next<=4611686018427387903):gU next (evs.map Ev.p)=iD next evs:=by
 rw[<-wU,S4,VS h.1,Yk]
section
variable {F L:List aE}{H:aD}{K:KE}{f:Fq}{x:QA}{evs:List Ev}
theorem SW(h:aA H F)(r:lQ F f x evs)(k:∀d,aA d F->K (.bool true) d) :
  CF 227 #[.agg ⟨cG f x⟩,.agg ⟨cG f x⟩] H K:=by
 refine cN 227 4745 [[(4,sB)]] ?_;refine h.al λb _ h=>?_
 refine h.al λb1 _ h=>?_
 intro j i;have r2:=(r.cons (cellsA b (cG f x) 81)).cons (cellsA b1 (cG f x) 81);have c:=r.len;refine⟨_,_,_,h.q 1,_,_,_,h.q 0,true,eq102,_,_,_,_,_,_,_,_,_,_,_,_,_,_,_,_,_,_,_,_,λ_=>h.q 1,_,_,_,_,_,_,_,_,_,_,_,_,_,_,_,_,_,_,_,_,λ_=>h.q 0,λ_=>?_,λa=>V2 rfl a⟩
 refine wS h λt h=>⟨_,_,_,_,_,_,_,rfl,λ_=>h.q 0,?_⟩
 refine wS h λm h=>⟨_,_,_,_,_,_,_,rfl,true,eq314,_,_,_,λ_=>h.r 1,_,_,_,λ_=>h.r 0,λ_=>?_,λa=>V2 rfl a⟩
 rw[c]at *;refine Ju h r2.ev r.el r.ll λs h=>⟨_,rfl,_,_,_,_,λ_=>h.q 1,_,_,_,_,λ_=>h.q 0,λ_=>?_,λa=>V2 rfl a⟩
 refine A0 h r2.lab r.sl λn h=>⟨_,rfl,_,_,_,λ_=>h.r 1,_,_,_,λ_=>h.r 0,λ_=>?_,λa=>V2 (by simp) a⟩
 refine A7 r.dA r.dA (r2.dat _ h) (r2.dat _ h) ⟨_,rfl,i _ _ ?_⟩;have:=k _ h.tl.tl;have e:((bF f.data).toList == (bF f.data).toList)=true:=by simp
 rw[e];exact this
theorem JD(h:aA H F)(r:lQ F f x evs)(k:∀s,aA s F->K (.bool (ff f)) s):CF 137 #[.agg ⟨cG f x⟩] H K:=by
 refine cN 137 0x11d11215612399251d4421517b171b217947b171b9c [[],[],[(88,sB)],[],[],[(43,sI)]] ?_;have Z:=r.len;refine h.al λb _ h=>?_
 refine xb h 0 rfl rfl λp pc H1 hp h=>⟨_,_,_,rfl,_,λ_=>h.r 1,_,λ_=>h.r 1,_,λ_=>h.r 1,_,λ_=>h.r 1,λc=>?_,λc=>?_⟩
 .have:ff f=false:=by
   unfold ff;simp only[VN,V6]at c
   rcases c with (((c|c)|c)|c)|c
   .have h0:=JB.1 (hp.1 c);have:inM f.kind 1 8=false:=by
     rw[Wl,V8,V8];omega
    rw[this];rfl
   .have:inM f.ag 0 63=false:=by rw[Wl,V8,V8];omega
    rw[this];simp
   .have:inM f.ag 0 63=false:=by rw[Wl,V8,V8];omega
    rw[this];simp
   .have:inM f.ep 0 1099511627776=false:=by rw[Wl,V8,V8];omega
    rw[this];simp
   .have:inM f.ep 0 1099511627776=false:=by rw[Wl,V8,V8];omega
    rw[this];simp
  rw[this]at k;exact k _ h.tl.tl
 simp only[VK,V8]at c;obtain⟨⟨⟨⟨N,l0⟩,l6⟩,h9⟩,j2⟩:=c;have B:1<=f.kind/\f.kind<=8:=by
  apply Classical.byContradiction;intro hn;rw[hp.2 (JB.2 hn)]at N
  cases N
 have J:(inM f.kind 1 8&&(inM f.ag 0 63&&inM f.ep 0 1099511627776))=true:=by
  simp only[V7,V6];omega
 refine⟨_,h.r 1,?_⟩;refine h.al λb1 _ h=>?_
 refine h.st 0 rfl rfl ?_;intro H2 h;have h:aA H2 (cellsA b1 (py f []) 81::slA 297 1 p (aV f.kind).length pc ((aV f.kind).map λi=>PA b i)::cellsA b (cG f x) 81::F):=h
 refine xb (k0:=f.kind) h 0 rfl rfl λp1 G H3 l5 h=>⟨_,_,_,rfl,?_⟩
 have lo:=xa f.kind;refine⟨λi s=>∃j:Nat,i=j/\j<=(aV f.kind).length/\(∀q,q<j->∀M:q<(aV f.kind).length,inM (f.nums (aV f.kind)[q]) 0 4611686018427387903=true)/\
  aA s (slA 297 1 p1 (aV f.kind).length G ((aV f.kind).map λi=>PA b1 i)::cellsA b1 (py f ((aV f.kind).take j)) 81::slA 297 1 p (aV f.kind).length pc ((aV f.kind).map λi=>PA b i)::cellsA b (cG f x) 81::F),
  λi _=>(aV f.kind).length-i.toNat,⟨0,rfl,by omega,λq M=>V2 M (by omega),h⟩,?_⟩
 rintro i H4 ⟨j,rfl,hj,C,h⟩;refine⟨λa=>?_,λa=>?_⟩
 .have a:j<(aV f.kind).length:=by have:=V4 a;omega
  have hr:=(h.sl_rd 2 rfl).at a;have O:=(h.sl_rd 0 rfl).at a;have hi:=AJ _ (VF a);have hv:∀{s},aA s (slA 297 1 p1 (aV f.kind).length G ((aV f.kind).map λi=>PA b1 i)::cellsA b1 (py f ((aV f.kind).take j)) 81::slA 297 1 p (aV f.kind).length pc ((aV f.kind).map λi=>PA b i)::cellsA b (cG f x) 81::F)->
   aL s b (aV f.kind)[j]=some (aC (f.nums (aV f.kind)[j])):=λh=>(h.r 3).trans (JC hi.1 hi.2)
  refine⟨by omega,_,_,hr.1,_,hr.2,⟨_,hv h,λ_=>trivial,_,λ_=>hv h,λc=>?_,λc=>?_⟩⟩
  .have:ff f=false:=by
    unfold ff;have e:(aV f.kind).all (λi=>inM (f.nums i) 0 4611686018427387903)=false:=by
     refine wL a ?_;simp only[VN,V6]at c;rw[Wl,V8,V8];omega
    rw[e];simp
   rw[this]at k;exact k _ h.tl.tl.tl.tl
  .simp only[VK,V8]at c;refine⟨by omega,_,_,O.1,_,O.2,⟨_,hv h,?_⟩⟩;refine h.st 1 rfl (by rw[SQ];exact Nat.ble_eq_true_of_le (by show (aV f.kind)[j]+1<=14;omega)) ?_;intro H5 h;have hw:i64.wrap ((j:Int)+1)=((j+1:Nat):Int):=by rw[aK];omega
   refine⟨⟨j+1,hw,a,λq M Y=>?_,?_⟩,by rw[hw];dsimp only;omega⟩
   .rcases VV q j with h1|h1
    .exact C q h1 Y
    .obtain rfl:q=j:=by omega
     rw[V7,V6,V6];omega
   .rw [Wj a,SR];exact h
 have V:j=(aV f.kind).length:=by have:=V5 a;omega
 subst V;have D:(aV f.kind).all (λi=>inM (f.nums i) 0 4611686018427387903)=true:=by
  rw[Wq];intro i hi;obtain⟨q,M,rfl⟩:=Wu hi;exact C q M M
 have hR:ff f=gV f:=by unfold ff;rw[J,D];simp
 rw[hR]at k;rw[Wf,SU B.1 B.2 r.sh.nm]at h;have Q:∀i∈aV f.kind,0<=f.nums i/\f.nums i<=4611686018427387903:=by
  intro i hi;have:=Wq.1 D i hi;rw[V7,V6,V6]at this;exact this
 refine⟨_,h.r 3,?_⟩;intro Jn hJ;have fin:gV f=true->∀s,aA s (slA 297 1 p1 (aV f.kind).length G ((aV f.kind).map λi=>PA b1 i)::cellsA b1 (cG f x) 81::slA 297 1 p (aV f.kind).length pc ((aV f.kind).map λi=>PA b i)::cellsA b (cG f x) 81::F)->Jn s:=by
  intro h2 s h;refine hJ _ ?_;refine⟨_,_,_,_,_,_,_,_,_,_,_,_,_,_,_,_,_,_,_,_,h.q 3,_,_,_,_,_,_,_,_,_,_,_,_,_,_,_,_,_,_,_,_,h.q 1,?_⟩;rw[h2]at k;refine SW h ((((r.cons _).cons _).cons _).cons _) λH7 h=>⟨_,rfl,?_⟩
  exact k _ h.tl.tl.tl.tl
 have d:f.kind≠5->f.kind≠8->[aC f.kind,aC f.ag,aC f.ep,aC f.bt,aC f.ct,aC f.got,aC f.sent,aC f.next,aC f.stamp,aC f.win,.slice none 0 0,.string ⟨#[]⟩,.slice none 0 0,.slice none 0 0]=cG f x:=by
  intro m w;obtain⟨e1,e2,e3⟩:=r.sh.ev m;obtain⟨d1,d2,d3,d4,d5,d6,d7⟩:=r.sh.em w;unfold cG;rw[e1,e2,e3,d1,d2,d3,d4,d5,d6,d7];rfl
 refine⟨λn=>?_,λn=>?_⟩
 .have n:=V4 n;refine⟨_,h.r 3,_,h.r 3,λI=>?_,λI=>?_⟩
  .have e:gV f=false:=by unfold gV;rw[V1 n];have:=V4 I;exact Wp (by omega)
   rw[e]at k;exact k _ h.tl.tl.tl.tl
  .rw [d (by omega) (by omega)]at h;refine fin ?_ _ h;unfold gV;rw[V1 n];have:=V5 I;exact VS (by omega)
 have n:=V5 n;intro h7 y;refine⟨λm=>?_,λm=>?_⟩
 .have m:=V4 m;have T:0<=f.next/\f.next<=4611686018427387903:=Q 7 (by rw[m];decide);have u:gV f=iD f.next evs:=by unfold gV;rw[V0 n,V1 m,r.eq,batchP_B T]
  refine⟨_,_,_,h.r 3,?_⟩;refine h.st 1 rfl rfl ?_;intro H5 h;refine⟨_,h.r 3,_,_,_,h.r 3,?_⟩;rw[Z];refine Jv h ((((r.ev.cons _).cons _).cons _).cons _) (by have:=r.el;omega) λH6 h=>⟨_,rfl,λhb=>?_,λhb=>y _ ?_⟩
  .rw [u,show iD f.next evs=false by simpa using hb]at k;exact k _ h.tl.tl.tl.tl
  .refine fin (by rw[u];simpa using hb) _ ?_;obtain⟨d1,d2,d3,d4,d5,d6,d7⟩:=r.sh.em (by omega);have e:cG f x=[aC f.kind,aC f.ag,aC f.ep,aC f.bt,aC f.ct,aC f.got,aC f.sent,aC f.next,aC f.stamp,aC f.win,.slice x.ea f.evs.length x.ec,.string ⟨#[]⟩,.slice none 0 0,.slice none 0 0]:=by
    unfold cG;rw[d1,d2,d3,d4,d5,d6,d7];rfl
   rw[e]at h ⊢;exact h
 have m:=V5 m;intro U h3;have A:∀t:Bool,t=decide (f.kind=6\/f.kind=7)->U t H4:=by
  intro t S;refine h3 _ _ ?_;intro j1 L;refine⟨λE=>?_,λE=>?_⟩
  .rw [E]at S;have v:=V4 S.symm;refine⟨_,h.r 3,λI=>?_,λI=>L _ (y _ ?_)⟩
   .have e:gV f=false:=by unfold gV;rw[V0 n,V0 m,V1 v];have:=V4 I;exact Wp (by omega)
    rw[e]at k;exact k _ h.tl.tl.tl.tl
   .rw [d (by omega) (by omega)]at h;refine fin ?_ _ h;unfold gV;rw[V0 n,V0 m,V1 v];have:=V5 I;exact VS (by omega)
  rw[E]at S;have v:=V5 S.symm;intro j3 P;refine⟨λw=>?_,λw=>P _ (L _ (y _ ?_))⟩
  .have w:=V4 w;have u:gV f=(fx f.sn f.sl&&decide (f.data.length<=4096)):=by unfold gV;rw[V0 n,V0 m,V0 v,V1 w]
   refine⟨_,_,_,_,h.q 3,_,_,_,h.r 3,?_⟩;refine h.st 1 rfl rfl ?_;intro H5 h;refine h.st 1 rfl rfl ?_;intro H6 h;refine⟨_,_,_,_,h.q 3,?_⟩;refine qF h (λH h=>r.lab H h.tl.tl.tl.tl) λH7 h=>⟨_,rfl,_,_,_,λ_=>h.r 3,λhb=>?_,λhb=>P _ (L _ (y _ ?_))⟩
   .have e:gV f=false:=by
     rw[u,Wl];simp only[VN,VY,V6]at hb
     rcases hb with hb|hb
     .exact .inl hb
     .exact .inr (Wp (by omega))
    rw[e]at k;exact k _ h.tl.tl.tl.tl
   .simp only[VK,Wm,V8]at hb;refine fin (by rw[u,hb.1,VS (by omega)];rfl) _ ?_;obtain⟨e1,e2,e3⟩:=r.sh.ev (by omega);have e:cG f x=[aC f.kind,aC f.ag,aC f.ep,aC f.bt,aC f.ct,aC f.got,aC f.sent,aC f.next,aC f.stamp,aC f.win,.slice none 0 0,.string f.sn,.slice x.la f.sl.length x.lc,.slice x.da f.data.length x.dc]:=by
     unfold cG;rw[e1,e2,e3];rfl
    rw[e]at h ⊢;exact h
  .have w:=V5 w;rw[d m w]at h;refine fin ?_ _ h;unfold gV;rw[V0 n,V0 m,V0 v,V0 w]
 refine⟨λR=>A _ ?_,λR=>A _ ?_⟩
 .rw [R];exact (VS (.inl (V4 R))).symm
 .have W:=V5 R;exact decide_eq_decide.2 ⟨λh=>.inr h,λh=>h.resolve_left W⟩
end
abbrev nmF(f:Fq)(is:List Nat):List Int:=is.flatMap λi=>aN [f.nums i]
def mL(f:Fq):List Int:=if f.kind=5 then aN [(f.evs.length:Int)]++f.evs.flatMap evB else if f.kind=8 then iZ f.sn f.sl++dd (bF f.data) else []
def j7(f:Fq):List Int:=(aN [f.kind]++nmF f (aV f.kind))++mL f
def cA(f:Fq):List Int:=if ff f=false then [] else if 65536<(eL (j7 f)).length then [] else eL (j7 f)
def frmE(f:Fq):Int:=if ff f=false then 10 else if 65536<(eL (j7 f)).length then 17 else 0
theorem usB_one(v:Int):aN [v]=bR (u64N v):=by simp[aN]
theorem JE{f:Fq}(h:ff f=true):gV f=true:=by
 unfold ff at h;rw[V7]at h;exact h.2
theorem JG{f:Fq}(h:ff f=true)(a:f.kind=5):f.evs.length<=64:=by
 have h:=JE h;unfold gV at h;rw[nO,V1 a]at h;unfold gU at h;simp only[V7,V6]at h;omega
theorem SX{f:Fq}(h:ff f=true)(a:f.kind=8):f.data.length<=4096:=by
 have h:=JE h;unfold gV at h;rw[nO,nO,nO,V1 a]at h;simp only[V7,V6]at h;omega
theorem JH(f:Fq)(is:List Nat):(nmF f is).length<=10*is.length:=by
 induction is with
 | nil=>simp
 | cons i l ih=>
  have:=dJ [f.nums i];unfold nmF at *;rw[Wb,V3,V9];simp only[V9,VW]at this;omega
section
variable {F L:List aE}{H:aD}{K:KE}{f:Fq}{x:QA}{evs:List Ev}
theorem SY{b o c:Nat}{y:Fy}(h:aA H F)(m:aP H (some ⟨b,o,none⟩) [dV y])(n:aP H y.a (y.bs.map U8))(s:y.bs.length<=100000000)
  (k:∀d f e,aA e (slA 5 1 d y.bs.length f (y.bs.map U8)::F)->K (.slice d y.bs.length f) e) :
  CF 255 #[.slice (some ⟨b,o,none⟩) 1 c,.slice none 0 0] H K:=by
 refine cN 255 0x1dd12172174949215612399251217494411215612399251144c [[(9,sI),(72,sI)],[],[(5,sI),(44,sI)],[],[(5,sI)]] ⟨λj=>V2 j (by decide),λ_=>⟨λ_=>?_,λj=>V2 j (by decide)⟩⟩
 refine⟨by decide,_,_,rfl,_,_,_,(m 0 _ rfl).2,?_⟩;have h:=h.sl_nil 5 1;refine dp (x:=[]) (y:=y.bs) h (i:=0) rfl rfl rfl n (by simp only[VW];omega) λd f e h=>⟨_,_,_,rfl,?_⟩
 rw[Wh]at h;have:=k d f e h;exact this
theorem SZ{b c:Nat}{y:Fy}(h:aA H F)(i:Nat)(t:aW i F=cellsA b [dV y] 43)(u:∀H,aA H F->aP H y.a (y.bs.map U8))(hb:aH y.bs)(x:y.bs.length<=100000000)
  (k:∀f j s,aA s (slA 5 1 f (eL y.bs).length j ((eL y.bs).map U8)::F)->K (.slice f (eL y.bs).length j) s) :
  CF 179 #[.slice (some ⟨b,0,none⟩) 1 c] H K:=by
 have n:=zK (c:=c) (parts:=[y]) (h.ce_rd i t) (λz d=>by rw[VE]at d;subst d;exact u _ h) (by simp) (λz d=>by rw[VE]at d;subst d;omega)
 rw[show ([y]:List Fy).flatMap Fy.bs=y.bs by simp]at n;refine cM 179 4380 ⟨_,n,?_⟩;obtain⟨s0,s1⟩:=zI y.bs;have e:=G9 s0 s1;refine SY h (h.ce_rd i t) (u _ h) x λf j B h=>⟨_,_,_,rfl,by decide,by decide,by decide,?_⟩
 refine h.al λb1 A h=>?_
 refine aA.append (m:=4) (ws:=(le4 (kT y.bs)).map U8) rW h 1 rfl (h.ce_rd 0 (by rw[<-e];rfl)) (by simp[le4]) (nD (λ_=>rfl) _) (by omega) (by omega) λa3 c3 w v=>⟨_,_,_,rfl,?_⟩
 have:=k a3 c3 w;unfold eL at this;rw[V3,show (le4 (kT y.bs)).length=4 from rfl]at this;refine this ?_;rw[VT];exact v.tl
theorem xc{b:Nat}{v:Int}(h:aA H F)(i:Nat)(e:aW i F=cellsA b [.int .u64 (u64.wrap v)] 155)
  (k:∀a d c,aA c (slA 5 1 a (aN [v]).length d ((aN [v]).map U8)::F)->K (.slice a (aN [v]).length d) c):CF 111 #[.slice (some ⟨b,0,none⟩) 1 1] H K:=by
 rw[usB_one]at k;refine zp h (λH h=>?_) (su v) k
 rw[<-wX];exact h.ce_rd i e
theorem AK(h:aA H F)(r:lQ F f x evs)
  (k:∀B c d,aA d (slA 5 1 B (cA f).length c ((cA f).map U8)::F)->K (.tuple #[.slice B (cA f).length c,aC (frmE f)]) d) :
  CF 82 #[.agg ⟨cG f x⟩] H K:=by
 refine cN 82 0x1d121561239925144215171156123992511144171491dc [[(4,sS)],[(4,sS),(49,sI)],[(4,sS)],[(4,sS),(20,sI)]] ?_;have h4:=r.len;refine h.al λb _ h=>⟨_,_,_,_,_,_,_,_,_,_,_,_,_,_,_,_,_,_,_,_,h.q 0,?_⟩
 refine JD h (r.cons _) λH1 h=>⟨_,rfl,λG=>?_,λG=>?_⟩
 .have e:cA f=[]:=by unfold cA;rw[V1 (by simpa using G)]
  have e2:frmE f=10:=by unfold frmE;rw[V1 (by simpa using G)]
  rw[e,e2]at k;exact k none 0 _ (h.tl.sl_nil 5 1)
 have I:ff f=true:=by simpa using G
 have l0:=dJ [f.kind];have lo:=xa f.kind;simp only[V9,VW]at l0;refine⟨_,h.r 0,?_⟩;refine h.al λb1 _ h=>?_
 refine xc h 0 rfl λa1 c1 H2 h=>⟨_,_,_,rfl,?_⟩
 refine xb h 2 rfl rfl λp pc H3 _ h=>⟨_,_,_,rfl,?_⟩
 refine⟨λB P c i d=>∃j:Nat,i=j/\j<=(aV f.kind).length/\P=(aN [f.kind]++nmF f ((aV f.kind).take j)).length/\
  aA d (slA 5 1 B (aN [f.kind]++nmF f ((aV f.kind).take j)).length c ((aN [f.kind]++nmF f ((aV f.kind).take j)).map U8)::slA 297 1 p (aV f.kind).length pc ((aV f.kind).map λi=>PA b i)::cellsA b (cG f x) 81::F),
  λ_ _ _ i _=>(aV f.kind).length-i.toNat,⟨0,rfl,by omega,by simp,?_⟩,?_⟩
 .rw [show aN [f.kind]++nmF f ((aV f.kind).take 0)=aN [f.kind] by simp[nmF]];exact h.o [1,0,3] 4
 rintro a2 n2 c2 i H4 ⟨j,rfl,hj,rfl,h⟩;have A:=JH f ((aV f.kind).take j);have Q:((aV f.kind).take j).length<=(aV f.kind).length:=by rw[VU];omega
 refine⟨λa=>?_,λa=>?_⟩
 .have a:j<(aV f.kind).length:=by have:=V4 a;omega
  have D:=(h.sl_rd 1 rfl).at a;have hi:=AJ _ (VF a)
  conv=>whnf
  refine⟨by omega,_,_,D.1,_,D.2,⟨f.nums (aV f.kind)[j],(h.r 2).trans (JC hi.1 hi.2),?_⟩⟩;refine h.al λb3 _ h=>?_
  refine xc h 0 rfl λa3 c3 T h=>⟨_,_,_,rfl,?_⟩
  have l1:=dJ [f.nums (aV f.kind)[j]];simp only[V9,VW]at l1;refine dp h (i:=2) rfl rfl rfl (h.sl_rd 0 rfl) (by rw[V3];omega) λa4 c4 R h=>⟨_,_,_,rfl,?_⟩
  have E:i64.wrap ((j:Int)+1)=((j+1:Nat):Int):=by rw[aK];omega
  have e:aN [f.kind]++nmF f ((aV f.kind).take (j+1))=(aN [f.kind]++nmF f ((aV f.kind).take j))++aN [f.nums (aV f.kind)[j]]:=by
   unfold nmF;rw[jP a,VI]
  rw[<-e]at h;refine⟨⟨j+1,E,a,by rw[e],h.o [2,3,4] 5⟩,by rw[E];dsimp only;omega⟩
 have v:(aV f.kind).length<=j:=by have:=V5 a;omega
 rw[VZ v]at h A ⊢;have h:=h.o [0,2] 3;refine⟨_,h.r 1,?_⟩;intro V Z;have e0:cA f=if 65536<(eL (j7 f)).length then [] else eL (j7 f):=by unfold cA;rw[V0 (by rw[I];decide)]
 have e1:frmE f=if 65536<(eL (j7 f)).length then 17 else 0:=by unfold frmE;rw[V0 (by rw[I];decide)]
 have fin:∀(t:List Int) a3 c d,mL f=t->t.length<=100000->aH t->aA d (slA 5 1 a3 ((aN [f.kind]++nmF f (aV f.kind))++t).length c (((aN [f.kind]++nmF f (aV f.kind))++t).map U8)::cellsA b (cG f x) 81::F)->
   V a3 ((aN [f.kind]++nmF f (aV f.kind))++t).length c d:=by
  intro t a3 c d ht l5 S h;have N:j7 f=(aN [f.kind]++nmF f (aV f.kind))++t:=by unfold j7;rw[ht]
  rw[<-N]at h ⊢;have lb:(j7 f).length<=100100:=by rw[N,V3,V3];omega
  have J:aH (j7 f):=by
   rw[N];exact dD (dD (iE _) (jy λi _=>iE _)) S
  refine Z _ _ _ _ ?_;refine h.al λb4 _ h=>?_
  refine SZ (y:=⟨a3,c,j7 f⟩) h 0 rfl (λH h=>h.sl_rd 1 rfl) J (by dsimp only;omega) λa5 c5 R h=>⟨_,_,_,rfl,λw=>?_,λw=>?_⟩
  .have w:=V4 w;dsimp only at w;rw[e0,e1,pO,pO]at k;exact k none 0 _ (h.tl.tl.tl.tl.sl_nil 5 1)
  .have w:=V5 w;dsimp only at w;rw[e0,e1,nO,nO]at k;exact k _ _ _ (h.o [0] 4)
 refine⟨λm=>?_,λm=>?_⟩
 .have m:=V4 m;have h9:=JG I m;have n:mL f=aN [(f.evs.length:Int)]++f.evs.flatMap evB:=by unfold mL;rw[V1 m]
  refine⟨_,_,_,h.r 1,?_⟩;refine h.al λb5 _ h=>?_
  refine xc h 0 rfl λa4 c4 T h=>⟨_,_,_,rfl,?_⟩
  have l1:=dJ [(f.evs.length:Int)];simp only[V9,VW]at l1;refine dp h (i:=2) rfl rfl rfl (h.sl_rd 0 rfl) (by rw[V3];omega) λa5 c5 R h=>⟨_,_,_,rfl,?_⟩
  have h:=h.o [2,3] 4;refine⟨_,_,_,h.r 1,?_⟩;obtain⟨O,M⟩:∃O,(aN [f.kind]++nmF f (aV f.kind))++aN [(f.evs.length:Int)]=O:=⟨_,rfl⟩;have lO:O.length<=80:=by rw[<-M];simp only[V3];omega
  rw[M]at h ⊢;refine⟨λB P c i d=>∃j:Nat,i=j/\j<=evs.length/\P=(O++(f.evs.take j).flatMap evB).length/\
    aA d (slA 5 1 B (O++(f.evs.take j).flatMap evB).length c ((O++(f.evs.take j).flatMap evB).map U8)::cellsA b (cG f x) 81::F),
    λ_ _ _ i _=>evs.length-i.toNat,⟨0,rfl,by omega,by simp,by rw[show O++(f.evs.take 0).flatMap evB=O by simp];exact h⟩,?_⟩
  rintro a6 n6 c6 i H7 ⟨j,rfl,hj,rfl,h⟩;have A:=AI (f.evs.take j);have Q:(f.evs.take j).length<=f.evs.length:=by rw[VU];omega
  refine⟨λa=>?_,λa=>?_⟩
  .have a:j<evs.length:=by have:=V4 a;omega
   have D:=r.ev.rd _ h.tl.tl;refine⟨by omega,_,_,D.some fI (by omega) a,_,_,_,_,_,_,D.els fI a,?_⟩;refine h.al λb6 _ h=>?_
   refine h.st 0 rfl rfl ?_;intro H8 h;refine⟨_,h.r 0,?_⟩;refine h.al λb7 _ h=>?_
   refine xc h 0 rfl λa7 c7 H9 h=>⟨_,_,_,rfl,?_⟩
   have m1:=dJ [evs[j].stamp];simp only[V9,VW]at m1;refine dp h (i:=3) rfl rfl rfl (h.sl_rd 0 rfl) (by rw[V3];omega) λa8 c8 h0 h=>⟨_,_,_,rfl,?_⟩
   have h:=h.o [2,3,4] 5;refine⟨_,h.r 0,?_⟩;refine h.al λb8 _ h=>?_
   refine qG h 0 rfl λa9 c9 l6 h=>⟨_,_,_,rfl,?_⟩
   have m2:=mB [evs[j].value];simp only[V9,VW]at m2;refine dp h (i:=3) rfl rfl rfl (h.sl_rd 0 rfl) (by simp only[V3];omega) λr0 h2 j1 h=>⟨_,_,_,rfl,?_⟩
   have h:=h.o [2,3,4] 5;refine⟨_,_,_,_,h.q 0,?_⟩;refine Aw h (λH h=>r.ev.labs _ (VF a) H h.tl.tl.tl) λj3 h7 j2 h=>⟨_,_,_,rfl,?_⟩
   have m3:=wQ evs[j].name evs[j].labs;refine dp h (i:=2) rfl rfl rfl (h.sl_rd 0 rfl) (by simp only[V3];omega) λh3 h6 Y h=>⟨_,_,_,rfl,?_⟩
   have E:i64.wrap ((j:Int)+1)=((j+1:Nat):Int):=by rw[aK];omega
   have L:j<f.evs.length:=by omega
   have W:f.evs[j]=evs[j].p:=by simp[r.eq]
   have e:O++(f.evs.take (j+1)).flatMap evB=(((O++(f.evs.take j).flatMap evB)++aN [evs[j].stamp])++cY [evs[j].value])++iZ evs[j].name evs[j].labs:=by
    rw[jP L,W];unfold evB;simp only[VI];rfl
   rw[<-e]at h;exact⟨⟨j+1,E,a,by rw[e],h.o [2,3] 4⟩,by rw[E];dsimp only;omega⟩
  .have v:f.evs.length<=j:=by have:=V5 a;omega
   rw[VZ v]at h A ⊢;have U:O++f.evs.flatMap evB=(aN [f.kind]++nmF f (aV f.kind))++mL f:=by rw[n,<-M,VI]
   rw[U]at h;have:=fin _ _ _ _ rfl (by rw[n,V3];omega) (by rw[n];exact dD (iE _) (jy λe _=>wW e)) h
   rw[<-U]at this;exact this
 have m:=V5 m;intro h1 C;refine⟨λu=>?_,λu=>?_⟩
 .have u:=V4 u;have hd:=SX I u;have n:mL f=iZ f.sn f.sl++dd (bF f.data):=by unfold mL;rw[V0 m,V1 u]
  refine⟨_,_,_,_,h.q 1,?_⟩;refine Aw h (λH h=>r.lab H h.tl.tl) λa3 c3 T h=>⟨_,_,_,rfl,?_⟩
  have m3:=wQ f.sn f.sl;refine dp h (i:=1) rfl rfl rfl (h.sl_rd 0 rfl) (by simp only[V3];omega) λa4 c4 R h=>⟨_,_,_,rfl,?_⟩
  have h:=h.o [1,2] 3;refine⟨_,_,_,h.r 1,_,oX r.dA (r.dat _ h.tl.tl),?_⟩;refine h.al λb5 _ h=>?_
  have hz:(bF f.data).size=f.data.length:=nP _;refine wR h (λH h=>h.ce_rd 0 rfl) (by omega) λa5 c5 H7 h=>⟨_,_,_,rfl,?_⟩
  have m4:=lI (s:=bF f.data) (by omega);refine dp h (i:=2) rfl rfl rfl (h.sl_rd 0 rfl) (by simp only[V3];omega) λa6 c6 H8 h=>⟨_,_,_,rfl,?_⟩
  refine C _ _ _ _ ?_;have h:=h.o [2,3] 4;rw[VI,<-n]at h ⊢;exact fin _ _ _ _ rfl (by rw[n,V3];omega) (by rw[n];exact dD (Aq _ _) (qu _)) h
 .have u:=V5 u;refine C _ _ _ _ ?_;have n:mL f=[]:=by unfold mL;rw[V0 m,V0 u]
  have:=fin [] a2 c2 H4 n (by simp) kD;rw[Wc]at this;exact this h
end
def jc:Nat->Rd (List Int)
 | 0,s=>.ok ([],s)
 | n+1,s=>match jc n s with
  | .error e=>.error e
  | .ok (vs,s1)=>match cH s1 with
   | .error e=>.error e
   | .ok (v,s2)=>.ok (vs++[v],s2)
def kZ:Nat->Rd (List Pv)
 | 0,s=>.ok ([],s)
 | n+1,s=>match kZ n s with
  | .error e=>.error e
  | .ok (vs,s1)=>match jb s1 with
   | .error e=>.error e
   | .ok (v,s2)=>.ok (vs++[v],s2)
def atV(k:Int)(vs:List Int)(i:Nat):Int:=if i∈cu k then vs.getD ((cu k).idxOf i) 0 else 0
def ld(k:Int)(vs:List Int)(evs:List Pv):Rp:=⟨k,atV k vs 1,atV k vs 2,atV k vs 3,atV k vs 4,atV k vs 5,atV k vs 6,⟨atV k vs 7,atV k vs 8,atV k vs 9,atV k vs 10⟩,evs⟩
def evsR(k:Int):Rd (List Pv):=λs=>if k=4 then (match dM 64 s with
 | .error e=>.error e
 | .ok (n,s3)=>kZ n.toNat s3) else .ok ([],s)
def recR(bs:List Int):Except Int Rp:=match dZ ⟨0,bs⟩ with
 | .error e=>.error e
 | .ok (k,s1)=>if k<1\/7<k then .error 16 else match jc (cu k).length s1 with
  | .error e=>.error e
  | .ok (vs,s2)=>match evsR k s2 with
   | .error e=>.error e
   | .ok (evs,s4)=>if (dF s4).e≠0 then .error (dF s4).e else if (ld k vs evs).right then .ok (ld k vs evs) else .error 10
theorem AM:∀{n:Nat} {s:RS} {vs:List Int} {a:RS},jc n s=.ok (vs,a)->vs.length=n
 | 0,s,vs,a,h=>by cases h;rfl
 | n+1,s,vs,a,h=>by
  unfold jc at h
  split at h
  .cases h
  .rename_i c s1 b
   split at h
   .cases h
   .cases h
    rw[V3,AM b];rfl
theorem JI:∀{n:Nat} {s:RS} {vs:List Pv} {a:RS},kZ n s=.ok (vs,a)->vs.length=n
 | 0,s,vs,a,h=>by cases h;rfl
 | n+1,s,vs,a,h=>by
  unfold kZ at h
  split at h
  .cases h
  .rename_i c s1 b
   split at h
   .cases h
   .cases h
    rw[V3,JI b];rfl
theorem AN{s:RS}{e:Int}:∀{n j:Nat},jc j s=.error e->j<=n->jc n s=.error e
 | 0,j,h,hj=>by
  obtain rfl:j=0:=by omega
  exact h
 | n+1,j,h,hj=>by
  rcases VV n j with a|a
  .obtain rfl:j=n+1:=by omega
   exact h
  .unfold jc;rw[AN h a]
theorem JJ{s:RS}{e:Int}:∀{n j:Nat},kZ j s=.error e->j<=n->kZ n s=.error e
 | 0,j,h,hj=>by
  obtain rfl:j=0:=by omega
  exact h
 | n+1,j,h,hj=>by
  rcases VV n j with a|a
  .obtain rfl:j=n+1:=by omega
   exact h
  .unfold kZ;rw[JJ h a]
def stL:Os->List Nat->List Int->Os
 | cs,i::is,v::vs=>stL (cv cs i [aB v]) is vs
 | cs,_,_=>cs
theorem AO:∀(is:List Nat) (vs:List Int) (cs:Os),(stL cs is vs).length=cs.length
 | [],_,_=>rfl
 | _::_,[],_=>rfl
 | i::is,v::vs,cs=>by
  show (stL (cv cs i [aB v]) is vs).length=_;rw[AO is vs,oe]
theorem JK:∀{is:List Nat} {vs:List Int} {cs:Os} {i:Nat} {v:Int},is.length=vs.length->stL cs (is++[i]) (vs++[v])=cv (stL cs is vs) i [aB v]
 | [],[],cs,i,v,_=>rfl
 | a::is,b::vs,cs,i,v,h=>by
  show stL (cv cs a [aB b]) (is++[i]) (vs++[v])=cv (stL (cv cs a [aB b]) is vs) i [aB v];exact JK (by simpa using h)
 | [],b::vs,cs,i,v,h=>by simp at h
 | a::is,[],cs,i,v,h=>by simp at h
abbrev zR(k:Int):Os:=[aB k,aB 0,aB 0,aB 0,aB 0,aB 0,aB 0,aB 0,aB 0,aB 0,aB 0,.slice none 0 0]
theorem stL_fill{k:Int}{vs:List Int}(i:¬k<1)(j:¬7<k)(h:vs.length=(cu k).length):stL (zR k) (cu k) vs=de (ld k vs []) none 0:=by
 rcases kinds i j with rfl|rfl|rfl|rfl|rfl|rfl|rfl
 .match vs,h with
  | [],_=>rfl
 .match vs,h with
  | [a,b,c],_=>rfl
 .match vs,h with
  | [a,b,c,d,e,f],_=>rfl
 .match vs,h with
  | [a,b,c,d],_=>rfl
 .match vs,h with
  | [a,b,c,d,e],_=>rfl
 .match vs,h with
  | [a],_=>rfl
 .match vs,h with
  | [a],_=>rfl
section
variable {F L:List aE}{H:aD}{K KP:KE}{Q:aE}
theorem JL:gZ Tryz.prog .eql 20 .nilIface .nilIface true:=by
 intro a b w
 cases a <;> cases b <;> kernel_rfl
theorem eqPn{e:Int}:gZ Tryz.prog .eql 20 (pnV e) .nilIface false:=by
 intro a b w
 kernel_rfl
theorem assertPn{e:Int}:md Tryz.prog (Instr.typeAssert (pnV e) 20 50 true) (.tuple #[(aC e),(.bool true)]):=by
 intro w
 kernel_rfl
theorem JM(k:K (aC 0) H):CF 197 #[.nilIface] H K:=
 cM 197 304646796286996 ⟨true,JL,λ_=>k,λh=>V2 h (by simp)⟩
theorem JN{e:Int}(k:K (aC e) H):CF 197 #[pnV e] H K:=
 cM 197 304646796286996 ⟨false,eqPn,λh=>V2 h (by simp),λ_=>⟨e,true,assertPn,λ_=>k,λh=>V2 h (by simp)⟩⟩
theorem Ta{b b1:Nat}{e:Int}{cs:Os}{v1:Int}{i:FrameMode->aD->Prop}(s:e≠0)(a:cs.length=12)(h:aA H (cellsA b1 [aC v1] 50::cellsA b cs 61::F))
  (k:∀d,aA d (cellsA b1 [aC e] 50::cellsA b (zR 0) 61::F)->i (bi (pnV e) true) d):cC Tryz.prog 210 [(PA b1 0),(PA b 0)] (bi (pnV e) false) H i:=by
 have hd:cC Tryz.prog 210 [(PA b1 0),(PA b 0)] (bi (pnV e) false) H λf d=>f=bi (pnV e) true/\aA d (cellsA b1 [aC e] 50::cellsA b (zR 0) 61::F):=by
  refine rO.defq (.inr ⟨rfl,rfl⟩) ?_;unfold rO.code;refine JN ⟨_,rfl,?_⟩;refine h.st 0 rfl rfl ?_;intro y h;refine⟨_,h.r 0,?_⟩;intro u j;refine⟨λ_=>?_,λt=>V2 t (by simpa using s)⟩
  refine h.st 1 rfl (by rw[a];rfl) ?_;intro A h;refine j _ ?_
  skip
  rw[vL _ cs (by rw[a];rfl)]at h;exact h
 intro w n;refine (hd w n).mono λm v x c=>?_
 cases m <;> simp only at c ⊢
 exact⟨c.1,c.2.1▸k _ c.2.2⟩
theorem Tb{b b1:Nat}{cs:Os}{v1:Int}{e:FrameMode->aD->Prop}(h:aA H (cellsA b1 [aC v1] 50::cellsA b cs 61::F))
  (k:∀c,aA c (cellsA b1 [aC 0] 50::cellsA b cs 61::F)->e .returning c):cC Tryz.prog 210 [(PA b1 0),(PA b 0)] .returning H e:=by
 have hd:cC Tryz.prog 210 [(PA b1 0),(PA b 0)] .returning H λd c=>d=.returning/\aA c (cellsA b1 [aC 0] 50::cellsA b cs 61::F):=by
  refine rO.defq (.inl ⟨rfl,rfl,rfl⟩) ?_;unfold rO.code;refine JM ⟨_,rfl,?_⟩;refine h.st 0 rfl rfl ?_;intro u h;refine⟨_,h.r 0,?_⟩;intro n f;refine⟨λm=>V2 m (by simp),λ_=>f _ ?_⟩
  skip
  exact h
 intro w j;refine (hd w j).mono λi s t a=>?_
 cases i <;> simp only at a ⊢
 exact⟨a.1,a.2.1▸k _ a.2.2⟩
end
section
variable {F L:List aE}{H:aD}{K KP:KE}{Q:aE}
def RdPost(Q:aE)(F:List aE)(K:KE):Except Int Rp->Prop
 | .ok r=>∀Q' evs a' c' H',aM Q Q'->r.evs=evs.map Ev.p->(∀e∈evs,io Q' e)->aA H' (Q'::slA 99 4 a' evs.length c' (flat cw evs)::F)->K (.tuple #[.agg ⟨de r a' c'⟩,aC 0]) H'
 | .error e=>∀Q' H',e≠0->aM Q Q'->aA H' (Q'::F)->K (.tuple #[.agg ⟨zR 0⟩,aC e]) H'
theorem encR_evs{r:Rp}{evs:List Ev}{a:KQ}{c:Nat}(b:r.evs=evs.map Ev.p):de r a c=[aC r.kind,aC r.ag,aC r.ep,aC r.bt,aC r.nx,aC r.st,aC r.nw,aC r.sm.asked,aC r.sm.got,aC r.sm.sent,aC r.sm.came,.slice a evs.length c]:=by
 unfold de;rw[b,VH]
theorem AQ(s:RS):0<=(bY 64 s).1/\(bY 64 s).1<=64:=by
 unfold bY
 split
 .dsimp only;omega
 .split
  .split
   .dsimp only;omega
   .dsimp only;omega
  .dsimp only;omega
  .dsimp only;omega
theorem Tc{a:KQ}{c:Nat}{bs:List Int}(h:aA H (Q::F))(ha:∀H,aA H (Q::F)->aP H a (bs.map U8))(hb:aH bs)(hl:bs.length<=1099511627776)
  (k:RdPost Q F K (recR bs)):CF 107 #[.slice a bs.length c] H K:=by
 refine ON ?_;refine h.al λb _ h=>?_
 refine h.al λb1 _ h=>?_
 have pan:∀e Q' G cs v1,recR bs=.error e->e≠0->aM Q Q'->cs.length=12->aA G (cellsA b1 [aC v1] 50::cellsA b cs 61::Q'::F)->
   bJ 210 X.calls=true/\cC Tryz.prog 210 [(PA b1 0),(PA b 0)] (bi (pnV e) false) G λu8 W=>u8=bi (pnV e) true/\
    ∃E R L D N M J I O P A B C y,bE W b 0 [(aC E),(aC R),(aC L),(aC D),(aC N),(aC M),(aC J),(aC I),(aC O),(aC P),(aC A),(.slice B C y)]/\
    ∃V,aL W b1 0=some (aC V)/\
    K (.tuple #[(.agg #[(aC E),(aC R),(aC L),(aC D),(aC N),(aC M),(aC J),(aC I),(aC O),(aC P),(aC A),(.slice B C y)]),(aC V)]) W:=by
  intro e Q' G cs v1 hr f hs y2 h;refine⟨rfl,Ta f y2 h λH2 h=>⟨rfl,_,_,_,_,_,_,_,_,_,_,_,_,_,_,h.q 1,_,h.r 0,?_⟩⟩
  rw[hr]at k;exact k Q' _ f hs h.tl.tl
 refine rR h (λH h=>ha H h.tl.tl) hl λrb H2 h=>⟨_,rfl,?_⟩
 refine h.al λb2 _ h=>?_
 refine h.st 0 rfl rfl ?_;intro H3 h;refine⟨_,h.q 0,?_⟩;have h:=h.o [1,0,2,3,4] 5;refine ur h hb hl ?_;unfold recR at k pan
 cases hr0:dZ ⟨0,bs⟩ with
 | error e=>
  rw[hr0]at pan;exact λG f h=>pan _ Q _ _ _ rfl f (aM.refl Q) rfl (h.o [1,2] 3)
 | ok p=>
 obtain⟨s,s1⟩:=p;rw[hr0]at pan k;dsimp only at pan k;intro H4 he1 hb1 hl1 h;refine⟨_,rfl,?_⟩;intro Jn hJ;refine⟨λhc=>?_,λhc=>hJ _ ?_⟩
 .simp only[VN,V6]at hc;rw[V1 hc]at pan;exact pan _ Q _ _ _ rfl (by decide) (aM.refl Q) rfl (h.o [2,3] 4)
 simp only[VK,V8]at hc;rw[nO]at pan k;have hkw:i64.wrap s=s:=aK;rw[hkw];refine h.st 3 rfl rfl ?_;intro H5 h;refine AF h 3 rfl rfl λp pc H6 h=>⟨_,_,_,rfl,?_⟩
 have ho:=wV s;refine⟨λi G=>∃(j:Nat) (U:List Int) (s2:RS),i=j/\j<=(cu s).length/\jc j s1=.ok (U,s2)/\s2.e=0/\aH s2.bs/\s2.bs.length<=1099511627776/\
  aA G (crdA rb s2::slA 297 1 p (cu s).length pc ((cu s).map λi=>PA b i)::cellsA b2 [PA rb 0] 388::cellsA b1 [aC 0] 50::cellsA b (stL (zR s) ((cu s).take j) U) 61::Q::F),
  λi _=>(cu s).length-i.toNat,⟨0,[],s1,rfl,by omega,rfl,he1,hb1,hl1,h.o [1,0,2,3,4] 5⟩,?_⟩
 rintro i H7 ⟨j,U,s2,rfl,hj,h5,he2,h4,h0,h⟩;have hvl:=AM h5;refine⟨λd=>?_,λd=>?_⟩
 .have d:j<(cu s).length:=by have:=V4 d;omega
  have l0:=(h.sl_rd 1 rfl).at d;have hi:=AG _ (VF d);refine⟨by omega,_,_,l0.1,_,l0.2,_,h.q 2,?_⟩;refine kj h h4 h0 ?_;have w:jc (j+1) s1=match cH s2 with|.error e=>.error e|.ok (v,s2)=>.ok (U++[v],s2):=by
   rw[jc,h5] <;> rfl
  cases hr2:cH s2 with
  | error e=>
   rw[hr2]at w;rw[AN w d]at pan;exact λG f h=>pan _ Q _ _ _ rfl f (aM.refl Q) (by rw[AO];rfl) (h.o [2,3] 4)
  | ok q=>
  obtain⟨v,s3⟩:=q;rw[hr2]at w;intro H8 h9 h3 h2 h;refine⟨_,rfl,cZ ?_⟩;refine h.st 4 rfl (by rw[AO];exact Nat.ble_eq_true_of_le (by show (cu s)[j]+1<=12;omega)) ?_;intro H9 h;rw[aK (x:=(j:Int)+1)];refine⟨⟨j+1,_,s3,by omega,d,w,h9,h3,h2,?_⟩,by dsimp only;omega⟩;rw[Wj d,JK (by rw[VU];omega)];exact h
 have j1:j=(cu s).length:=by have:=V5 d;omega
 subst j1;rw[h5]at pan k;dsimp only at pan k;rw[Wf,stL_fill (by omega) (by omega) hvl]at h;refine⟨_,h.r 4,?_⟩;intro l5 r8;have fin:∀(Q':aE) (evs:List Ev) (S:KQ) (T:Nat) (s4:RS) G,aM Q Q'->evsR s s2=.ok (evs.map Ev.p,s4)->(∀e∈evs,io Q' e)->evs.length<=64->aH s4.bs->s4.bs.length<=1099511627776->
   aA G (crdA rb s4::slA 99 4 S evs.length T (flat cw evs)::cellsA b2 [PA rb 0] 388::cellsA b1 [aC 0] 50::cellsA b (de (ld s U (evs.map Ev.p)) S T) 61::Q'::F)->l5 G:=by
  intro Q' evs S T s4 l6 t u Z hlen h1 h6 h;rw[u]at pan k;dsimp only at pan k;refine r8 _ ?_;refine⟨_,h.r 2,?_⟩;refine wu h λH11 h=>⟨_,rfl,?_⟩
  refine j6 (λf=>⟨rfl,?_⟩) λf=>?_
  .rw [V0 (by simpa using f)]at pan k;refine⟨_,_,_,_,_,_,_,_,_,_,_,_,_,_,h.q 4,?_⟩;have hEv:lP (crdA rb (dF s4)::slA 99 4 S evs.length T (flat cw evs)::cellsA b2 [PA rb 0] 388::cellsA b1 [aC 0] 50::cellsA b (de (ld s U (evs.map Ev.p)) S T) 61::Q'::F) S evs:=
    ⟨λH h=>h.sl_rd 1 rfl,λe f H h=>(Z e f).at h 5 rfl⟩
   refine AH (r:=ld s U (evs.map Ev.p)) rfl h hEv (by omega) λH12 h=>⟨_,rfl,?_⟩
   intro Jn2 hJ2;refine⟨λhr=>?_,λhr=>hJ2 _ ?_⟩
   .rw [V0 (by simpa using hr)]at pan;exact pan _ Q' _ _ _ rfl (by decide) t rfl (h.o [3,4] 5)
   .rw [V1 (by simpa using hr)]at k;refine⟨_,_,_,_,_,_,_,_,_,_,_,_,_,_,h.q 4,?_⟩;refine h.st 4 rfl rfl ?_;intro H13 h;refine h.st 3 rfl rfl ?_;intro H14 h;have h:=h.o [3,4,0,1,2,5] 6;refine⟨rfl,Tb h λH15 h=>⟨rfl,_,_,_,_,_,_,_,_,_,_,_,_,_,_,h.q 1,_,h.r 0,?_⟩⟩
    exact k Q' evs S T _ t rfl Z (h.o [5,3] 6)
  .rw [V1 f]at pan;exact pan _ Q' _ _ _ rfl f t rfl (h.o [3,4] 5)
 refine⟨λhk=>?_,λhk=>?_⟩
 .have hk:s=4:=V4 hk;have u:evsR s s2=match dM 64 s2 with|.error e=>.error e|.ok (n,s3)=>kZ n.toNat s3:=by
   unfold evsR;rw[V1 hk] <;> rfl
  refine⟨_,h.q 2,?_⟩;refine uu (by unfold aF;decide) h h4 h0 ?_
  cases hr2:dM 64 s2 with
  | error e=>
   rw[hr2]at u;rw[u]at pan;exact λG f h=>pan _ Q _ _ _ rfl f (aM.refl Q) rfl (h.o [2,3] 4)
  | ok q=>
  obtain⟨n,s3⟩:=q;rw[hr2]at u;dsimp only at u;have hn64:0<=n/\n<=64:=by
   unfold dM okR at hr2
   split at hr2
   .cases hr2
   .cases hr2
    exact AQ _
  intro H8 h9 h3 h2 h;refine⟨_,rfl,?_⟩;refine⟨λi G=>∃(j:Nat) (evs:List Ev) (Q':aE) (S:KQ) (T:Nat) (s4:RS),i=j/\(j:Int)<=n/\kZ j s3=.ok (evs.map Ev.p,s4)/\aM Q Q'/\(∀e∈evs,io Q' e)/\aH s4.bs/\s4.bs.length<=1099511627776/\
   aA G (Q'::crdA rb s4::slA 99 4 S evs.length T (flat cw evs)::cellsA b2 [PA rb 0] 388::cellsA b1 [aC 0] 50::cellsA b (de (ld s U (evs.map Ev.p)) S T) 61::F),
   λi _=>n.toNat-i.toNat,⟨0,[],Q,none,0,s3,rfl,by omega,rfl,aM.refl Q,λe f=>V2 f (by simp),h3,h2,(h.sl_nil 99 4).o [6,1,0,3,4,5] 7⟩,?_⟩
  rintro i H9 ⟨j,evs,Q',S,T,s4,rfl,hj,h7,t,j2,h1,h6,h⟩;have y3:=JI h7;rw[VH]at y3;refine⟨λd=>?_,λd=>?_⟩
  .have d:=V4 d;refine⟨_,_,_,h.r 5,_,h.q 3,?_⟩;refine wZ h h1 h6 ?_;have w:kZ (j+1) s3=match jb s4 with|.error e=>.error e|.ok (v,s2)=>.ok (evs.map Ev.p++[v],s2):=by
    rw[kZ,h7] <;> rfl
   cases hr4:jb s4 with
   | error e=>
    rw[hr4]at w;rw[u,JJ w (by omega)]at pan;exact λQ2 G f Y h=>pan _ Q2 _ _ _ rfl f (t.trans Y) rfl (h.o [3,4,0] 5)
   | ok q=>
   obtain⟨pv,s5⟩:=q;rw[hr4]at w;intro Q2 ev l6 Y h8 j3 he5 r0 r9 h;subst j3;refine⟨_,_,_,_,_,_,rfl,h.r 5,?_⟩;refine h.al λb4 _ h=>⟨h.r 6,?_⟩
   have hfl:(ld s U (evs.map Ev.p)).evs.length=evs.length:=VH ..;rw[hfl];refine h.append (m:=1) (ws:=cw ev) sl44 3 rfl (h.ce_rd 0 rfl) rfl (Af ev) (by omega) (by omega) λa5 c5 H11 h=>⟨_,_,_,rfl,?_⟩
   refine h.st 6 rfl rfl ?_;intro H12 h;rw[aK (x:=(j:Int)+1)];refine⟨⟨j+1,evs++[ev],Q2,a5,c5,s5,by omega,by omega,by rw[w,VT];rfl,t.trans Y,λe f=>?_,r0,r9,?_⟩,by dsimp only;omega⟩
   .rcases VR.1 f with f|f
    .exact (j2 e f).sub Y
    .rw [VE]at f;subst f;exact h8
   .have e:flat cw (evs++[ev])=flat cw evs++cw ev:=by rw[dR];simp[flat]
    have e2:de (ld s U ((evs++[ev]).map Ev.p)) a5 c5=cv (de (ld s U (evs.map Ev.p)) S T) 11 [.slice a5 (evs.length+1) c5]:=by
     rw[encR_evs (r:=ld s U ((evs++[ev]).map Ev.p)) rfl,V3];rfl
    rw[e,e2,V3];exact h.o [1,2,3,4,5,6] 7
  .have j1:=V5 d;have hjn:j=n.toNat:=by omega
   subst hjn;refine fin Q' evs S T s4 _ t (by rw[u,h7]) j2 (by omega) h1 h6 ?_;exact h.o [1,2,3,4,5,0] 6
 .have hk:¬s=4:=V5 hk;have u:evsR s s2=.ok ([],s2):=by unfold evsR;rw[V0 hk]
  refine fin Q [] none 0 s2 _ (aM.refl Q) u (λe f=>V2 f (by simp)) (by simp) h4 h0 ?_
  exact (h.sl_nil 99 4).o [1,0,3,4,5,6] 7
end
abbrev pnF(e:Int):Value:=.iface 335 (.agg #[aC e])
def pz:Rd Int:=λs=>match dZ s with
 | .error e=>.error e
 | .ok (u,s')=>if u<1\/8<u then .error 16 else .ok (u,s')
def serQ:Rd (Fa×List bS):=λs=>okR ⟨(cO s).e,(cO s).rest.bs⟩ ((cO s).name,(cO s).labs)
def evQ:Rd Pv:=λs=>okR ⟨(cO (dE (bM s).2).2).e,(cO (dE (bM s).2).2).rest.bs⟩
 ⟨i64.wrap ((bM s).1:Int),(dE (bM s).2).1,(cO (dE (bM s).2).2).name,(cO (dE (bM s).2).2).labs⟩
def j8:Nat->Rd (List Pv)
 | 0,s=>.ok ([],s)
 | n+1,s=>match j8 n s with
  | .error e=>.error e
  | .ok (vs,s1)=>match evQ s1 with
   | .error e=>.error e
   | .ok (v,s2)=>.ok (vs++[v],s2)
theorem AR:∀{n:Nat} {s:RS} {vs:List Pv} {a:RS},j8 n s=.ok (vs,a)->vs.length=n
 | 0,s,vs,a,h=>by cases h;rfl
 | n+1,s,vs,a,h=>by
  unfold j8 at h
  split at h
  .cases h
  .rename_i c s1 b
   split at h
   .cases h
   .cases h
    rw[V3,AR b];rfl
theorem JO{s:RS}{e:Int}:∀{n j:Nat},j8 j s=.error e->j<=n->j8 n s=.error e
 | 0,j,h,hj=>by
  obtain rfl:j=0:=by omega
  exact h
 | n+1,j,h,hj=>by
  rcases VV n j with a|a
  .obtain rfl:j=n+1:=by omega
   exact h
  .unfold j8;rw[JO h a]
def mM:Rd (List Pv):=λs=>match dM 64 s with
 | .error e=>.error e
 | .ok (n,s1)=>j8 n.toNat s1
section
variable {F L:List aE}{H:aD}{K KP:KE}{Q:aE}
theorem sC{e:Int}(k:e=0->K (.tuple #[]) H)(kp:e≠0->KP (pnF e) H):CP 172 #[aC e] H K KP:=
 cNP 172 5961 [[]] λc b=>⟨λa=>kp (by simpa using a),λa=>b _ (k (by simpa using a))⟩
def FPost{α:Type}(rb:Nat)(F:List aE)(enc:α->Value)(K KP:KE):Except Int (α×RS)->Prop
 | .ok (x,s)=>∀H',s.e=0->aH s.bs->s.bs.length<=1099511627776->aA H' (crdA rb s::F)->K (enc x) H'
 | .error e=>∀H',e≠0->aA H' F->KP (pnF e) H'
theorem Td{rb:Nat}{s:RS}(h:aA H (crdA rb s::F))(hb:aH s.bs)(i:s.bs.length<=1099511627776)(k:FPost rb F aC K KP (pz s)) :
  CP 169 #[PA rb 0] H K KP:=by
 refine cNP 169 4582372508 [[]] ?_;refine nK h hb i λm h=>⟨_,rfl,_,mA h,?_⟩
 have b:=gL hb;have f:=jQ s;have c:=wq hb;unfold pz dZ okR at k;refine sC (λe=>⟨rfl,?_⟩) λe=>?_
 .rw [V0 (by simpa using e)]at k;dsimp only at k;intro j d;refine⟨λa=>?_,λa=>d _ ?_⟩
  .simp only[VN,V6]at a;rw[V1 a]at k;exact k _ (by decide) h.tl
  .simp only[VK,V8]at a;rw[nO]at k;have:=k _ e b (by omega) h;rw[<-aK (x:=(((bM s).1:Nat):Int)) (by omega) (by omega)]at this;exact this
 .rw [V1 e]at k;exact k _ e h.tl
def SPost(rb:Nat)(F:List aE)(K KP:KE):Except Int ((Fa×List bS)×RS)->Prop
 | .ok (x,s)=>∀a c H',s.e=0->aH s.bs->s.bs.length<=1099511627776->aA H' (crdA rb s::slA 421 2 a x.2.length c (flat dg x.2)::F)->K (.agg #[.string x.1,.slice a x.2.length c]) H'
 | .error e=>∀H',e≠0->aA H' F->KP (pnF e) H'
theorem JP{rb:Nat}{s:RS}(h:aA H (crdA rb s::F))(hb:aH s.bs)(i:s.bs.length<=1099511627776)(k:SPost rb F K KP (serQ s)) :
  CP 175 #[PA rb 0] H K KP:=by
 refine cMP 175 4380 ?_;refine h.al λb _ h=>?_
 have h:=h.o [1,0] 2;refine Jl h hb i λa c m h=>⟨_,_,_,_,_,rfl,?_⟩
 have d:=Au hb;have j:=Av s;refine h.al λb2 _ h=>?_
 refine h.st 0 rfl rfl ?_;intro n h;unfold serQ okR at k;refine sC (λe=>?_) λe=>?_
 .rw [V0 (by simpa using e),sy e]at k;refine⟨rfl,_,_,_,_,h.q 0,?_⟩;refine h.st 3 rfl rfl ?_;intro t h;refine⟨_,_,_,_,h.q 3,?_⟩;have f:(cO s).rest.e=0:=by rw[<-sy e];exact e
  exact k _ _ _ f d (by omega) (h.o [1,2] 4)
 .rw [V1 e]at k;exact k _ e (h.o [] 4)
def EsPost(rb:Nat)(Q:aE)(F:List aE)(K KP:KE):Except Int (List Pv×RS)->Prop
 | .ok (x,s)=>∀Q' (evs:List Ev) a c H',aM Q Q'->x=evs.map Ev.p->(∀e∈evs,io Q' e)->s.e=0->aH s.bs->s.bs.length<=1099511627776->
   aA H' (Q'::crdA rb s::slA 99 4 a evs.length c (flat cw evs)::F)->K (.slice a evs.length c) H'
 | .error e=>∀Q' H',e≠0->aM Q Q'->aA H' (Q'::F)->KP (pnF e) H'
theorem Te{rb:Nat}{s:RS}(h:aA H (Q::crdA rb s::F))(hb:aH s.bs)(hl:s.bs.length<=1099511627776)(k:EsPost rb Q F K KP (mM s)) :
  CP 174 #[PA rb 0] H K KP:=by
 refine cNP 174 0x111121561239925111144c [[(3,sS),(12,sI)]] ?_;have h:=h.o [1,0] 2;refine tP h hb hl (by unfold aF;decide) λH1 h=>⟨_,rfl,_,mA h,?_⟩
 have C:=rU (m:=64) hb;have N:=rV s 64;unfold mM dM okR at k;refine sC (λe=>⟨rfl,?_⟩) λe=>?_
 case refine_2=>
  rw[V1 e]at k;exact k Q _ e (aM.refl Q) h.tl
 rw[V0 (by simpa using e)]at k;dsimp only at k;have D:=AQ s;obtain⟨n,L⟩:∃n,(bY 64 s).1=n:=⟨_,rfl⟩;obtain⟨s3,J⟩:∃s3,(bY 64 s).2=s3:=⟨_,rfl⟩;rw[L,J]at k;rw[L]at D;rw[J]at h e C N;rw[L];refine⟨λla W lc i V=>∃(j:Nat) (evs:List Ev) (Q':aE) (s4:RS),i=j/\(j:Int)<=n/\W=evs.length/\j8 j s3=.ok (evs.map Ev.p,s4)/\aM Q Q'/\(∀e∈evs,io Q' e)/\s4.e=0/\aH s4.bs/\s4.bs.length<=1099511627776/\
   aA V (Q'::crdA rb s4::slA 99 4 la evs.length lc (flat cw evs)::F),
   λ_ _ _ i _=>n.toNat-i.toNat,⟨0,[],Q,s3,rfl,by omega,rfl,rfl,aM.refl Q,λe f=>V2 f (by simp),e,C,by omega,(h.sl_nil 99 4).o [2,1,0] 3⟩,?_⟩
 rintro la W lc i H2 ⟨j,evs,Q',s4,rfl,hj,rfl,y,t,G,R,x,E,h⟩;have U:=AR y;rw[VH]at U;refine⟨λw=>?_,λw=>?_⟩
 .have w:=V4 w;refine h.al λb _ h=>?_
  have h:=h.o [2,0,1,3] 4;refine nK h x E λH3 h=>⟨_,rfl,?_⟩
  have B:=gL x;have h1:=jQ s4;refine h.st 1 rfl rfl ?_;intro H4 h;refine wt h B (by omega) λH5 h=>⟨_,rfl,?_⟩
  have S:aH (dE (bM s4).2).2.bs:=gL B;have Z:(dE (bM s4).2).2.bs.length<=(bM s4).2.bs.length:=jQ _;refine h.st 1 rfl rfl ?_;intro H6 h;refine JP h S (by omega) ?_;have d:j8 (j+1) s3=match evQ s4 with|.error e=>.error e|.ok (v,s2)=>.ok (evs.map Ev.p++[v],s2):=by
   rw[j8,y] <;> rfl
  unfold evQ at d;unfold serQ;unfold okR at d ⊢
  by_cases f:(cO (dE (bM s4).2).2).e=0
  case neg=>
   rw[V1 f]at d ⊢;dsimp only at d;rw[JO d (by omega)]at k;exact λV f h=>k Q' _ f t (h.o [1] 3)
  rw[V0 (by simpa using f)]at d ⊢;dsimp only at d;intro a c H7 P I A h;dsimp only at P I A h;refine⟨_,_,_,_,rfl,?_⟩;refine h.st 2 rfl rfl ?_;intro H8 h;refine⟨_,_,_,_,_,_,h.q 2,?_⟩;obtain⟨ev,u⟩:∃ev:Ev,ev=⟨i64.wrap ((bM s4).1:Int),(dE (bM s4).2).1,(cO (dE (bM s4).2).2).name,(cO (dE (bM s4).2).2).labs,a,c⟩:=⟨_,rfl⟩;refine h.al λb4 M h=>?_
  have h:aA M (cellsA b4 (cw ev) 99::crdA rb ⟨(cO (dE (bM s4).2).2).e,(cO (dE (bM s4).2).2).rest.bs⟩::slA 421 2 a ev.labs.length c (flat dg ev.labs)::cellsA b (cw ev) 99::Q'::slA 99 4 la evs.length lc (flat cw evs)::F):=by rw[u];exact h
  refine h.append (m:=1) (ws:=cw ev) sl44 5 rfl (h.ce_rd 0 (by rw[u];rfl)) rfl (Af ev) (by omega) (by omega) λa5 c5 H9 h=>⟨_,_,_,rfl,?_⟩
  have Y:i64.wrap ((j:Int)+1)=((j+1:Nat):Int):=by rw[aK];omega
  have T:(cO (dE (bM s4).2).2).rest.e=0:=by rw[<-sy f];exact f
  rw[sy f]at d h;have ep:ev.p=⟨i64.wrap ((bM s4).1:Int),(dE (bM s4).2).1,(cO (dE (bM s4).2).2).name,(cO (dE (bM s4).2).2).labs⟩:=by rw[u];rfl
  refine⟨⟨j+1,evs++[ev],slA 421 2 a ev.labs.length c (flat dg ev.labs)*Q',_,Y,by omega,by simp,by rw[d,VT,Wa,ep];rfl,t.trans (aM.add _ Q'),λe f=>?_,T,I,A,?_⟩,by rw[Y];dsimp only;omega⟩
  .rcases VR.1 f with f|f
   .exact (G e f).sub (aM.add _ Q')
   .rw [VE]at f;rw[f];have e1:ev.la=a:=by rw[u]
    unfold io;rw[e1];exact KIn.sl (c:=c)
  .have e:flat cw (evs++[ev])=flat cw evs++cw ev:=by rw[dR];simp[flat]
   rw[e,V3];have h:=h.o [2,4,1,5] 6;exact gu.2 h
 .have h0:=V5 w;have O:j=n.toNat:=by omega
  subst O;rw[y]at k;exact k Q' evs _ _ _ t rfl G R x E h
end
def Fq.set(f:Fq)(i:Nat)(v:Int):Fq:=match i with
 | 1=>{ f with ag:=v }|2=>{ f with ep:=v }|3=>{ f with bt:=v }|4=>{ f with ct:=v }|5=>{ f with got:=v }
 | 6=>{ f with sent:=v }|7=>{ f with next:=v }|8=>{ f with stamp:=v }|9=>{ f with win:=v }|_=>f
theorem encQ_set{f:Fq}{x:QA}{i:Nat}{v:Int}(a:1<=i)(b:i<=9):cv (cG f x) i [aB v]=cG (f.set i v) x:=by
 rcases (by omega:i=1\/i=2\/i=3\/i=4\/i=5\/i=6\/i=7\/i=8\/i=9) with rfl|rfl|rfl|rfl|rfl|rfl|rfl|rfl|rfl <;> rfl
theorem Tf{f:Fq}{i j:Nat}{v:Int}(h:j≠i):(f.set i v).nums j=f.nums j:=by
 unfold Fq.set
 split <;> (unfold Fq.nums;split <;> first|rfl|exact V2 rfl h)
theorem set_keep(f:Fq)(i:Nat)(v:Int):(f.set i v).kind=f.kind/\(f.set i v).evs=f.evs/\(f.set i v).sn=f.sn/\(f.set i v).sl=f.sl/\(f.set i v).data=f.data:=by
 unfold Fq.set
 split <;> exact⟨rfl,rfl,rfl,rfl,rfl⟩
def jd:Fq->List Nat->List Int->Fq
 | f,i::is,v::vs=>jd (f.set i v) is vs
 | f,_,_=>f
theorem JQ:∀{is:List Nat} {vs:List Int} {f:Fq} {i:Nat} {v:Int},is.length=vs.length->jd f (is++[i]) (vs++[v])=(jd f is vs).set i v
 | [],[],f,i,v,_=>rfl
 | a::is,b::vs,f,i,v,h=>by
  show jd (f.set a b) (is++[i]) (vs++[v])=_;exact JQ (by simpa using h)
 | [],_::_,_,_,_,h=>by simp at h
 | _::_,[],_,_,_,h=>by simp at h
theorem xd:∀(is:List Nat) (vs:List Int) (f:Fq),(jd f is vs).kind=f.kind/\(jd f is vs).evs=f.evs/\(jd f is vs).sn=f.sn/\(jd f is vs).sl=f.sl/\(jd f is vs).data=f.data
 | [],_,f=>⟨rfl,rfl,rfl,rfl,rfl⟩
 | _::_,[],f=>⟨rfl,rfl,rfl,rfl,rfl⟩
 | i::is,v::vs,f=>by
  obtain⟨a1,a2,a3,a4,a5⟩:=set_keep f i v;obtain⟨b1,b2,b3,b4,b5⟩:=xd is vs (f.set i v);exact⟨b1.trans a1,b2.trans a2,b3.trans a3,b4.trans a4,b5.trans a5⟩
theorem JU{j:Nat}:∀(is:List Nat) (vs:List Int) (f:Fq),j∉is->(jd f is vs).nums j=f.nums j
 | [],_,f,_=>rfl
 | _::_,[],f,_=>rfl
 | i::is,v::vs,f,h=>by
  show (jd (f.set i v) is vs).nums j=_;rw[JU is vs _ λa=>h (VL _ a),Tf λa=>h (by rw[a];exact VM ..)]
def mN(f:Fq):RS->Except Int (Fq×RS):=λs=>
 if f.kind=5 then match mM s with
  | .error e=>.error e
  | .ok (l,s')=>.ok ({ f with evs:=l },s')
 else if f.kind=8 then match serQ s with
  | .error e=>.error e
  | .ok (x,s1)=>okR (aY 4096 s1).2 { f with sn:=x.1,sl:=x.2,data:=(aY 4096 s1).1 }
 else .ok (f,s)
def endQ:Except Int (Fq×RS)->Except Int Fq
 | .error e=>.error e
 | .ok (f,s)=>if (dF s).e≠0 then .error (dF s).e else if ff f then .ok f else .error 10
def nR(bs:List Int):Except Int Fq:=match pz ⟨0,bs⟩ with
 | .error e=>.error e
 | .ok (kd,s1)=>match jc (aV kd).length s1 with
  | .error e=>.error e
  | .ok (vs,s2)=>endQ (mN (jd { kind:=kd } (aV kd) vs) s2)
abbrev zF:Os:=cG { kind:=0 } {}
section
variable {F L:List aE}{H:aD}{K KP:KE}{Q:aE}
theorem eqPnF{e:Int}:gZ Tryz.prog .eql 20 (pnF e) .nilIface false:=by
 intro a b w
 kernel_rfl
theorem Tg{e:Int}:md Tryz.prog (Instr.typeAssert (pnF e) 20 335 true) (.tuple #[.agg #[aC e],.bool true]):=by
 intro w
 kernel_rfl
theorem Th{b b1:Nat}{e:Int}{cs:Os}{v1:Int}{m:FrameMode->aD->Prop}(a:cs.length=14)(h:aA H (cellsA b1 [aC v1] 50::cellsA b cs 81::F))
  (k:∀d,aA d (cellsA b1 [aC e] 50::cellsA b zF 81::F)->m (bi (pnF e) true) d):cC Tryz.prog 167 [(PA b 0),(PA b1 0)] (bi (pnF e) false) H m:=by
 have hd:cC Tryz.prog 167 [(PA b 0),(PA b1 0)] (bi (pnF e) false) H λi d=>i=bi (pnF e) true/\aA d (cellsA b1 [aC e] 50::cellsA b zF 81::F):=by
  refine rQ.defq (.inr ⟨rfl,rfl⟩) ?_;unfold rQ.code;refine⟨_,eqPnF,λx n=>⟨λj=>V2 j (by simp),λ_=>⟨_,_,Tg,λs f=>⟨λ_=>?_,λj=>V2 j (by simp)⟩⟩⟩⟩
  refine h.al λb2 _ h=>?_
  refine h.st 0 rfl rfl ?_;intro B h;refine⟨_,h.r 0,?_⟩;refine h.st 2 rfl (by rw[a];rfl) ?_;intro C h;refine⟨h.r 0,?_⟩;refine h.st 1 rfl rfl ?_;intro u h;refine f _ (n _ ?_);have h:=h.o [1,2] 3;have e2:cv cs 0 zF=zF:=vL _ cs (by rw[a];rfl);have h:aA u (cellsA b1 [aC e] 50::cellsA b (cv cs 0 zF) 81::F):=h;rw[e2]at h;exact h
 intro w v;refine (hd w v).mono λt y A c=>?_
 cases t <;> simp only at c ⊢
 exact⟨c.1,c.2.1▸k _ c.2.2⟩
theorem Ti{b b1:Nat}{cs:Os}{v1:Int}{e:FrameMode->aD->Prop}(h:aA H (cellsA b1 [aC v1] 50::cellsA b cs 81::F))
  (k:∀c,aA c (cellsA b1 [aC v1] 50::cellsA b cs 81::F)->e .returning c):cC Tryz.prog 167 [(PA b 0),(PA b1 0)] .returning H e:=by
 have hd:cC Tryz.prog 167 [(PA b 0),(PA b1 0)] .returning H λd c=>d=.returning/\aA c (cellsA b1 [aC v1] 50::cellsA b cs 81::F):=by
  refine rQ.defq (.inl ⟨rfl,rfl,rfl⟩) ?_;unfold rQ.code;exact⟨_,JL,λn f=>⟨λ_=>f _ h,λm=>V2 m (by simp)⟩⟩
 intro w j;refine (hd w j).mono λi s t a=>?_
 cases i <;> simp only at a ⊢
 exact⟨a.1,a.2.1▸k _ a.2.2⟩
def QPost(Q:aE)(F:List aE)(K:KE):Except Int Fq->Prop
 | .ok f=>∀Q' x evs H',aM Q Q'->f.evs=evs.map Ev.p->(∀e∈evs,io Q' e)->f.Sh x->aA H' (Q'::slA 99 4 x.ea evs.length x.ec (flat cw evs)::F)->K (.tuple #[.agg ⟨cG f x⟩,aC 0]) H'
 | .error e=>∀Q' H',e≠0->aM Q Q'->aA H' (Q'::F)->K (.tuple #[.agg ⟨zF⟩,aC e]) H'
theorem kindR_ok{s a:RS}{kd:Int}(h:pz s=.ok (kd,a)):1<=kd/\kd<=8:=by
 unfold pz at h
 split at h
 .cases h
 .split at h
  .cases h
  .cases h;omega
theorem numF_sh{kd:Int}{vs:List Int}{x:QA}(a:kd≠5->x.ea=none/\x.ec=0)(b:kd≠8->x.la=none/\x.lc=0/\x.da=none/\x.dc=0):(jd { kind:=kd } (aV kd) vs).Sh x:=by
 obtain⟨a1,a2,a3,a4,a5⟩:=xd (aV kd) vs { kind:=kd };refine⟨λh=>⟨a2,a (by rwa[a1]at h)⟩,λh=>?_,λi c d h=>?_⟩
 .obtain⟨b1,b2,b3,b4⟩:=b (by rwa[a1]at h);exact⟨a3,a4,b1,b2,a5,b3,b4⟩
 .rw [a1]at h;rw[JU _ _ _ h]
  rcases (by omega:i=1\/i=2\/i=3\/i=4\/i=5\/i=6\/i=7\/i=8\/i=9) with rfl|rfl|rfl|rfl|rfl|rfl|rfl|rfl|rfl <;> rfl
end
structure En where
 epoch:Int
 boot:Int
 time:Int
deriving DecidableEq
def En.z:En:=⟨0,0,0⟩
abbrev encE(e:En):Os:=[.int .i64 e.epoch,.int .i64 e.boot,.int .i64 e.time]
abbrev aggE(e:En):Value:=.agg #[.int .i64 e.epoch,.int .i64 e.boot,.int .i64 e.time]
def aR:Nat->List En->List (Int×En)
 | _,[]=>[]
 | i,e::r=>if 0<e.epoch then ((i:Int),e)::aR (i+1) r else aR (i+1) r
theorem pA{i:Nat}:∀{l:List En} {p:Int×En},p∈aR i l->(i:Int)<=p.1/\p.1<i+l.length/\0<p.2.epoch
 | [],p,h=>by simp[aR]at h
 | e::r,p,h=>by
  simp only[aR]at h;have a:=pA (i:=i+1) (l:=r) (p:=p);simp only[V9]
  split at h
  .rcases VJ.1 h with rfl|h
   .rename_i b;simp only;omega
   .have:=a h;omega
  .have:=a h;omega
theorem xe{i:Nat}:∀{l:List En},(aG (aR i l)).Pairwise (·< ·)
 | []=>by simp[aR]
 | e::r=>by
  simp only[aR]
  split
  .simp only[aG,Wa,W0];refine⟨λa b=>?_,xe⟩
   obtain⟨p,c,rfl⟩:=VB.1 b;have:=pA c;omega
  .exact xe
theorem xf{i:Nat}{l:List En}:(aG (aR i l)).Nodup:=xe.imp (λh=>by omega)
theorem Tj{i:Nat}{l:List En}:sortI (aG (aR i l))=aG (aR i l):=yK (xe.imp (λh=>by omega))
theorem AS{i:Nat}:∀{l:List En} {k:Nat},aJ ((i+k:Nat):Int) (aR i l)=match l[k]? with|some e=>if 0<e.epoch then some e else none|none=>none
 | [],k=>by simp[aR,aJ]
 | e::r,0=>by
  have b:aJ ((i+0:Nat):Int) (aR (i+1) r)=none:=fw.2 λh=>by
   obtain⟨p,c,d⟩:=VB.1 h;have:=pA c;omega
  simp only[aR,List.getElem?_cons_zero]
  split
  .simp [aJ]
  .exact b
 | e::r,k+1=>by
  have a:=AS (i:=i+1) (l:=r) (k:=k);rw[show i+1+k=i+(k+1) by omega]at a;simp only[aR,List.getElem?_cons_succ]
  split
  .simp only[aJ];rw[nO];exact a
  .exact a
theorem AT{i:Nat}{x:En}(c:0<x.epoch):∀{l:List En} {k:Nat},k<l.length->(aR i (l.set k x)).Perm (mset ((i+k:Nat):Int) x (aR i l))
 | e::r,0,_=>by
  have hd:bT ((i+0:Nat):Int) (aR (i+1) r)=aR (i+1) r:=kP (fw.2 λh=>by
   obtain⟨p,d,f⟩:=VB.1 h;have:=pA d;omega)
  simp only[Yp,aR,V1 c];have e2:bT ((i+0:Nat):Int) (if 0<e.epoch then ((i:Int),e)::aR (i+1) r else aR (i+1) r)=aR (i+1) r:=by
   split
   .have:bT ((i+0:Nat):Int) (((i:Int),e)::aR (i+1) r)=bT ((i+0:Nat):Int) (aR (i+1) r):=by simp[bT]
    rw[this,hd]
   .exact hd
  unfold mset;rw[e2];exact .refl _
 | e::r,k+1,h=>by
  have a:=AT (i:=i+1) c (l:=r) (k:=k) (by simpa using h);rw[show i+1+k=i+(k+1) by omega]at a;simp only[Y6,aR]
  split
  .refine (a.cons _).trans ?_;unfold mset;have:bT ((i+(k+1):Nat):Int) (((i:Int),e)::aR (i+1) r)=((i:Int),e)::bT ((i+(k+1):Nat):Int) (aR (i+1) r):=by
    have b:¬(i:Int)=((i+(k+1):Nat):Int):=by omega
    simp[bT,Wk,b];omega
   rw[this];exact .swap _ _ _
  .exact a
theorem JV{i:Nat}:∀{l:List En},(aR i l).length=(l.filter λe=>decide (0<e.epoch)).length
 | []=>rfl
 | e::r=>by
  simp only[aR,Wk];have:=JV (i:=i+1) (l:=r)
  by_cases h:0<e.epoch <;> simp[h,this]
abbrev bad(agent boot now:Int):Prop:=agent<0\/63<agent\/boot<1\/1099511627776<boot\/now<0\/4611686018427387903<now
def bg(rows:List En)(agent:Int):En:=if agent<0 then En.z else (rows[agent.toNat]?).getD En.z
structure fR(rows:List En):Prop where
 len:rows.length=64
 ep:∀e∈rows,0<=e.epoch/\e.epoch<=1099511627776
 in64:∀e∈rows,aF e.boot/\aF e.time
 zero:∀e∈rows,¬0<e.epoch->e=En.z
abbrev full(most:Int)(rows:List En):Prop:=most<=((aR 0 rows).length:Int)
def grant(most:Int)(rows:List En)(agent boot now:Int):List En×En×Bool×Int:=
 if bad agent boot now then (rows,En.z,false,11) else
 let x:=bg rows agent
 if 0<x.epoch/\x.boot=boot then (rows,x,false,0)
 else if 0<x.epoch/\boot<x.boot then (rows,En.z,false,22)
 else if x.epoch=1099511627776 then (rows,En.z,false,17)
 else if x.epoch=0/\full most rows then (rows,En.z,false,20)
 else (rows.set agent.toNat ⟨x.epoch+1,boot,now⟩,⟨x.epoch+1,boot,now⟩,true,0)
def gD(most:Int)(rows:List En)(agent:Int)(e:En):List En×Int:=
 if bad agent e.boot e.time\/e.epoch<1\/1099511627776<e.epoch then (rows,11)
 else if 0<(bg rows agent).epoch then (rows,18)
 else if full most rows then (rows,20)
 else (rows.set agent.toNat e,0)
theorem fR.at{rows:List En}(h:fR rows)(agent:Int):0<=(bg rows agent).epoch/\(bg rows agent).epoch<=1099511627776/\aF (bg rows agent).boot/\aF (bg rows agent).time:=by
 unfold bg
 split
 .simp [En.z,aF]
 cases he:rows[agent.toNat]? with
 | none=>simp[En.z,aF]
 | some e=>exact⟨(h.ep e (Wg he)).1,(h.ep e (Wg he)).2,h.in64 e (Wg he)⟩
theorem fR.set{rows:List En}(h:fR rows){k:Nat}{x:En}(c:0<x.epoch/\x.epoch<=1099511627776)(b:aF x.boot/\aF x.time):fR (rows.set k x) where
 len:=by simp[h.len]
 ep e a:=by
  rcases Y2 a with a|rfl
  .exact h.ep e a
  .omega
 in64 e a:=by
  rcases Y2 a with a|rfl
  .exact h.in64 e a
  .exact b
 zero e a:=by
  rcases Y2 a with a|rfl
  .exact h.zero e a
  .omega
theorem grant_ok{most:Int}{rows:List En}(h:fR rows)(agent boot now:Int):fR (grant most rows agent boot now).1:=by
 unfold grant;have:=h.at agent
 split
 .exact h
 .rename_i hb;simp only[bad,not_or,Int.not_lt]at hb;simp only
  split
  .exact h
  .split
   .exact h
   .split
    .exact h
    .split
     .exact h
     .exact h.set ⟨by simp only;omega,by simp only;omega⟩ ⟨by simp only[aF];omega,by simp only[aF];omega⟩
theorem setR_ok{most:Int}{rows:List En}(h:fR rows)(agent:Int)(e:En):fR (gD most rows agent e).1:=by
 unfold gD
 split
 .exact h
 .rename_i hb;simp only[bad,not_or,Int.not_lt]at hb
  split
  .exact h
  .split
   .exact h
   .exact h.set ⟨by omega,by omega⟩ ⟨by simp only[aF];omega,by simp only[aF];omega⟩
theorem AU{rows:List En}(agent:Int):aJ agent (aR 0 rows)=if 0<(bg rows agent).epoch then some (bg rows agent) else none:=by
 by_cases h0:agent<0
 .have:aJ agent (aR 0 rows)=none:=fw.2 λh=>by
   obtain⟨p,a,b⟩:=VB.1 h;have:=pA a;omega
  rw[this,bg,V1 h0];rfl
 .have:=AS (i:=0) (l:=rows) (k:=agent.toNat);rw[show ((0+agent.toNat:Nat):Int)=agent by omega]at this;rw[this];unfold bg;rw[V0 h0]
  cases rows[agent.toNat]? with
  | none=>simp[En.z]
  | some e=>simp
theorem fR.rowZ{rows:List En}(h:fR rows)(agent:Int)(h0:¬0<(bg rows agent).epoch):bg rows agent=En.z:=by
 unfold bg at h0 ⊢
 split
 .rfl
 rename_i a;rw[V0 a]at h0
 cases he:rows[agent.toNat]? with
 | none=>rfl
 | some e=>rw[he]at h0;exact h.zero e (Wg he) h0
theorem uv{rows:List En}(h:fR rows){agent:Int}:(aJ agent (aR 0 rows)).getD En.z=bg rows agent:=by
 rw[AU]
 split
 .rfl
 .rename_i a;exact (h.rowZ agent a).symm
theorem xg{rows:List En}(h:fR rows){agent:Int}:(aJ agent (aR 0 rows)).isSome=decide (0<(bg rows agent).epoch):=by
 rw[AU]
 split
 .rename_i a;simp[a]
 .rename_i a;simp[a]
theorem Tk:fR (List.replicate 64 En.z) where
 len:=by simp
 ep e he:=by rw[YH he];decide
 in64 e he:=by rw[YH he];simp[En.z,aF]
 zero e he _:=YH he
theorem xh{rows:List En}(h:fR rows):(aR 0 rows).length<=64:=by
 rw[JV];exact VO (Y0 _ _) (Nat.le_of_eq h.len)
namespace Ro
theorem mt56:kA Tryz.prog 256 2 149 aggE En.z:=og Tryz.underlying256 (by kernel_rfl)
theorem ko2:mj Tryz.prog 2 aB:=vP Tryz.underlying2
abbrev rollC(rb mb:Nat)(most:Int):aE:=cellsA rb [aB most,.map (some mb)] 259
abbrev mapE(mb:Nat)(rows:List En):aE:=mapA aB aggE mb (aR 0 rows)
section
variable {rb mb sb:Nat}{most:Int}{rows:List En}{F:List aE}{H:aD}{K:KE}
theorem JW{a b n:Int}:bV Tryz.prog 229 #[aB a,aB b,aB n] H (.bool (!decide (bad a b n))):=by
 refine cM 229 28 ⟨congrArg Value.bool ?_,rfl⟩;rw[Wi];simp only[V7,V6,VY,V8];omega
theorem New_spec(h:aA H F)(k1:most<1\/64<most->K (.tuple #[.pointer none,aB 11]) H)
  (k2:¬(most<1\/64<most)->∀rb mb b,aA b (rollC rb mb most::mapE mb (List.replicate 64 En.z)::F)->K (.tuple #[.pointer (some ⟨rb,0,none⟩),aB 0]) b) :
  CF 183 #[aB most] H K:=by
 refine cM 183 476 ⟨λa=>k1 (by simpa using a),λa=>?_⟩
 refine h.alm aB aggE λmb _ h=>?_
 refine h.al λrb _ h=>?_
 exact k2 (by simp at a;omega) _ _ _ h
end
section
variable {rb mb sb:Nat}{most:Int}{rows:List En}{F:List aE}{H:aD}{K:KE}
theorem Of_spec(ok:fR rows){agent:Int}(h:aA H (rollC rb mb most::mapE mb rows::F))
  (k:∀a,aA a (rollC rb mb most::mapE mb rows::F)->K (.tuple #[aggE (bg rows agent),.bool (decide (0<(bg rows agent).epoch))]) a) :
  CF 142 #[.pointer (some ⟨rb,0,none⟩),aB agent] H K:=by
 refine cM 142 284 ?_;refine h.al λ_ _ h=>?_;refine⟨_,Ra2,?_⟩
 have b:=h.mp_get mt56 ko2 2 rfl (x:=agent);rw[uv ok,xg ok]at b;refine⟨_,_,_,_,b,?_⟩
 repeat (first|refine h.al λ_ _ h=>?_|refine St2 h λ_ h=>?_|refine⟨_,_,_,Rs2,?_⟩)
 exact k _ h.tl.tl
theorem Is_spec(ok:fR rows){agent epoch:Int}(h:aA H (rollC rb mb most::mapE mb rows::F))
  (k:∀a,aA a (rollC rb mb most::mapE mb rows::F)->K (.bool (decide (0<(bg rows agent).epoch)&&decide ((bg rows agent).epoch=epoch))) a) :
  CF 141 #[.pointer (some ⟨rb,0,none⟩),aB agent,aB epoch] H K:=by
 refine cM 141 284 ?_;refine⟨_,Ra2,?_⟩;have b:=h.mp_get mt56 ko2 1 rfl (x:=agent);rw[uv ok,xg ok]at b;refine⟨_,_,_,_,b,?_⟩;refine h.al λ_ _ h=>?_;refine St2 h λ_ h=>?_;refine⟨_,λ_=>Ra2,?_⟩
 exact k _ h.tl
theorem Grant_spec(ok:fR rows){agent boot now:Int}(h:aA H (rollC rb mb most::mapE mb rows::F))
  (k:∀n,aA n (rollC rb mb most::mapE mb (grant most rows agent boot now).1::F)->
   K (.tuple #[aggE (grant most rows agent boot now).2.1,.bool (grant most rows agent boot now).2.2.1,aB (grant most rows agent boot now).2.2.2]) n) :
  CF 143 #[.pointer (some ⟨rb,0,none⟩),aB agent,aB boot,aB now] H K:=by
 refine cM 143 0x1d12513c13c13cb11c ?_;refine h.al λ_ _ h=>?_
 refine⟨_,JW,λm=>?_,λm=>?_⟩
 .have hb:bad agent boot now:=by simpa using m
  have e:grant most rows agent boot now=(rows,En.z,false,11):=V1 hb;rw[e]at k;refine St1 h λ_ h=>?_;refine⟨_,_,_,Rs1,?_⟩
  exact k _ h.tl
 .have hb:¬bad agent boot now:=by simpa using m
  have h0:0<=agent:=by simp only[bad,not_or,Int.not_lt]at hb;omega
  refine⟨_,Ra2,?_⟩;have s:=h.mp_get mt56 ko2 2 rfl (x:=agent);rw[uv ok,xg ok]at s;refine⟨_,_,_,_,s,?_⟩;refine h.al λ_ _ h=>?_;refine St2 h λ_ h=>?_;refine⟨_,λ_=>Ra2,?_⟩
  have y:=ok.at agent;have u:=xh ok;refine⟨λb=>?_,λb=>?_⟩
  .simp only[V7,V6]at b;have e:grant most rows agent boot now=(rows,bg rows agent,false,0):=by unfold grant;rw[V0 hb];exact V1 b
   rw[e]at k
   repeat (first|refine St2 h λ_ h=>?_|refine⟨_,_,_,Rs2,?_⟩)
   exact k _ h.tl.tl
  have n1:¬(0<(bg rows agent).epoch/\(bg rows agent).boot=boot):=λa=>by simp[a.1,a.2]at b
  refine⟨_,λ_=>Ra2,?_⟩
  refine⟨λd=>?_,λd=>?_⟩
  .simp only[V7,V6]at d;have e:grant most rows agent boot now=(rows,En.z,false,22):=by unfold grant;rw[V0 hb];simp only;rw[V0 n1,V1 d]
   rw[e]at k;refine St2 h λ_ h=>?_;refine⟨_,_,_,Rs2,?_⟩
   exact k _ h.tl.tl
  have n2:¬(0<(bg rows agent).epoch/\boot<(bg rows agent).boot):=λa=>by simp[a.1,a.2]at d
  refine⟨_,λ_=>Ra2,?_⟩
  refine⟨λf=>?_,λf=>?_⟩
  .simp only[V7,V6]at f;have e:grant most rows agent boot now=(rows,En.z,false,17):=by unfold grant;rw[V0 hb];simp only;rw[V0 n1,V0 n2,pO]
   rw[e]at k;refine St2 h λ_ h=>?_;refine⟨_,_,_,Rs2,?_⟩
   exact k _ h.tl.tl
  have n3:¬((bg rows agent).epoch=1099511627776):=λa=>by simp[a]at f
  refine⟨λ_=>trivial,?_⟩;refine⟨_,λ_=>Ra3,?_⟩
  refine⟨_,λ_=>h.mp_len mt56 3 rfl,?_⟩
  refine⟨λ_=>trivial,?_⟩;refine⟨_,λ_=>Ra3,?_⟩
  refine⟨λc=>?_,λc=>?_⟩
  .simp only[V7,VY,V8,V6]at c;have e:grant most rows agent boot now=(rows,En.z,false,20):=by unfold grant;rw[V0 hb];simp only;rw[V0 n1,V0 n2,V0 n3,V1 ⟨by omega,c.2⟩]
   rw[e]at k;refine St2 h λ_ h=>?_;refine⟨_,_,_,Rs2,?_⟩
   exact k _ h.tl.tl
  have n4:¬((bg rows agent).epoch=0/\full most rows):=λa=>by
   have w:most<=((aR 0 rows).length:Int):=a.2;simp[a.1,w]at c
  have e:grant most rows agent boot now=(rows.set agent.toNat ⟨(bg rows agent).epoch+1,boot,now⟩,⟨(bg rows agent).epoch+1,boot,now⟩,true,0):=by
   unfold grant;rw[V0 hb];simp only;rw[V0 n1,V0 n2,V0 n3,V0 n4]
  rw[e]at k;have t:i64.wrap ((bg rows agent).epoch+1)=(bg rows agent).epoch+1:=aK;have j:agent.toNat<rows.length:=by simp only[bad,not_or,Int.not_lt]at hb;rw[ok.len];omega
  have hs:=AT (i:=0) (x:=⟨(bg rows agent).epoch+1,boot,now⟩) (by simp only;omega) j;rw[show ((0+agent.toNat:Nat):Int)=agent by omega]at hs;simp only[mapE]at k;rw[nB hs,<-t]at k
  repeat (first|refine⟨_,Ra3,?_⟩|refine St3 h λ_ h=>?_|refine⟨_,_,_,Rs3,?_⟩)
  refine h.mp_update (α:=En) (v:=⟨_,_,_⟩) mt56 ko2 3 rfl λ_ h=>?_
  repeat (first|refine St3 h λ_ h=>?_|refine⟨_,_,_,Rs3,?_⟩)
  exact k _ h.tl.tl
theorem Set_spec(ok:fR rows){agent:Int}{x:En}(h:aA H (rollC rb mb most::mapE mb rows::F))
  (k:∀f,aA f (rollC rb mb most::mapE mb (gD most rows agent x).1::F)->K (aB (gD most rows agent x).2) f) :
  CF 260 #[.pointer (some ⟨rb,0,none⟩),aB agent,aggE x] H K:=by
 refine cM 260 488750364 ?_;refine h.al λ_ _ h=>?_;refine⟨_,Ra1,?_⟩;refine⟨_,Ra1,?_⟩
 refine⟨_,JW,?_⟩;refine⟨_,λ_=>Ra1,?_⟩;refine⟨_,λ_=>Ra1,?_⟩
 refine⟨λd=>?_,λd=>?_⟩
 .have e:gD most rows agent x=(rows,11):=V1 (by
   simp only[VN,VY,Wm,V6,Bool.not_not]at d;omega)
  rw[e]at k;exact k _ h.tl
 .have n1:¬(bad agent x.boot x.time\/x.epoch<1\/1099511627776<x.epoch):=by
   simp only[VK,Bool.not_not,V8]at d;omega
  refine⟨_,Ra2,?_⟩;have j:=h.mp_get mt56 ko2 2 rfl (x:=agent);rw[uv ok,xg ok]at j;refine⟨_,_,_,_,j,?_⟩;refine h.al λ_ _ h=>?_;refine St2 h λ_ h=>?_
  refine⟨λa=>?_,λa=>?_⟩
  .have e:gD most rows agent x=(rows,18):=by unfold gD;rw[V0 n1,V1 (by simpa using a)]
   rw[e]at k;exact k _ h.tl.tl
  have n2:¬0<(bg rows agent).epoch:=by simpa using a
  refine⟨_,Ra3,?_⟩;refine⟨_,h.mp_len mt56 3 rfl,?_⟩;refine⟨_,Ra3,?_⟩;refine⟨λb=>?_,λb=>?_⟩
  .have e:gD most rows agent x=(rows,20):=by unfold gD;rw[V0 n1,V0 n2,V1 (by simpa using b)]
   rw[e]at k;exact k _ h.tl.tl
  have n3:¬full most rows:=by simpa using b
  have e:gD most rows agent x=(rows.set agent.toNat x,0):=by unfold gD;rw[V0 n1,V0 n2,V0 n3]
  rw[e]at k;refine⟨_,Ra3,?_⟩;refine⟨_,_,_,Rs3,?_⟩;refine h.mp_update (α:=En) (v:=x) mt56 ko2 3 rfl λ_ h=>?_
  have c:agent.toNat<rows.length:=by simp only[bad,not_or,Int.not_lt]at n1;rw[ok.len];omega
  have hs:=AT (i:=0) (x:=x) (by omega) c;rw[show ((0+agent.toNat:Nat):Int)=agent by simp only[bad,not_or,Int.not_lt]at n1;omega]at hs;refine k _ ?_;show aA _ (rollC rb mb most::mapA aB aggE mb (aR 0 (rows.set agent.toNat x))::F);rw[nB hs];exact h.tl.tl
end
section
variable {rb mb sb:Nat}{most:Int}{rows:List En}{F:List aE}{H:aD}{K:KE}
theorem Clone_spec(h:aA H (rollC rb mb most::mapE mb rows::F))
  (k:∀a b c,aA c (rollC a b most::mapE b rows::rollC rb mb most::mapE mb rows::F)->K (.pointer (some ⟨a,0,none⟩)) c) :
  CF 58 #[.pointer (some ⟨rb,0,none⟩)] H K:=by
 refine cM 58 28 ?_;refine⟨_,Ra1,?_⟩;refine⟨_,Ra1,?_⟩;refine Gi h 1 rfl λc h _=>⟨_,rfl,?_⟩
 refine⟨h.r 1,?_⟩;refine h.al λ_ _ h=>?_
 exact k _ _ _ h
theorem All_spec(h:aA H F)(k:∀c0 a,aA a (cellsA c0 [.pointer (some ⟨rb,0,none⟩)] 139::F)->K (.func (.func 114) #[] #[.pointer (some ⟨c0,0,none⟩)]) a) :
  CF 53 #[.pointer (some ⟨rb,0,none⟩)] H K:=by
 refine cM 53 28 ?_;refine h.al λ_ _ h=>?_
 exact k _ _ h
theorem All1_spec{l c0:Nat}(ok:fR rows)(A:Nat->aE)(C:aE)
  (h:aA H (A 0::cellsA c0 [.pointer (some ⟨rb,0,none⟩)] 139::rollC rb mb most::mapE mb rows::F))
  (P:∀j (M:j<(aR 0 rows).length) (G:List aE) (w:aD) (y:KE),aA w (A j::G)->(∀f,aA f (A (j+1)::G)->y (.bool true) f)->(∀f,aA f (C::G)->y (.bool false) f)->
   fL Tryz.prog l [aB (aR 0 rows)[j].1,aggE (aR 0 rows)[j].2] w y)
  (k:∀d,aA d (A (aR 0 rows).length::cellsA c0 [.pointer (some ⟨rb,0,none⟩)] 139::rollC rb mb most::mapE mb rows::F)->K (.tuple #[]) d)
  (J:∀d,aA d (C::cellsA c0 [.pointer (some ⟨rb,0,none⟩)] 139::rollC rb mb most::mapE mb rows::F)->K (.tuple #[]) d) :
  CF 114 #[.func (.yield l) #[] #[],.pointer (some ⟨c0,0,none⟩)] H K:=by
 refine cN 114 0x11561239925113994 [[(15,sI)]] ?_;have O:=xh ok;refine⟨_,Ra3,?_⟩;refine⟨_,Ra3,?_⟩;refine Gi h 3 rfl λw E _=>⟨_,rfl,?_⟩
 refine Pg ⟨_,_,rfl,?_⟩;refine Ph E 0 rfl (λx Q=>?_) (by omega) λa c f D _=>⟨_,_,_,rfl,?_⟩
 .obtain⟨p,N,rfl⟩:=VB.1 Q;have:=pA N;have:=ok.len;unfold aF;omega
 rw[Tj]at D;refine⟨λt d=>∃j:Nat,t=j/\j<=(aR 0 rows).length/\aA d (A j::slA 2 1 a (aR 0 rows).length c ((aG (aR 0 rows)).map aB)::mapA aB aggE H.size (aR 0 rows)::cellsA c0 [.pointer (some ⟨rb,0,none⟩)] 139::rollC rb mb most::mapE mb rows::F),
  λt _=>(aR 0 rows).length-t.toNat,⟨0,rfl,VX _,D.o [2,0,1] 3⟩,?_⟩
 rintro t I ⟨j,rfl,M,s⟩;refine⟨λB=>?_,λB=>?_⟩
 .have b:j<(aR 0 rows).length:=by have:=V4 B;omega
  have e:=(s.sl_rd 1 rfl).at (j:=j) (by simpa[aG] using b);have i:(aG (aR 0 rows))[j]'(by simpa[aG] using b)=(aR 0 rows)[j].1:=by simp[aG]
  rw[i]at e;have m:=s.mp_get1 mt56 ko2 2 rfl (x:=(aR 0 rows)[j].1);have n:((aR 0 rows)[j].1,(aR 0 rows)[j].2)∈aR 0 rows:=VF b;rw[nA xf n]at m;refine⟨⟨by omega,by omega⟩,_,_,e.1,_,e.2,_,_,_,m,?_⟩;refine P j b _ I _ s (λL u=>⟨true,rfl,λv=>(by cases v),λ_=>?_⟩) λL u=>⟨false,rfl,λ_=>?_,λv=>(by cases v)⟩
  .conv=>whnf
   rw[aK];exact⟨⟨j+1,rfl,b,u⟩,by simp only;omega⟩
  .exact J _ (u.o [0] 3)
 .obtain rfl:j=(aR 0 rows).length:=by have:=V5 B;omega
  exact k _ (s.o [0] 3)
end
end Ro
end Go.Proofs.YtaaieblnikcndaaGreatDoor
