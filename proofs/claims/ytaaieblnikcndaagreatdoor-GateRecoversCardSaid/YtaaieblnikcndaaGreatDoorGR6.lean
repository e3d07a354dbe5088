/-
  Lemmas for GateRecovers: part 6 of what it rests on. Conditions: none.
-/
import Derived.Test.YtaaieblnikcndaaGreatDoorGR5
set_option linter.unusedVariables false
set_option linter.unusedSimpArgs false
set_option maxRecDepth 100000
set_option maxHeartbeats 16000000
open Go.IntKind (i64 u64 i8 u8 i32 u32 i16 u16)
namespace Go.Proofs.YtaaieblnikcndaaGreatDoor
open Go
def evOk(e:Ev):Bool:=decide (0<=e.stamp)&&decide (e.stamp<=4611686018427387903)&&fw e.name e.labs
def iD(next:Int)(evs:List Ev):Bool:=decide (1<=evs.length)&&decide (evs.length<=64)&&decide (next<=1099511627776-evs.length)&&evs.all evOk
structure lP(F:List aE)(a:KQ)(evs:List Ev):Prop where
 rd:∀H,aA H F->aP H a (flat cx evs)
 labs:∀e∈evs,∀H,aA H F->aP H e.la (flat dg e.labs)
theorem lP.cons{F:List aE}{a:KQ}{evs:List Ev}(h:lP F a evs)(A:aE):lP (A::F) a evs:=
 ⟨λH b=>h.rd H b.tl,λe c H b=>h.labs e c H b.tl⟩
theorem Av(x:Fa):ov x x=0:=by
 unfold ov;have h:Op.bytesLess x.toList x.toList=false:=by
  have:=ltKy ⟨0,x⟩ ⟨0,x⟩
  cases e:Op.bytesLess x.toList x.toList
  .rfl
  .exfalso;have a:=(sg ⟨0,x⟩ ⟨0,x⟩).1 (by rw[this,e];simp)
   rcases a with a|⟨-,a⟩
   .exact V6 a (by show ¬(0:Int)<0;omega)
   .exact List.lt_irrefl _ a
 rw[h];simp
section
variable {F L:List aE}{H:aC}{K:KE}
theorem Aw{x y:Fa}:bV Tryz.prog 221 #[.string x,.string y] H (aD (ov x y)):=by
 unfold bV;refine .mk λw a=>?_
 subst a;refine jk (cmp183 x y w) ?_;rintro e b ⟨rfl,rfl⟩;exact⟨_,rfl,⟨rfl,rfl,rfl⟩,rfl,rfl⟩
theorem Jq{b:Nat}{x y:Int}(h:aA H F)(i:Nat)(k:aW i F=cellsA b [aD x,aD y] 3):bV Tryz.prog 326 #[.slice (some ⟨b,0,none⟩) 2 2] H (aD (if x≠0 then x else y)):=by
 refine cN 326 0x11215612399251b4c [[(8,sI)]] ?_;refine⟨λi m=>m=H/\(i=0\/i=1/\x=0\/i=2/\x=0/\y=0),λi _=>2-i.toNat,⟨rfl,.inl rfl⟩,?_⟩
 rintro j n ⟨rfl,f⟩;refine⟨λa=>?_,λa=>?_⟩
 .have a:=V8 a;refine⟨by omega,b,0,rfl,?_⟩
  rcases f with rfl|⟨rfl,d⟩|⟨rfl,_⟩
  .refine⟨x,h.rd i k 0,λc=>?_,λc=>?_⟩
   .rw [V5 (by simpa using c)];exact⟨rfl,rfl⟩
   .exact⟨⟨rfl,.inr (.inl ⟨rfl,by simpa using c⟩)⟩,by dsimp only;decide⟩
  .refine⟨y,h.rd i k 1,λc=>?_,λc=>?_⟩
   .rw [V4 (by simpa using d)];exact⟨rfl,rfl⟩
   .exact⟨⟨rfl,.inr (.inr ⟨rfl,d,by simpa using c⟩)⟩,by dsimp only;decide⟩
  .exact V6 a (by decide)
 .have a:=V9 a;have e:x=0/\y=0:=by
   rcases f with rfl|⟨rfl,d⟩|⟨rfl,d⟩
   .exact V6 (by decide) a
   .exact V6 (by decide) a
   .exact d
  rw[e.1,e.2];exact⟨rfl,rfl⟩
theorem S5{l:bS}(h:aA H F)(k:∀a,aA a F->K (aD 0) a):CF 363 #[.agg #[.string l.name,.string l.value],.agg #[.string l.name,.string l.value]] H K:=by
 refine cM 363 28 ?_;refine h.al λb _ h=>?_
 refine h.al λb1 _ h=>⟨_,h.r 1,_,h.r 0,_,Aw,?_⟩
 rw[Av];exact k _ h.tl.tl
theorem S6{l:bS}(h:aA H F)(k:∀a,aA a F->K (aD 0) a):CF 328 #[.agg #[.string l.name,.string l.value],.agg #[.string l.name,.string l.value]] H K:=by
 refine cM 328 28 ?_;refine h.al λb _ h=>?_
 refine h.al λb1 _ h=>⟨_,_,h.q 1,_,_,h.q 0,_,h.r 1,_,h.r 0,?_⟩
 refine S5 h λc h=>⟨_,rfl,h.r 0,h.r 1,_,Aw,?_⟩
 rw[Av];refine h.al λb2 _ h=>⟨_,Jq h 0 rfl,?_⟩
 exact k _ h.tl.tl.tl
theorem S7{a:KQ}{c s:Nat}{labs:List bS}(h:aA H F)(n:∀H,aA H F->aP H a (flat dg labs))(u:labs.length<=1000000)(k:∀m,aA m F->K (aD 0) m) :
  CF 327 #[.slice a labs.length c,.slice a labs.length s,.func (.func 328) #[] #[]] H K:=by
 refine cN 327 0x1215612399251d11b4dc [[(13,sI)]] ?_;refine⟨λi m=>∃j:Nat,i=j/\j<=labs.length/\aA m F,λi _=>labs.length-i.toNat,⟨0,rfl,by omega,h⟩,?_⟩
 rintro i w ⟨j,rfl,v,h⟩;refine⟨λe=>?_,λe=>⟨λe=>V6 (V8 e) (by omega),λ_=>k _ h⟩⟩
 have d:j<labs.length:=by have:=V8 e;omega
 have f:=n _ h;refine⟨by omega,_,_,f.some iV (by omega) d,_,_,f.els iV d,?_⟩;refine h.al λb _ h=>?_
 refine h.st 0 rfl rfl ?_;intro y h;have f:=n _ h.tl;refine⟨λe=>V6 (V8 e) (by omega),λ_=>⟨by omega,_,_,f.some iV (by omega) d,_,_,f.els iV d,?_⟩⟩
 refine h.al λb1 _ h=>?_
 refine h.st 0 rfl rfl ?_;intro t h;refine⟨_,_,h.q 1,_,_,h.q 0,rfl,?_⟩;refine S6 (l:=labs[j]) h λA h=>⟨_,rfl,λe=>V6 e (by simp),λ_=>?_⟩
 conv=>whnf
 rw[aJ (x:=(j:Int)+1)];exact⟨⟨j+1,by omega,d,h.tl.tl⟩,by dsimp only;omega⟩
theorem Ay{name:Fa}{a:KQ}{c i:Nat}{labs:List bS}(h:aA H F)(e:∀H,aA H F->aP H a (flat dg labs))(f:labs.length<=1000000)(k:∀d,aA d F->K (aD 0) d) :
  CF 284 #[.agg #[.string name,.slice a labs.length c],.agg #[.string name,.slice a labs.length i]] H K:=by
 refine cM 284 28 ?_;refine h.al λb _ h=>?_
 refine h.al λb1 _ h=>⟨_,h.r 1,_,h.r 0,_,Aw,_,_,_,h.r 1,_,_,_,h.r 0,?_⟩
 rw[Av];refine S7 h (λH h=>e H h.tl.tl) f λj h=>⟨_,rfl,?_⟩
 refine h.al λb2 _ h=>⟨_,Jq h 0 rfl,?_⟩
 exact k _ h.tl.tl.tl
theorem S8{e:Ev}(h:aA H F)(c:∀H,aA H F->aP H e.la (flat dg e.labs))(d:e.labs.length<=1000000)(k:∀a,aA a F->K (.bool true) a):CF 283 #[aggV e,aggV e] H K:=by
 refine cN 283 4745 [[(4,sB)]] ?_;refine h.al λb _ h=>?_
 refine h.al λb1 _ h=>?_
 intro m f;have e1:(decide (e.stamp=e.stamp)&&decide (e.value=e.value))=true:=by simp
 refine⟨_,h.r 1,_,h.r 0,_,λ_=>h.r 1,_,λ_=>h.r 0,_,_,_,_,λ_=>h.q 1,_,_,_,_,λ_=>h.q 0,λ_=>?_,λi=>V6 e1 i⟩
 refine Ay h (λH h=>c H h.tl.tl) d λj h=>⟨_,rfl,f _ _ ?_⟩
 exact k _ h.tl.tl
theorem Jr{a:KQ}{c u:Nat}{evs:List Ev}(h:aA H F)(s:lP F a evs)(A:evs.length<=1000000)(t:∀e∈evs,e.labs.length<=1000000)(k:∀n,aA n F->K (.bool true) n) :
  CF 282 #[.slice a evs.length c,.slice a evs.length u,.func (.func 283) #[] #[]] H K:=by
 refine cN 282 0x1d2156123992511b4c [[(17,sI)]] ?_;refine⟨λf=>V6 f (by simp),λ_=>?_⟩
 refine⟨λi n=>∃j:Nat,i=j/\j<=evs.length/\aA n F,λi _=>evs.length-i.toNat,⟨0,rfl,by omega,h⟩,?_⟩
 rintro i y ⟨j,rfl,w,h⟩;refine⟨λf=>?_,λf=>k _ h⟩
 have d:j<evs.length:=by have:=V8 f;omega
 have m:=s.rd _ h;refine⟨by omega,_,_,m.some fG (by omega) d,_,_,_,_,_,_,m.els fG d,?_⟩;refine h.al λb _ h=>?_
 refine h.st 0 rfl rfl ?_;intro B h;have m:=s.rd _ h.tl;refine⟨by omega,_,_,m.some fG (by omega) d,_,_,_,_,_,_,m.els fG d,?_⟩;refine h.al λb1 _ h=>?_
 refine h.st 0 rfl rfl ?_;intro v h;refine⟨_,_,_,_,_,_,h.q 1,_,_,_,_,_,_,h.q 0,rfl,?_⟩;refine S8 (e:=evs[j]) h (λH h=>s.labs _ (VL d) H h.tl.tl) (t _ (VL d)) λC h=>⟨_,rfl,λf=>V6 f (by simp),λ_=>?_⟩
 conv=>whnf
 rw[aJ (x:=(j:Int)+1)];exact⟨⟨j+1,by omega,d,h.tl.tl⟩,by dsimp only;omega⟩
theorem Js{next:Int}{a:KQ}{c:Nat}{evs:List Ev}(h:aA H F)(A:lP F a evs)(I:evs.length<=1099511627776)(k:∀t,aA t F->K (.bool (iD next evs)) t) :
  CF 225 #[aD next,.slice a evs.length c] H K:=by
 refine cN 225 0x1d215612399251283c94c [[(41,sB)],[(24,sI)]] ?_;have B:i64.wrap (1099511627776-(evs.length:Int))=1099511627776-(evs.length:Int):=aJ
 conv=>whnf
 rw[B];refine⟨λf=>?_,λf=>?_⟩
 .have:iD next evs=false:=by
   simp only[VR,VA]at f
   cases e:iD next evs
   .rfl
   .unfold iD at e;simp only[VB,VA]at e;omega
  rw[this]at k;exact k _ h
 .simp only[VP,VD]at f;have w:iD next evs=evs.all evOk:=by
   unfold iD;rw[VS (by omega),VS (by omega),VS (by omega)];simp
  refine⟨λi t=>∃j:Nat,i=j/\j<=evs.length/\(∀q (s:q<evs.length),q<j->evOk evs[q]=true)/\aA t F,λi _=>evs.length-i.toNat,⟨0,rfl,by omega,λq _ h=>by omega,h⟩,?_⟩
  rintro i J ⟨j,rfl,M,y,h⟩;refine⟨λf=>?_,λf=>?_⟩
  .have d:j<evs.length:=by have:=V8 f;omega
   have v:=A.rd _ h;refine⟨by omega,_,_,v.some fG (by omega) d,_,_,_,_,_,_,v.els fG d,?_⟩;refine h.al λb _ h=>?_
   refine h.st 0 rfl rfl ?_;intro L h;intro D C;have n:∀u,aA u F->D (!evOk evs[j]) u:=by
    intro u h;refine C _ _ ?_;refine⟨λm=>?_,λm=>?_⟩
    .have:iD next evs=false:=by rw[w];exact wN d (by simpa using m)
     rw[this]at k;exact k _ h
    .conv=>whnf
     rw[aJ (x:=(j:Int)+1)];refine⟨⟨j+1,by omega,d,λq s E=>?_,h⟩,by dsimp only;omega⟩
     by_cases hqj:q=j
     .subst hqj;simpa using m
     .exact y q s (by omega)
   refine⟨_,h.r 0,_,λ_=>h.r 0,_,_,_,_,λ_=>h.q 0,λm=>?_,λm=>?_⟩
   .refine qF h (λH h=>A.labs _ (VL d) H h.tl) λu h=>⟨_,rfl,?_⟩
    have e:evOk evs[j]=fw evs[j].name evs[j].labs:=by
     simp only[VP,VD]at m;unfold evOk;rw[VS (by omega),VS (by omega)];simp
    rw[<-e];exact n _ h.tl
   .have e:evOk evs[j]=false:=by
     unfold evOk;simp only[VP,VD]at m;simp only[Wo,VD];omega
    have:=n _ h.tl;rw[e]at this;exact this
  .have G:evs.length<=j:=by have:=V9 f;omega
   have:iD next evs=true:=by rw[w];exact Aj λq s=>y q s (by omega)
   conv=>whnf
   rw[this]at k;exact k _ h
end
abbrev fbC(ag ep next:Int)(a:KQ)(n c:Nat):Os:=
 [aD 5,aD ag,aD ep,aD 0,aD 0,aD 0,aD 0,aD next,aD 0,aD 0,.slice a n c,.string (⟨#[]⟩:Fa),.slice none 0 0,.slice none 0 0]
section
variable {F L:List aE}{H:aC}{K:KE}
theorem wU{f0 f1 f2 f3 f4 f5 f6 f7 f8 f9:Int}{n:KQ}{i a:Nat}{s:Fa}{m:KQ}{f d:Nat}{e:KQ}{j c:Nat}(h:aA H F)
  (k:∀t,aA t F->K (.agg #[aD f3,aD f4,aD f5,aD f6,aD f7,aD f8,aD f9]) t) :
  CF 281 ⟨[(.agg #[(aD f0),(aD f1),(aD f2),(aD f3),(aD f4),(aD f5),(aD f6),(aD f7),(aD f8),(aD f9),(.slice n i a),(.string s),(.slice m f d),(.slice e j c)])]⟩ H K:=by
 refine cM 281 28 ?_;refine h.al λb _ h=>?_
 refine h.al λb1 _ h=>?_
 refine⟨_,h.r 1,_,h.r 1,_,h.r 1,_,h.r 1,_,h.r 1,_,h.r 1,_,h.r 1,?_⟩;refine h.st 0 rfl rfl ?_;intro u h;exact⟨_,_,_,_,_,_,_,h.q 0,k _ h.tl.tl⟩
theorem eq314{a b c d e f g:Int}:iL Tryz.prog .eql 468 (.agg #[aD a,aD b,aD c,aD d,aD e,aD f,aD g]) (.agg #[aD a,aD b,aD c,aD d,aD e,aD f,aD g]) true:=by
 have h:=(yR (P:=Tryz.prog) (t:=468) (xs:=[aD a,aD b,aD c,aD d,aD e,aD f,aD g]) (ys:=[aD a,aD b,aD c,aD d,aD e,aD f,aD g])
  (r:=(a == a&&(b == b&&(c == c&&(d == d&&(e == e&&(f == f&&(g == g&&true)))))))) (by kernel_rfl)).1
 simpa using h
theorem eq102{a b c:Int}:iL Tryz.prog .eql 76 (.agg #[aD a,aD b,aD c]) (.agg #[aD a,aD b,aD c]) true:=by
 have h:=(tE (P:=Tryz.prog) (t:=76) (xs:=[aD a,aD b,aD c]) (ys:=[aD a,aD b,aD c]) (r:=(a == a&&(b == b&&(c == c&&true)))) (by kernel_rfl)).1;simpa using h
theorem Az{a b:KQ}{c d:Nat}{xs ys:List Int}(h:a=none\/∃k o,a=some ⟨k,o,none⟩)(f:b=none\/∃k o,b=some ⟨k,o,none⟩)(e:aP H a (xs.map U8))(hb:aP H b (ys.map U8))
  (k:K (.bool ((bG xs).toList == (bG ys).toList)) H):CF 208 #[.slice a xs.length c,.slice b ys.length d] H K:=
 cM 208 28 ⟨_,rR h e,_,rR f hb,k⟩
theorem S9{ag ep next:Int}{a:KQ}{c:Nat}{evs:List Ev}(h:aA H F)(n:lP F a evs)(j:evs.length<=1000000)(f:∀e∈evs,e.labs.length<=1000000)(k:∀i,aA i F->K (.bool true) i) :
  CF 227 #[.agg ⟨fbC ag ep next a evs.length c⟩,.agg ⟨fbC ag ep next a evs.length c⟩] H K:=by
 refine cN 227 4745 [[(4,sB)]] ?_;refine h.al λb _ h=>?_
 refine h.al λb1 _ h=>?_
 intro u m;refine⟨_,_,_,h.q 1,_,_,_,h.q 0,true,eq102,_,_,_,_,_,_,_,_,_,_,_,_,_,_,_,_,_,_,_,_,λ_=>h.q 1,_,_,_,_,_,_,_,_,_,_,_,_,_,_,_,_,_,_,_,_,λ_=>h.q 0,λ_=>?_,λd=>V6 rfl d⟩
 refine wU h λv h=>⟨_,_,_,_,_,_,_,rfl,λ_=>h.q 0,?_⟩
 refine wU h λt h=>⟨_,_,_,_,_,_,_,rfl,true,eq314,_,_,_,λ_=>h.r 1,_,_,_,λ_=>h.r 0,λ_=>?_,λd=>V6 rfl d⟩
 refine Jr h ((n.cons _).cons _) j f λw h=>⟨_,rfl,_,_,_,_,λ_=>h.q 1,_,_,_,_,λ_=>h.q 0,λ_=>?_,λd=>V6 rfl d⟩
 refine Ay (labs:=[]) h (λH h=>iv H none) (by simp) λs h=>⟨_,rfl,_,_,_,λ_=>h.r 1,_,_,_,λ_=>h.r 0,λ_=>?_,λd=>V6 (by simp) d⟩
 refine Az (xs:=[]) (ys:=[]) (.inl rfl) (.inl rfl) (iv _ none) (iv _ none) ⟨_,rfl,m _ _ ?_⟩;have:=k _ h.tl.tl;have e:((bG []).toList == (bG []).toList)=true:=by simp
 rw[e];exact this
theorem Jt{b o:Nat}{e:Nat}{cs:Os}(h:aA H F)(i:Nat)(d:aW i F=cellsA b cs e)(a:aT cs 0=some (aD 5))
  (k:∀p c,aA c (cellsA p [PA b 1,PA b 2,PA b 7] 297::F)->K (.slice (some ⟨p,0,none⟩) 3 3) c):CF 170 #[PA b 0] H K:=by
 refine cN 170 0x121513c13c13c13c217943c13cbc [[(68,sB)]] ?_;refine⟨5,(h.rd i d 0).trans a,λa=>V6 a (by decide),λ_=>⟨λa=>V6 a (by decide),λ_=>⟨λa=>V6 a (by decide),λ_=>⟨λa=>V6 a (by decide),λ_=>?_⟩⟩⟩⟩
 intro j f;refine⟨λ_=>f _ _ ?_,λa=>V6 a (by decide)⟩
 refine⟨λ_=>?_,λa=>V6 a (by decide)⟩
 refine h.al λp _ h=>?_
 exact k _ _ h
def mL(next:Int)(evs:List Ev):Bool:=decide (0<=next)&&decide (next<=4611686018427387903)&&iD next evs
theorem SB{next:Int}{evs:List Ev}:mL next evs=(decide (0<=next)&&iD next evs):=by
 unfold mL iD;rw[Wp];simp only[VB,VA]
 constructor
 .rintro⟨⟨h1,h2⟩,h3⟩;exact⟨h1,h3⟩
 .rintro⟨h1,h3⟩;exact⟨⟨h1,by omega⟩,h3⟩
theorem Ju{next:Int}{a:KQ}{c:Nat}{evs:List Ev}(h:aA H F)(v:lP F a evs)(B:evs.length<=1099511627776)(k:∀f,aA f F->K (.bool (mL next evs)) f) :
  CF 137 #[.agg ⟨fbC 0 0 next a evs.length c⟩] H K:=by
 refine cN 137 0x11d11215612399251d4421517b171b217947b171b9c [[],[],[(88,sB)],[],[],[(43,sI)]] ?_;refine h.al λb _ h=>?_
 refine Jt (o:=0) h 0 rfl rfl λp D h=>⟨_,_,_,rfl,_,λ_=>h.r 1,_,λ_=>h.r 1,_,λ_=>h.r 1,_,λ_=>h.r 1,λd=>V6 d (by simp),λ_=>⟨_,h.r 1,?_⟩⟩
 refine h.al λb1 _ h=>?_
 refine h.st 0 rfl rfl ?_;intro J h;refine Jt (o:=0) h 0 rfl rfl λp1 I h=>⟨_,_,_,rfl,?_⟩
 refine⟨λi f=>(i=0\/i=1\/i=2\/i=3)/\((i=3->0<=next/\next<=4611686018427387903))/\
  aA f (cellsA p1 [PA b1 1,PA b1 2,PA b1 7] 297::cellsA b1 (fbC 0 0 (if i=3 then next else 0) none 0 0) 81::cellsA p [PA b 1,PA b 2,PA b 7] 297::cellsA b (fbC 0 0 next a evs.length c) 81::F),
  λi _=>3-i.toNat,⟨.inl rfl,λh=>V6 h (by decide),h⟩,?_⟩
 rintro i M ⟨hi,j,h⟩;refine⟨λd=>?_,λd=>?_⟩
 .have d:=V8 d
  rcases hi with rfl|rfl|rfl|rfl
  .refine⟨by decide,_,_,rfl,_,h.rd 2 rfl _,⟨_,h.r 3,λ_=>trivial,_,λ_=>h.r 3,λd=>V6 d (by decide),λ_=>⟨by decide,_,_,rfl,_,h.rd 0 rfl _,⟨_,h.r 3,?_⟩⟩⟩⟩
   refine h.st 1 rfl rfl ?_;intro s h;exact⟨⟨.inr (.inl (by decide)),λh=>V6 h (by decide),h⟩,by dsimp only;decide⟩
  .refine⟨by decide,_,_,rfl,_,h.rd 2 rfl _,⟨_,h.r 3,λ_=>trivial,_,λ_=>h.r 3,λd=>V6 d (by decide),λ_=>⟨by decide,_,_,rfl,_,h.rd 0 rfl _,⟨_,h.r 3,?_⟩⟩⟩⟩
   refine h.st 1 rfl rfl ?_;intro s h;exact⟨⟨.inr (.inr (.inl (by decide))),λh=>V6 h (by decide),h⟩,by dsimp only;decide⟩
  .refine⟨by decide,_,_,rfl,_,h.rd 2 rfl _,⟨_,h.r 3,λ_=>trivial,_,λ_=>h.r 3,λd=>?_,λd=>⟨by decide,_,_,rfl,_,h.rd 0 rfl _,⟨_,h.r 3,?_⟩⟩⟩⟩
   .have:mL next evs=false:=by
     simp only[VR,VA]at d;unfold mL;simp only[Wo,VD];omega
    rw[this]at k;exact k _ h.tl.tl.tl.tl
   .simp only[VP,VD]at d;refine h.st 1 rfl rfl ?_;intro s h;exact⟨⟨.inr (.inr (.inr (by decide))),λ_=>by omega,h⟩,by dsimp only;decide⟩
  .exact V6 d (by decide)
 .have d:=V9 d;have m:i=3:=by
   rcases hi with rfl|rfl|rfl|rfl
   .exact V6 (by decide) d
   .exact V6 (by decide) d
   .exact V6 (by decide) d
   .rfl
  subst m;have j:=j rfl;rw[V5 rfl]at h;have w:mL next evs=iD next evs:=by
   unfold mL;rw[VS j.1,VS j.2];simp
  refine⟨_,h.r 3,?_⟩;intro E x;refine⟨λd=>V6 d (by decide),λ_=>?_⟩
  intro C n;refine⟨λ_=>⟨_,_,_,h.r 3,?_⟩,λd=>V6 d (by decide)⟩
  refine h.st 1 rfl rfl ?_;intro s h;refine⟨_,h.r 3,_,_,_,h.r 3,?_⟩;refine Js h ((((v.cons _).cons _).cons _).cons _) B λG h=>⟨_,rfl,λd=>?_,λd=>?_⟩
  .have:mL next evs=false:=by rw[w];simpa using d
   rw[this]at k;exact k _ h.tl.tl.tl.tl
  .have hb:iD next evs=true:=by simpa using d
   refine n _ (x _ ?_);refine⟨_,_,_,_,_,_,_,_,_,_,_,_,_,_,_,_,_,_,_,_,h.q 3,_,_,_,_,_,_,_,_,_,_,_,_,_,_,_,_,_,_,_,_,h.q 1,?_⟩;have y:evs.length<=64:=by
    unfold iD at hb;simp only[VB,VA]at hb;omega
   have u:∀e∈evs,e.labs.length<=1000000:=by
    intro e A;unfold iD at hb;rw[VB,Wt]at hb;have t:=hb.2 e A;unfold evOk at t;rw[VB]at t;have:=(mJ t.2).len;omega
   refine S9 h ((((v.cons _).cons _).cons _).cons _) (by omega) u λL h=>⟨_,rfl,?_⟩
   have:mL next evs=true:=by rw[w,hb]
   conv=>whnf
   rw[this]at k;exact k _ h.tl.tl.tl.tl
end
section
variable {F L:List aE}{H:aC}{K:KE}
theorem SE{a:KQ}{c:Nat}{l:List Ev}(h:aA H F)(n:∀H,aA H F->aP H a (flat cx l))(w:l.length<=1000000)
  (k:∀e f d,aA d (slA 99 4 e l.length f (flat cx l)::F)->K (.slice e l.length f) d):CF 237 #[.slice a l.length c] H K:=by
 refine cM 237 476 ⟨λj=>?_,λj=>?_⟩
 .have:a=none:=by simpa using j
  subst this;have v:=ol (n H h);have:l=[]:=by
   have:=congrArg List.length v;rw[fg fG]at this;exact WN (by simp at this;omega)
  subst this;exact k none 0 H (h.sl_nil 99 4)
 .refine h.al λb _ h=>?_
  have s:=n _ h.tl;have u:=aA.sl_pt (cs:=[]) h 4 0 rfl
  conv=>whnf
  refine aA.append (m:=l.length) sl44 u 0 rfl s (fg fG l) (lC Ad l) (by omega) (by omega) λe f d t=>⟨_,_,_,rfl,?_⟩
  have i:aA d (slA 99 4 e (0+l.length) f ([]++flat cx l)::F):=t;rw[VX,Wl]at i;have:=k e f d i;rw[<-VX l.length]at this;exact this
theorem Jv{a:KQ}{c:Nat}{l:List Ot}(h:aA H F)(n:∀H,aA H F->aP H a (flat cJ l))(w:l.length<=1000000)
  (k:∀e f d,aA d (slA 164 74 e l.length f (flat cJ l)::F)->K (.slice e l.length f) d):CF 61 #[.slice a l.length c] H K:=by
 refine cM 61 476 ⟨λj=>?_,λj=>?_⟩
 .have:a=none:=by simpa using j
  subst this;have v:=ol (n H h);have:l=[]:=by
   have:=congrArg List.length v;rw[fg iW]at this;exact WN (by simp at this;omega)
  subst this;exact k none 0 H (h.sl_nil 164 74)
 .refine h.al λb _ h=>?_
  have s:=n _ h.tl;have u:=aA.sl_pt (cs:=[]) h 74 0 rfl
  conv=>whnf
  refine aA.append (m:=l.length) sl86 u 0 rfl s (fg iW l) (lC sf l) (by omega) (by omega) λe f d t=>⟨_,_,_,rfl,?_⟩
  have i:aA d (slA 164 74 e (0+l.length) f ([]++flat cJ l)::F):=t;rw[VX,Wl]at i;have:=k e f d i;rw[<-VX l.length]at this;exact this
theorem SG{a:KQ}{c:Nat}{l:List Ot}{j:Nat}(u:j<=l.length)(h:aA H (slA 164 74 a l.length c (flat cJ l)::F))
  (k:∀b,aA b (slA 164 74 a (l.length-j) c (flat cJ (l.drop j))::F)->K (.slice a (l.length-j) c) b):CF 73 #[.slice a l.length c,aD 0,aD j] H K:=by
 have s:=h.sl_nc 0 rfl;refine cM 73 18682140 ?_;refine⟨⟨by omega,by omega,by omega,by omega⟩,λd=>?_,λd=>?_⟩
 .have:j=0:=by simp only[VA]at d;omega
  subst this;exact k H h
 .have hj0:0<j:=by simp only[VD]at d;omega
  refine⟨⟨by omega,by omega,by omega⟩,⟨by omega,by omega,by omega⟩,?_⟩;have e:=h.sl_rd 0 rfl;have hs:=e.some iW (by omega) (k:=0) (by omega);have e0:cq a 0 c 74=a:=by
   unfold cq;rw[nO,hs,Wj,iQ];simp
  have i:=e.subK (k:=j) (c:=c) (sz:=74) (by rw[fg iW];omega);rw[tv iW]at i;have m:=h.sl_take 0 rfl 0 (by omega);simp only[Yl,Yi]at m;show cB Tryz.prog (Builtin.append_ #[143,143] 143 #[.slice (cq a 0 c 74) 0 c,.slice (cq a j c 74) (l.length-j) (c-j)]) H _;rw[e0];refine aA.appendIn sl86 m 0 rfl i (by rw[fg iW,VU]) (lC sf _) (by omega) λb n=>⟨_,_,_,rfl,⟨by omega,by omega,by omega⟩,?_⟩
  rw[VX];have f:aA b (slA 164 74 a (0+(l.length-j)) c ([]++flat cJ (l.drop j))::F):=n;rw[VX,Wl]at f;exact aA.clearS sl86 (by kernel_rfl) f 0 rfl (by omega) λ_ v t=>k _ t
theorem SN{a:KQ}{c:Nat}{l:List bS}(h:aA H F)(n:∀H,aA H F->aP H a (flat dg l))(w:l.length<=1000000)
  (k:∀e f d,aA d (slA 421 2 e l.length f (flat dg l)::F)->K (.slice e l.length f) d):CF 238 #[.slice a l.length c] H K:=by
 refine cM 238 476 ⟨λj=>?_,λj=>?_⟩
 .have:a=none:=by simpa using j
  subst this;have v:=ol (n H h);have:l=[]:=by
   have:=congrArg List.length v;rw[fg iV]at this;exact WN (by simp at this;omega)
  subst this;exact k none 0 H (h.sl_nil 421 2)
 .refine h.al λb _ h=>?_
  have s:=n _ h.tl;have u:=aA.sl_pt (cs:=[]) h 2 0 rfl
  conv=>whnf
  refine aA.append (m:=l.length) sl91 u 0 rfl s (fg iV l) (lC Ac l) (by omega) (by omega) λe f d t=>⟨_,_,_,rfl,?_⟩
  have i:aA d (slA 421 2 e (0+l.length) f ([]++flat dg l)::F):=t;rw[VX,Wl]at i;have:=k e f d i;rw[<-VX l.length]at this;exact this
theorem SP{Q:aE}{a:KQ}{c:Nat}{l:List bS}(h:aA H (Q::F))(f:∀H,aA H (Q::F)->aP H a (flat dg l))(i:l.length<=1000000)
  (k:∀Q' b e d,aM Q Q'->KIn Q' b (flat dg l)->aA d (Q'::F)->K (.slice b l.length e) d):CF 238 #[.slice a l.length c] H K:=
 SN h f i λb e d h=>k _ b e d (aM.add _ Q) KIn.sl (gy.2 h)
end
structure Pv where
 stamp:Int
 value:Int
 name:Fa
 labs:List bS
def Ev.p(e:Ev):Pv:=⟨e.stamp,e.value,e.name,e.labs⟩
section
variable {α β:Type}
def eM(f:α->β)(l:cy α):cy β:=l.map λp=>(p.1,f p.2)
def mapH(f:α->β)(s:HS α):HS β:=⟨s.next,s.most,eM f s.rows⟩
theorem SQ(f:α->β)(l:cy α):aG (eM f l)=aG l:=by simp[eM,aG,Wu,Function.comp_def]
theorem A0(f:α->β)(l:cy α):(eM f l).length=l.length:=VM ..
theorem Jw(f:α->β)(n:Int)(v:α):∀l:cy α,ins n (f v) (eM f l)=eM f (ins n v l)
 | []=>rfl
 | (a,b)::r=>by
  have c:=Jw f n v r;show (if n<a then _ else _)=eM f (if n<a then _ else _)
  split
  .rfl
  .show (a,f b)::ins n (f v) (eM f r)=(a,f b)::eM f (ins n v r);rw[c]
theorem Jx(f:α->β)(n:Int):∀l:cy α,aK n (eM f l)=(aK n l).map f
 | []=>rfl
 | (a,b)::r=>by
  have c:=Jx f n r;show aK n ((a,f b)::eM f r)=_;unfold aK
  split
  .rfl
  .exact c
theorem SR(f:α->β)(next most n:Int)(v:α)(s:cy α×Int):ee next most n (f v) (eM f s.1,s.2)=(eM f (ee next most n v s).1,(ee next most n v s).2):=by
 unfold ee;have e:(aK n (eM f s.1)).isSome=(aK n s.1).isSome:=by rw[Jx];simp
 simp only[e]
 split
 .rfl
 .split
  .rfl
  .dsimp only;rw[Jw]
theorem Jy(f:α->β)(next most:Int):∀(l:List α) (n:Int) (s:cy α×Int),fi next most n (l.map f) (eM f s.1,s.2)=(eM f (fi next most n l s).1,(fi next most n l s).2)
 | [],n,s=>rfl
 | v::vs,n,s=>by
  show fi next most (n+1) (vs.map f) (ee next most n (f v) (eM f s.1,s.2))=_;rw[SR];exact Jy f next most vs (n+1) _
theorem Jz(f:α->β):∀(l:cy α) (next:Int),pop next (eM f l)=((pop next l).1.map f,(pop next l).2.1,eM f (pop next l).2.2)
 | [],next=>rfl
 | (n,v)::r,next=>by
  have a:=Jz f r (next+1);have e1:pop next (eM f ((n,v)::r))=if n=next then (f v::(pop (next+1) (eM f r)).1,(pop (next+1) (eM f r)).2) else ([],next,eM f ((n,v)::r)):=rfl
  have e2:pop next ((n,v)::r)=if n=next then (v::(pop (next+1) r).1,(pop (next+1) r).2) else ([],next,(n,v)::r):=rfl
  rw[e1,e2,a]
  split <;> rfl
theorem SU(f:α->β)(s:HS α)(first:Int)(items:List α):(mapH f s).offer first (items.map f)=(mapH f (s.offer first items).1,(s.offer first items).2.1.map f,(s.offer first items).2.2):=by
 unfold HS.offer
 split
 .simp
 .have h:=Jy f s.next s.most items first (s.rows,0);simp only[mapH,h,Jz]
theorem wV{f:α->β}{l:cy α}:gJ (eM f l)↔gJ l:=by
 unfold gJ eM;rw[Y0]
theorem J0{f:α->β}{lo next most:Int}{l:cy α}:jL lo next most (eM f l)↔jL lo next most l:=by
 constructor
 .rintro⟨h1,h2⟩;exact⟨wV.1 h1,λp a=>h2 (p.1,f p.2) (VH.2 ⟨p,a,rfl⟩)⟩
 .rintro⟨h1,h2⟩;refine⟨wV.2 h1,λp a=>?_⟩
  obtain⟨q,b,rfl⟩:=VH.1 a;exact h2 q b
theorem ok_mapH{f:α->β}{s:HS α}:(mapH f s).Ok↔s.Ok:=
 ⟨λh=>⟨h.next0,h.most1,h.most2,J0.1 h.rows⟩,λh=>⟨h.next0,h.most1,h.most2,J0.2 h.rows⟩⟩
theorem SW{next most n:Int}{v:α}{s:cy α×Int}{p:Int×α}(h:p∈(ee next most n v s).1):p.2=v\/p∈s.1:=by
 unfold ee at h
 split at h
 .exact .inr h
 .split at h
  .exact .inr h
  .rcases tG.1 h with rfl|h
   .exact .inl rfl
   .exact .inr h
theorem A7{next most:Int}:∀{l:List α} {n:Int} {s:cy α×Int} {p:Int×α},p∈(fi next most n l s).1->p.2∈l\/p∈s.1
 | [],n,s,p,h=>.inr h
 | v::vs,n,s,p,h=>by
  rcases A7 (l:=vs) h with h|h
  .exact .inl (VQ _ h)
  .rcases SW h with h|h
   .exact .inl (h▸VO ..)
   .exact .inr h
theorem A8:∀{l:cy α} {next:Int},(∀v∈(pop next l).1,∃p∈l,p.2=v)/\∀p∈(pop next l).2.2,p∈l
 | [],next=>⟨λv h=>V6 h (by simp[pop]),λp h=>V6 h (by simp[pop])⟩
 | (n,v)::r,next=>by
  have c:=A8 (l:=r) (next:=next+1);unfold pop
  split
  .refine⟨λx b=>?_,λp a=>VQ _ (c.2 p a)⟩
   rcases VN.1 b with rfl|b
   .exact⟨_,VO ..,rfl⟩
   .obtain⟨p,a,e⟩:=c.1 x b;exact⟨p,VQ _ a,e⟩
  .exact⟨λx b=>V6 b (by simp),λp a=>a⟩
theorem uq{s:HS α}{first:Int}{items:List α}:(∀v∈(s.offer first items).2.1,v∈items\/∃p∈s.rows,p.2=v)/\∀p∈(s.offer first items).1.rows,p.2∈items\/p∈s.rows:=by
 unfold HS.offer
 split
 .exact⟨λv h=>V6 h (by simp),λp h=>.inr h⟩
 .have b:=A8 (l:=(fi s.next s.most first items (s.rows,0)).1) (next:=s.next);refine⟨λv d=>?_,λp a=>A7 (b.2 p a)⟩
  obtain⟨p,c,rfl⟩:=b.1 v d
  rcases A7 c with h|h
  .exact .inl h
  .exact .inr ⟨p,h,rfl⟩
theorem J1:∀{l:cy α} {next:Int},(pop next l).1.length<=l.length
 | [],_=>VF _
 | (n,v)::r,next=>by
  have a:=J1 (l:=r) (next:=next+1);unfold pop
  split
  .show (v::(pop (next+1) r).1).length<=_;simp only[VE];omega
  .simp
theorem J2{next most:Int}:∀{l:List α} {n:Int} {s:cy α×Int},(fi next most n l s).1.length<=s.1.length+l.length
 | [],n,s=>VF _
 | v::vs,n,s=>by
  have a:=J2 (next:=next) (most:=most) (l:=vs) (n:=n+1) (s:=ee next most n v s);have b:(ee next most n v s).1.length<=s.1.length+1:=by
   unfold ee
   split
   .omega
   .split
    .dsimp only;omega
    .dsimp only;rw[NQ];omega
  show (fi next most (n+1) vs (ee next most n v s)).1.length<=_;rw[VE];omega
theorem J3{s:HS α}{first:Int}{items:List α}:(s.offer first items).2.1.length<=s.rows.length+items.length:=by
 unfold HS.offer
 split
 .simp
 .exact VT J1 J2
end
abbrev im(Q:aE)(e:Ev):Prop:=KIn Q e.la (flat dg e.labs)
def hldA(Q:aE)(hb:Nat)(s:HS Pv):aE:=exS λp:Nat×cy Ev=>star [holdC hb p.1 s.next s.most,ie p.1 p.2,pur (eM Ev.p p.2=s.rows/\∀x∈p.2,im Q x.2)]
section
variable {Q Q':aE}{hb:Nat}{s:HS Pv}{F L:List aE}{H:aC}{K:KE}
theorem kX:aA H (hldA Q hb s::F)↔∃mb rows,(eM Ev.p rows=s.rows/\∀x∈rows,im Q x.2)/\aA H (holdC hb mb s.next s.most::ie mb rows::F):=by
 constructor
 .intro h;obtain⟨⟨mb,rows⟩,h⟩:=cK.1 h;have h:=aA.open (A:=[_,_,_]) h;have a:=aA.consP (h.o [2,0,1] 3);exact⟨mb,rows,a.1,a.2⟩
 .rintro⟨mb,rows,a,h⟩;refine cK.2 ⟨(mb,rows),aA.shut [_,_,_] ?_⟩;exact (h.pur a).o [1,2,0] 3
theorem AA(hs:aM Q Q')(h:aA H (hldA Q hb s::F)):aA H (hldA Q' hb s::F):=by
 obtain⟨mb,rows,a,h⟩:=kX.1 h;exact kX.2 ⟨mb,rows,⟨a.1,λx b=>(a.2 x b).sub hs⟩,h⟩
theorem AB{next most:Int}(h:aA H F)
  (k1:next<0\/1099511627776<next\/most<1\/256<most->K (.tuple #[.pointer none,aD 11]) H)
  (k2:∀hb a,0<=next/\next<=1099511627776/\1<=most/\most<=256->aA a (hldA Q hb ⟨next,most,[]⟩::F)->K (.tuple #[PA hb 0,aD 0]) a) :
  CF 185 #[aD next,aD most] H K:=
 R2 h k1 λhb mb a b h=>k2 hb a b (kX.2 ⟨mb,[],⟨rfl,λx c=>V6 c (by simp)⟩,h⟩)
theorem ur(h:aA H (hldA Q hb s::F)):bV Tryz.prog 124 #[PA hb 0] H (aD s.next):=by
 obtain⟨mb,rows,a,h⟩:=kX.1 h;exact R3 h 0 rfl
theorem J4{first:Int}{t:KQ}{v:Nat}{items:List Ev}(h:aA H (hldA Q hb s::F))(ok:s.Ok)(C:s.next<=1125899906842624)
  (B:∀H,aA H F->aP H t (flat cx items)) (n:∀e∈items,im Q e) (i:items.length<=1000000)
  (k:∀a c (ready:List Ev) d,ready.map Ev.p=(s.offer first (items.map Ev.p)).2.1->(∀e∈ready,im Q e)->
   aA d (slA 99 4 a ready.length c (flat cx ready)::hldA Q hb (s.offer first (items.map Ev.p)).1::F)->K (.tuple #[.slice a ready.length c,aD (s.offer first (items.map Ev.p)).2.2]) d) :
  CF 153 #[PA hb 0,aD first,.slice t items.length v] H K:=by
 obtain⟨mb,rows,m,h⟩:=kX.1 h;have u:s=mapH Ev.p ⟨s.next,s.most,rows⟩:=by unfold mapH;rw[m.1]
 have f:=SU Ev.p ⟨s.next,s.most,rows⟩ first items;rw[<-u]at f;rw[f]at k;have j:(⟨s.next,s.most,rows⟩:HS Ev).Ok:=ok_mapH.1 (u▸ok);have hm:=uq (s:=⟨s.next,s.most,rows⟩) (first:=first) (items:=items);have b:((⟨s.next,s.most,rows⟩:HS Ev).offer first items).1.most=s.most:=by unfold HS.offer;split <;> rfl
 refine R4 (s:=⟨s.next,s.most,rows⟩) h j C B i λa c d h=>?_
 refine k a c _ d rfl (λe y=>?_) ?_
 .rcases hm.1 e y with h|⟨p,h,rfl⟩
  .exact n e h
  .exact m.2 p h
 .have h:=h.o [1,2,0] 3;have w:aA d (hldA Q hb (mapH Ev.p ((⟨s.next,s.most,rows⟩:HS Ev).offer first items).1)::_):=kX.2 ⟨mb,_,⟨rfl,λx A=>by
   rcases hm.2 x A with h|h
   .exact n _ h
   .exact m.2 x h⟩,by
    show aA d (holdC hb mb _ ((⟨s.next,s.most,rows⟩:HS Ev).offer first items).1.most::_);rw[b];exact h⟩
  exact w.o [1,0] 2
theorem AC(h:aA H (hldA Q hb s::F))(m:gJ s.rows)(n:∀p∈s.rows,aF p.1)(f:s.rows.length<=1000000)
  (k:∀a c d,aA d (slA 2 1 a s.rows.length c ((aG s.rows).map aD)::hldA Q hb s::F)->K (.slice a s.rows.length c) d) :
  CF 122 #[PA hb 0] H K:=by
 obtain⟨mb,rows,e,h⟩:=kX.1 h;rw[<-e.1]at m n f;have b:s.rows.length=rows.length:=by rw[<-e.1,A0]
 have j:aG s.rows=aG rows:=by rw[<-e.1,SQ]
 refine I4 h (wV.1 m) (λp i=>n (p.1,p.2.p) (VH.2 ⟨p,i,rfl⟩)) (by rw[A0]at f;exact f) λa c d h=>?_
 rw[<-b];refine k a c d ?_;rw[b,j];have h:=h.o [1,2,0] 3;have h:=kX.2 ⟨mb,rows,e,h⟩;exact h.o [1,0] 2
theorem SX(h:aA H (hldA Q hb s::F))(m:gJ s.rows)(n:∀p∈s.rows,aF p.1)(f:s.rows.length<=1000000)
  (k:∀a c (evs:List Ev) b,evs.map Ev.p=s.rows.map (·.2)->(∀e∈evs,im Q e)->aA b (slA 99 4 a evs.length c (flat cx evs)::hldA Q hb s.drain::F)->K (.slice a evs.length c) b) :
  CF 123 #[PA hb 0] H K:=by
 obtain⟨mb,rows,i,h⟩:=kX.1 h;rw[<-i.1]at m n f;refine R5 h (wV.1 m) (λp j=>n (p.1,p.2.p) (VH.2 ⟨p,j,rfl⟩)) (by rw[A0]at f;exact f) λa c b h=>?_
 have h:=h.o [1,2,0] 3;have u:aA b (hldA Q hb s.drain::_):=kX.2 ⟨mb,[],⟨rfl,λx w=>V6 w (by simp)⟩,h⟩
 have d:(rows.map (·.2)).length=rows.length:=VM ..;have t:=k a c (rows.map (·.2)) b (by rw[<-i.1];unfold eM;rw[Wu,Wu];rfl) (λe v=>by
  obtain⟨p,y,rfl⟩:=VH.1 v;exact i.2 p y) (by rw[d];exact u.o [1,0] 2)
 rw[d]at t;exact t
theorem J5(h:aA H (hldA Q hb s::F))
  (k:∀a b,aA b (hldA Q a s::hldA Q hb s::F)->K (PA a 0) b):CF 63 #[PA hb 0] H K:=by
 obtain⟨mb,rows,d,h⟩:=kX.1 h;refine R6 h λa c b h=>k a b ?_
 have h:=h.o [2,3,0,1] 4;have h:=kX.2 ⟨mb,rows,d,h⟩;have h:=h.o [1,2,0] 3;exact kX.2 ⟨c,rows,d,h⟩
end
def gS(e:Pv):Bool:=decide (0<=e.stamp)&&decide (e.stamp<=4611686018427387903)&&fw e.name e.labs
def gT(next:Int)(evs:List Pv):Bool:=decide (0<=next)&&decide (next<=4611686018427387903)&&(decide (1<=evs.length)&&decide (evs.length<=64)&&decide (next<=1099511627776-evs.length)&&evs.all gS)
structure Rp where
 kind:Int
 ag:Int
 ep:Int
 bt:Int
 nx:Int
 st:Int
 nw:Int
 sm:bQ
 evs:List Pv
def cu(k:Int):List Nat:=if k=2 then [1,3,6] else if k=3 then [1,2,7,8,9,10] else if k=4 then [1,2,4,6] else if k=5 then [1,2,4,5,6] else if k=6 then [6] else if k=7 then [4] else []
def zrK(k:Int)(i:Nat)(x:Int):Int:=if i∈cu k then 0 else x
abbrev inM(x least most:Int):Bool:=decide (least<=x)&&decide (x<=most)
def Rp.zeros(r:Rp):Bool:=(decide (zrK r.kind 1 r.ag=0)&&decide (zrK r.kind 2 r.ep=0)&&decide (zrK r.kind 3 r.bt=0)&&decide (zrK r.kind 4 r.nx=0)&&decide (zrK r.kind 5 r.st=0)&&decide (zrK r.kind 6 r.nw=0)) &&
 (decide (zrK r.kind 7 r.sm.asked=0)&&decide (zrK r.kind 8 r.sm.got=0)&&decide (zrK r.kind 9 r.sm.sent=0)&&decide (zrK r.kind 10 r.sm.came=0))
def Rp.lim(r:Rp):Bool:=inM r.ag 0 63&&inM r.ep (if r.kind=3\/r.kind=4\/r.kind=5 then 1 else 0) 1099511627776&&inM r.bt (if r.kind=2 then 1 else 0) 1099511627776&&inM r.nx 0 1099511627776&&inM r.st 0 4611686018427387903&&inM r.nw 0 4611686018427387903&&decide (r.sm.ok)
def Rp.right(r:Rp):Bool:=inM r.kind 1 7&&r.zeros&&(if r.kind=4 then gT r.nx r.evs else decide (r.evs.length=0))&&r.lim
abbrev de(r:Rp)(a:KQ)(c:Nat):Os:=[aB r.kind,aB r.ag,aB r.ep,aB r.bt,aB r.nx,aB r.st,aB r.nw,aB r.sm.asked,aB r.sm.got,aB r.sm.sent,aB r.sm.came,.slice a r.evs.length c]
theorem kinds{k:Int}(b:¬k<1)(a:¬7<k):k=1\/k=2\/k=3\/k=4\/k=5\/k=6\/k=7:=by omega
section
variable {F L:List aE}{H:aC}{K:KE}
theorem wW{next:Int}{evs:List Ev}:mL next evs=gT next (evs.map Ev.p):=by
 unfold mL iD gT;rw[VM,List.all_map];rfl
theorem oz{x a b:Int}:bV Tryz.prog 138 #[aD x,aD a,aD b] H (.bool (inM x a b)):=cM 138 28 ⟨rfl,rfl⟩
theorem AD{b e:Nat}{k0:Int}{cs:Os}(h:aA H F)(i:Nat)(m:aW i F=cellsA b cs e)(j:aT cs 0=some (aD k0))
  (k:∀a c f,aA f (slA 297 1 a (cu k0).length c ((cu k0).map λi=>PA b i)::F)->K (.slice a (cu k0).length c) f):CF 136 #[PA b 0] H K:=by
 refine cM 136 0x121513c131c13c13c13cbc ?_;have fin:∀(l:List Nat) p f,cu k0=l->aA f (cellsA p (l.map λi=>PA b i) 297::F)->K (.slice (some ⟨p,0,none⟩) l.length l.length) f:=by
  intro l p f e h;subst e;refine k _ _ _ ?_;exact aA.sl_pt h 1 _ (by simp)
 refine⟨k0,(h.rd i m 0).trans j,λd=>?_,λd=>⟨λd=>?_,λd=>⟨λd=>?_,λd=>⟨λd=>?_,λd=>⟨λd=>?_,λd=>⟨λd=>?_,λd=>?_⟩⟩⟩⟩⟩⟩
 .have d:=V8 d;subst d;exact h.al λp _ h=>fin [1,3,6] p _ rfl h
 .have d:=V8 d;subst d;exact h.al λp _ h=>fin [1,2,7,8,9,10] p _ rfl h
 .have d:=V8 d;subst d;exact h.al λp _ h=>fin [1,2,4,6] p _ rfl h
 .have d:=V8 d;subst d;exact h.al λp _ h=>fin [1,2,4,5,6] p _ rfl h
 .have d:=V8 d;subst d;exact h.al λp _ h=>fin [6] p _ rfl h
 .have d:=V8 d;subst d;exact h.al λp _ h=>fin [4] p _ rfl h
 .have e:cu k0=[]:=by
   unfold cu;simp only[VD]at *;simp only[*,if_false]
  have:=k none 0 H (by rw[e];exact h.sl_nil 297 1);rw[e]at this;exact this
def zrL(cs:Os)(is:List Nat):Os:=is.foldl (λcs i=>cv cs i [aD 0]) cs
theorem zrL_len(cs:Os):∀is,(zrL cs is).length=cs.length:=by
 intro is
 induction is generalizing cs with
 | nil=>rfl
 | cons i r ih=>show (zrL (cv cs i [aD 0]) r).length=_;rw[ih,oh]
theorem zrL_take(cs:Os)(is:List Nat)(j:Nat)(h:j<is.length):zrL cs (is.take (j+1))=cv (zrL cs (is.take j)) is[j] [aD 0]:=by
 unfold zrL;rw[Wn h,WR];rfl
theorem AE{k:Int}:∀i∈cu k,i<11:=by
 unfold cu
 split
 .decide
 split
 .decide
 split
 .decide
 split
 .decide
 split
 .decide
 split
 .decide
 .decide
theorem wX(k:Int):(cu k).length<=6:=by
 unfold cu
 split
 .decide
 split
 .decide
 split
 .decide
 split
 .decide
 split
 .decide
 split
 .decide
 .decide
theorem zrL_enc{r:Rp}{a:KQ}{c:Nat}(d:¬r.kind<1)(b:¬7<r.kind):zrL (de r a c) (cu r.kind) =
  [aD r.kind,aD (zrK r.kind 1 r.ag),aD (zrK r.kind 2 r.ep),aD (zrK r.kind 3 r.bt),aD (zrK r.kind 4 r.nx),aD (zrK r.kind 5 r.st),aD (zrK r.kind 6 r.nw),aD (zrK r.kind 7 r.sm.asked),aD (zrK r.kind 8 r.sm.got),aD (zrK r.kind 9 r.sm.sent),aD (zrK r.kind 10 r.sm.came),.slice a r.evs.length c]:=by
 obtain⟨kind,ag,ep,bt,nx,st,nw,sm,evs⟩:=r;dsimp only at d b
 rcases kinds d b with rfl|rfl|rfl|rfl|rfl|rfl|rfl <;> rfl
theorem eq180{a b c d e f:Int}:iL Tryz.prog .neq 298 (.agg #[aD a,aD b,aD c,aD d,aD e,aD f]) (.agg #[aD 0,aD 0,aD 0,aD 0,aD 0,aD 0])
  (!(decide (a=0)&&decide (b=0)&&decide (c=0)&&decide (d=0)&&decide (e=0)&&decide (f=0))):=by
 have h:=(yR (P:=Tryz.prog) (t:=298) (xs:=[aD a,aD b,aD c,aD d,aD e,aD f]) (ys:=[aD 0,aD 0,aD 0,aD 0,aD 0,aD 0])
  (r:=(a == 0&&(b == 0&&(c == 0&&(d == 0&&(e == 0&&(f == 0&&true))))))) (by kernel_rfl)).2
 have e:(a == 0&&(b == 0&&(c == 0&&(d == 0&&(e == 0&&(f == 0&&true))))))=(decide (a=0)&&decide (b=0)&&decide (c=0)&&decide (d=0)&&decide (e=0)&&decide (f=0)):=by
  rw[Wp];simp only[VB,beq_iff_eq,VA,Bool.and_true]
  constructor
  .rintro⟨h1,h2,h3,h4,h5,h6⟩;exact⟨⟨⟨⟨⟨h1,h2⟩,h3⟩,h4⟩,h5⟩,h6⟩
  .rintro⟨⟨⟨⟨⟨h1,h2⟩,h3⟩,h4⟩,h5⟩,h6⟩;exact⟨h1,h2,h3,h4,h5,h6⟩
 rw[e]at h;exact h
theorem eq43{a b c d:Int}:iL Tryz.prog .neq 58 (.agg #[aD a,aD b,aD c,aD d]) (.agg #[aD 0,aD 0,aD 0,aD 0])
  (!(decide (a=0)&&decide (b=0)&&decide (c=0)&&decide (d=0))):=by
 have h:=(tE (P:=Tryz.prog) (t:=58) (xs:=[aD a,aD b,aD c,aD d]) (ys:=[aD 0,aD 0,aD 0,aD 0])
  (r:=(a == 0&&(b == 0&&(c == 0&&(d == 0&&true))))) (by kernel_rfl)).2
 have e:(a == 0&&(b == 0&&(c == 0&&(d == 0&&true))))=(decide (a=0)&&decide (b=0)&&decide (c=0)&&decide (d=0)):=by
  rw[Wp];simp only[VB,beq_iff_eq,VA,Bool.and_true]
  constructor
  .rintro⟨h1,h2,h3,h4⟩;exact⟨⟨⟨h1,h2⟩,h3⟩,h4⟩
  .rintro⟨⟨⟨h1,h2⟩,h3⟩,h4⟩;exact⟨h1,h2,h3,h4⟩
 rw[e]at h;exact h
theorem AF{r:Rp}{a:KQ}{c:Nat}{evs:List Ev}(P:r.evs=evs.map Ev.p)(h:aA H F)(ha:lP F a evs)(Z:evs.length<=1099511627776)
  (k:∀L,aA L F->K (.bool r.right) L):CF 64 #[.agg ⟨de r a c⟩] H K:=by
 have w:r.evs.length=evs.length:=by rw[P,VM]
 refine cN 64 0x1d1215612399251441d2171bb121517421791794749289 [[(2,sB)],[(8,sI)],[(70,sB)],[(70,sB)],[(8,sI),(9,sI)],[],[(21,sI)]] ?_;refine h.al λb _ h=>⟨_,h.r 0,_,λ_=>h.r 0,λy=>?_,λy=>?_⟩
 .have:r.right=false:=by
   unfold Rp.right inM;simp only[VR,VA]at y;have:(decide (1<=r.kind)&&decide (r.kind<=7))=false:=by
    simp only[Wo,VD];omega
   rw[this];simp
  rw[this]at k;exact k _ h.tl
 simp only[VP,VD]at y;have A:inM r.kind 1 7=true:=by unfold inM;rw[VS (by omega),VS (by omega)];rfl
 refine⟨_,_,_,_,_,_,_,_,_,_,_,_,_,_,h.q 0,?_⟩;refine h.al λb1 _ h=>?_
 refine h.st 0 rfl rfl ?_;intro H2 h;refine AD h 0 rfl rfl λp pc H3 h=>⟨_,_,_,rfl,?_⟩
 refine⟨λi L=>∃j:Nat,i=j/\j<=(cu r.kind).length/\aA L (slA 297 1 p (cu r.kind).length pc ((cu r.kind).map λi=>PA b1 i)::cellsA b1 (zrL (de r a c) ((cu r.kind).take j)) 61::cellsA b (de r a c) 61::F),
  λi _=>(cu r.kind).length-i.toNat,⟨0,rfl,by omega,h⟩,?_⟩
 rintro i H4 ⟨j,rfl,hj,h⟩;refine⟨λe=>?_,λe=>?_⟩
 .have e:j<(cu r.kind).length:=by have:=V8 e;omega
  have U:=(h.sl_rd 0 rfl).at e;have hi:=AE _ (VL e);have ho:=wX r.kind;refine⟨by omega,_,_,U.1,_,U.2,?_⟩;refine h.st 1 rfl (by rw[zrL_len];exact Nat.ble_eq_true_of_le (by show (cu r.kind)[j]+1<=12;omega)) ?_;intro Y h
  conv=>whnf
  rw[aJ (x:=(j:Int)+1)];refine⟨⟨j+1,by omega,e,?_⟩,by dsimp only;omega⟩;rw[zrL_take _ _ _ e];exact h
 .have N:(cu r.kind).length<=j:=by have:=V9 e;omega
  rw[Wc N,zrL_enc y.1 y.2]at h;refine⟨_,h.r 1,_,h.r 1,_,h.r 1,_,h.r 1,_,h.r 1,_,h.r 1,?_⟩;refine h.al λb3 _ h=>?_
  refine h.st 0 rfl rfl ?_;intro Y h;refine⟨_,_,_,_,_,_,h.q 0,_,eq180,_,_,_,_,λ_=>h.q 2,_,λ_=>eq43,λv=>?_,λv=>?_⟩
  .have:r.right=false:=by
    have:r.zeros=false:=by
     unfold Rp.zeros;rw[Wo];rw[VR,Wb,Wb]at v;exact v
    unfold Rp.right;rw[this];simp
   rw[this]at k;exact k _ h.tl.tl.tl.tl
  have M:r.zeros=true:=by
   rw[VP,Wq,Wq]at v;unfold Rp.zeros;rw[v.1,v.2];rfl
  have D:r.right=((if r.kind=4 then gT r.nx r.evs else decide (r.evs.length=0))&&r.lim):=by
   unfold Rp.right;rw[A,M];simp
  refine⟨_,h.r 3,?_⟩;intro V W;have fin:∀u,(if r.kind=4 then gT r.nx r.evs else decide (r.evs.length=0))=true->aA u (cellsA b (de r a c) 61::F)->V u:=by
   intro u hb h;rw[hb,Yo]at D;refine W _ ?_;refine⟨_,h.r 0,?_⟩;intro Q O;have f:∀ep bt,ep=(if r.kind=3\/r.kind=4\/r.kind=5 then (1:Int) else 0)->bt=(if r.kind=2 then (1:Int) else 0)->Q ep bt u:=by
    rintro _ _ rfl rfl;refine O _ _ _ ?_;intro h0 E;refine⟨_,h.r 0,_,oz,_,λ_=>h.r 0,_,λ_=>oz,_,λ_=>h.r 0,_,λ_=>oz,_,λ_=>h.r 0,_,λ_=>oz,_,λ_=>h.r 0,_,λ_=>oz,_,λ_=>h.r 0,_,λ_=>oz,_,_,_,_,λ_=>h.q 0,λJ=>?_,λJ=>?_⟩
    .refine wI (s:=r.sm) h λH7 h=>⟨_,rfl,E _ _ ?_⟩
     have:r.right=decide r.sm.ok:=by
      rw[D];unfold Rp.lim;rw[J,Yo]
     rw[this]at k;exact k _ h.tl
    .refine E _ _ ?_;have:r.right=false:=by
      rw[D];unfold Rp.lim;rw[Bool.not_eq_true]at J;rw[J,Bool.false_and]
     rw[this]at k;exact k _ h.tl
   refine⟨λd=>?_,λd=>?_⟩
   .have d:=V8 d;exact f _ _ (by rw[nO]) (by rw[V5 d])
   intro T R;have C:=V9 d;have f3:∀t:Bool,t=decide (r.kind=3\/r.kind=4\/r.kind=5)->T t u:=by
    rintro t rfl;refine R _ _ ?_;intro h1 B;refine⟨λS=>?_,λS=>?_⟩
    .refine B _ _ ?_;exact f _ _ (by rw[V5 (V8 S)]) (by rw[V4 C])
    .refine B _ _ ?_;exact f _ _ (by rw[V4 (V9 S)]) (by rw[V4 C])
   refine⟨λd=>?_,λd=>?_⟩
   .have m:=V8 d;exact f3 _ (by rw[VS m,VS (.inl m)])
   intro h2 G;have m:=V9 d;refine⟨λd=>?_,λd=>?_⟩
   .have n:=V8 d;refine G _ _ ?_;exact f3 _ (by rw[VS n,VS (.inr (.inl n))])
   .have n:=V9 d;refine G _ _ ?_;refine f3 _ ?_;rw[Wp,VA,VA];omega
  refine⟨λd=>?_,λd=>?_⟩
  .have d:=V8 d;refine⟨_,h.r 3,_,_,_,h.r 3,?_⟩;refine h.al λb4 _ h=>?_
   refine h.st 0 rfl rfl ?_;intro u h;refine⟨_,_,_,_,_,_,_,_,_,_,_,_,_,_,_,_,_,_,_,_,h.q 0,?_⟩;rw[w]at h ⊢;refine Ju (evs:=evs) h (((((ha.cons _).cons _).cons _).cons _).cons _) Z λH7 h=>⟨_,rfl,λhb=>?_,λhb=>?_⟩
   .have:r.right=false:=by
     rw[D,V5 d,P,<-wW];rw[Wb]at hb;rw[hb];rfl
    rw[this]at k;exact k _ h.tl.tl.tl.tl.tl
   .refine fin _ ?_ ?_
    .rw [V5 d,P,<-wW];simpa using hb
    .rw [<-w]at h;exact h.o [4] 5
  .have d:=V9 d;refine⟨_,_,_,h.r 3,λI=>?_,λI=>?_⟩
   .have I:=V8 I;have:r.right=false:=by
     rw[D,V4 d,Ws (by omega)];rfl
    rw[this]at k;exact k _ h.tl.tl.tl.tl
   .have I:=V9 I;refine fin _ ?_ (h.o [3] 4);rw[V4 d,VS (by omega)]
end
def u64N(v:Int):Nat:=(u64.wrap v).toNat
def aN(l:List Int):List Int:=l.flatMap λv=>bR (u64N v)
theorem iE(l:List Int):aI (aN l):=jz λ_ _=>oU _
abbrev Rd(α:Type):=RS->Except Int (α×RS)
def okR{α:Type}(s:RS)(x:α):Except Int (α×RS):=if s.e≠0 then .error s.e else .ok (x,s)
def dZ:Rd Int:=λs=>okR (bM s).2 ((bM s).1:Int)
def cG:Rd Int:=λs=>okR (bM s).2 (i64.wrap ((bM s).1:Int))
def gj:Rd Int:=λs=>okR (dE s).2 (dE s).1
def dO(m:Int):Rd Int:=λs=>okR (bY m s).2 (bY m s).1
def upR(m:Int):Rd Int:=λs=>match cG s with
 | .ok (v,s')=>if inM v 0 m then .ok (v,s') else .error 10
 | .error e=>.error e
def ja:Rd Pv:=λs=>match cG s with
 | .error e=>.error e
 | .ok (a,s1)=>match gj s1 with
  | .error e=>.error e
  | .ok (b,s2)=>okR ⟨(cO s2).e,(cO s2).rest.bs⟩ ⟨a,b,(cO s2).name,(cO s2).labs⟩
def evB(e:Pv):List Int:=(aN [e.stamp]++cY [e.value])++iY e.name e.labs
theorem wY(e:Pv):aI (evB e):=dD (dD (iE _) (tV _)) (Ao _ _)
def Rp.nums(r:Rp)(i:Nat):Int:=match i with|1=>r.ag|2=>r.ep|3=>r.bt|4=>r.nx|5=>r.st|6=>r.nw|7=>r.sm.asked|8=>r.sm.got|9=>r.sm.sent|10=>r.sm.came|_=>0
def Rp.bytes(r:Rp):List Int:=if r.right then (aN [r.kind]++(cu r.kind).flatMap (λi=>aN [r.nums i]))++(if r.kind=4 then aN [(r.evs.length:Int)] else [])++r.evs.flatMap evB else []
theorem su(v:Int):u64N v<18446744073709551616:=by
 have:=tT v;unfold u64N;omega
theorem wZ(v:Int):u64.wrap v=(u64N v:Nat):=by
 have:=tT v;unfold u64N;omega
theorem dK(l:List Int):(aN l).length<=10*l.length:=by
 induction l with
 | nil=>simp[aN]
 | cons v r ih=>
  have:=om (su v);unfold aN at ih ⊢;rw[Wg,V7,VE];omega
theorem xa(e:Pv):(evB e).length<=1320:=by
 have c:=dK [e.stamp];have b:=mC [e.value];have a:=wS e.name e.labs;unfold evB;simp only[V7,VE,VZ]at *;omega
section
variable {F L:List aE}{H:aC}{K KP:KE}{Q:aE}
theorem pw{a:KQ}{c:Nat}{vs:List Int}(h:aA H F)(B:∀H,aA H F->aP H a (vs.map aD))(I:vs.length<=1000000)
  (k:∀d n m,aA m (slA 5 1 d (aN vs).length n ((aN vs).map U8)::F)->K (.slice d (aN vs).length n) m) :
  CF 49 #[.slice a vs.length c] H K:=by
 refine cN 49 0x1121561239925144c [[(3,sS),(8,sI)]] ?_;refine⟨λd y n i m=>∃j:Nat,i=j/\j<=vs.length/\y=(aN (vs.take j)).length/\aA m (slA 5 1 d (aN (vs.take j)).length n ((aN (vs.take j)).map U8)::F),λ_ _ _ i _=>vs.length-i.toNat,
  ⟨0,rfl,Wd _,rfl,h.sl_nil 5 1⟩,?_⟩
 rintro a1 n1 c1 i D ⟨j,rfl,J,rfl,h⟩;refine⟨λs=>?_,λs=>?_⟩
 .have b:j<vs.length:=by have:=V8 s;omega
  have u:=(B _ h.tl).at b;refine⟨by omega,_,_,u.1,vs[j],u.2,?_⟩;dsimp only
  conv=>whnf
  rw[wZ];have A:=dK (vs.take j);have w:=om (su vs[j]);have C:(vs.take j).length<=vs.length:=by rw[VY];omega
  refine h.al λb1 _ h=>?_
  refine qv (us:=[u64N vs[j]]) h (λH h=>h.ce_rd 0 rfl) (by simp;exact su _) (by simp) λa2 c2 G h=>⟨_,_,_,rfl,?_⟩
  rw[wR]at h ⊢
  conv=>whnf
  refine dq h (i:=2) rfl rfl rfl (h.sl_rd 0 rfl) (by omega) λa3 c3 E h=>⟨_,_,_,rfl,?_⟩
  conv=>whnf
  rw[aJ (x:=(j:Int)+1)];have e:aN (vs.take (j+1))=aN (vs.take j)++bR (u64N vs[j]):=jP (f:=λv=>bR (u64N v)) b
  rw[<-e]at h ⊢;exact⟨⟨j+1,by omega,b,rfl,h.o [2] 3⟩,by dsimp only;omega⟩
 .have t:vs.length<=j:=by have:=V9 s;omega
  have e:vs.take j=vs:=Wc t;rw[e]at h ⊢;exact k _ _ _ h
theorem nR{b:Nat}{v:Int}(h:aA H F)(i:Nat)(e:aW i F=cellsA b [aD v] 2)
  (k:∀a d c,aA c (slA 5 1 a (aN [v]).length d ((aN [v]).map U8)::F)->K (.slice a (aN [v]).length d) c) :
  CF 49 #[.slice (some ⟨b,0,none⟩) 1 1] H K:=
 pw (vs:=[v]) h (λH h=>h.ce_rd i e) (by simp) k
theorem qG{b:Nat}{v:Int}(h:aA H F)(i:Nat)(e:aW i F=cellsA b [aD v] 2)
  (k:∀a d c,aA c (slA 5 1 a (cY [v]).length d ((cY [v]).map U8)::F)->K (.slice a (cY [v]).length d) c) :
  CF 51 #[.slice (some ⟨b,0,none⟩) 1 1] H K:=
 Gm (vs:=[v]) h (λH h=>h.ce_rd i e) (by simp) k
theorem J6{e:Ev}(h:aA H F)(w:∀H,aA H F->aP H e.la (flat dg e.labs))
  (k:∀s t f,aA f (slA 5 1 s (evB e.p).length t ((evB e.p).map U8)::F)->K (.slice s (evB e.p).length t) f) :
  CF 125 #[aggV e] H K:=by
 refine cN 125 4748 [[(3,sS)]] ?_;refine h.al λb _ h=>?_
 intro v u;have l1:=dK [e.stamp];have l2:=mC [e.value];have l3:=wS e.name e.labs;simp only[VE,VZ]at l1 l2;have d:∀a c f,aA f (slA 5 1 a (aN [e.stamp]++cY [e.value]).length c ((aN [e.stamp]++cY [e.value]).map U8)::cellsA b (cx e) 99::F)->v a (aN [e.stamp]++cY [e.value]).length c f:=by
  intro a c f h;refine u _ _ _ _ ?_;refine⟨_,_,_,_,h.q 1,?_⟩;refine Au h (λH h=>w H h.tl.tl) λa2 c2 j h=>⟨_,_,_,rfl,?_⟩
  conv=>whnf
  refine dq h (i:=1) rfl rfl rfl (h.sl_rd 0 rfl) (by rw[V7];omega) λa3 c3 m h=>⟨_,_,_,rfl,?_⟩
  exact k _ _ _ (h.o [1] 3)
 refine⟨_,h.r 0,_,h.r 0,?_,?_⟩
 .refine h.al λb1 _ h=>⟨h.r 1,?_,?_⟩
  .refine nR h 0 rfl λa1 c1 j h=>⟨_,_,_,rfl,h.r 2,?_⟩
   refine h.al λb2 _ h=>?_
   refine qG h 0 rfl λa2 c2 n h=>⟨_,_,_,rfl,?_⟩
   conv=>whnf
   refine dq h (i:=2) rfl rfl rfl (h.sl_rd 0 rfl) (by omega) λa3 c3 m h=>⟨_,_,_,rfl,?_⟩
   exact d _ _ _ (h.o [2,4] 5)
  .refine h.al λb2 _ h=>?_
   refine nR h 1 rfl λa1 c1 j h=>⟨_,_,_,rfl,?_⟩
   refine qG h 1 rfl λa2 c2 n h=>⟨_,_,_,rfl,?_⟩
   conv=>whnf
   refine dq h (i:=1) rfl rfl rfl (h.sl_rd 0 rfl) (by omega) λa3 c3 m h=>⟨_,_,_,rfl,?_⟩
   exact d _ _ _ (h.o [1,4] 5)
 .refine h.al λb2 _ h=>⟨h.r 1,?_⟩
  refine h.al λb1 _ h=>?_
  refine nR h 0 rfl λa1 c1 j h=>⟨_,_,_,rfl,?_⟩
  refine qG h 2 rfl λa2 c2 n h=>⟨_,_,_,rfl,?_⟩
  conv=>whnf
  refine dq h (i:=1) rfl rfl rfl (h.sl_rd 0 rfl) (by omega) λa3 c3 m h=>⟨_,_,_,rfl,?_⟩
  exact d _ _ _ (h.o [1,4] 5)
abbrev pnV(e:Int):Value:=.iface 50 (aD e)
def sw{α:Type}(rb:Nat)(F:List aE)(enc:α->Value)(K KP:KE):Except Int (α×RS)->Prop
 | .ok (x,s)=>∀H',s.e=0->aI s.bs->s.bs.length<=1099511627776->aA H' (crdA rb s::F)->K (enc x) H'
 | .error e=>∀H',e≠0->aA H' F->KP (pnV e) H'
theorem j7{e:Int}(k:e=0->K (.tuple #[]) H)(kp:e≠0->KP (pnV e) H):CP 203 #[aD e] H K KP:=by
 refine cNP 203 5961 [[]] ?_;refine λc b=>⟨λa=>kp (by simpa using a),λa=>b _ ?_⟩
 exact k (by simpa using a)
theorem ut{rb:Nat}{s:RS}(h:aA H (crdA rb s::F))(hb:aI s.bs)(c:s.bs.length<=1099511627776)(k:sw rb F (λv:Int=>.int .u64 v) K KP (dZ s)) :
  CP 207 #[.agg #[PA rb 0]] H K KP:=by
 refine cMP 207 4380 ?_;refine h.al λb _ h=>⟨_,h.r 0,?_⟩
 have h:=h.o [1,0] 2;refine nL h hb c λf h=>⟨_,rfl,_,h.r 1,_,mB h,?_⟩
 have a:=gK hb;have d:=jQ s;unfold dZ okR at k;refine j7 (λe=>⟨rfl,?_⟩) λe=>?_
 .rw [V4 (by simpa using e)]at k;exact k _ e a (by omega) (h.o [0] 2)
 .rw [V5 e]at k;exact k _ e h.tl.tl
theorem kj{rb:Nat}{s:RS}(h:aA H (crdA rb s::F))(hb:aI s.bs)(c:s.bs.length<=1099511627776)(k:sw rb F aD K KP (cG s)) :
  CP 201 #[.agg #[PA rb 0]] H K KP:=by
 refine cMP 201 28 ?_;refine h.al λb _ h=>⟨_,h.rd 0 rfl 0,?_⟩
 have h:=h.o [1,0] 2;refine ut h hb c ?_;unfold dZ okR;unfold cG okR at k
 split
 .rename_i e;rw[V5 e]at k;exact λd a h=>k _ a h.tl
 .rename_i e;rw[V4 e]at k;exact λd a hb c h=>⟨_,rfl,k _ a hb c (h.o [0] 2)⟩
theorem uu{rb:Nat}{s:RS}(h:aA H (crdA rb s::F))(hb:aI s.bs)(c:s.bs.length<=1099511627776)(k:sw rb F aD K KP (gj s)) :
  CP 199 #[.agg #[PA rb 0]] H K KP:=by
 refine cMP 199 4380 ?_;refine h.al λb _ h=>⟨_,h.r 0,?_⟩
 have h:=h.o [1,0] 2;refine wu h hb c λf h=>⟨_,rfl,_,h.r 1,_,mB h,?_⟩
 have a:aI (dE s).2.bs:=gK hb;have d:(dE s).2.bs.length<=s.bs.length:=jQ s;unfold gj okR at k;refine j7 (λe=>⟨rfl,?_⟩) λe=>?_
 .rw [V4 (by simpa using e)]at k;exact k _ e a (by omega) (h.o [0] 2)
 .rw [V5 e]at k;exact k _ e h.tl.tl
theorem uv{rb:Nat}{s:RS}{m:Int}(hm:aF m)(h:aA H (crdA rb s::F))(hb:aI s.bs)(c:s.bs.length<=1099511627776)(k:sw rb F aD K KP (dO m s)) :
  CP 200 #[.agg #[PA rb 0],aD m] H K KP:=by
 refine cMP 200 4380 ?_;refine h.al λb _ h=>⟨_,h.r 0,?_⟩
 have h:=h.o [1,0] 2;refine tQ (most:=m) h hb c hm λf h=>⟨_,rfl,_,h.r 1,_,mB h,?_⟩
 have a:=rU (m:=m) hb;have d:=rV s m;unfold dO okR at k;refine j7 (λe=>⟨rfl,?_⟩) λe=>?_
 .rw [V4 (by simpa using e)]at k;exact k _ e a (by omega) (h.o [0] 2)
 .rw [V5 e]at k;exact k _ e h.tl.tl
theorem sx{rb:Nat}{s:RS}{m:Int}(h:aA H (crdA rb s::F))(hb:aI s.bs)(d:s.bs.length<=1099511627776)(k:sw rb F aD K KP (upR m s)) :
  CP 198 #[.agg #[PA rb 0],aD m] H K KP:=by
 refine cNP 198 287405212 [[]] ?_;refine h.al λb _ h=>⟨_,h.rd 0 rfl 0,?_⟩
 have h:=h.o [1,0] 2;refine kj h hb d ?_;unfold upR at k
 cases hr:cG s with
 | error e=>
  rw[hr]at k;exact λf c h=>k _ c h.tl
 | ok p=>
  obtain⟨v,s1⟩:=p;rw[hr]at k;dsimp only at k;intro f c hb d h;refine⟨_,rfl,_,oz,?_⟩;refine λj i=>⟨λa=>?_,λa=>i _ ?_⟩
  .rw [V4 (by rw[Wb]at a;rw[a];simp)]at k;exact k _ (by decide) h.tl.tl
  .skip
   rw[V5 (by rw[Wq]at a;exact a)]at k;exact k _ c hb d (h.o [0] 2)
theorem sC{s:RS}(h:(cO s).e=0):(⟨(cO s).e,(cO s).rest.bs⟩:RS)=(cO s).rest:=by
 unfold cO at h ⊢
 split at h
 .rename_i a;exact V6 h a
 .rename_i a;rw[V4 a];have a:(dJ (bY 8 (aZ 64 s).2).1.toNat (bY 8 (aZ 64 s).2).2).2.e=0:=by simpa using a
  generalize dJ (bY 8 (aZ 64 s).2).1.toNat (bY 8 (aZ 64 s).2).2=W at *;obtain⟨w1,w2,w3⟩:=W;dsimp only at a;subst a
  split at h
  .rename_i b;rw[V5 b]
  .simp at h
def EPost(rb:Nat)(Q:aE)(F:List aE)(K KP:KE):Except Int (Pv×RS)->Prop
 | .ok (x,s)=>∀Q' (e:Ev) H',aM Q Q'->im Q' e->e.p=x->s.e=0->aI s.bs->s.bs.length<=1099511627776->aA H' (Q'::crdA rb s::F)->K (aggV e) H'
 | .error e=>∀Q' H',e≠0->aM Q Q'->aA H' (Q'::F)->KP (pnV e) H'
theorem xb{rb:Nat}{s:RS}(h:aA H (Q::crdA rb s::F))(hb:aI s.bs)(x:s.bs.length<=1099511627776)(k:EPost rb Q F K KP (ja s)) :
  CP 211 #[.agg #[PA rb 0]] H K KP:=by
 refine cMP 211 69916 ?_;refine h.al λb _ h=>?_
 refine h.al λb1 _ h=>⟨_,h.rd 1 rfl 0,_,h.rd 1 rfl 0,?_⟩
 have h:=h.o [3,0,1,2] 4;refine kj h hb x ?_;unfold ja at k
 cases hr:cG s with
 | error e=>
  rw[hr]at k;exact λi f h=>k _ _ f (aM.refl Q) (h.o [2] 3)
 | ok p=>
  obtain⟨v,s1⟩:=p;rw[hr]at k;dsimp only at k;intro i A t j h;refine⟨_,rfl,h.rd 2 rfl 0,?_⟩;refine uu h t j ?_
  cases hr:gj s1 with
  | error e=>
   rw[hr]at k;exact λi f h=>k _ _ f (aM.refl Q) (h.o [2] 3)
  | ok p=>
   obtain⟨u,s2⟩:=p;rw[hr]at k;dsimp only at k;intro i y d m h;refine⟨_,rfl,_,h.r 2,?_⟩;refine Ji h d m λa c D h=>⟨_,_,_,_,_,rfl,?_⟩
   have n:=As d;have B:=At s2;refine h.al λb2 _ h=>?_
   refine h.st 0 rfl rfl ?_;intro C h;unfold okR at k;refine j7 (λe=>?_) λe=>?_
   .rw [V4 (by simpa using e),sC e]at k;refine⟨rfl,_,_,_,_,h.q 0,?_⟩;refine h.st 3 rfl rfl ?_;intro E h;refine⟨_,_,_,_,_,_,h.q 3,?_⟩;have w:(cO s2).rest.e=0:=by rw[<-sC e];exact e
    refine k _ ⟨v,u,(cO s2).name,(cO s2).labs,a,c⟩ _ (aM.add (slA 421 2 a (cO s2).labs.length c (flat dg (cO s2).labs)) Q) (KIn.sl (c:=c)) rfl w n (by omega) ?_;have h:=h.o [2,5,1] 6;exact gy.2 h
   .rw [V5 e]at k;have h:=h.o [5] 6;exact k _ _ e (aM.refl Q) h
end
theorem Rp.right_len{r:Rp}(h:r.right=true):r.evs.length<=64:=by
 unfold Rp.right at h;rw[VB,VB,VB]at h;have h:=h.1.2
 split at h
 .unfold gT at h;simp only[VB,VA]at h;omega
 .have:=V8 h;omega
theorem ordK_pos{k:Int}:∀i∈cu k,1<=i:=by
 unfold cu
 split
 .decide
 split
 .decide
 split
 .decide
 split
 .decide
 split
 .decide
 split
 .decide
 .decide
theorem encR_get{r:Rp}{a:KQ}{c i:Nat}(d:1<=i)(b:i<11):aT (de r a c) i=some (aD (r.nums i)):=by
 rcases (by omega:i=1\/i=2\/i=3\/i=4\/i=5\/i=6\/i=7\/i=8\/i=9\/i=10) with rfl|rfl|rfl|rfl|rfl|rfl|rfl|rfl|rfl|rfl <;> rfl
abbrev nmB(r:Rp)(is:List Nat):List Int:=is.flatMap λi=>aN [r.nums i]
theorem J7(r:Rp)(is:List Nat):(nmB r is).length<=10*is.length:=by
 induction is with
 | nil=>simp
 | cons i l ih=>
  have:=dK [r.nums i];unfold nmB at *;rw[Wg,V7,VE];simp only[VE,VZ]at this;omega
theorem AG(l:List Pv):(l.flatMap evB).length<=1320*l.length:=by
 induction l with
 | nil=>simp
 | cons i l ih=>
  have:=xa i;rw[Wg,V7,VE];omega
section
variable {F L:List aE}{H:aC}{K KP:KE}{Q:aE}
theorem SY{r:Rp}{a:KQ}{c:Nat}{evs:List Ev}(B:r.evs=evs.map Ev.p)(h:aA H F)(E:lP F a evs)(U:evs.length<=1099511627776)
  (k:∀t m f,aA f (slA 5 1 t r.bytes.length m (r.bytes.map U8)::F)->K (.slice t r.bytes.length m) f):CF 110 #[.agg ⟨de r a c⟩] H K:=by
 have N:r.evs.length=evs.length:=by rw[B,VM]
 refine cN 110 0x1d1215612399251442174921561239925144c [[(3,sS),(42,sI)],[(3,sS)],[(3,sS),(17,sI)]] ?_;refine h.al λb _ h=>⟨_,_,_,_,_,_,_,_,_,_,_,_,_,_,h.q 0,?_⟩
 refine AF B h (E.cons _) U λW h=>⟨_,rfl,λA=>?_,λA=>?_⟩
 .have e:r.bytes=[]:=by unfold Rp.bytes;rw[V4 (by simpa using A)]
  rw[e]at k;exact k none 0 _ (h.tl.sl_nil 5 1)
 have M:r.right=true:=by simpa using A
 have S:=Rp.right_len M;unfold Rp.bytes at k;rw[V5 M]at k;have V:=dK [r.kind];have lo:=wX r.kind;simp only[VE,VZ]at V;refine⟨_,h.r 0,?_⟩;refine h.al λb1 _ h=>?_
 refine nR h 0 rfl λa1 c1 H2 h=>⟨_,_,_,rfl,?_⟩
 refine AD h 2 rfl rfl λp pc Z h=>⟨_,_,_,rfl,?_⟩
 refine⟨λt D m i f=>∃j:Nat,i=j/\j<=(cu r.kind).length/\D=(aN [r.kind]++nmB r ((cu r.kind).take j)).length/\
  aA f (slA 5 1 t (aN [r.kind]++nmB r ((cu r.kind).take j)).length m ((aN [r.kind]++nmB r ((cu r.kind).take j)).map U8)::slA 297 1 p (cu r.kind).length pc ((cu r.kind).map λi=>PA b i)::cellsA b (de r a c) 61::F),
  λ_ _ _ i _=>(cu r.kind).length-i.toNat,⟨0,rfl,by omega,by simp,?_⟩,?_⟩
 .rw [show aN [r.kind]++nmB r ((cu r.kind).take 0)=aN [r.kind] by simp[nmB]];exact h.o [1,0,3] 4
 rintro a2 n2 c2 i H4 ⟨j,rfl,T,rfl,h⟩;have u:=J7 r ((cu r.kind).take j);have G:((cu r.kind).take j).length<=(cu r.kind).length:=by rw[VY];omega
 refine⟨λd=>?_,λd=>?_⟩
 .have d:j<(cu r.kind).length:=by have:=V8 d;omega
  have v:=(h.sl_rd 1 rfl).at d;have hi:=AE _ (VL d);have y:=ordK_pos _ (VL d)
  conv=>whnf
  refine⟨by omega,_,_,v.1,_,v.2,⟨r.nums (cu r.kind)[j],(h.r 2).trans (encR_get y hi),?_⟩⟩;refine h.al λb3 _ h=>?_
  refine nR h 0 rfl λa3 c3 L h=>⟨_,_,_,rfl,?_⟩
  have l1:=dK [r.nums (cu r.kind)[j]];simp only[VE,VZ]at l1;refine dq h (i:=2) rfl rfl rfl (h.sl_rd 0 rfl) (by rw[V7];omega) λa4 c4 J h=>⟨_,_,_,rfl,?_⟩
  conv=>whnf
  rw[aJ (x:=(j:Int)+1)];have e:aN [r.kind]++nmB r ((cu r.kind).take (j+1))=(aN [r.kind]++nmB r ((cu r.kind).take j))++aN [r.nums (cu r.kind)[j]]:=by
   unfold nmB;rw[jP d,VK]
  rw[<-e]at h ⊢;exact⟨⟨j+1,by omega,d,rfl,h.o [2,3,4] 5⟩,by dsimp only;omega⟩
 .have n:(cu r.kind).length<=j:=by have:=V9 d;omega
  rw[Wc n]at h u ⊢;have h:=h.o [0,2] 3;refine⟨_,h.r 1,?_⟩;intro P Q;have w:∀(O:List Int) a3 m f,O=(aN [r.kind]++nmB r (cu r.kind))++(if r.kind=4 then aN [(r.evs.length:Int)] else [])->aA f (slA 5 1 a3 O.length m (O.map U8)::cellsA b (de r a c) 61::F)->P a3 O.length m f:=by
   intro O a3 c3 L I h;refine Q _ _ _ _ ?_;have lO:O.length<=80:=by
    rw[I];have l2:=dK [(r.evs.length:Int)];simp only[VE,VZ]at l2
    split <;> simp only[V7,VZ] <;> omega
   refine⟨_,_,_,h.r 1,?_⟩;rw[<-I]at k;refine⟨λt D m i f=>∃j:Nat,i=j/\j<=evs.length/\D=(O++(r.evs.take j).flatMap evB).length/\
    aA f (slA 5 1 t (O++(r.evs.take j).flatMap evB).length m ((O++(r.evs.take j).flatMap evB).map U8)::cellsA b (de r a c) 61::F),
    λ_ _ _ i _=>evs.length-i.toNat,⟨0,rfl,by omega,by simp,by simpa using h⟩,?_⟩
   rintro a4 n4 c4 i J ⟨j,rfl,T,rfl,h⟩;have u:=AG (r.evs.take j);have G:(r.evs.take j).length<=r.evs.length:=by rw[VY];omega
   refine⟨λd=>?_,λd=>?_⟩
   .have d:j<evs.length:=by have:=V8 d;omega
    have v:=E.rd _ h.tl.tl;refine⟨by omega,_,_,v.some fG (by omega) d,_,_,_,_,_,_,v.els fG d,?_⟩;refine h.al λb5 _ h=>?_
    refine h.st 0 rfl rfl ?_;intro H7 h;refine⟨_,_,_,_,_,_,h.q 0,?_⟩;refine J6 (e:=evs[j]) h (λH h=>E.labs _ (VL d) H h.tl.tl.tl) λa6 c6 H8 h=>⟨_,_,_,rfl,?_⟩
    have l1:=xa evs[j].p
    conv=>whnf
    refine dq h (i:=2) rfl rfl rfl (h.sl_rd 0 rfl) (by rw[V7];omega) λa7 c7 Y h=>⟨_,_,_,rfl,?_⟩
    conv=>whnf
    rw[aJ (x:=(j:Int)+1)];have C:j<r.evs.length:=by omega
    have R:r.evs[j]=evs[j].p:=by simp[B]
    have e:O++(r.evs.take (j+1)).flatMap evB=(O++(r.evs.take j).flatMap evB)++evB evs[j].p:=by
     rw[jP C,VK,R]
    rw[<-e]at h ⊢;exact⟨⟨j+1,by omega,d,rfl,h.o [2,3] 4⟩,by dsimp only;omega⟩
   .have n:r.evs.length<=j:=by have:=V9 d;omega
    rw[Wc n]at h ⊢;exact k _ _ _ (h.o [0] 2)
  refine⟨λs=>?_,λs=>?_⟩
  .have s:=V8 s;refine⟨_,_,_,h.r 1,?_⟩;refine h.al λb6 _ h=>?_
   refine nR h 0 rfl λa3 c3 L h=>⟨_,_,_,rfl,?_⟩
   have l1:=dK [(r.evs.length:Int)];simp only[VE,VZ]at l1
   conv=>whnf
   refine dq h (i:=2) rfl rfl rfl (h.sl_rd 0 rfl) (by rw[V7];omega) λa4 c4 J h=>⟨_,_,_,rfl,?_⟩
   refine w _ _ _ _ (by rw[V5 s]) (h.o [2,3] 4)
  .have s:=V9 s;refine w _ _ _ _ (by rw[V4 s,We]) h
end
structure Fq where
 kind:Int
 ag:Int:=0
 ep:Int:=0
 bt:Int:=0
 ct:Int:=0
 got:Int:=0
 sent:Int:=0
 next:Int:=0
 stamp:Int:=0
 win:Int:=0
 evs:List Pv:=[]
 sn:Fa:=⟨#[]⟩
 sl:List bS:=[]
 data:List Int:=[]
def aU(k:Int):List Nat:=if k=1 then [1,3] else if k=2 then [1,3,2] else if k=3 then [1,3,4] else if k=4 then [1,2,3,4,5,6] else
 if k=5\/k=6 then [1,2,7] else if k=7 then [1,2,7,8] else if k=8 then [9] else []
def Fq.nums(f:Fq)(i:Nat):Int:=match i with
 | 1=>f.ag|2=>f.ep|3=>f.bt|4=>f.ct|5=>f.got|6=>f.sent|7=>f.next|8=>f.stamp|9=>f.win|_=>0
structure QA where
 ea:KQ:=none
 ec:Nat:=0
 la:KQ:=none
 lc:Nat:=0
 da:KQ:=none
 dc:Nat:=0
abbrev cH(f:Fq)(x:QA):Os:=
 [aB f.kind,aB f.ag,aB f.ep,aB f.bt,aB f.ct,aB f.got,aB f.sent,aB f.next,aB f.stamp,aB f.win,.slice x.ea f.evs.length x.ec,.string f.sn,.slice x.la f.sl.length x.lc,.slice x.da f.data.length x.dc]
structure Fq.Sh(f:Fq)(x:QA):Prop where
 ev:f.kind≠5->f.evs=[]/\x.ea=none/\x.ec=0
 em:f.kind≠8->f.sn=⟨#[]⟩/\f.sl=[]/\x.la=none/\x.lc=0/\f.data=[]/\x.da=none/\x.dc=0
 nm:∀i,1<=i->i<=9->i∉aU f.kind->f.nums i=0
structure lQ(F:List aE)(f:Fq)(x:QA)(evs:List Ev):Prop where
 eq:f.evs=evs.map Ev.p
 ev:lP F x.ea evs
 lab:∀H,aA H F->aP H x.la (flat dg f.sl)
 dat:∀H,aA H F->aP H x.da (f.data.map U8)
 dA:x.da=none\/∃k o,x.da=some ⟨k,o,none⟩
 sh:f.Sh x
 el:evs.length<=1000000
 ll:∀e∈evs,e.labs.length<=1000000
 sl:f.sl.length<=1000000
 dl:f.data.length<=1000000000
theorem lQ.cons{F:List aE}{f:Fq}{x:QA}{evs:List Ev}(h:lQ F f x evs)(A:aE):lQ (A::F) f x evs:=
 ⟨h.eq,h.ev.cons A,λH a=>h.lab H a.tl,λH a=>h.dat H a.tl,h.dA,h.sh,h.el,h.ll,h.sl,h.dl⟩
theorem lQ.len{F:List aE}{f:Fq}{x:QA}{evs:List Ev}(h:lQ F f x evs):f.evs.length=evs.length:=by rw[h.eq,VM]
def gU(f:Fq):Bool:=if f.kind=4 then decide (f.got<=f.sent) else if f.kind=5 then gT f.next f.evs else
 if f.kind=6\/f.kind=7 then decide (f.next<=1099511627776) else if f.kind=8 then fw f.sn f.sl&&decide (f.data.length<=4096) else true
def eZ(f:Fq):Bool:=inM f.kind 1 8&&(inM f.ag 0 63&&inM f.ep 0 1099511627776)&&(aU f.kind).all (λi=>inM (f.nums i) 0 4611686018427387903)&&gU f
theorem AH{k:Int}:∀i∈aU k,1<=i/\i<=9:=by
 unfold aU
 split
 .decide
 split
 .decide
 split
 .decide
 split
 .decide
 split
 .decide
 split
 .decide
 split
 .decide
 .decide
theorem xc(k:Int):(aU k).length<=6:=by
 unfold aU
 split
 .decide
 split
 .decide
 split
 .decide
 split
 .decide
 split
 .decide
 split
 .decide
 split
 .decide
 .decide
theorem kinds8{k:Int}(b:1<=k)(a:k<=8):k=1\/k=2\/k=3\/k=4\/k=5\/k=6\/k=7\/k=8:=by omega
theorem J8{k:Int}:aU k=[]↔¬(1<=k/\k<=8):=by
 constructor
 .intro h a
  rcases kinds8 a.1 a.2 with rfl|rfl|rfl|rfl|rfl|rfl|rfl|rfl <;> exact V6 h (by decide)
 .intro h;unfold aU;rw[nO,nO,nO,nO,nO,nO,nO]
theorem J9{f:Fq}{x:QA}{i:Nat}(b:1<=i)(a:i<=9):aT (cH f x) i=some (aB (f.nums i)):=by
 rcases (by omega:i=1\/i=2\/i=3\/i=4\/i=5\/i=6\/i=7\/i=8\/i=9) with rfl|rfl|rfl|rfl|rfl|rfl|rfl|rfl|rfl <;> rfl
def px(f:Fq)(is:List Nat):Os:=is.foldl (λcs i=>cv cs i [aB (f.nums i)]) (cH { kind:=f.kind } {})
theorem SZ(f:Fq):∀is,(px f is).length=14:=by
 have:∀(is:List Nat) (cs:Os),cs.length=14->(is.foldl (λcs i=>cv cs i [aB (f.nums i)]) cs).length=14:=by
  intro is
  induction is with
  | nil=>intro cs h;exact h
  | cons i is ih=>intro cs h;exact ih _ (by rw[oh];exact h)
 exact λis=>this is _ rfl
theorem Ta(f:Fq)(is:List Nat)(i:Nat):px f (is++[i])=cv (px f is) i [aB (f.nums i)]:=by
 unfold px;rw[WR];rfl
theorem Tb{f:Fq}(c:1<=f.kind)(b:f.kind<=8)(a:∀i,1<=i->i<=9->i∉aU f.kind->f.nums i=0) :
  px f (aU f.kind)=[aB f.kind,aB f.ag,aB f.ep,aB f.bt,aB f.ct,aB f.got,aB f.sent,aB f.next,aB f.stamp,aB f.win,.slice none 0 0,.string ⟨#[]⟩,.slice none 0 0,.slice none 0 0]:=by
 obtain⟨kind,ag,ep,bt,ct,got,sent,next,stamp,win,evs,sn,sl,data⟩:=f;dsimp only at c b;have n1:1∉aU kind->ag=0:=a 1 (by decide) (by decide);have n2:2∉aU kind->ep=0:=a 2 (by decide) (by decide);have n3:3∉aU kind->bt=0:=a 3 (by decide) (by decide);have n4:4∉aU kind->ct=0:=a 4 (by decide) (by decide);have n5:5∉aU kind->got=0:=a 5 (by decide) (by decide);have n6:6∉aU kind->sent=0:=a 6 (by decide) (by decide);have n7:7∉aU kind->next=0:=a 7 (by decide) (by decide);have n8:8∉aU kind->stamp=0:=a 8 (by decide) (by decide);have n9:9∉aU kind->win=0:=a 9 (by decide) (by decide)
 clear a
 rcases kinds8 c b with rfl|rfl|rfl|rfl|rfl|rfl|rfl|rfl
 .rw [n2 (by decide),n4 (by decide),n5 (by decide),n6 (by decide),n7 (by decide),n8 (by decide),n9 (by decide)];rfl
 .rw [n4 (by decide),n5 (by decide),n6 (by decide),n7 (by decide),n8 (by decide),n9 (by decide)];rfl
 .rw [n2 (by decide),n5 (by decide),n6 (by decide),n7 (by decide),n8 (by decide),n9 (by decide)];rfl
 .rw [n7 (by decide),n8 (by decide),n9 (by decide)];rfl
 .rw [n3 (by decide),n4 (by decide),n5 (by decide),n6 (by decide),n8 (by decide),n9 (by decide)];rfl
 .rw [n3 (by decide),n4 (by decide),n5 (by decide),n6 (by decide),n8 (by decide),n9 (by decide)];rfl
 .rw [n3 (by decide),n4 (by decide),n5 (by decide),n6 (by decide),n9 (by decide)];rfl
 .rw [n1 (by decide),n2 (by decide),n3 (by decide),n4 (by decide),n5 (by decide),n6 (by decide),n7 (by decide),n8 (by decide)];rfl
section
variable {F L:List aE}{H:aC}{K:KE}
theorem xd{b e:Nat}{k0:Int}{cs:Os}(h:aA H F)(i:Nat)(C:aW i F=cellsA b cs e)(A:aT cs 0=some (aD k0))
  (k:∀a c j,(a.isNone=true↔aU k0=[])->aA j (slA 297 1 a (aU k0).length c ((aU k0).map λi=>PA b i)::F)->K (.slice a (aU k0).length c) j):CF 170 #[PA b 0] H K:=by
 refine cN 170 0x121513c13c13c13c217943c13cbc [[(68,sB)]] ?_;have fin:∀(l:List Nat) p j,aU k0=l->l≠[]->aA j (cellsA p (l.map λi=>PA b i) 297::F)->K (.slice (some ⟨p,0,none⟩) l.length l.length) j:=by
  intro l p j e B h;subst e;refine k _ _ _ ⟨λy=>(by cases y),λy=>V6 y B⟩ ?_
  exact aA.sl_pt h 1 _ (by simp)
 refine⟨k0,(h.rd i C 0).trans A,λd=>?_,λd=>⟨λd=>?_,λd=>⟨λd=>?_,λd=>⟨λd=>?_,λd=>?_⟩⟩⟩⟩
 .obtain rfl:=V8 d;exact h.al λp _ h=>fin [1,3] p _ rfl (by decide) h
 .obtain rfl:=V8 d;exact h.al λp _ h=>fin [1,3,2] p _ rfl (by decide) h
 .obtain rfl:=V8 d;exact h.al λp _ h=>fin [1,3,4] p _ rfl (by decide) h
 .obtain rfl:=V8 d;exact h.al λp _ h=>fin [1,2,3,4,5,6] p _ rfl (by decide) h
 simp only[VD]at *;intro E D;have u:∀t:Bool,t=decide (k0=5\/k0=6)->E t H:=by
  intro t w;refine D _ _ ⟨λf=>?_,λf=>⟨λs=>?_,λs=>⟨λm=>?_,λm=>?_⟩⟩⟩
  .rw [f]at w;have n:=V8 w.symm;refine h.al λp _ h=>fin [1,2,7] p _ ?_ (by decide) h
   rcases n with rfl|rfl <;> rfl
  .obtain rfl:=V8 s;exact h.al λp _ h=>fin [1,2,7,8] p _ rfl (by decide) h
  .obtain rfl:=V8 m;exact h.al λp _ h=>fin [9] p _ rfl (by decide) h
  .rw [f]at w;have n:=V9 w.symm;simp only[VD]at *;have e:aU k0=[]:=by
    unfold aU;simp only[*,if_false]
   have:=k none 0 H ⟨λ_=>e,λ_=>rfl⟩ (by rw[e];exact h.sl_nil 297 1)
   rw[e]at this;exact this
 refine⟨λv=>u _ ?_,λv=>u _ ?_⟩
 .rw [v];exact (VS (.inl (V8 v))).symm
 .have x:=V9 v;exact decide_eq_decide.2 ⟨λh=>.inr h,λh=>h.resolve_left x⟩
end
theorem batchP_B{next:Int}{evs:List Ev}(h:0<=next/\next<=4611686018427387903):gT next (evs.map Ev.p)=iD next evs:=by
 rw[<-wW,SB,VS h.1,Yo]
section
variable {F L:List aE}{H:aC}{K:KE}{f:Fq}{x:QA}{evs:List Ev}
theorem Tc(h:aA H F)(r:lQ F f x evs)(k:∀d,aA d F->K (.bool true) d) :
  CF 227 #[.agg ⟨cH f x⟩,.agg ⟨cH f x⟩] H K:=by
 refine cN 227 4745 [[(4,sB)]] ?_;refine h.al λb _ h=>?_
 refine h.al λb1 _ h=>?_
 intro t i;have r2:=(r.cons (cellsA b (cH f x) 81)).cons (cellsA b1 (cH f x) 81);have c:=r.len;refine⟨_,_,_,h.q 1,_,_,_,h.q 0,true,eq102,_,_,_,_,_,_,_,_,_,_,_,_,_,_,_,_,_,_,_,_,λ_=>h.q 1,_,_,_,_,_,_,_,_,_,_,_,_,_,_,_,_,_,_,_,_,λ_=>h.q 0,λ_=>?_,λa=>V6 rfl a⟩
 refine wU h λj h=>⟨_,_,_,_,_,_,_,rfl,λ_=>h.q 0,?_⟩
 refine wU h λs h=>⟨_,_,_,_,_,_,_,rfl,true,eq314,_,_,_,λ_=>h.r 1,_,_,_,λ_=>h.r 0,λ_=>?_,λa=>V6 rfl a⟩
 rw[c]at *;refine Jr h r2.ev r.el r.ll λn h=>⟨_,rfl,_,_,_,_,λ_=>h.q 1,_,_,_,_,λ_=>h.q 0,λ_=>?_,λa=>V6 rfl a⟩
 refine Ay h r2.lab r.sl λm h=>⟨_,rfl,_,_,_,λ_=>h.r 1,_,_,_,λ_=>h.r 0,λ_=>?_,λa=>V6 (by simp) a⟩
 refine Az r.dA r.dA (r2.dat _ h) (r2.dat _ h) ⟨_,rfl,i _ _ ?_⟩;have:=k _ h.tl.tl;have e:((bG f.data).toList == (bG f.data).toList)=true:=by simp
 rw[e];exact this
theorem JA(h:aA H F)(r:lQ F f x evs)(k:∀u,aA u F->K (.bool (eZ f)) u):CF 137 #[.agg ⟨cH f x⟩] H K:=by
 refine cN 137 0x11d11215612399251d4421517b171b217947b171b9c [[],[],[(88,sB)],[],[],[(43,sI)]] ?_;have Y:=r.len;refine h.al λb _ h=>?_
 refine xd h 0 rfl rfl λp pc H1 hp h=>⟨_,_,_,rfl,_,λ_=>h.r 1,_,λ_=>h.r 1,_,λ_=>h.r 1,_,λ_=>h.r 1,λc=>?_,λc=>?_⟩
 .have:eZ f=false:=by
   unfold eZ;simp only[VR,VA]at c
   rcases c with (((c|c)|c)|c)|c
   .have h0:=J8.1 (hp.1 c);have:inM f.kind 1 8=false:=by
     rw[Wo,VD,VD];omega
    rw[this];rfl
   .have:inM f.ag 0 63=false:=by rw[Wo,VD,VD];omega
    rw[this];simp
   .have:inM f.ag 0 63=false:=by rw[Wo,VD,VD];omega
    rw[this];simp
   .have:inM f.ep 0 1099511627776=false:=by rw[Wo,VD,VD];omega
    rw[this];simp
   .have:inM f.ep 0 1099511627776=false:=by rw[Wo,VD,VD];omega
    rw[this];simp
  rw[this]at k;exact k _ h.tl.tl
 simp only[VP,VD]at c;obtain⟨⟨⟨⟨P,j3⟩,l0⟩,h9⟩,r0⟩:=c;have A:1<=f.kind/\f.kind<=8:=by
  apply Classical.byContradiction;intro hn;rw[hp.2 (J8.2 hn)]at P
  cases P
 have G:(inM f.kind 1 8&&(inM f.ag 0 63&&inM f.ep 0 1099511627776))=true:=by
  simp only[VB,VA];omega
 refine⟨_,h.r 1,?_⟩;refine h.al λb1 _ h=>?_
 refine h.st 0 rfl rfl ?_;intro H2 h;have h:aA H2 (cellsA b1 (px f []) 81::slA 297 1 p (aU f.kind).length pc ((aU f.kind).map λi=>PA b i)::cellsA b (cH f x) 81::F):=h
 refine xd (k0:=f.kind) h 0 rfl rfl λp1 E H3 l5 h=>⟨_,_,_,rfl,?_⟩
 have lo:=xc f.kind;refine⟨λi u=>∃j:Nat,i=j/\j<=(aU f.kind).length/\(∀q,q<j->∀M:q<(aU f.kind).length,inM (f.nums (aU f.kind)[q]) 0 4611686018427387903=true)/\
  aA u (slA 297 1 p1 (aU f.kind).length E ((aU f.kind).map λi=>PA b1 i)::cellsA b1 (px f ((aU f.kind).take j)) 81::slA 297 1 p (aU f.kind).length pc ((aU f.kind).map λi=>PA b i)::cellsA b (cH f x) 81::F),
  λi _=>(aU f.kind).length-i.toNat,⟨0,rfl,by omega,λq M=>V6 M (by omega),h⟩,?_⟩
 rintro i H4 ⟨j,rfl,hj,D,h⟩;refine⟨λa=>?_,λa=>?_⟩
 .have a:j<(aU f.kind).length:=by have:=V8 a;omega
  have hr:=(h.sl_rd 2 rfl).at a;have N:=(h.sl_rd 0 rfl).at a;have hi:=AH _ (VL a);have W:∀{u},aA u (slA 297 1 p1 (aU f.kind).length E ((aU f.kind).map λi=>PA b1 i)::cellsA b1 (px f ((aU f.kind).take j)) 81::slA 297 1 p (aU f.kind).length pc ((aU f.kind).map λi=>PA b i)::cellsA b (cH f x) 81::F)->
   aL u b (aU f.kind)[j]=some (aD (f.nums (aU f.kind)[j])):=λh=>(h.r 3).trans (J9 hi.1 hi.2)
  refine⟨by omega,_,_,hr.1,_,hr.2,⟨_,W h,λ_=>trivial,_,λ_=>W h,λc=>?_,λc=>?_⟩⟩
  .have:eZ f=false:=by
    unfold eZ;have e:(aU f.kind).all (λi=>inM (f.nums i) 0 4611686018427387903)=false:=by
     refine wN a ?_;simp only[VR,VA]at c;rw[Wo,VD,VD];omega
    rw[e];simp
   rw[this]at k;exact k _ h.tl.tl.tl.tl
  .simp only[VP,VD]at c;refine⟨by omega,_,_,N.1,_,N.2,⟨_,W h,?_⟩⟩;refine h.st 1 rfl (by rw[SZ];exact Nat.ble_eq_true_of_le (by show (aU f.kind)[j]+1<=14;omega)) ?_;intro H5 h;have hw:i64.wrap ((j:Int)+1)=((j+1:Nat):Int):=by rw[aJ];omega
   refine⟨⟨j+1,hw,a,λq M Z=>?_,?_⟩,by rw[hw];dsimp only;omega⟩
   .rcases Wa q j with h1|h1
    .exact D q h1 Z
    .obtain rfl:q=j:=by omega
     rw[VB,VA,VA];omega
   .rw [Wn a,Ta];exact h
 have U:j=(aU f.kind).length:=by have:=V9 a;omega
 subst U;have C:(aU f.kind).all (λi=>inM (f.nums i) 0 4611686018427387903)=true:=by
  rw[Wt];intro i hi;obtain⟨q,M,rfl⟩:=Wz hi;exact D q M M
 have hR:eZ f=gU f:=by unfold eZ;rw[G,C];simp
 rw[hR]at k;rw[Wi,Tb A.1 A.2 r.sh.nm]at h;have O:∀i∈aU f.kind,0<=f.nums i/\f.nums i<=4611686018427387903:=by
  intro i hi;have:=Wt.1 C i hi;rw[VB,VA,VA]at this;exact this
 refine⟨_,h.r 3,?_⟩;intro Jn hJ;have fin:gU f=true->∀u,aA u (slA 297 1 p1 (aU f.kind).length E ((aU f.kind).map λi=>PA b1 i)::cellsA b1 (cH f x) 81::slA 297 1 p (aU f.kind).length pc ((aU f.kind).map λi=>PA b i)::cellsA b (cH f x) 81::F)->Jn u:=by
  intro h2 u h;refine hJ _ ?_;refine⟨_,_,_,_,_,_,_,_,_,_,_,_,_,_,_,_,_,_,_,_,h.q 3,_,_,_,_,_,_,_,_,_,_,_,_,_,_,_,_,_,_,_,_,h.q 1,?_⟩;rw[h2]at k;refine Tc h ((((r.cons _).cons _).cons _).cons _) λH7 h=>⟨_,rfl,?_⟩
  exact k _ h.tl.tl.tl.tl
 have d:f.kind≠5->f.kind≠8->[aD f.kind,aD f.ag,aD f.ep,aD f.bt,aD f.ct,aD f.got,aD f.sent,aD f.next,aD f.stamp,aD f.win,.slice none 0 0,.string ⟨#[]⟩,.slice none 0 0,.slice none 0 0]=cH f x:=by
  intro m w;obtain⟨e1,e2,e3⟩:=r.sh.ev m;obtain⟨d1,d2,d3,d4,d5,d6,d7⟩:=r.sh.em w;unfold cH;rw[e1,e2,e3,d1,d2,d3,d4,d5,d6,d7];rfl
 refine⟨λn=>?_,λn=>?_⟩
 .have n:=V8 n;refine⟨_,h.r 3,_,h.r 3,λL=>?_,λL=>?_⟩
  .have e:gU f=false:=by unfold gU;rw[V5 n];have:=V8 L;exact Ws (by omega)
   rw[e]at k;exact k _ h.tl.tl.tl.tl
  .rw [d (by omega) (by omega)]at h;refine fin ?_ _ h;unfold gU;rw[V5 n];have:=V9 L;exact VS (by omega)
 have n:=V9 n;intro j1 y;refine⟨λm=>?_,λm=>?_⟩
 .have m:=V8 m;have V:0<=f.next/\f.next<=4611686018427387903:=O 7 (by rw[m];decide);have s:gU f=iD f.next evs:=by unfold gU;rw[V4 n,V5 m,r.eq,batchP_B V]
  refine⟨_,_,_,h.r 3,?_⟩;refine h.st 1 rfl rfl ?_;intro H5 h;refine⟨_,h.r 3,_,_,_,h.r 3,?_⟩;rw[Y];refine Js h ((((r.ev.cons _).cons _).cons _).cons _) (by have:=r.el;omega) λH6 h=>⟨_,rfl,λhb=>?_,λhb=>y _ ?_⟩
  .rw [s,show iD f.next evs=false by simpa using hb]at k;exact k _ h.tl.tl.tl.tl
  .refine fin (by rw[s];simpa using hb) _ ?_;obtain⟨d1,d2,d3,d4,d5,d6,d7⟩:=r.sh.em (by omega);have e:cH f x=[aD f.kind,aD f.ag,aD f.ep,aD f.bt,aD f.ct,aD f.got,aD f.sent,aD f.next,aD f.stamp,aD f.win,.slice x.ea f.evs.length x.ec,.string ⟨#[]⟩,.slice none 0 0,.slice none 0 0]:=by
    unfold cH;rw[d1,d2,d3,d4,d5,d6,d7];rfl
   rw[e]at h ⊢;exact h
 have m:=V9 m;intro h3 h7;have B:∀t:Bool,t=decide (f.kind=6\/f.kind=7)->h3 t H4:=by
  intro t S;refine h7 _ _ ?_;intro j2 I;refine⟨λJ=>?_,λJ=>?_⟩
  .rw [J]at S;have v:=V8 S.symm;refine⟨_,h.r 3,λL=>?_,λL=>I _ (y _ ?_)⟩
   .have e:gU f=false:=by unfold gU;rw[V4 n,V4 m,V5 v];have:=V8 L;exact Ws (by omega)
    rw[e]at k;exact k _ h.tl.tl.tl.tl
   .rw [d (by omega) (by omega)]at h;refine fin ?_ _ h;unfold gU;rw[V4 n,V4 m,V5 v];have:=V9 L;exact VS (by omega)
  rw[J]at S;have v:=V9 S.symm;intro l6 Q;refine⟨λw=>?_,λw=>Q _ (I _ (y _ ?_))⟩
  .have w:=V8 w;have s:gU f=(fw f.sn f.sl&&decide (f.data.length<=4096)):=by unfold gU;rw[V4 n,V4 m,V4 v,V5 w]
   refine⟨_,_,_,_,h.q 3,_,_,_,h.r 3,?_⟩;refine h.st 1 rfl rfl ?_;intro H5 h;refine h.st 1 rfl rfl ?_;intro H6 h;refine⟨_,_,_,_,h.q 3,?_⟩;refine qF h (λH h=>r.lab H h.tl.tl.tl.tl) λH7 h=>⟨_,rfl,_,_,_,λ_=>h.r 3,λhb=>?_,λhb=>Q _ (I _ (y _ ?_))⟩
   .have e:gU f=false:=by
     rw[s,Wo];simp only[VR,Wb,VA]at hb
     rcases hb with hb|hb
     .exact .inl hb
     .exact .inr (Ws (by omega))
    rw[e]at k;exact k _ h.tl.tl.tl.tl
   .simp only[VP,Wq,VD]at hb;refine fin (by rw[s,hb.1,VS (by omega)];rfl) _ ?_;obtain⟨e1,e2,e3⟩:=r.sh.ev (by omega);have e:cH f x=[aD f.kind,aD f.ag,aD f.ep,aD f.bt,aD f.ct,aD f.got,aD f.sent,aD f.next,aD f.stamp,aD f.win,.slice none 0 0,.string f.sn,.slice x.la f.sl.length x.lc,.slice x.da f.data.length x.dc]:=by
     unfold cH;rw[e1,e2,e3];rfl
    rw[e]at h ⊢;exact h
  .have w:=V9 w;rw[d m w]at h;refine fin ?_ _ h;unfold gU;rw[V4 n,V4 m,V4 v,V4 w]
 refine⟨λR=>B _ ?_,λR=>B _ ?_⟩
 .rw [R];exact (VS (.inl (V8 R))).symm
 .have T:=V9 R;exact decide_eq_decide.2 ⟨λh=>.inr h,λh=>h.resolve_left T⟩
end
abbrev nmF(f:Fq)(is:List Nat):List Int:=is.flatMap λi=>aN [f.nums i]
def mM(f:Fq):List Int:=if f.kind=5 then aN [(f.evs.length:Int)]++f.evs.flatMap evB else if f.kind=8 then iY f.sn f.sl++dd (bG f.data) else []
def j8(f:Fq):List Int:=(aN [f.kind]++nmF f (aU f.kind))++mM f
def cA(f:Fq):List Int:=if eZ f=false then [] else if 65536<(eK (j8 f)).length then [] else eK (j8 f)
def frmE(f:Fq):Int:=if eZ f=false then 10 else if 65536<(eK (j8 f)).length then 17 else 0
theorem usB_one(v:Int):aN [v]=bR (u64N v):=by simp[aN]
theorem JB{f:Fq}(h:eZ f=true):gU f=true:=by
 unfold eZ at h;rw[VB]at h;exact h.2
theorem JC{f:Fq}(h:eZ f=true)(a:f.kind=5):f.evs.length<=64:=by
 have h:=JB h;unfold gU at h;rw[nO,V5 a]at h;unfold gT at h;simp only[VB,VA]at h;omega
theorem Td{f:Fq}(h:eZ f=true)(a:f.kind=8):f.data.length<=4096:=by
 have h:=JB h;unfold gU at h;rw[nO,nO,nO,V5 a]at h;simp only[VB,VA]at h;omega
theorem JD(f:Fq)(is:List Nat):(nmF f is).length<=10*is.length:=by
 induction is with
 | nil=>simp
 | cons i l ih=>
  have:=dK [f.nums i];unfold nmF at *;rw[Wg,V7,VE];simp only[VE,VZ]at this;omega
section
variable {F L:List aE}{H:aC}{K:KE}{f:Fq}{x:QA}{evs:List Ev}
theorem Te{b o c:Nat}{y:Fy}(h:aA H F)(m:aP H (some ⟨b,o,none⟩) [dV y])(n:aP H y.a (y.bs.map U8))(s:y.bs.length<=100000000)
  (k:∀d f e,aA e (slA 5 1 d y.bs.length f (y.bs.map U8)::F)->K (.slice d y.bs.length f) e) :
  CF 255 #[.slice (some ⟨b,o,none⟩) 1 c,.slice none 0 0] H K:=by
 refine cN 255 0x1dd12172174949215612399251217494411215612399251144c [[(9,sI),(72,sI)],[],[(5,sI),(44,sI)],[],[(5,sI)]] ⟨λj=>V6 j (by decide),λ_=>⟨λ_=>?_,λj=>V6 j (by decide)⟩⟩
 refine⟨by decide,_,_,rfl,_,_,_,(m 0 _ rfl).2,?_⟩;have h:=h.sl_nil 5 1;refine dq (x:=[]) (y:=y.bs) h (i:=0) rfl rfl rfl n (by simp only[VZ];omega) λd f e h=>⟨_,_,_,rfl,?_⟩
 rw[Wl]at h;have:=k d f e h;exact this
theorem Tf{b c:Nat}{y:Fy}(h:aA H F)(i:Nat)(t:aW i F=cellsA b [dV y] 43)(u:∀H,aA H F->aP H y.a (y.bs.map U8))(hb:aI y.bs)(v:y.bs.length<=100000000)
  (k:∀e j s,aA s (slA 5 1 e (eK y.bs).length j ((eK y.bs).map U8)::F)->K (.slice e (eK y.bs).length j) s) :
  CF 179 #[.slice (some ⟨b,0,none⟩) 1 c] H K:=by
 have n:=zI (c:=c) (parts:=[y]) (h.ce_rd i t) (λz d=>by rw[VI]at d;subst d;exact u _ h) (by simp) (λz d=>by rw[VI]at d;subst d;omega)
 rw[show ([y]:List Fy).flatMap Fy.bs=y.bs by simp]at n;refine cM 179 4380 ⟨_,n,?_⟩;obtain⟨s0,s1⟩:=zG y.bs;have f:=G7 s0 s1;refine Te h (h.ce_rd i t) (u _ h) v λe j B h=>⟨_,_,_,rfl,by decide,by decide,by decide,?_⟩
 refine h.al λb1 A h=>?_
 refine aA.append (m:=4) (ws:=(le4 (kR y.bs)).map U8) rW h 1 rfl (h.ce_rd 0 (by rw[<-f];rfl)) (by simp[le4]) (nE (λ_=>rfl) _) (by omega) (by omega) λa3 c3 w x=>⟨_,_,_,rfl,?_⟩
 have:=k a3 c3 w;unfold eK at this;rw[V7,show (le4 (kR y.bs)).length=4 from rfl]at this;refine this ?_;rw[VW];exact x.tl
theorem xe{b:Nat}{v:Int}(h:aA H F)(i:Nat)(e:aW i F=cellsA b [.int .u64 (u64.wrap v)] 155)
  (k:∀a d c,aA c (slA 5 1 a (aN [v]).length d ((aN [v]).map U8)::F)->K (.slice a (aN [v]).length d) c):CF 111 #[.slice (some ⟨b,0,none⟩) 1 1] H K:=by
 rw[usB_one]at k;refine zo h (λH h=>?_) (su v) k
 rw[<-wZ];exact h.ce_rd i e
theorem AI(h:aA H F)(r:lQ F f x evs)
  (k:∀B c d,aA d (slA 5 1 B (cA f).length c ((cA f).map U8)::F)->K (.tuple #[.slice B (cA f).length c,aD (frmE f)]) d) :
  CF 82 #[.agg ⟨cH f x⟩] H K:=by
 refine cN 82 0x1d121561239925144215171156123992511144171491dc [[(4,sS)],[(4,sS),(49,sI)],[(4,sS)],[(4,sS),(20,sI)]] ?_;have h4:=r.len;refine h.al λb _ h=>⟨_,_,_,_,_,_,_,_,_,_,_,_,_,_,_,_,_,_,_,_,h.q 0,?_⟩
 refine JA h (r.cons _) λH1 h=>⟨_,rfl,λG=>?_,λG=>?_⟩
 .have e:cA f=[]:=by unfold cA;rw[V5 (by simpa using G)]
  have e2:frmE f=10:=by unfold frmE;rw[V5 (by simpa using G)]
  rw[e,e2]at k;exact k none 0 _ (h.tl.sl_nil 5 1)
 have I:eZ f=true:=by simpa using G
 have l0:=dK [f.kind];have lo:=xc f.kind;simp only[VE,VZ]at l0;refine⟨_,h.r 0,?_⟩;refine h.al λb1 _ h=>?_
 refine xe h 0 rfl λa1 c1 H2 h=>⟨_,_,_,rfl,?_⟩
 refine xd h 2 rfl rfl λp pc H3 _ h=>⟨_,_,_,rfl,?_⟩
 refine⟨λB S c i d=>∃j:Nat,i=j/\j<=(aU f.kind).length/\S=(aN [f.kind]++nmF f ((aU f.kind).take j)).length/\
  aA d (slA 5 1 B (aN [f.kind]++nmF f ((aU f.kind).take j)).length c ((aN [f.kind]++nmF f ((aU f.kind).take j)).map U8)::slA 297 1 p (aU f.kind).length pc ((aU f.kind).map λi=>PA b i)::cellsA b (cH f x) 81::F),
  λ_ _ _ i _=>(aU f.kind).length-i.toNat,⟨0,rfl,by omega,by simp,?_⟩,?_⟩
 .rw [show aN [f.kind]++nmF f ((aU f.kind).take 0)=aN [f.kind] by simp[nmF]];exact h.o [1,0,3] 4
 rintro a2 n2 c2 i H4 ⟨j,rfl,hj,rfl,h⟩;have w:=JD f ((aU f.kind).take j);have Q:((aU f.kind).take j).length<=(aU f.kind).length:=by rw[VY];omega
 refine⟨λa=>?_,λa=>?_⟩
 .have a:j<(aU f.kind).length:=by have:=V8 a;omega
  have D:=(h.sl_rd 1 rfl).at a;have hi:=AH _ (VL a)
  conv=>whnf
  refine⟨by omega,_,_,D.1,_,D.2,⟨f.nums (aU f.kind)[j],(h.r 2).trans (J9 hi.1 hi.2),?_⟩⟩;refine h.al λb3 _ h=>?_
  refine xe h 0 rfl λa3 c3 T h=>⟨_,_,_,rfl,?_⟩
  have l1:=dK [f.nums (aU f.kind)[j]];simp only[VE,VZ]at l1;refine dq h (i:=2) rfl rfl rfl (h.sl_rd 0 rfl) (by rw[V7];omega) λa4 c4 L h=>⟨_,_,_,rfl,?_⟩
  have E:i64.wrap ((j:Int)+1)=((j+1:Nat):Int):=by rw[aJ];omega
  have e:aN [f.kind]++nmF f ((aU f.kind).take (j+1))=(aN [f.kind]++nmF f ((aU f.kind).take j))++aN [f.nums (aU f.kind)[j]]:=by
   unfold nmF;rw[jP a,VK]
  rw[<-e]at h;refine⟨⟨j+1,E,a,by rw[e],h.o [2,3,4] 5⟩,by rw[E];dsimp only;omega⟩
 have v:(aU f.kind).length<=j:=by have:=V9 a;omega
 rw[Wc v]at h w ⊢;have h:=h.o [0,2] 3;refine⟨_,h.r 1,?_⟩;intro Jn hJ;have e0:cA f=if 65536<(eK (j8 f)).length then [] else eK (j8 f):=by unfold cA;rw[V4 (by rw[I];decide)]
 have e1:frmE f=if 65536<(eK (j8 f)).length then 17 else 0:=by unfold frmE;rw[V4 (by rw[I];decide)]
 have fin:∀(t:List Int) a3 c d,mM f=t->t.length<=100000->aI t->aA d (slA 5 1 a3 ((aN [f.kind]++nmF f (aU f.kind))++t).length c (((aN [f.kind]++nmF f (aU f.kind))++t).map U8)::cellsA b (cH f x) 81::F)->
   Jn a3 ((aN [f.kind]++nmF f (aU f.kind))++t).length c d:=by
  intro t a3 c d ht h6 P h;have J:j8 f=(aN [f.kind]++nmF f (aU f.kind))++t:=by unfold j8;rw[ht]
  rw[<-J]at h ⊢;have lb:(j8 f).length<=100100:=by rw[J,V7,V7];omega
  have M:aI (j8 f):=by
   rw[J];exact dD (dD (iE _) (jz λi _=>iE _)) P
  refine hJ _ _ _ _ ?_;refine h.al λb4 _ h=>?_
  refine Tf (y:=⟨a3,c,j8 f⟩) h 0 rfl (λH h=>h.sl_rd 1 rfl) M (by dsimp only;omega) λa5 c5 L h=>⟨_,_,_,rfl,λA=>?_,λA=>?_⟩
  .have A:=V8 A;dsimp only at A;rw[e0,e1,pO,pO]at k;exact k none 0 _ (h.tl.tl.tl.tl.sl_nil 5 1)
  .have A:=V9 A;dsimp only at A;rw[e0,e1,nO,nO]at k;exact k _ _ _ (h.o [0] 4)
 refine⟨λn=>?_,λn=>?_⟩
 .have n:=V8 n;have W:=JC I n;have m:mM f=aN [(f.evs.length:Int)]++f.evs.flatMap evB:=by unfold mM;rw[V5 n]
  refine⟨_,_,_,h.r 1,?_⟩;refine h.al λb5 _ h=>?_
  refine xe h 0 rfl λa4 c4 T h=>⟨_,_,_,rfl,?_⟩
  have l1:=dK [(f.evs.length:Int)];simp only[VE,VZ]at l1;refine dq h (i:=2) rfl rfl rfl (h.sl_rd 0 rfl) (by rw[V7];omega) λa5 c5 L h=>⟨_,_,_,rfl,?_⟩
  have h:=h.o [2,3] 4;refine⟨_,_,_,h.r 1,?_⟩;obtain⟨O,R⟩:∃O,(aN [f.kind]++nmF f (aU f.kind))++aN [(f.evs.length:Int)]=O:=⟨_,rfl⟩;have lO:O.length<=80:=by rw[<-R];simp only[V7];omega
  rw[R]at h ⊢;refine⟨λB S c i d=>∃j:Nat,i=j/\j<=evs.length/\S=(O++(f.evs.take j).flatMap evB).length/\
    aA d (slA 5 1 B (O++(f.evs.take j).flatMap evB).length c ((O++(f.evs.take j).flatMap evB).map U8)::cellsA b (cH f x) 81::F),
    λ_ _ _ i _=>evs.length-i.toNat,⟨0,rfl,by omega,by simp,by rw[show O++(f.evs.take 0).flatMap evB=O by simp];exact h⟩,?_⟩
  rintro a6 n6 c6 i H7 ⟨j,rfl,hj,rfl,h⟩;have w:=AG (f.evs.take j);have Q:(f.evs.take j).length<=f.evs.length:=by rw[VY];omega
  refine⟨λa=>?_,λa=>?_⟩
  .have a:j<evs.length:=by have:=V8 a;omega
   have D:=r.ev.rd _ h.tl.tl;refine⟨by omega,_,_,D.some fG (by omega) a,_,_,_,_,_,_,D.els fG a,?_⟩;refine h.al λb6 _ h=>?_
   refine h.st 0 rfl rfl ?_;intro H8 h;refine⟨_,h.r 0,?_⟩;refine h.al λb7 _ h=>?_
   refine xe h 0 rfl λa7 c7 H9 h=>⟨_,_,_,rfl,?_⟩
   have m1:=dK [evs[j].stamp];simp only[VE,VZ]at m1;refine dq h (i:=3) rfl rfl rfl (h.sl_rd 0 rfl) (by rw[V7];omega) λa8 c8 V h=>⟨_,_,_,rfl,?_⟩
   have h:=h.o [2,3,4] 5;refine⟨_,h.r 0,?_⟩;refine h.al λb8 _ h=>?_
   refine qG h 0 rfl λa9 c9 Z h=>⟨_,_,_,rfl,?_⟩
   have m2:=mC [evs[j].value];simp only[VE,VZ]at m2;refine dq h (i:=3) rfl rfl rfl (h.sl_rd 0 rfl) (by simp only[V7];omega) λY h0 h7 h=>⟨_,_,_,rfl,?_⟩
   have h:=h.o [2,3,4] 5;refine⟨_,_,_,_,h.q 0,?_⟩;refine Au h (λH h=>r.ev.labs _ (VL a) H h.tl.tl.tl) λh1 h9 j1 h=>⟨_,_,_,rfl,?_⟩
   have m3:=wS evs[j].name evs[j].labs;refine dq h (i:=2) rfl rfl rfl (h.sl_rd 0 rfl) (by simp only[V7];omega) λj2 j3 h2 h=>⟨_,_,_,rfl,?_⟩
   have E:i64.wrap ((j:Int)+1)=((j+1:Nat):Int):=by rw[aJ];omega
   have N:j<f.evs.length:=by omega
   have ej:f.evs[j]=evs[j].p:=by simp[r.eq]
   have e:O++(f.evs.take (j+1)).flatMap evB=(((O++(f.evs.take j).flatMap evB)++aN [evs[j].stamp])++cY [evs[j].value])++iY evs[j].name evs[j].labs:=by
    rw[jP N,ej];unfold evB;simp only[VK];rfl
   rw[<-e]at h;exact⟨⟨j+1,E,a,by rw[e],h.o [2,3] 4⟩,by rw[E];dsimp only;omega⟩
  .have v:f.evs.length<=j:=by have:=V9 a;omega
   rw[Wc v]at h w ⊢;have U:O++f.evs.flatMap evB=(aN [f.kind]++nmF f (aU f.kind))++mM f:=by rw[m,<-R,VK]
   rw[U]at h;have:=fin _ _ _ _ rfl (by rw[m,V7];omega) (by rw[m];exact dD (iE _) (jz λe _=>wY e)) h
   rw[<-U]at this;exact this
 have n:=V9 n;intro h3 C;refine⟨λu=>?_,λu=>?_⟩
 .have u:=V8 u;have hd:=Td I u;have m:mM f=iY f.sn f.sl++dd (bG f.data):=by unfold mM;rw[V4 n,V5 u]
  refine⟨_,_,_,_,h.q 1,?_⟩;refine Au h (λH h=>r.lab H h.tl.tl) λa3 c3 T h=>⟨_,_,_,rfl,?_⟩
  have m3:=wS f.sn f.sl;refine dq h (i:=1) rfl rfl rfl (h.sl_rd 0 rfl) (by simp only[V7];omega) λa4 c4 L h=>⟨_,_,_,rfl,?_⟩
  have h:=h.o [1,2] 3;refine⟨_,_,_,h.r 1,_,rR r.dA (r.dat _ h.tl.tl),?_⟩;refine h.al λb5 _ h=>?_
  have hz:(bG f.data).size=f.data.length:=nQ _;refine wT h (λH h=>h.ce_rd 0 rfl) (by omega) λa5 c5 H7 h=>⟨_,_,_,rfl,?_⟩
  have m4:=lJ (s:=bG f.data) (by omega);refine dq h (i:=2) rfl rfl rfl (h.sl_rd 0 rfl) (by simp only[V7];omega) λa6 c6 H8 h=>⟨_,_,_,rfl,?_⟩
  refine C _ _ _ _ ?_;have h:=h.o [2,3] 4;rw[VK,<-m]at h ⊢;exact fin _ _ _ _ rfl (by rw[m,V7];omega) (by rw[m];exact dD (Ao _ _) (qu _)) h
 .have u:=V9 u;refine C _ _ _ _ ?_;have m:mM f=[]:=by unfold mM;rw[V4 n,V4 u]
  have:=fin [] a2 c2 H4 m (by simp) kB;rw[We]at this;exact this h
end
def jb:Nat->Rd (List Int)
 | 0,s=>.ok ([],s)
 | n+1,s=>match jb n s with
  | .error e=>.error e
  | .ok (vs,s1)=>match cG s1 with
   | .error e=>.error e
   | .ok (v,s2)=>.ok (vs++[v],s2)
def kY:Nat->Rd (List Pv)
 | 0,s=>.ok ([],s)
 | n+1,s=>match kY n s with
  | .error e=>.error e
  | .ok (vs,s1)=>match ja s1 with
   | .error e=>.error e
   | .ok (v,s2)=>.ok (vs++[v],s2)
def atV(k:Int)(vs:List Int)(i:Nat):Int:=if i∈cu k then vs.getD ((cu k).idxOf i) 0 else 0
def kZ(k:Int)(vs:List Int)(evs:List Pv):Rp:=⟨k,atV k vs 1,atV k vs 2,atV k vs 3,atV k vs 4,atV k vs 5,atV k vs 6,⟨atV k vs 7,atV k vs 8,atV k vs 9,atV k vs 10⟩,evs⟩
def evsR(k:Int):Rd (List Pv):=λs=>if k=4 then (match dO 64 s with
 | .error e=>.error e
 | .ok (n,s3)=>kY n.toNat s3) else .ok ([],s)
def recR(bs:List Int):Except Int Rp:=match dZ ⟨0,bs⟩ with
 | .error e=>.error e
 | .ok (k,s1)=>if k<1\/7<k then .error 16 else match jb (cu k).length s1 with
  | .error e=>.error e
  | .ok (vs,s2)=>match evsR k s2 with
   | .error e=>.error e
   | .ok (evs,s4)=>if (dF s4).e≠0 then .error (dF s4).e else if (kZ k vs evs).right then .ok (kZ k vs evs) else .error 10
theorem AJ:∀{n:Nat} {s:RS} {vs:List Int} {a:RS},jb n s=.ok (vs,a)->vs.length=n
 | 0,s,vs,a,h=>by cases h;rfl
 | n+1,s,vs,a,h=>by
  unfold jb at h
  split at h
  .cases h
  .rename_i c s1 b
   split at h
   .cases h
   .cases h
    rw[V7,AJ b];rfl
theorem JE:∀{n:Nat} {s:RS} {vs:List Pv} {a:RS},kY n s=.ok (vs,a)->vs.length=n
 | 0,s,vs,a,h=>by cases h;rfl
 | n+1,s,vs,a,h=>by
  unfold kY at h
  split at h
  .cases h
  .rename_i c s1 b
   split at h
   .cases h
   .cases h
    rw[V7,JE b];rfl
theorem AK{s:RS}{e:Int}:∀{n j:Nat},jb j s=.error e->j<=n->jb n s=.error e
 | 0,j,h,hj=>by
  obtain rfl:j=0:=by omega
  exact h
 | n+1,j,h,hj=>by
  rcases Wa n j with a|a
  .obtain rfl:j=n+1:=by omega
   exact h
  .unfold jb;rw[AK h a]
theorem JG{s:RS}{e:Int}:∀{n j:Nat},kY j s=.error e->j<=n->kY n s=.error e
 | 0,j,h,hj=>by
  obtain rfl:j=0:=by omega
  exact h
 | n+1,j,h,hj=>by
  rcases Wa n j with a|a
  .obtain rfl:j=n+1:=by omega
   exact h
  .unfold kY;rw[JG h a]
def stL:Os->List Nat->List Int->Os
 | cs,i::is,v::vs=>stL (cv cs i [aB v]) is vs
 | cs,_,_=>cs
theorem AM:∀(is:List Nat) (vs:List Int) (cs:Os),(stL cs is vs).length=cs.length
 | [],_,_=>rfl
 | _::_,[],_=>rfl
 | i::is,v::vs,cs=>by
  show (stL (cv cs i [aB v]) is vs).length=_;rw[AM is vs,oh]
theorem JH:∀{is:List Nat} {vs:List Int} {cs:Os} {i:Nat} {v:Int},is.length=vs.length->stL cs (is++[i]) (vs++[v])=cv (stL cs is vs) i [aB v]
 | [],[],cs,i,v,_=>rfl
 | a::is,b::vs,cs,i,v,h=>by
  show stL (cv cs a [aB b]) (is++[i]) (vs++[v])=cv (stL (cv cs a [aB b]) is vs) i [aB v];exact JH (by simpa using h)
 | [],b::vs,cs,i,v,h=>by simp at h
 | a::is,[],cs,i,v,h=>by simp at h
abbrev zR(k:Int):Os:=[aB k,aB 0,aB 0,aB 0,aB 0,aB 0,aB 0,aB 0,aB 0,aB 0,aB 0,.slice none 0 0]
theorem stL_fill{k:Int}{vs:List Int}(j:¬k<1)(i:¬7<k)(h:vs.length=(cu k).length):stL (zR k) (cu k) vs=de (kZ k vs []) none 0:=by
 rcases kinds j i with rfl|rfl|rfl|rfl|rfl|rfl|rfl
 .match vs,h with
  | [],_=>rfl
 .match vs,h with
  | [a,b,c],_=>rfl
 .match vs,h with
  | [a,b,c,d,e,f],_=>rfl
 .match vs,h with
  | [a,b,c,d],_=>rfl
 .match vs,h with
  | [a,b,c,d,e],_=>rfl
 .match vs,h with
  | [a],_=>rfl
 .match vs,h with
  | [a],_=>rfl
section
variable {F L:List aE}{H:aC}{K KP:KE}{Q:aE}
theorem JI:iL Tryz.prog .eql 20 .nilIface .nilIface true:=by
 intro a b w
 cases a <;> cases b <;> kernel_rfl
theorem eqPn{e:Int}:iL Tryz.prog .eql 20 (pnV e) .nilIface false:=by
 intro a b w
 kernel_rfl
theorem assertPn{e:Int}:me Tryz.prog (Instr.typeAssert (pnV e) 20 50 true) (.tuple #[(aD e),(.bool true)]):=by
 intro w
 kernel_rfl
theorem JJ(k:K (aD 0) H):CF 197 #[.nilIface] H K:=
 cM 197 304646796286996 ⟨true,JI,λ_=>k,λh=>V6 h (by simp)⟩
theorem JK{e:Int}(k:K (aD e) H):CF 197 #[pnV e] H K:=
 cM 197 304646796286996 ⟨false,eqPn,λh=>V6 h (by simp),λ_=>⟨e,true,assertPn,λ_=>k,λh=>V6 h (by simp)⟩⟩
theorem Tg{b b1:Nat}{e:Int}{cs:Os}{v1:Int}{i:FrameMode->aC->Prop}(n:e≠0)(a:cs.length=12)(h:aA H (cellsA b1 [aD v1] 50::cellsA b cs 61::F))
  (k:∀c,aA c (cellsA b1 [aD e] 50::cellsA b (zR 0) 61::F)->i (bi (pnV e) true) c):cC Tryz.prog 210 [(PA b1 0),(PA b 0)] (bi (pnV e) false) H i:=by
 have hd:cC Tryz.prog 210 [(PA b1 0),(PA b 0)] (bi (pnV e) false) H λf c=>f=bi (pnV e) true/\aA c (cellsA b1 [aD e] 50::cellsA b (zR 0) 61::F):=by
  refine rN.defq (.inr ⟨rfl,rfl⟩) ?_;unfold rN.code;refine JK ⟨_,rfl,?_⟩;refine h.st 0 rfl rfl ?_;intro A h;refine⟨_,h.r 0,?_⟩;intro y t;refine⟨λ_=>?_,λs=>V6 s (by simpa using n)⟩
  refine h.st 1 rfl (by rw[a];rfl) ?_;intro x h;refine t _ ?_
  skip
  rw[vL _ cs (by rw[a];rfl)]at h;exact h
 intro w m;refine (hd w m).mono λj u v d=>?_
 cases j <;> simp only at d ⊢
 exact⟨d.1,d.2.1▸k _ d.2.2⟩
theorem Th{b b1:Nat}{cs:Os}{v1:Int}{e:FrameMode->aC->Prop}(h:aA H (cellsA b1 [aD v1] 50::cellsA b cs 61::F))
  (k:∀a,aA a (cellsA b1 [aD 0] 50::cellsA b cs 61::F)->e .returning a):cC Tryz.prog 210 [(PA b1 0),(PA b 0)] .returning H e:=by
 have hd:cC Tryz.prog 210 [(PA b1 0),(PA b 0)] .returning H λd a=>d=.returning/\aA a (cellsA b1 [aD 0] 50::cellsA b cs 61::F):=by
  refine rN.defq (.inl ⟨rfl,rfl,rfl⟩) ?_;unfold rN.code;refine JJ ⟨_,rfl,?_⟩;refine h.st 0 rfl rfl ?_;intro u h;refine⟨_,h.r 0,?_⟩;intro t m;refine⟨λj=>V6 j (by simp),λ_=>m _ ?_⟩
  skip
  exact h
 intro w i;refine (hd w i).mono λf n s c=>?_
 cases f <;> simp only at c ⊢
 exact⟨c.1,c.2.1▸k _ c.2.2⟩
end
section
variable {F L:List aE}{H:aC}{K KP:KE}{Q:aE}
def RdPost(Q:aE)(F:List aE)(K:KE):Except Int Rp->Prop
 | .ok r=>∀Q' evs a' c' H',aM Q Q'->r.evs=evs.map Ev.p->(∀e∈evs,im Q' e)->aA H' (Q'::slA 99 4 a' evs.length c' (flat cx evs)::F)->K (.tuple #[.agg ⟨de r a' c'⟩,aD 0]) H'
 | .error e=>∀Q' H',e≠0->aM Q Q'->aA H' (Q'::F)->K (.tuple #[.agg ⟨zR 0⟩,aD e]) H'
theorem encR_evs{r:Rp}{evs:List Ev}{a:KQ}{c:Nat}(b:r.evs=evs.map Ev.p):de r a c=[aD r.kind,aD r.ag,aD r.ep,aD r.bt,aD r.nx,aD r.st,aD r.nw,aD r.sm.asked,aD r.sm.got,aD r.sm.sent,aD r.sm.came,.slice a evs.length c]:=by
 unfold de;rw[b,VM]
theorem AN(s:RS):0<=(bY 64 s).1/\(bY 64 s).1<=64:=by
 unfold bY
 split
 .dsimp only;omega
 .split
  .split
   .dsimp only;omega
   .dsimp only;omega
  .dsimp only;omega
  .dsimp only;omega
theorem Ti{a:KQ}{c:Nat}{bs:List Int}(h:aA H (Q::F))(ha:∀H,aA H (Q::F)->aP H a (bs.map U8))(hb:aI bs)(hl:bs.length<=1099511627776)
  (k:RdPost Q F K (recR bs)):CF 107 #[.slice a bs.length c] H K:=by
 refine OS ?_;refine h.al λb _ h=>?_
 refine h.al λb1 _ h=>?_
 have pan:∀e Q' M cs v1,recR bs=.error e->e≠0->aM Q Q'->cs.length=12->aA M (cellsA b1 [aD v1] 50::cellsA b cs 61::Q'::F)->
   bI 210 X.calls=true/\cC Tryz.prog 210 [(PA b1 0),(PA b 0)] (bi (pnV e) false) M λu16 V=>u16=bi (pnV e) true/\
    ∃I R E D J L O G P N C A B y,bE V b 0 [(aD I),(aD R),(aD E),(aD D),(aD J),(aD L),(aD O),(aD G),(aD P),(aD N),(aD C),(.slice A B y)]/\
    ∃W,aL V b1 0=some (aD W)/\
    K (.tuple #[(.agg #[(aD I),(aD R),(aD E),(aD D),(aD J),(aD L),(aD O),(aD G),(aD P),(aD N),(aD C),(.slice A B y)]),(aD W)]) V:=by
  intro e Q' M cs v1 hr f hs y3 h;refine⟨rfl,Tg f y3 h λH2 h=>⟨rfl,_,_,_,_,_,_,_,_,_,_,_,_,_,_,h.q 1,_,h.r 0,?_⟩⟩
  rw[hr]at k;exact k Q' _ f hs h.tl.tl
 refine rQ h (λH h=>ha H h.tl.tl) hl λrb H2 h=>⟨_,rfl,?_⟩
 refine h.al λb2 _ h=>?_
 refine h.st 0 rfl rfl ?_;intro H3 h;refine⟨_,h.q 0,?_⟩;have h:=h.o [1,0,2,3,4] 5;refine ut h hb hl ?_;unfold recR at k pan
 cases hr0:dZ ⟨0,bs⟩ with
 | error e=>
  rw[hr0]at pan;exact λM f h=>pan _ Q _ _ _ rfl f (aM.refl Q) rfl (h.o [1,2] 3)
 | ok p=>
 obtain⟨s,s1⟩:=p;rw[hr0]at pan k;dsimp only at pan k;intro H4 he1 hb1 hl1 h;refine⟨_,rfl,?_⟩;intro Jn hJ;refine⟨λhc=>?_,λhc=>hJ _ ?_⟩
 .simp only[VR,VA]at hc;rw[V5 hc]at pan;exact pan _ Q _ _ _ rfl (by decide) (aM.refl Q) rfl (h.o [2,3] 4)
 simp only[VP,VD]at hc;rw[nO]at pan k;have hkw:i64.wrap s=s:=aJ;rw[hkw];refine h.st 3 rfl rfl ?_;intro H5 h;refine AD h 3 rfl rfl λp pc H6 h=>⟨_,_,_,rfl,?_⟩
 have ho:=wX s;refine⟨λi M=>∃(j:Nat) (T:List Int) (s2:RS),i=j/\j<=(cu s).length/\jb j s1=.ok (T,s2)/\s2.e=0/\aI s2.bs/\s2.bs.length<=1099511627776/\
  aA M (crdA rb s2::slA 297 1 p (cu s).length pc ((cu s).map λi=>PA b i)::cellsA b2 [PA rb 0] 388::cellsA b1 [aD 0] 50::cellsA b (stL (zR s) ((cu s).take j) T) 61::Q::F),
  λi _=>(cu s).length-i.toNat,⟨0,[],s1,rfl,by omega,rfl,he1,hb1,hl1,h.o [1,0,2,3,4] 5⟩,?_⟩
 rintro i H7 ⟨j,T,s2,rfl,hj,h5,he2,h4,h1,h⟩;have hvl:=AJ h5;refine⟨λd=>?_,λd=>?_⟩
 .have d:j<(cu s).length:=by have:=V8 d;omega
  have h8:=(h.sl_rd 1 rfl).at d;have hi:=AE _ (VL d);refine⟨by omega,_,_,h8.1,_,h8.2,_,h.q 2,?_⟩;refine kj h h4 h1 ?_;have w:jb (j+1) s1=match cG s2 with|.error e=>.error e|.ok (v,s2)=>.ok (T++[v],s2):=by
   rw[jb,h5] <;> rfl
  cases hr2:cG s2 with
  | error e=>
   rw[hr2]at w;rw[AK w d]at pan;exact λM f h=>pan _ Q _ _ _ rfl f (aM.refl Q) (by rw[AM];rfl) (h.o [2,3] 4)
  | ok q=>
  obtain⟨v,s3⟩:=q;rw[hr2]at w;intro H8 j3 h3 h7 h;refine⟨_,rfl,cZ ?_⟩;refine h.st 4 rfl (by rw[AM];exact Nat.ble_eq_true_of_le (by show (cu s)[j]+1<=12;omega)) ?_;intro H9 h;rw[aJ (x:=(j:Int)+1)];refine⟨⟨j+1,_,s3,by omega,d,w,j3,h3,h7,?_⟩,by dsimp only;omega⟩;rw[Wn d,JH (by rw[VY];omega)];exact h
 have h9:j=(cu s).length:=by have:=V9 d;omega
 subst h9;rw[h5]at pan k;dsimp only at pan k;rw[Wi,stL_fill (by omega) (by omega) hvl]at h;refine⟨_,h.r 4,?_⟩;intro y2 r8;have fin:∀(Q':aE) (evs:List Ev) (S:KQ) (U:Nat) (s4:RS) M,aM Q Q'->evsR s s2=.ok (evs.map Ev.p,s4)->(∀e∈evs,im Q' e)->evs.length<=64->aI s4.bs->s4.bs.length<=1099511627776->
   aA M (crdA rb s4::slA 99 4 S evs.length U (flat cx evs)::cellsA b2 [PA rb 0] 388::cellsA b1 [aD 0] 50::cellsA b (de (kZ s T (evs.map Ev.p)) S U) 61::Q'::F)->y2 M:=by
  intro Q' evs S U s4 l6 t u Z hlen h0 h6 h;rw[u]at pan k;dsimp only at pan k;refine r8 _ ?_;refine⟨_,h.r 2,?_⟩;refine wv h λr9 h=>⟨_,rfl,?_⟩
  refine j7 (λf=>⟨rfl,?_⟩) λf=>?_
  .rw [V4 (by simpa using f)]at pan k;refine⟨_,_,_,_,_,_,_,_,_,_,_,_,_,_,h.q 4,?_⟩;have l5:lP (crdA rb (dF s4)::slA 99 4 S evs.length U (flat cx evs)::cellsA b2 [PA rb 0] 388::cellsA b1 [aD 0] 50::cellsA b (de (kZ s T (evs.map Ev.p)) S U) 61::Q'::F) S evs:=
    ⟨λH h=>h.sl_rd 1 rfl,λe f H h=>(Z e f).at h 5 rfl⟩
   refine AF (r:=kZ s T (evs.map Ev.p)) rfl h l5 (by omega) λH12 h=>⟨_,rfl,?_⟩
   intro Jn2 hJ2;refine⟨λhr=>?_,λhr=>hJ2 _ ?_⟩
   .rw [V4 (by simpa using hr)]at pan;exact pan _ Q' _ _ _ rfl (by decide) t rfl (h.o [3,4] 5)
   .rw [V5 (by simpa using hr)]at k;refine⟨_,_,_,_,_,_,_,_,_,_,_,_,_,_,h.q 4,?_⟩;refine h.st 4 rfl rfl ?_;intro H13 h;refine h.st 3 rfl rfl ?_;intro H14 h;have h:=h.o [3,4,0,1,2,5] 6;refine⟨rfl,Th h λH15 h=>⟨rfl,_,_,_,_,_,_,_,_,_,_,_,_,_,_,h.q 1,_,h.r 0,?_⟩⟩
    exact k Q' evs S U _ t rfl Z (h.o [5,3] 6)
  .rw [V5 f]at pan;exact pan _ Q' _ _ _ rfl f t rfl (h.o [3,4] 5)
 refine⟨λhk=>?_,λhk=>?_⟩
 .have hk:s=4:=V8 hk;have u:evsR s s2=match dO 64 s2 with|.error e=>.error e|.ok (n,s3)=>kY n.toNat s3:=by
   unfold evsR;rw[V5 hk] <;> rfl
  refine⟨_,h.q 2,?_⟩;refine uv (by unfold aF;decide) h h4 h1 ?_
  cases hr2:dO 64 s2 with
  | error e=>
   rw[hr2]at u;rw[u]at pan;exact λM f h=>pan _ Q _ _ _ rfl f (aM.refl Q) rfl (h.o [2,3] 4)
  | ok q=>
  obtain⟨n,s3⟩:=q;rw[hr2]at u;dsimp only at u;have hn64:0<=n/\n<=64:=by
   unfold dO okR at hr2
   split at hr2
   .cases hr2
   .cases hr2
    exact AN _
  intro H8 j3 h3 h7 h;refine⟨_,rfl,?_⟩;refine⟨λi M=>∃(j:Nat) (evs:List Ev) (Q':aE) (S:KQ) (U:Nat) (s4:RS),i=j/\(j:Int)<=n/\kY j s3=.ok (evs.map Ev.p,s4)/\aM Q Q'/\(∀e∈evs,im Q' e)/\aI s4.bs/\s4.bs.length<=1099511627776/\
   aA M (Q'::crdA rb s4::slA 99 4 S evs.length U (flat cx evs)::cellsA b2 [PA rb 0] 388::cellsA b1 [aD 0] 50::cellsA b (de (kZ s T (evs.map Ev.p)) S U) 61::F),
   λi _=>n.toNat-i.toNat,⟨0,[],Q,none,0,s3,rfl,by omega,rfl,aM.refl Q,λe f=>V6 f (by simp),h3,h7,(h.sl_nil 99 4).o [6,1,0,3,4,5] 7⟩,?_⟩
  rintro i H9 ⟨j,evs,Q',S,U,s4,rfl,hj,h2,t,j2,h0,h6,h⟩;have hel:=JE h2;rw[VM]at hel;refine⟨λd=>?_,λd=>?_⟩
  .have d:=V8 d;refine⟨_,_,_,h.r 5,_,h.q 3,?_⟩;refine xb h h0 h6 ?_;have w:kY (j+1) s3=match ja s4 with|.error e=>.error e|.ok (v,s2)=>.ok (evs.map Ev.p++[v],s2):=by
    rw[kY,h2] <;> rfl
   cases hr4:ja s4 with
   | error e=>
    rw[hr4]at w;rw[u,JG w (by omega)]at pan;exact λQ2 M f Y h=>pan _ Q2 _ _ _ rfl f (t.trans Y) rfl (h.o [3,4,0] 5)
   | ok q=>
   obtain⟨pv,s5⟩:=q;rw[hr4]at w;intro Q2 ev l6 Y l0 j1 he5 u8 hl5 h;subst j1;refine⟨_,_,_,_,_,_,rfl,h.r 5,?_⟩;refine h.al λb4 _ h=>⟨h.r 6,?_⟩
   have hfl:(kZ s T (evs.map Ev.p)).evs.length=evs.length:=VM ..;rw[hfl];refine h.append (m:=1) (ws:=cx ev) sl44 3 rfl (h.ce_rd 0 rfl) rfl (Ad ev) (by omega) (by omega) λa5 c5 r9 h=>⟨_,_,_,rfl,?_⟩
   refine h.st 6 rfl rfl ?_;intro H12 h;rw[aJ (x:=(j:Int)+1)];refine⟨⟨j+1,evs++[ev],Q2,a5,c5,s5,by omega,by omega,by rw[w,VW];rfl,t.trans Y,λe f=>?_,u8,hl5,?_⟩,by dsimp only;omega⟩
   .rcases VV.1 f with f|f
    .exact (j2 e f).sub Y
    .rw [VI]at f;subst f;exact l0
   .have e:flat cx (evs++[ev])=flat cx evs++cx ev:=by rw[dS];simp[flat]
    have e2:de (kZ s T ((evs++[ev]).map Ev.p)) a5 c5=cv (de (kZ s T (evs.map Ev.p)) S U) 11 [.slice a5 (evs.length+1) c5]:=by
     rw[encR_evs (r:=kZ s T ((evs++[ev]).map Ev.p)) rfl,V7];rfl
    rw[e,e2,V7];exact h.o [1,2,3,4,5,6] 7
  .have h9:=V9 d;have r0:j=n.toNat:=by omega
   subst r0;refine fin Q' evs S U s4 _ t (by rw[u,h2]) j2 (by omega) h0 h6 ?_;exact h.o [1,2,3,4,5,0] 6
 .have hk:¬s=4:=V9 hk;have u:evsR s s2=.ok ([],s2):=by unfold evsR;rw[V4 hk]
  refine fin Q [] none 0 s2 _ (aM.refl Q) u (λe f=>V6 f (by simp)) (by simp) h4 h1 ?_
  exact (h.sl_nil 99 4).o [1,0,3,4,5,6] 7
end
abbrev pnF(e:Int):Value:=.iface 335 (.agg #[aD e])
def py:Rd Int:=λs=>match dZ s with
 | .error e=>.error e
 | .ok (u,s')=>if u<1\/8<u then .error 16 else .ok (u,s')
def serQ:Rd (Fa×List bS):=λs=>okR ⟨(cO s).e,(cO s).rest.bs⟩ ((cO s).name,(cO s).labs)
def evQ:Rd Pv:=λs=>okR ⟨(cO (dE (bM s).2).2).e,(cO (dE (bM s).2).2).rest.bs⟩
 ⟨i64.wrap ((bM s).1:Int),(dE (bM s).2).1,(cO (dE (bM s).2).2).name,(cO (dE (bM s).2).2).labs⟩
def j9:Nat->Rd (List Pv)
 | 0,s=>.ok ([],s)
 | n+1,s=>match j9 n s with
  | .error e=>.error e
  | .ok (vs,s1)=>match evQ s1 with
   | .error e=>.error e
   | .ok (v,s2)=>.ok (vs++[v],s2)
theorem AO:∀{n:Nat} {s:RS} {vs:List Pv} {a:RS},j9 n s=.ok (vs,a)->vs.length=n
 | 0,s,vs,a,h=>by cases h;rfl
 | n+1,s,vs,a,h=>by
  unfold j9 at h
  split at h
  .cases h
  .rename_i c s1 b
   split at h
   .cases h
   .cases h
    rw[V7,AO b];rfl
theorem JL{s:RS}{e:Int}:∀{n j:Nat},j9 j s=.error e->j<=n->j9 n s=.error e
 | 0,j,h,hj=>by
  obtain rfl:j=0:=by omega
  exact h
 | n+1,j,h,hj=>by
  rcases Wa n j with a|a
  .obtain rfl:j=n+1:=by omega
   exact h
  .unfold j9;rw[JL h a]
def mN:Rd (List Pv):=λs=>match dO 64 s with
 | .error e=>.error e
 | .ok (n,s1)=>j9 n.toNat s1
section
variable {F L:List aE}{H:aC}{K KP:KE}{Q:aE}
theorem sD{e:Int}(k:e=0->K (.tuple #[]) H)(kp:e≠0->KP (pnF e) H):CP 172 #[aD e] H K KP:=
 cNP 172 5961 [[]] λc b=>⟨λa=>kp (by simpa using a),λa=>b _ (k (by simpa using a))⟩
def FPost{α:Type}(rb:Nat)(F:List aE)(enc:α->Value)(K KP:KE):Except Int (α×RS)->Prop
 | .ok (x,s)=>∀H',s.e=0->aI s.bs->s.bs.length<=1099511627776->aA H' (crdA rb s::F)->K (enc x) H'
 | .error e=>∀H',e≠0->aA H' F->KP (pnF e) H'
theorem Tj{rb:Nat}{s:RS}(h:aA H (crdA rb s::F))(hb:aI s.bs)(f:s.bs.length<=1099511627776)(k:FPost rb F aD K KP (py s)) :
  CP 169 #[PA rb 0] H K KP:=by
 refine cNP 169 4582372508 [[]] ?_;refine nL h hb f λj h=>⟨_,rfl,_,mB h,?_⟩
 have b:=gK hb;have i:=jQ s;have c:=wr hb;unfold py dZ okR at k;refine sD (λe=>⟨rfl,?_⟩) λe=>?_
 .rw [V4 (by simpa using e)]at k;dsimp only at k;intro m d;refine⟨λa=>?_,λa=>d _ ?_⟩
  .simp only[VR,VA]at a;rw[V5 a]at k;exact k _ (by decide) h.tl
  .simp only[VP,VD]at a;rw[nO]at k;have:=k _ e b (by omega) h;rw[<-aJ (x:=(((bM s).1:Nat):Int)) (by omega) (by omega)]at this;exact this
 .rw [V5 e]at k;exact k _ e h.tl
def SPost(rb:Nat)(F:List aE)(K KP:KE):Except Int ((Fa×List bS)×RS)->Prop
 | .ok (x,s)=>∀a c H',s.e=0->aI s.bs->s.bs.length<=1099511627776->aA H' (crdA rb s::slA 421 2 a x.2.length c (flat dg x.2)::F)->K (.agg #[.string x.1,.slice a x.2.length c]) H'
 | .error e=>∀H',e≠0->aA H' F->KP (pnF e) H'
theorem JM{rb:Nat}{s:RS}(h:aA H (crdA rb s::F))(hb:aI s.bs)(i:s.bs.length<=1099511627776)(k:SPost rb F K KP (serQ s)) :
  CP 175 #[PA rb 0] H K KP:=by
 refine cMP 175 4380 ?_;refine h.al λb _ h=>?_
 have h:=h.o [1,0] 2;refine Ji h hb i λa c n h=>⟨_,_,_,_,_,rfl,?_⟩
 have d:=As hb;have j:=At s;refine h.al λb2 _ h=>?_
 refine h.st 0 rfl rfl ?_;intro m h;unfold serQ okR at k;refine sD (λe=>?_) λe=>?_
 .rw [V4 (by simpa using e),sC e]at k;refine⟨rfl,_,_,_,_,h.q 0,?_⟩;refine h.st 3 rfl rfl ?_;intro t h;refine⟨_,_,_,_,h.q 3,?_⟩;have f:(cO s).rest.e=0:=by rw[<-sC e];exact e
  exact k _ _ _ f d (by omega) (h.o [1,2] 4)
 .rw [V5 e]at k;exact k _ e (h.o [] 4)
def EsPost(rb:Nat)(Q:aE)(F:List aE)(K KP:KE):Except Int (List Pv×RS)->Prop
 | .ok (x,s)=>∀Q' (evs:List Ev) a c H',aM Q Q'->x=evs.map Ev.p->(∀e∈evs,im Q' e)->s.e=0->aI s.bs->s.bs.length<=1099511627776->
   aA H' (Q'::crdA rb s::slA 99 4 a evs.length c (flat cx evs)::F)->K (.slice a evs.length c) H'
 | .error e=>∀Q' H',e≠0->aM Q Q'->aA H' (Q'::F)->KP (pnF e) H'
theorem Tk{rb:Nat}{s:RS}(h:aA H (Q::crdA rb s::F))(hb:aI s.bs)(hl:s.bs.length<=1099511627776)(k:EsPost rb Q F K KP (mN s)) :
  CP 174 #[PA rb 0] H K KP:=by
 refine cNP 174 0x111121561239925111144c [[(3,sS),(12,sI)]] ?_;have h:=h.o [1,0] 2;refine tQ h hb hl (by unfold aF;decide) λH1 h=>⟨_,rfl,_,mB h,?_⟩
 have C:=rU (m:=64) hb;have O:=rV s 64;unfold mN dO okR at k;refine sD (λe=>⟨rfl,?_⟩) λe=>?_
 case refine_2=>
  rw[V5 e]at k;exact k Q _ e (aM.refl Q) h.tl
 rw[V4 (by simpa using e)]at k;dsimp only at k;have A:=AN s;obtain⟨n,R⟩:∃n,(bY 64 s).1=n:=⟨_,rfl⟩;obtain⟨s3,B⟩:∃s3,(bY 64 s).2=s3:=⟨_,rfl⟩;rw[R,B]at k;rw[R]at A;rw[B]at h e C O;rw[R];refine⟨λla V lc i Y=>∃(j:Nat) (evs:List Ev) (Q':aE) (s4:RS),i=j/\(j:Int)<=n/\V=evs.length/\j9 j s3=.ok (evs.map Ev.p,s4)/\aM Q Q'/\(∀e∈evs,im Q' e)/\s4.e=0/\aI s4.bs/\s4.bs.length<=1099511627776/\
   aA Y (Q'::crdA rb s4::slA 99 4 la evs.length lc (flat cx evs)::F),
   λ_ _ _ i _=>n.toNat-i.toNat,⟨0,[],Q,s3,rfl,by omega,rfl,rfl,aM.refl Q,λe f=>V6 f (by simp),e,C,by omega,(h.sl_nil 99 4).o [2,1,0] 3⟩,?_⟩
 rintro la V lc i H2 ⟨j,evs,Q',s4,rfl,hj,rfl,x,t,E,S,y,G,h⟩;have M:=AO x;rw[VM]at M;refine⟨λw=>?_,λw=>?_⟩
 .have w:=V8 w;refine h.al λb _ h=>?_
  have h:=h.o [2,0,1,3] 4;refine nL h y G λH3 h=>⟨_,rfl,?_⟩
  have D:=gK y;have Z:=jQ s4;refine h.st 1 rfl rfl ?_;intro H4 h;refine wu h D (by omega) λH5 h=>⟨_,rfl,?_⟩
  have T:aI (dE (bM s4).2).2.bs:=gK D;have h1:(dE (bM s4).2).2.bs.length<=(bM s4).2.bs.length:=jQ _;refine h.st 1 rfl rfl ?_;intro H6 h;refine JM h T (by omega) ?_;have d:j9 (j+1) s3=match evQ s4 with|.error e=>.error e|.ok (v,s2)=>.ok (evs.map Ev.p++[v],s2):=by
   rw[j9,x] <;> rfl
  unfold evQ at d;unfold serQ;unfold okR at d ⊢
  by_cases f:(cO (dE (bM s4).2).2).e=0
  case neg=>
   rw[V5 f]at d ⊢;dsimp only at d;rw[JL d (by omega)]at k;exact λY f h=>k Q' _ f t (h.o [1] 3)
  rw[V4 (by simpa using f)]at d ⊢;dsimp only at d;intro a c H7 P I J h;dsimp only at P I J h;refine⟨_,_,_,_,rfl,?_⟩;refine h.st 2 rfl rfl ?_;intro H8 h;refine⟨_,_,_,_,_,_,h.q 2,?_⟩;obtain⟨ev,u⟩:∃ev:Ev,ev=⟨i64.wrap ((bM s4).1:Int),(dE (bM s4).2).1,(cO (dE (bM s4).2).2).name,(cO (dE (bM s4).2).2).labs,a,c⟩:=⟨_,rfl⟩;refine h.al λb4 L h=>?_
  have h:aA L (cellsA b4 (cx ev) 99::crdA rb ⟨(cO (dE (bM s4).2).2).e,(cO (dE (bM s4).2).2).rest.bs⟩::slA 421 2 a ev.labs.length c (flat dg ev.labs)::cellsA b (cx ev) 99::Q'::slA 99 4 la evs.length lc (flat cx evs)::F):=by rw[u];exact h
  refine h.append (m:=1) (ws:=cx ev) sl44 5 rfl (h.ce_rd 0 (by rw[u];rfl)) rfl (Ad ev) (by omega) (by omega) λa5 c5 H9 h=>⟨_,_,_,rfl,?_⟩
  have W:i64.wrap ((j:Int)+1)=((j+1:Nat):Int):=by rw[aJ];omega
  have U:(cO (dE (bM s4).2).2).rest.e=0:=by rw[<-sC f];exact f
  rw[sC f]at d h;have ep:ev.p=⟨i64.wrap ((bM s4).1:Int),(dE (bM s4).2).1,(cO (dE (bM s4).2).2).name,(cO (dE (bM s4).2).2).labs⟩:=by rw[u];rfl
  refine⟨⟨j+1,evs++[ev],slA 421 2 a ev.labs.length c (flat dg ev.labs)*Q',_,W,by omega,by simp,by rw[d,VW,Wf,ep];rfl,t.trans (aM.add _ Q'),λe f=>?_,U,I,J,?_⟩,by rw[W];dsimp only;omega⟩
  .rcases VV.1 f with f|f
   .exact (E e f).sub (aM.add _ Q')
   .rw [VI]at f;rw[f];have e1:ev.la=a:=by rw[u]
    unfold im;rw[e1];exact KIn.sl (c:=c)
  .have e:flat cx (evs++[ev])=flat cx evs++cx ev:=by rw[dS];simp[flat]
   rw[e,V7];have h:=h.o [2,4,1,5] 6;exact gy.2 h
 .have h0:=V9 w;have N:j=n.toNat:=by omega
  subst N;rw[x]at k;exact k Q' evs _ _ _ t rfl E S y G h
end
def Fq.set(f:Fq)(i:Nat)(v:Int):Fq:=match i with
 | 1=>{ f with ag:=v }|2=>{ f with ep:=v }|3=>{ f with bt:=v }|4=>{ f with ct:=v }|5=>{ f with got:=v }
 | 6=>{ f with sent:=v }|7=>{ f with next:=v }|8=>{ f with stamp:=v }|9=>{ f with win:=v }|_=>f
theorem encQ_set{f:Fq}{x:QA}{i:Nat}{v:Int}(b:1<=i)(a:i<=9):cv (cH f x) i [aB v]=cH (f.set i v) x:=by
 rcases (by omega:i=1\/i=2\/i=3\/i=4\/i=5\/i=6\/i=7\/i=8\/i=9) with rfl|rfl|rfl|rfl|rfl|rfl|rfl|rfl|rfl <;> rfl
theorem Tl{f:Fq}{i j:Nat}{v:Int}(h:j≠i):(f.set i v).nums j=f.nums j:=by
 unfold Fq.set
 split <;> (unfold Fq.nums;split <;> first|rfl|exact V6 rfl h)
theorem set_keep(f:Fq)(i:Nat)(v:Int):(f.set i v).kind=f.kind/\(f.set i v).evs=f.evs/\(f.set i v).sn=f.sn/\(f.set i v).sl=f.sl/\(f.set i v).data=f.data:=by
 unfold Fq.set
 split <;> exact⟨rfl,rfl,rfl,rfl,rfl⟩
def jc:Fq->List Nat->List Int->Fq
 | f,i::is,v::vs=>jc (f.set i v) is vs
 | f,_,_=>f
theorem JN:∀{is:List Nat} {vs:List Int} {f:Fq} {i:Nat} {v:Int},is.length=vs.length->jc f (is++[i]) (vs++[v])=(jc f is vs).set i v
 | [],[],f,i,v,_=>rfl
 | a::is,b::vs,f,i,v,h=>by
  show jc (f.set a b) (is++[i]) (vs++[v])=_;exact JN (by simpa using h)
 | [],_::_,_,_,_,h=>by simp at h
 | _::_,[],_,_,_,h=>by simp at h
theorem xf:∀(is:List Nat) (vs:List Int) (f:Fq),(jc f is vs).kind=f.kind/\(jc f is vs).evs=f.evs/\(jc f is vs).sn=f.sn/\(jc f is vs).sl=f.sl/\(jc f is vs).data=f.data
 | [],_,f=>⟨rfl,rfl,rfl,rfl,rfl⟩
 | _::_,[],f=>⟨rfl,rfl,rfl,rfl,rfl⟩
 | i::is,v::vs,f=>by
  obtain⟨a1,a2,a3,a4,a5⟩:=set_keep f i v;obtain⟨b1,b2,b3,b4,b5⟩:=xf is vs (f.set i v);exact⟨b1.trans a1,b2.trans a2,b3.trans a3,b4.trans a4,b5.trans a5⟩
theorem JO{j:Nat}:∀(is:List Nat) (vs:List Int) (f:Fq),j∉is->(jc f is vs).nums j=f.nums j
 | [],_,f,_=>rfl
 | _::_,[],f,_=>rfl
 | i::is,v::vs,f,h=>by
  show (jc (f.set i v) is vs).nums j=_;rw[JO is vs _ λa=>h (VQ _ a),Tl λa=>h (by rw[a];exact VO ..)]
def mO(f:Fq):RS->Except Int (Fq×RS):=λs=>
 if f.kind=5 then match mN s with
  | .error e=>.error e
  | .ok (l,s')=>.ok ({ f with evs:=l },s')
 else if f.kind=8 then match serQ s with
  | .error e=>.error e
  | .ok (x,s1)=>okR (aZ 4096 s1).2 { f with sn:=x.1,sl:=x.2,data:=(aZ 4096 s1).1 }
 else .ok (f,s)
def endQ:Except Int (Fq×RS)->Except Int Fq
 | .error e=>.error e
 | .ok (f,s)=>if (dF s).e≠0 then .error (dF s).e else if eZ f then .ok f else .error 10
def nS(bs:List Int):Except Int Fq:=match py ⟨0,bs⟩ with
 | .error e=>.error e
 | .ok (kd,s1)=>match jb (aU kd).length s1 with
  | .error e=>.error e
  | .ok (vs,s2)=>endQ (mO (jc { kind:=kd } (aU kd) vs) s2)
abbrev zF:Os:=cH { kind:=0 } {}
section
variable {F L:List aE}{H:aC}{K KP:KE}{Q:aE}
theorem eqPnF{e:Int}:iL Tryz.prog .eql 20 (pnF e) .nilIface false:=by
 intro a b w
 kernel_rfl
theorem Tm{e:Int}:me Tryz.prog (Instr.typeAssert (pnF e) 20 335 true) (.tuple #[.agg #[aD e],.bool true]):=by
 intro w
 kernel_rfl
theorem Tn{b b1:Nat}{e:Int}{cs:Os}{v1:Int}{m:FrameMode->aC->Prop}(a:cs.length=14)(h:aA H (cellsA b1 [aD v1] 50::cellsA b cs 81::F))
  (k:∀c,aA c (cellsA b1 [aD e] 50::cellsA b zF 81::F)->m (bi (pnF e) true) c):cC Tryz.prog 167 [(PA b 0),(PA b1 0)] (bi (pnF e) false) H m:=by
 have hd:cC Tryz.prog 167 [(PA b 0),(PA b1 0)] (bi (pnF e) false) H λi c=>i=bi (pnF e) true/\aA c (cellsA b1 [aD e] 50::cellsA b zF 81::F):=by
  refine rP.defq (.inr ⟨rfl,rfl⟩) ?_;unfold rP.code;refine⟨_,eqPnF,λB t=>⟨λf=>V6 f (by simp),λ_=>⟨_,_,Tm,λu j=>⟨λ_=>?_,λf=>V6 f (by simp)⟩⟩⟩⟩
  refine h.al λb2 _ h=>?_
  refine h.st 0 rfl rfl ?_;intro C h;refine⟨_,h.r 0,?_⟩;refine h.st 2 rfl (by rw[a];rfl) ?_;intro A h;refine⟨h.r 0,?_⟩;refine h.st 1 rfl rfl ?_;intro v h;refine j _ (t _ ?_);have h:=h.o [1,2] 3;have e2:cv cs 0 zF=zF:=vL _ cs (by rw[a];rfl);have h:aA v (cellsA b1 [aD e] 50::cellsA b (cv cs 0 zF) 81::F):=h;rw[e2]at h;exact h
 intro w s;refine (hd w s).mono λn x y d=>?_
 cases n <;> simp only at d ⊢
 exact⟨d.1,d.2.1▸k _ d.2.2⟩
theorem To{b b1:Nat}{cs:Os}{v1:Int}{e:FrameMode->aC->Prop}(h:aA H (cellsA b1 [aD v1] 50::cellsA b cs 81::F))
  (k:∀a,aA a (cellsA b1 [aD v1] 50::cellsA b cs 81::F)->e .returning a):cC Tryz.prog 167 [(PA b 0),(PA b1 0)] .returning H e:=by
 have hd:cC Tryz.prog 167 [(PA b 0),(PA b1 0)] .returning H λd a=>d=.returning/\aA a (cellsA b1 [aD v1] 50::cellsA b cs 81::F):=by
  refine rP.defq (.inl ⟨rfl,rfl,rfl⟩) ?_;unfold rP.code;exact⟨_,JI,λt m=>⟨λ_=>m _ h,λj=>V6 j (by simp)⟩⟩
 intro w i;refine (hd w i).mono λf n s c=>?_
 cases f <;> simp only at c ⊢
 exact⟨c.1,c.2.1▸k _ c.2.2⟩
def QPost(Q:aE)(F:List aE)(K:KE):Except Int Fq->Prop
 | .ok f=>∀Q' x evs H',aM Q Q'->f.evs=evs.map Ev.p->(∀e∈evs,im Q' e)->f.Sh x->aA H' (Q'::slA 99 4 x.ea evs.length x.ec (flat cx evs)::F)->K (.tuple #[.agg ⟨cH f x⟩,aD 0]) H'
 | .error e=>∀Q' H',e≠0->aM Q Q'->aA H' (Q'::F)->K (.tuple #[.agg ⟨zF⟩,aD e]) H'
theorem kindR_ok{s a:RS}{kd:Int}(h:py s=.ok (kd,a)):1<=kd/\kd<=8:=by
 unfold py at h
 split at h
 .cases h
 .split at h
  .cases h
  .cases h;omega
theorem numF_sh{kd:Int}{vs:List Int}{x:QA}(b:kd≠5->x.ea=none/\x.ec=0)(a:kd≠8->x.la=none/\x.lc=0/\x.da=none/\x.dc=0):(jc { kind:=kd } (aU kd) vs).Sh x:=by
 obtain⟨a1,a2,a3,a4,a5⟩:=xf (aU kd) vs { kind:=kd };refine⟨λh=>⟨a2,b (by rwa[a1]at h)⟩,λh=>?_,λi d c h=>?_⟩
 .obtain⟨b1,b2,b3,b4⟩:=a (by rwa[a1]at h);exact⟨a3,a4,b1,b2,a5,b3,b4⟩
 .rw [a1]at h;rw[JO _ _ _ h]
  rcases (by omega:i=1\/i=2\/i=3\/i=4\/i=5\/i=6\/i=7\/i=8\/i=9) with rfl|rfl|rfl|rfl|rfl|rfl|rfl|rfl|rfl <;> rfl
end
structure En where
 epoch:Int
 boot:Int
 time:Int
deriving DecidableEq
def En.z:En:=⟨0,0,0⟩
abbrev encE(e:En):Os:=[.int .i64 e.epoch,.int .i64 e.boot,.int .i64 e.time]
abbrev aggE(e:En):Value:=.agg #[.int .i64 e.epoch,.int .i64 e.boot,.int .i64 e.time]
def aR:Nat->List En->List (Int×En)
 | _,[]=>[]
 | i,e::r=>if 0<e.epoch then ((i:Int),e)::aR (i+1) r else aR (i+1) r
theorem pz{i:Nat}:∀{l:List En} {p:Int×En},p∈aR i l->(i:Int)<=p.1/\p.1<i+l.length/\0<p.2.epoch
 | [],p,h=>by simp[aR]at h
 | e::r,p,h=>by
  simp only[aR]at h;have a:=pz (i:=i+1) (l:=r) (p:=p);simp only[VE]
  split at h
  .rcases VN.1 h with rfl|h
   .rename_i b;simp only;omega
   .have:=a h;omega
  .have:=a h;omega
theorem xg{i:Nat}:∀{l:List En},(aG (aR i l)).Pairwise (·< ·)
 | []=>by simp[aR]
 | e::r=>by
  simp only[aR]
  split
  .simp only[aG,Wf,W5];refine⟨λa b=>?_,xg⟩
   obtain⟨p,c,rfl⟩:=VH.1 b;have:=pz c;omega
  .exact xg
theorem xh{i:Nat}{l:List En}:(aG (aR i l)).Nodup:=xg.imp (λh=>by omega)
theorem Tp{i:Nat}{l:List En}:sortI (aG (aR i l))=aG (aR i l):=yJ (xg.imp (λh=>by omega))
theorem AQ{i:Nat}:∀{l:List En} {k:Nat},aK ((i+k:Nat):Int) (aR i l)=match l[k]? with|some e=>if 0<e.epoch then some e else none|none=>none
 | [],k=>by simp[aR,aK]
 | e::r,0=>by
  have c:aK ((i+0:Nat):Int) (aR (i+1) r)=none:=fu.2 λh=>by
   obtain⟨p,b,d⟩:=VH.1 h;have:=pz b;omega
  simp only[aR,List.getElem?_cons_zero]
  split
  .simp [aK]
  .exact c
 | e::r,k+1=>by
  have a:=AQ (i:=i+1) (l:=r) (k:=k);rw[show i+1+k=i+(k+1) by omega]at a;simp only[aR,List.getElem?_cons_succ]
  split
  .simp only[aK];rw[nO];exact a
  .exact a
theorem AR{i:Nat}{x:En}(c:0<x.epoch):∀{l:List En} {k:Nat},k<l.length->(aR i (l.set k x)).Perm (mset ((i+k:Nat):Int) x (aR i l))
 | e::r,0,_=>by
  have hd:bU ((i+0:Nat):Int) (aR (i+1) r)=aR (i+1) r:=kN (fu.2 λh=>by
   obtain⟨p,d,f⟩:=VH.1 h;have:=pz d;omega)
  simp only[Yt,aR,V5 c];have e2:bU ((i+0:Nat):Int) (if 0<e.epoch then ((i:Int),e)::aR (i+1) r else aR (i+1) r)=aR (i+1) r:=by
   split
   .have:bU ((i+0:Nat):Int) (((i:Int),e)::aR (i+1) r)=bU ((i+0:Nat):Int) (aR (i+1) r):=by simp[bU]
    rw[this,hd]
   .exact hd
  unfold mset;rw[e2];exact .refl _
 | e::r,k+1,h=>by
  have b:=AR (i:=i+1) c (l:=r) (k:=k) (by simpa using h);rw[show i+1+k=i+(k+1) by omega]at b;simp only[YB,aR]
  split
  .refine (b.cons _).trans ?_;unfold mset;have:bU ((i+(k+1):Nat):Int) (((i:Int),e)::aR (i+1) r)=((i:Int),e)::bU ((i+(k+1):Nat):Int) (aR (i+1) r):=by
    have a:¬(i:Int)=((i+(k+1):Nat):Int):=by omega
    simp[bU,Wm,a];omega
   rw[this];exact .swap _ _ _
  .exact b
theorem JP{i:Nat}:∀{l:List En},(aR i l).length=(l.filter λe=>decide (0<e.epoch)).length
 | []=>rfl
 | e::r=>by
  simp only[aR,Wm];have:=JP (i:=i+1) (l:=r)
  by_cases h:0<e.epoch <;> simp[h,this]
abbrev bad(agent boot now:Int):Prop:=agent<0\/63<agent\/boot<1\/1099511627776<boot\/now<0\/4611686018427387903<now
def bg(rows:List En)(agent:Int):En:=if agent<0 then En.z else (rows[agent.toNat]?).getD En.z
structure fP(rows:List En):Prop where
 len:rows.length=64
 ep:∀e∈rows,0<=e.epoch/\e.epoch<=1099511627776
 in64:∀e∈rows,aF e.boot/\aF e.time
 zero:∀e∈rows,¬0<e.epoch->e=En.z
abbrev full(most:Int)(rows:List En):Prop:=most<=((aR 0 rows).length:Int)
def grant(most:Int)(rows:List En)(agent boot now:Int):List En×En×Bool×Int:=
 if bad agent boot now then (rows,En.z,false,11) else
 let x:=bg rows agent
 if 0<x.epoch/\x.boot=boot then (rows,x,false,0)
 else if 0<x.epoch/\boot<x.boot then (rows,En.z,false,22)
 else if x.epoch=1099511627776 then (rows,En.z,false,17)
 else if x.epoch=0/\full most rows then (rows,En.z,false,20)
 else (rows.set agent.toNat ⟨x.epoch+1,boot,now⟩,⟨x.epoch+1,boot,now⟩,true,0)
def gC(most:Int)(rows:List En)(agent:Int)(e:En):List En×Int:=
 if bad agent e.boot e.time\/e.epoch<1\/1099511627776<e.epoch then (rows,11)
 else if 0<(bg rows agent).epoch then (rows,18)
 else if full most rows then (rows,20)
 else (rows.set agent.toNat e,0)
theorem fP.at{rows:List En}(h:fP rows)(agent:Int):0<=(bg rows agent).epoch/\(bg rows agent).epoch<=1099511627776/\aF (bg rows agent).boot/\aF (bg rows agent).time:=by
 unfold bg
 split
 .simp [En.z,aF]
 cases he:rows[agent.toNat]? with
 | none=>simp[En.z,aF]
 | some e=>exact⟨(h.ep e (Wk he)).1,(h.ep e (Wk he)).2,h.in64 e (Wk he)⟩
theorem fP.set{rows:List En}(h:fP rows){k:Nat}{x:En}(c:0<x.epoch/\x.epoch<=1099511627776)(b:aF x.boot/\aF x.time):fP (rows.set k x) where
 len:=by simp[h.len]
 ep e a:=by
  rcases Y6 a with a|rfl
  .exact h.ep e a
  .omega
 in64 e a:=by
  rcases Y6 a with a|rfl
  .exact h.in64 e a
  .exact b
 zero e a:=by
  rcases Y6 a with a|rfl
  .exact h.zero e a
  .omega
theorem grant_ok{most:Int}{rows:List En}(h:fP rows)(agent boot now:Int):fP (grant most rows agent boot now).1:=by
 unfold grant;have:=h.at agent
 split
 .exact h
 .rename_i hb;simp only[bad,not_or,Int.not_lt]at hb;simp only
  split
  .exact h
  .split
   .exact h
   .split
    .exact h
    .split
     .exact h
     .exact h.set ⟨by simp only;omega,by simp only;omega⟩ ⟨by simp only[aF];omega,by simp only[aF];omega⟩
theorem setR_ok{most:Int}{rows:List En}(h:fP rows)(agent:Int)(e:En):fP (gC most rows agent e).1:=by
 unfold gC
 split
 .exact h
 .rename_i hb;simp only[bad,not_or,Int.not_lt]at hb
  split
  .exact h
  .split
   .exact h
   .exact h.set ⟨by omega,by omega⟩ ⟨by simp only[aF];omega,by simp only[aF];omega⟩
theorem AS{rows:List En}(agent:Int):aK agent (aR 0 rows)=if 0<(bg rows agent).epoch then some (bg rows agent) else none:=by
 by_cases h0:agent<0
 .have:aK agent (aR 0 rows)=none:=fu.2 λh=>by
   obtain⟨p,a,b⟩:=VH.1 h;have:=pz a;omega
  rw[this,bg,V5 h0];rfl
 .have:=AQ (i:=0) (l:=rows) (k:=agent.toNat);rw[show ((0+agent.toNat:Nat):Int)=agent by omega]at this;rw[this];unfold bg;rw[V4 h0]
  cases rows[agent.toNat]? with
  | none=>simp[En.z]
  | some e=>simp
theorem fP.rowZ{rows:List En}(h:fP rows)(agent:Int)(h0:¬0<(bg rows agent).epoch):bg rows agent=En.z:=by
 unfold bg at h0 ⊢
 split
 .rfl
 rename_i a;rw[V4 a]at h0
 cases he:rows[agent.toNat]? with
 | none=>rfl
 | some e=>rw[he]at h0;exact h.zero e (Wk he) h0
theorem uw{rows:List En}(h:fP rows){agent:Int}:(aK agent (aR 0 rows)).getD En.z=bg rows agent:=by
 rw[AS]
 split
 .rfl
 .rename_i a;exact (h.rowZ agent a).symm
theorem xi{rows:List En}(h:fP rows){agent:Int}:(aK agent (aR 0 rows)).isSome=decide (0<(bg rows agent).epoch):=by
 rw[AS]
 split
 .rename_i a;simp[a]
 .rename_i a;simp[a]
theorem Tq:fP (List.replicate 64 En.z) where
 len:=by simp
 ep e he:=by rw[YP he];decide
 in64 e he:=by rw[YP he];simp[En.z,aF]
 zero e he _:=YP he
theorem xj{rows:List En}(h:fP rows):(aR 0 rows).length<=64:=by
 rw[JP];exact VT (Y4 _ _) (Nat.le_of_eq h.len)
namespace Ro
theorem mt56:lE Tryz.prog 256 2 149 aggE En.z:=qn Tryz.underlying256 (by kernel_rfl)
theorem ko2:nB Tryz.prog 2 aB:=vP Tryz.underlying2
abbrev rollC(rb mb:Nat)(most:Int):aE:=cellsA rb [aB most,.map (some mb)] 259
abbrev mapE(mb:Nat)(rows:List En):aE:=mapA aB aggE mb (aR 0 rows)
section
variable {rb mb sb:Nat}{most:Int}{rows:List En}{F:List aE}{H:aC}{K:KE}
theorem JQ{a b n:Int}:bV Tryz.prog 229 #[aB a,aB b,aB n] H (.bool (!decide (bad a b n))):=by
 refine cM 229 28 ⟨congrArg Value.bool ?_,rfl⟩;rw[Wp];simp only[VB,VA,Wb,VD];omega
theorem New_spec(h:aA H F)(k1:most<1\/64<most->K (.tuple #[.pointer none,aB 11]) H)
  (k2:¬(most<1\/64<most)->∀rb mb b,aA b (rollC rb mb most::mapE mb (List.replicate 64 En.z)::F)->K (.tuple #[.pointer (some ⟨rb,0,none⟩),aB 0]) b) :
  CF 183 #[aB most] H K:=by
 refine cM 183 476 ⟨λa=>k1 (by simpa using a),λa=>?_⟩
 refine h.alm aB aggE λmb _ h=>?_
 refine h.al λrb _ h=>?_
 exact k2 (by simp at a;omega) _ _ _ h
end
section
variable {rb mb sb:Nat}{most:Int}{rows:List En}{F:List aE}{H:aC}{K:KE}
theorem Of_spec(ok:fP rows){agent:Int}(h:aA H (rollC rb mb most::mapE mb rows::F))
  (k:∀b,aA b (rollC rb mb most::mapE mb rows::F)->K (.tuple #[aggE (bg rows agent),.bool (decide (0<(bg rows agent).epoch))]) b) :
  CF 142 #[.pointer (some ⟨rb,0,none⟩),aB agent] H K:=by
 refine cM 142 284 ?_;refine h.al λ_ _ h=>?_;refine⟨_,Ra2,?_⟩
 have a:=h.mp_get mt56 ko2 2 rfl (x:=agent);rw[uw ok,xi ok]at a;refine⟨_,_,_,_,a,?_⟩
 repeat (first|refine h.al λ_ _ h=>?_|refine St2 h λ_ h=>?_|refine⟨_,_,_,Rs2,?_⟩)
 exact k _ h.tl.tl
theorem Is_spec(ok:fP rows){agent epoch:Int}(h:aA H (rollC rb mb most::mapE mb rows::F))
  (k:∀b,aA b (rollC rb mb most::mapE mb rows::F)->K (.bool (decide (0<(bg rows agent).epoch)&&decide ((bg rows agent).epoch=epoch))) b) :
  CF 141 #[.pointer (some ⟨rb,0,none⟩),aB agent,aB epoch] H K:=by
 refine cM 141 284 ?_;refine⟨_,Ra2,?_⟩;have a:=h.mp_get mt56 ko2 1 rfl (x:=agent);rw[uw ok,xi ok]at a;refine⟨_,_,_,_,a,?_⟩;refine h.al λ_ _ h=>?_;refine St2 h λ_ h=>?_;refine⟨_,λ_=>Ra2,?_⟩
 exact k _ h.tl
theorem Grant_spec(ok:fP rows){agent boot now:Int}(h:aA H (rollC rb mb most::mapE mb rows::F))
  (k:∀s,aA s (rollC rb mb most::mapE mb (grant most rows agent boot now).1::F)->
   K (.tuple #[aggE (grant most rows agent boot now).2.1,.bool (grant most rows agent boot now).2.2.1,aB (grant most rows agent boot now).2.2.2]) s) :
  CF 143 #[.pointer (some ⟨rb,0,none⟩),aB agent,aB boot,aB now] H K:=by
 refine cM 143 0x1d12513c13c13cb11c ?_;refine h.al λ_ _ h=>?_
 refine⟨_,JQ,λj=>?_,λj=>?_⟩
 .have hb:bad agent boot now:=by simpa using j
  have e:grant most rows agent boot now=(rows,En.z,false,11):=V5 hb;rw[e]at k;refine St1 h λ_ h=>?_;refine⟨_,_,_,Rs1,?_⟩
  exact k _ h.tl
 .have hb:¬bad agent boot now:=by simpa using j
  have h0:0<=agent:=by simp only[bad,not_or,Int.not_lt]at hb;omega
  refine⟨_,Ra2,?_⟩;have n:=h.mp_get mt56 ko2 2 rfl (x:=agent);rw[uw ok,xi ok]at n;refine⟨_,_,_,_,n,?_⟩;refine h.al λ_ _ h=>?_;refine St2 h λ_ h=>?_;refine⟨_,λ_=>Ra2,?_⟩
  have y:=ok.at agent;have w:=xj ok;refine⟨λd=>?_,λd=>?_⟩
  .simp only[VB,VA]at d;have e:grant most rows agent boot now=(rows,bg rows agent,false,0):=by unfold grant;rw[V4 hb];exact V5 d
   rw[e]at k
   repeat (first|refine St2 h λ_ h=>?_|refine⟨_,_,_,Rs2,?_⟩)
   exact k _ h.tl.tl
  have n1:¬(0<(bg rows agent).epoch/\(bg rows agent).boot=boot):=λa=>by simp[a.1,a.2]at d
  refine⟨_,λ_=>Ra2,?_⟩
  refine⟨λb=>?_,λb=>?_⟩
  .simp only[VB,VA]at b;have e:grant most rows agent boot now=(rows,En.z,false,22):=by unfold grant;rw[V4 hb];simp only;rw[V4 n1,V5 b]
   rw[e]at k;refine St2 h λ_ h=>?_;refine⟨_,_,_,Rs2,?_⟩
   exact k _ h.tl.tl
  have n2:¬(0<(bg rows agent).epoch/\boot<(bg rows agent).boot):=λa=>by simp[a.1,a.2]at b
  refine⟨_,λ_=>Ra2,?_⟩
  refine⟨λf=>?_,λf=>?_⟩
  .simp only[VB,VA]at f;have e:grant most rows agent boot now=(rows,En.z,false,17):=by unfold grant;rw[V4 hb];simp only;rw[V4 n1,V4 n2,pO]
   rw[e]at k;refine St2 h λ_ h=>?_;refine⟨_,_,_,Rs2,?_⟩
   exact k _ h.tl.tl
  have n3:¬((bg rows agent).epoch=1099511627776):=λa=>by simp[a]at f
  refine⟨λ_=>trivial,?_⟩;refine⟨_,λ_=>Ra3,?_⟩
  refine⟨_,λ_=>h.mp_len mt56 3 rfl,?_⟩
  refine⟨λ_=>trivial,?_⟩;refine⟨_,λ_=>Ra3,?_⟩
  refine⟨λc=>?_,λc=>?_⟩
  .simp only[VB,Wb,VD,VA]at c;have e:grant most rows agent boot now=(rows,En.z,false,20):=by unfold grant;rw[V4 hb];simp only;rw[V4 n1,V4 n2,V4 n3,V5 ⟨by omega,c.2⟩]
   rw[e]at k;refine St2 h λ_ h=>?_;refine⟨_,_,_,Rs2,?_⟩
   exact k _ h.tl.tl
  have n4:¬((bg rows agent).epoch=0/\full most rows):=λa=>by
   have t:most<=((aR 0 rows).length:Int):=a.2;simp[a.1,t]at c
  have e:grant most rows agent boot now=(rows.set agent.toNat ⟨(bg rows agent).epoch+1,boot,now⟩,⟨(bg rows agent).epoch+1,boot,now⟩,true,0):=by
   unfold grant;rw[V4 hb];simp only;rw[V4 n1,V4 n2,V4 n3,V4 n4]
  rw[e]at k;have u:i64.wrap ((bg rows agent).epoch+1)=(bg rows agent).epoch+1:=aJ;have m:agent.toNat<rows.length:=by simp only[bad,not_or,Int.not_lt]at hb;rw[ok.len];omega
  have hs:=AR (i:=0) (x:=⟨(bg rows agent).epoch+1,boot,now⟩) (by simp only;omega) m;rw[show ((0+agent.toNat:Nat):Int)=agent by omega]at hs;simp only[mapE]at k;rw[nC hs,<-u]at k
  repeat (first|refine⟨_,Ra3,?_⟩|refine St3 h λ_ h=>?_|refine⟨_,_,_,Rs3,?_⟩)
  refine h.mp_update (α:=En) (v:=⟨_,_,_⟩) mt56 ko2 3 rfl λ_ h=>?_
  repeat (first|refine St3 h λ_ h=>?_|refine⟨_,_,_,Rs3,?_⟩)
  exact k _ h.tl.tl
theorem Set_spec(ok:fP rows){agent:Int}{x:En}(h:aA H (rollC rb mb most::mapE mb rows::F))
  (k:∀j,aA j (rollC rb mb most::mapE mb (gC most rows agent x).1::F)->K (aB (gC most rows agent x).2) j) :
  CF 260 #[.pointer (some ⟨rb,0,none⟩),aB agent,aggE x] H K:=by
 refine cM 260 488750364 ?_;refine h.al λ_ _ h=>?_;refine⟨_,Ra1,?_⟩;refine⟨_,Ra1,?_⟩
 refine⟨_,JQ,?_⟩;refine⟨_,λ_=>Ra1,?_⟩;refine⟨_,λ_=>Ra1,?_⟩
 refine⟨λc=>?_,λc=>?_⟩
 .have e:gC most rows agent x=(rows,11):=V5 (by
   simp only[VR,Wb,Wq,VA,Bool.not_not]at c;omega)
  rw[e]at k;exact k _ h.tl
 .have n1:¬(bad agent x.boot x.time\/x.epoch<1\/1099511627776<x.epoch):=by
   simp only[VP,Bool.not_not,VD]at c;omega
  refine⟨_,Ra2,?_⟩;have f:=h.mp_get mt56 ko2 2 rfl (x:=agent);rw[uw ok,xi ok]at f;refine⟨_,_,_,_,f,?_⟩;refine h.al λ_ _ h=>?_;refine St2 h λ_ h=>?_
  refine⟨λb=>?_,λb=>?_⟩
  .have e:gC most rows agent x=(rows,18):=by unfold gC;rw[V4 n1,V5 (by simpa using b)]
   rw[e]at k;exact k _ h.tl.tl
  have n2:¬0<(bg rows agent).epoch:=by simpa using b
  refine⟨_,Ra3,?_⟩;refine⟨_,h.mp_len mt56 3 rfl,?_⟩;refine⟨_,Ra3,?_⟩;refine⟨λa=>?_,λa=>?_⟩
  .have e:gC most rows agent x=(rows,20):=by unfold gC;rw[V4 n1,V4 n2,V5 (by simpa using a)]
   rw[e]at k;exact k _ h.tl.tl
  have n3:¬full most rows:=by simpa using a
  have e:gC most rows agent x=(rows.set agent.toNat x,0):=by unfold gC;rw[V4 n1,V4 n2,V4 n3]
  rw[e]at k;refine⟨_,Ra3,?_⟩;refine⟨_,_,_,Rs3,?_⟩;refine h.mp_update (α:=En) (v:=x) mt56 ko2 3 rfl λ_ h=>?_
  have d:agent.toNat<rows.length:=by simp only[bad,not_or,Int.not_lt]at n1;rw[ok.len];omega
  have hs:=AR (i:=0) (x:=x) (by omega) d;rw[show ((0+agent.toNat:Nat):Int)=agent by simp only[bad,not_or,Int.not_lt]at n1;omega]at hs;refine k _ ?_;show aA _ (rollC rb mb most::mapA aB aggE mb (aR 0 (rows.set agent.toNat x))::F);rw[nC hs];exact h.tl.tl
end
section
variable {rb mb sb:Nat}{most:Int}{rows:List En}{F:List aE}{H:aC}{K:KE}
theorem Clone_spec(h:aA H (rollC rb mb most::mapE mb rows::F))
  (k:∀b a c,aA c (rollC b a most::mapE a rows::rollC rb mb most::mapE mb rows::F)->K (.pointer (some ⟨b,0,none⟩)) c) :
  CF 58 #[.pointer (some ⟨rb,0,none⟩)] H K:=by
 refine cM 58 28 ?_;refine⟨_,Ra1,?_⟩;refine⟨_,Ra1,?_⟩;refine Gf h 1 rfl λc h _=>⟨_,rfl,?_⟩
 refine⟨h.r 1,?_⟩;refine h.al λ_ _ h=>?_
 exact k _ _ _ h
theorem All_spec(h:aA H F)(k:∀c0 a,aA a (cellsA c0 [.pointer (some ⟨rb,0,none⟩)] 139::F)->K (.func (.func 114) #[] #[.pointer (some ⟨c0,0,none⟩)]) a) :
  CF 53 #[.pointer (some ⟨rb,0,none⟩)] H K:=by
 refine cM 53 28 ?_;refine h.al λ_ _ h=>?_
 exact k _ _ h
theorem All1_spec{l c0:Nat}(ok:fP rows)(A:Nat->aE)(D:aE)
  (h:aA H (A 0::cellsA c0 [.pointer (some ⟨rb,0,none⟩)] 139::rollC rb mb most::mapE mb rows::F))
  (E:∀j (M:j<(aR 0 rows).length) (G:List aE) (w:aC) (u:KE),aA w (A j::G)->(∀f,aA f (A (j+1)::G)->u (.bool true) f)->(∀f,aA f (D::G)->u (.bool false) f)->
   fI Tryz.prog l [aB (aR 0 rows)[j].1,aggE (aR 0 rows)[j].2] w u)
  (k:∀e,aA e (A (aR 0 rows).length::cellsA c0 [.pointer (some ⟨rb,0,none⟩)] 139::rollC rb mb most::mapE mb rows::F)->K (.tuple #[]) e)
  (J:∀e,aA e (D::cellsA c0 [.pointer (some ⟨rb,0,none⟩)] 139::rollC rb mb most::mapE mb rows::F)->K (.tuple #[]) e) :
  CF 114 #[.func (.yield l) #[] #[],.pointer (some ⟨c0,0,none⟩)] H K:=by
 refine cN 114 0x11561239925113994 [[(15,sI)]] ?_;have I:=xj ok;refine⟨_,Ra3,?_⟩;refine⟨_,Ra3,?_⟩;refine Gf h 3 rfl λw O _=>⟨_,rfl,?_⟩
 refine Pm ⟨_,_,rfl,?_⟩;refine Pn O 0 rfl (λx N=>?_) (by omega) λa c f C _=>⟨_,_,_,rfl,?_⟩
 .obtain⟨p,P,rfl⟩:=VH.1 N;have:=pz P;have:=ok.len;unfold aF;omega
 rw[Tp]at C;refine⟨λt e=>∃j:Nat,t=j/\j<=(aR 0 rows).length/\aA e (A j::slA 2 1 a (aR 0 rows).length c ((aG (aR 0 rows)).map aB)::mapA aB aggE H.size (aR 0 rows)::cellsA c0 [.pointer (some ⟨rb,0,none⟩)] 139::rollC rb mb most::mapE mb rows::F),
  λt _=>(aR 0 rows).length-t.toNat,⟨0,rfl,Wd _,C.o [2,0,1] 3⟩,?_⟩
 rintro t L ⟨j,rfl,M,s⟩;refine⟨λv=>?_,λv=>?_⟩
 .have b:j<(aR 0 rows).length:=by have:=V8 v;omega
  have d:=(s.sl_rd 1 rfl).at (j:=j) (by simpa[aG] using b);have i:(aG (aR 0 rows))[j]'(by simpa[aG] using b)=(aR 0 rows)[j].1:=by simp[aG]
  rw[i]at d;have m:=s.mp_get1 mt56 ko2 2 rfl (x:=(aR 0 rows)[j].1);have n:((aR 0 rows)[j].1,(aR 0 rows)[j].2)∈aR 0 rows:=VL b;rw[mo xh n]at m;refine⟨⟨by omega,by omega⟩,_,_,d.1,_,d.2,_,_,_,m,?_⟩;refine E j b _ L _ s (λQ B=>⟨true,rfl,λy=>(by cases y),λ_=>?_⟩) λQ B=>⟨false,rfl,λ_=>?_,λy=>(by cases y)⟩
  .conv=>whnf
   rw[aJ];exact⟨⟨j+1,rfl,b,B⟩,by simp only;omega⟩
  .exact J _ (B.o [0] 3)
 .obtain rfl:j=(aR 0 rows).length:=by have:=V9 v;omega
  exact k _ (s.o [0] 3)
end
end Ro
end Go.Proofs.YtaaieblnikcndaaGreatDoor
