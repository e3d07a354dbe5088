/-
  Lemmas for GateQuiet: part 6 of what it rests on. Conditions: none.
-/
import Derived.Test.YtaaieblnikcndaaGreatDoorGC5
set_option linter.unusedVariables false
set_option linter.unusedSimpArgs false
set_option maxRecDepth 100000
set_option maxHeartbeats 16000000
open Go.IntKind (i64 u64 i8 u8 i32 u32 i16 u16)
namespace Go.Proofs.YtaaieblnikcndaaGreatDoor
open Go
def evOk(e:Ev):Bool:=decide (0<=e.stamp)&&decide (e.stamp<=4611686018427387903)&&fu e.name e.labs
def iA(next:Int)(evs:List Ev):Bool:=decide (1<=evs.length)&&decide (evs.length<=64)&&decide (next<=1099511627776-evs.length)&&evs.all evOk
structure lJ(F:List aE)(a:KQ)(evs:List Ev):Prop where
 rd:∀H,aA H F->aP H a (flat cw evs)
 labs:∀e∈evs,∀H,aA H F->aP H e.la (flat de e.labs)
theorem lJ.cons{F:List aE}{a:KQ}{evs:List Ev}(h:lJ F a evs)(A:aE):lJ (A::F) a evs:=
 ⟨λH b=>h.rd H b.tl,λe c H b=>h.labs e c H b.tl⟩
theorem An(x:Fa):oe x x=0:=by
 unfold oe;have h:Op.bytesLess x.toList x.toList=false:=by
  have:=ltKy ⟨0,x⟩ ⟨0,x⟩
  cases e:Op.bytesLess x.toList x.toList
  .rfl
  .exfalso;have a:=(rT ⟨0,x⟩ ⟨0,x⟩).1 (by rw[this,e];simp)
   rcases a with a|⟨-,a⟩
   .exact UY a (by show ¬(0:Int)<0;omega)
   .exact List.lt_irrefl _ a
 rw[h];simp
section
variable {F L:List aE}{H:aC}{K:KE}
theorem Ao{x y:Fa}:bU Tryz.prog 221 #[.string x,.string y] H (aD (oe x y)):=by
 unfold bU;refine .mk λw a=>?_
 subst a;refine jg (cmp183 x y w) ?_;rintro e b ⟨rfl,rfl⟩;exact⟨_,rfl,⟨rfl,rfl,rfl⟩,rfl,rfl⟩
theorem Ja{b:Nat}{x y:Int}(h:aA H F)(i:Nat)(e:aW i F=cellsA b [aD x,aD y] 3):bU Tryz.prog 326 #[.slice (some ⟨b,0,none⟩) 2 2] H (aD (if x≠0 then x else y)):=by
 refine cN 326 0x11215612399251b4c [[(8,sI)]] ?_;refine⟨λi m=>m=H/\(i=0\/i=1/\x=0\/i=2/\x=0/\y=0),λi _=>2-i.toNat,⟨rfl,.inl rfl⟩,?_⟩
 rintro j n ⟨rfl,f⟩;refine⟨λa=>?_,λa=>?_⟩
 .have a:=Va a;refine⟨by omega,b,0,rfl,?_⟩
  rcases f with rfl|⟨rfl,d⟩|⟨rfl,_⟩
  .refine⟨x,h.rd i e 0,λc=>?_,λc=>?_⟩
   .rw [UX (by simpa using c)];exact⟨rfl,rfl⟩
   .exact⟨⟨rfl,.inr (.inl ⟨rfl,by simpa using c⟩)⟩,by dsimp only;decide⟩
  .refine⟨y,h.rd i e 1,λc=>?_,λc=>?_⟩
   .rw [UW (by simpa using d)];exact⟨rfl,rfl⟩
   .exact⟨⟨rfl,.inr (.inr ⟨rfl,d,by simpa using c⟩)⟩,by dsimp only;decide⟩
  .exact UY a (by decide)
 .have a:=Vb a;have k:x=0/\y=0:=by
   rcases f with rfl|⟨rfl,d⟩|⟨rfl,d⟩
   .exact UY (by decide) a
   .exact UY (by decide) a
   .exact d
  rw[k.1,k.2];exact⟨rfl,rfl⟩
theorem RZ{l:bR}(h:aA H F)(k:∀a,aA a F->K (aD 0) a):CF 363 #[.agg #[.string l.name,.string l.value],.agg #[.string l.name,.string l.value]] H K:=by
 refine cM 363 28 ?_;refine h.al λb _ h=>?_
 refine h.al λb1 _ h=>⟨_,h.r 1,_,h.r 0,_,Ao,?_⟩
 rw[An];exact k _ h.tl.tl
theorem Sa{l:bR}(h:aA H F)(k:∀a,aA a F->K (aD 0) a):CF 328 #[.agg #[.string l.name,.string l.value],.agg #[.string l.name,.string l.value]] H K:=by
 refine cM 328 28 ?_;refine h.al λb _ h=>?_
 refine h.al λb1 _ h=>⟨_,_,h.q 1,_,_,h.q 0,_,h.r 1,_,h.r 0,?_⟩
 refine RZ h λc h=>⟨_,rfl,h.r 0,h.r 1,_,Ao,?_⟩
 rw[An];refine h.al λb2 _ h=>⟨_,Ja h 0 rfl,?_⟩
 exact k _ h.tl.tl.tl
theorem Sb{a:KQ}{c s:Nat}{labs:List bR}(h:aA H F)(n:∀H,aA H F->aP H a (flat de labs))(w:labs.length<=1000000)(k:∀m,aA m F->K (aD 0) m) :
  CF 327 #[.slice a labs.length c,.slice a labs.length s,.func (.func 328) #[] #[]] H K:=by
 refine cN 327 0x1215612399251d11b4dc [[(13,sI)]] ?_;refine⟨λi m=>∃j:Nat,i=j/\j<=labs.length/\aA m F,λi _=>labs.length-i.toNat,⟨0,rfl,by omega,h⟩,?_⟩
 rintro i u ⟨j,rfl,A,h⟩;refine⟨λe=>?_,λe=>⟨λe=>UY (Va e) (by omega),λ_=>k _ h⟩⟩
 have d:j<labs.length:=by have:=Va e;omega
 have f:=n _ h;refine⟨by omega,_,_,f.some iS (by omega) d,_,_,f.els iS d,?_⟩;refine h.al λb _ h=>?_
 refine h.st 0 rfl rfl ?_;intro y h;have f:=n _ h.tl;refine⟨λe=>UY (Va e) (by omega),λ_=>⟨by omega,_,_,f.some iS (by omega) d,_,_,f.els iS d,?_⟩⟩
 refine h.al λb1 _ h=>?_
 refine h.st 0 rfl rfl ?_;intro t h;refine⟨_,_,h.q 1,_,_,h.q 0,rfl,?_⟩;refine Sa (l:=labs[j]) h λv h=>⟨_,rfl,λe=>UY e (by simp),λ_=>?_⟩
 conv=>whnf
 rw[aJ (x:=(j:Int)+1)];exact⟨⟨j+1,by omega,d,h.tl.tl⟩,by dsimp only;omega⟩
theorem Ap{name:Fa}{a:KQ}{c e:Nat}{labs:List bR}(h:aA H F)(i:∀H,aA H F->aP H a (flat de labs))(f:labs.length<=1000000)(k:∀d,aA d F->K (aD 0) d) :
  CF 284 #[.agg #[.string name,.slice a labs.length c],.agg #[.string name,.slice a labs.length e]] H K:=by
 refine cM 284 28 ?_;refine h.al λb _ h=>?_
 refine h.al λb1 _ h=>⟨_,h.r 1,_,h.r 0,_,Ao,_,_,_,h.r 1,_,_,_,h.r 0,?_⟩
 rw[An];refine Sb h (λH h=>i H h.tl.tl) f λj h=>⟨_,rfl,?_⟩
 refine h.al λb2 _ h=>⟨_,Ja h 0 rfl,?_⟩
 exact k _ h.tl.tl.tl
theorem Sc{e:Ev}(h:aA H F)(d:∀H,aA H F->aP H e.la (flat de e.labs))(c:e.labs.length<=1000000)(k:∀a,aA a F->K (.bool true) a):CF 283 #[aggV e,aggV e] H K:=by
 refine cN 283 4745 [[(4,sB)]] ?_;refine h.al λb _ h=>?_
 refine h.al λb1 _ h=>?_
 intro m f;have e1:(decide (e.stamp=e.stamp)&&decide (e.value=e.value))=true:=by simp
 refine⟨_,h.r 1,_,h.r 0,_,λ_=>h.r 1,_,λ_=>h.r 0,_,_,_,_,λ_=>h.q 1,_,_,_,_,λ_=>h.q 0,λ_=>?_,λi=>UY e1 i⟩
 refine Ap h (λH h=>d H h.tl.tl) c λj h=>⟨_,rfl,f _ _ ?_⟩
 exact k _ h.tl.tl
theorem Jb{a:KQ}{c u:Nat}{evs:List Ev}(h:aA H F)(s:lJ F a evs)(A:evs.length<=1000000)(t:∀e∈evs,e.labs.length<=1000000)(k:∀n,aA n F->K (.bool true) n) :
  CF 282 #[.slice a evs.length c,.slice a evs.length u,.func (.func 283) #[] #[]] H K:=by
 refine cN 282 0x1d2156123992511b4c [[(17,sI)]] ?_;refine⟨λf=>UY f (by simp),λ_=>?_⟩
 refine⟨λi n=>∃j:Nat,i=j/\j<=evs.length/\aA n F,λi _=>evs.length-i.toNat,⟨0,rfl,by omega,h⟩,?_⟩
 rintro i w ⟨j,rfl,C,h⟩;refine⟨λf=>?_,λf=>k _ h⟩
 have d:j<evs.length:=by have:=Va f;omega
 have m:=s.rd _ h;refine⟨by omega,_,_,m.some fH (by omega) d,_,_,_,_,_,_,m.els fH d,?_⟩;refine h.al λb _ h=>?_
 refine h.st 0 rfl rfl ?_;intro B h;have m:=s.rd _ h.tl;refine⟨by omega,_,_,m.some fH (by omega) d,_,_,_,_,_,_,m.els fH d,?_⟩;refine h.al λb1 _ h=>?_
 refine h.st 0 rfl rfl ?_;intro v h;refine⟨_,_,_,_,_,_,h.q 1,_,_,_,_,_,_,h.q 0,rfl,?_⟩;refine Sc (e:=evs[j]) h (λH h=>s.labs _ (Vk d) H h.tl.tl) (t _ (Vk d)) λy h=>⟨_,rfl,λf=>UY f (by simp),λ_=>?_⟩
 conv=>whnf
 rw[aJ (x:=(j:Int)+1)];exact⟨⟨j+1,by omega,d,h.tl.tl⟩,by dsimp only;omega⟩
theorem Jc{next:Int}{a:KQ}{c:Nat}{evs:List Ev}(h:aA H F)(v:lJ F a evs)(J:evs.length<=1099511627776)(k:∀u,aA u F->K (.bool (iA next evs)) u) :
  CF 225 #[aD next,.slice a evs.length c] H K:=by
 refine cN 225 0x1d215612399251283c94c [[(41,sB)],[(24,sI)]] ?_;have C:i64.wrap (1099511627776-(evs.length:Int))=1099511627776-(evs.length:Int):=aJ
 conv=>whnf
 rw[C];refine⟨λm=>?_,λm=>?_⟩
 .have:iA next evs=false:=by
   simp only[Vr,Vc]at m
   cases e:iA next evs
   .rfl
   .unfold iA at e;simp only[Vd,Vc]at e;omega
  rw[this]at k;exact k _ h
 .simp only[Vp,Ve]at m;have y:iA next evs=evs.all evOk:=by
   unfold iA;rw[Vs (by omega),Vs (by omega),Vs (by omega)];simp
  refine⟨λi u=>∃j:Nat,i=j/\j<=evs.length/\(∀q (t:q<evs.length),q<j->evOk evs[q]=true)/\aA u F,λi _=>evs.length-i.toNat,⟨0,rfl,by omega,λq _ h=>by omega,h⟩,?_⟩
  rintro i I ⟨j,rfl,M,w,h⟩;refine⟨λm=>?_,λm=>?_⟩
  .have d:j<evs.length:=by have:=Va m;omega
   have A:=v.rd _ h;refine⟨by omega,_,_,A.some fH (by omega) d,_,_,_,_,_,_,A.els fH d,?_⟩;refine h.al λb _ h=>?_
   refine h.st 0 rfl rfl ?_;intro L h;intro G B;have n:∀s,aA s F->G (!evOk evs[j]) s:=by
    intro s h;refine B _ _ ?_;refine⟨λf=>?_,λf=>?_⟩
    .have:iA next evs=false:=by rw[y];exact wB d (by simpa using f)
     rw[this]at k;exact k _ h
    .conv=>whnf
     rw[aJ (x:=(j:Int)+1)];refine⟨⟨j+1,by omega,d,λq t E=>?_,h⟩,by dsimp only;omega⟩
     by_cases hqj:q=j
     .subst hqj;simpa using f
     .exact w q t (by omega)
   refine⟨_,h.r 0,_,λ_=>h.r 0,_,_,_,_,λ_=>h.q 0,λf=>?_,λf=>?_⟩
   .refine qx h (λH h=>v.labs _ (Vk d) H h.tl) λs h=>⟨_,rfl,?_⟩
    have e:evOk evs[j]=fu evs[j].name evs[j].labs:=by
     simp only[Vp,Ve]at f;unfold evOk;rw[Vs (by omega),Vs (by omega)];simp
    rw[<-e];exact n _ h.tl
   .have e:evOk evs[j]=false:=by
     unfold evOk;simp only[Vp,Ve]at f;simp only[VF,Ve];omega
    have:=n _ h.tl;rw[e]at this;exact this
  .have D:evs.length<=j:=by have:=Vb m;omega
   have:iA next evs=true:=by rw[y];exact Aa λq t=>w q t (by omega)
   conv=>whnf
   rw[this]at k;exact k _ h
end
abbrev fbC(ag ep next:Int)(a:KQ)(n c:Nat):Os:=
 [aD 5,aD ag,aD ep,aD 0,aD 0,aD 0,aD 0,aD next,aD 0,aD 0,.slice a n c,.string (⟨#[]⟩:Fa),.slice none 0 0,.slice none 0 0]
section
variable {F L:List aE}{H:aC}{K:KE}
theorem wI{f0 f1 f2 f3 f4 f5 f6 f7 f8 f9:Int}{n:KQ}{a d:Nat}{s:Fa}{j:KQ}{c f:Nat}{m:KQ}{i e:Nat}(h:aA H F)
  (k:∀t,aA t F->K (.agg #[aD f3,aD f4,aD f5,aD f6,aD f7,aD f8,aD f9]) t) :
  CF 281 ⟨[(.agg #[(aD f0),(aD f1),(aD f2),(aD f3),(aD f4),(aD f5),(aD f6),(aD f7),(aD f8),(aD f9),(.slice n a d),(.string s),(.slice j c f),(.slice m i e)])]⟩ H K:=by
 refine cM 281 28 ?_;refine h.al λb _ h=>?_
 refine h.al λb1 _ h=>?_
 refine⟨_,h.r 1,_,h.r 1,_,h.r 1,_,h.r 1,_,h.r 1,_,h.r 1,_,h.r 1,?_⟩;refine h.st 0 rfl rfl ?_;intro u h;exact⟨_,_,_,_,_,_,_,h.q 0,k _ h.tl.tl⟩
theorem eq314{a b c d e f g:Int}:iH Tryz.prog .eql 468 (.agg #[aD a,aD b,aD c,aD d,aD e,aD f,aD g]) (.agg #[aD a,aD b,aD c,aD d,aD e,aD f,aD g]) true:=by
 have h:=(yI (P:=Tryz.prog) (t:=468) (xs:=[aD a,aD b,aD c,aD d,aD e,aD f,aD g]) (ys:=[aD a,aD b,aD c,aD d,aD e,aD f,aD g])
  (r:=(a == a&&(b == b&&(c == c&&(d == d&&(e == e&&(f == f&&(g == g&&true)))))))) (by kernel_rfl)).1
 simpa using h
theorem eq102{a b c:Int}:iH Tryz.prog .eql 76 (.agg #[aD a,aD b,aD c]) (.agg #[aD a,aD b,aD c]) true:=by
 have h:=(tr (P:=Tryz.prog) (t:=76) (xs:=[aD a,aD b,aD c]) (ys:=[aD a,aD b,aD c]) (r:=(a == a&&(b == b&&(c == c&&true)))) (by kernel_rfl)).1;simpa using h
theorem Aq{a b:KQ}{c d:Nat}{xs ys:List Int}(e:a=none\/∃k o,a=some ⟨k,o,none⟩)(f:b=none\/∃k o,b=some ⟨k,o,none⟩)(h:aP H a (xs.map U8))(hb:aP H b (ys.map U8))
  (k:K (.bool ((bF xs).toList == (bF ys).toList)) H):CF 208 #[.slice a xs.length c,.slice b ys.length d] H K:=
 cM 208 28 ⟨_,rH e h,_,rH f hb,k⟩
theorem Sd{ag ep next:Int}{a:KQ}{c:Nat}{evs:List Ev}(h:aA H F)(j:lJ F a evs)(m:evs.length<=1000000)(f:∀e∈evs,e.labs.length<=1000000)(k:∀i,aA i F->K (.bool true) i) :
  CF 227 #[.agg ⟨fbC ag ep next a evs.length c⟩,.agg ⟨fbC ag ep next a evs.length c⟩] H K:=by
 refine cN 227 4745 [[(4,sB)]] ?_;refine h.al λb _ h=>?_
 refine h.al λb1 _ h=>?_
 intro w n;refine⟨_,_,_,h.q 1,_,_,_,h.q 0,true,eq102,_,_,_,_,_,_,_,_,_,_,_,_,_,_,_,_,_,_,_,_,λ_=>h.q 1,_,_,_,_,_,_,_,_,_,_,_,_,_,_,_,_,_,_,_,_,λ_=>h.q 0,λ_=>?_,λd=>UY rfl d⟩
 refine wI h λu h=>⟨_,_,_,_,_,_,_,rfl,λ_=>h.q 0,?_⟩
 refine wI h λs h=>⟨_,_,_,_,_,_,_,rfl,true,eq314,_,_,_,λ_=>h.r 1,_,_,_,λ_=>h.r 0,λ_=>?_,λd=>UY rfl d⟩
 refine Jb h ((j.cons _).cons _) m f λt h=>⟨_,rfl,_,_,_,_,λ_=>h.q 1,_,_,_,_,λ_=>h.q 0,λ_=>?_,λd=>UY rfl d⟩
 refine Ap (labs:=[]) h (λH h=>ip H none) (by simp) λv h=>⟨_,rfl,_,_,_,λ_=>h.r 1,_,_,_,λ_=>h.r 0,λ_=>?_,λd=>UY (by simp) d⟩
 refine Aq (xs:=[]) (ys:=[]) (.inl rfl) (.inl rfl) (ip _ none) (ip _ none) ⟨_,rfl,n _ _ ?_⟩;have:=k _ h.tl.tl;have e:((bF []).toList == (bF []).toList)=true:=by simp
 rw[e];exact this
theorem Jd{b o:Nat}{e:Nat}{cs:Os}(h:aA H F)(i:Nat)(d:aW i F=cellsA b cs e)(a:aT cs 0=some (aD 5))
  (k:∀p c,aA c (cellsA p [PA b 1,PA b 2,PA b 7] 297::F)->K (.slice (some ⟨p,0,none⟩) 3 3) c):CF 170 #[PA b 0] H K:=by
 refine cN 170 0x121513c13c13c13c217943c13cbc [[(68,sB)]] ?_;refine⟨5,(h.rd i d 0).trans a,λa=>UY a (by decide),λ_=>⟨λa=>UY a (by decide),λ_=>⟨λa=>UY a (by decide),λ_=>⟨λa=>UY a (by decide),λ_=>?_⟩⟩⟩⟩
 intro j f;refine⟨λ_=>f _ _ ?_,λa=>UY a (by decide)⟩
 refine⟨λ_=>?_,λa=>UY a (by decide)⟩
 refine h.al λp _ h=>?_
 exact k _ _ h
def mE(next:Int)(evs:List Ev):Bool:=decide (0<=next)&&decide (next<=4611686018427387903)&&iA next evs
theorem Se{next:Int}{evs:List Ev}:mE next evs=(decide (0<=next)&&iA next evs):=by
 unfold mE iA;rw[VH];simp only[Vd,Vc]
 constructor
 .rintro⟨⟨h1,h2⟩,h3⟩;exact⟨h1,h3⟩
 .rintro⟨h1,h3⟩;exact⟨⟨h1,by omega⟩,h3⟩
theorem Je{next:Int}{a:KQ}{c:Nat}{evs:List Ev}(h:aA H F)(v:lJ F a evs)(x:evs.length<=1099511627776)(k:∀j,aA j F->K (.bool (mE next evs)) j) :
  CF 137 #[.agg ⟨fbC 0 0 next a evs.length c⟩] H K:=by
 refine cN 137 0x11d11215612399251d4421517b171b217947b171b9c [[],[],[(88,sB)],[],[],[(43,sI)]] ?_;refine h.al λb _ h=>?_
 refine Jd (o:=0) h 0 rfl rfl λp I h=>⟨_,_,_,rfl,_,λ_=>h.r 1,_,λ_=>h.r 1,_,λ_=>h.r 1,_,λ_=>h.r 1,λd=>UY d (by simp),λ_=>⟨_,h.r 1,?_⟩⟩
 refine h.al λb1 _ h=>?_
 refine h.st 0 rfl rfl ?_;intro E h;refine Jd (o:=0) h 0 rfl rfl λp1 G h=>⟨_,_,_,rfl,?_⟩
 refine⟨λi j=>(i=0\/i=1\/i=2\/i=3)/\((i=3->0<=next/\next<=4611686018427387903))/\
  aA j (cellsA p1 [PA b1 1,PA b1 2,PA b1 7] 297::cellsA b1 (fbC 0 0 (if i=3 then next else 0) none 0 0) 81::cellsA p [PA b 1,PA b 2,PA b 7] 297::cellsA b (fbC 0 0 next a evs.length c) 81::F),
  λi _=>3-i.toNat,⟨.inl rfl,λh=>UY h (by decide),h⟩,?_⟩
 rintro i J ⟨hi,f,h⟩;refine⟨λd=>?_,λd=>?_⟩
 .have d:=Va d
  rcases hi with rfl|rfl|rfl|rfl
  .refine⟨by decide,_,_,rfl,_,h.rd 2 rfl _,⟨_,h.r 3,λ_=>trivial,_,λ_=>h.r 3,λd=>UY d (by decide),λ_=>⟨by decide,_,_,rfl,_,h.rd 0 rfl _,⟨_,h.r 3,?_⟩⟩⟩⟩
   refine h.st 1 rfl rfl ?_;intro s h;exact⟨⟨.inr (.inl (by decide)),λh=>UY h (by decide),h⟩,by dsimp only;decide⟩
  .refine⟨by decide,_,_,rfl,_,h.rd 2 rfl _,⟨_,h.r 3,λ_=>trivial,_,λ_=>h.r 3,λd=>UY d (by decide),λ_=>⟨by decide,_,_,rfl,_,h.rd 0 rfl _,⟨_,h.r 3,?_⟩⟩⟩⟩
   refine h.st 1 rfl rfl ?_;intro s h;exact⟨⟨.inr (.inr (.inl (by decide))),λh=>UY h (by decide),h⟩,by dsimp only;decide⟩
  .refine⟨by decide,_,_,rfl,_,h.rd 2 rfl _,⟨_,h.r 3,λ_=>trivial,_,λ_=>h.r 3,λd=>?_,λd=>⟨by decide,_,_,rfl,_,h.rd 0 rfl _,⟨_,h.r 3,?_⟩⟩⟩⟩
   .have:mE next evs=false:=by
     simp only[Vr,Vc]at d;unfold mE;simp only[VF,Ve];omega
    rw[this]at k;exact k _ h.tl.tl.tl.tl
   .simp only[Vp,Ve]at d;refine h.st 1 rfl rfl ?_;intro s h;exact⟨⟨.inr (.inr (.inr (by decide))),λ_=>by omega,h⟩,by dsimp only;decide⟩
  .exact UY d (by decide)
 .have d:=Vb d;have u:i=3:=by
   rcases hi with rfl|rfl|rfl|rfl
   .exact UY (by decide) d
   .exact UY (by decide) d
   .exact UY (by decide) d
   .rfl
  subst u;have f:=f rfl;rw[UX rfl]at h;have w:mE next evs=iA next evs:=by
   unfold mE;rw[Vs f.1,Vs f.2];simp
  refine⟨_,h.r 3,?_⟩;intro M A;refine⟨λd=>UY d (by decide),λ_=>?_⟩
  intro y t;refine⟨λ_=>⟨_,_,_,h.r 3,?_⟩,λd=>UY d (by decide)⟩
  refine h.st 1 rfl rfl ?_;intro s h;refine⟨_,h.r 3,_,_,_,h.r 3,?_⟩;refine Jc h ((((v.cons _).cons _).cons _).cons _) x λD h=>⟨_,rfl,λd=>?_,λd=>?_⟩
  .have:mE next evs=false:=by rw[w];simpa using d
   rw[this]at k;exact k _ h.tl.tl.tl.tl
  .have hb:iA next evs=true:=by simpa using d
   refine t _ (A _ ?_);refine⟨_,_,_,_,_,_,_,_,_,_,_,_,_,_,_,_,_,_,_,_,h.q 3,_,_,_,_,_,_,_,_,_,_,_,_,_,_,_,_,_,_,_,_,h.q 1,?_⟩;have C:evs.length<=64:=by
    unfold iA at hb;simp only[Vd,Vc]at hb;omega
   have n:∀e∈evs,e.labs.length<=1000000:=by
    intro e B;unfold iA at hb;rw[Vd,VL]at hb;have m:=hb.2 e B;unfold evOk at m;rw[Vd]at m;have:=(mC m.2).len;omega
   refine Sd h ((((v.cons _).cons _).cons _).cons _) (by omega) n λL h=>⟨_,rfl,?_⟩
   have:mE next evs=true:=by rw[w,hb]
   conv=>whnf
   rw[this]at k;exact k _ h.tl.tl.tl.tl
end
section
variable {F L:List aE}{H:aC}{K:KE}
theorem Sf{a:KQ}{c:Nat}{l:List Ev}(h:aA H F)(j:∀H,aA H F->aP H a (flat cw l))(w:l.length<=1000000)
  (k:∀e d f,aA f (slA 99 4 e l.length d (flat cw l)::F)->K (.slice e l.length d) f):CF 237 #[.slice a l.length c] H K:=by
 refine cM 237 476 ⟨λi=>?_,λi=>?_⟩
 .have:a=none:=by simpa using i
  subst this;have t:=nV (j H h);have:l=[]:=by
   have:=congrArg List.length t;rw[eZ fH]at this;exact Wn (by simp at this;omega)
  subst this;exact k none 0 H (h.sl_nil 99 4)
 .refine h.al λb _ h=>?_
  have u:=j _ h.tl;have v:=aA.sl_pt (cs:=[]) h 4 0 rfl
  conv=>whnf
  refine aA.append (m:=l.length) sl44 v 0 rfl u (eZ fH l) (l8 zV l) (by omega) (by omega) λe d f s=>⟨_,_,_,rfl,?_⟩
  have n:aA f (slA 99 4 e (0+l.length) d ([]++flat cw l)::F):=s;rw[Vw,VB]at n;have:=k e d f n;rw[<-Vw l.length]at this;exact this
theorem Jf{a:KQ}{c:Nat}{l:List Ot}(h:aA H F)(j:∀H,aA H F->aP H a (flat cI l))(w:l.length<=1000000)
  (k:∀e d f,aA f (slA 164 74 e l.length d (flat cI l)::F)->K (.slice e l.length d) f):CF 61 #[.slice a l.length c] H K:=by
 refine cM 61 476 ⟨λi=>?_,λi=>?_⟩
 .have:a=none:=by simpa using i
  subst this;have t:=nV (j H h);have:l=[]:=by
   have:=congrArg List.length t;rw[eZ iT]at this;exact Wn (by simp at this;omega)
  subst this;exact k none 0 H (h.sl_nil 164 74)
 .refine h.al λb _ h=>?_
  have u:=j _ h.tl;have v:=aA.sl_pt (cs:=[]) h 74 0 rfl
  conv=>whnf
  refine aA.append (m:=l.length) sl86 v 0 rfl u (eZ iT l) (l8 rS l) (by omega) (by omega) λe d f s=>⟨_,_,_,rfl,?_⟩
  have n:aA f (slA 164 74 e (0+l.length) d ([]++flat cI l)::F):=s;rw[Vw,VB]at n;have:=k e d f n;rw[<-Vw l.length]at this;exact this
theorem Sg{a:KQ}{c:Nat}{l:List Ot}{j:Nat}(v:j<=l.length)(h:aA H (slA 164 74 a l.length c (flat cI l)::F))
  (k:∀b,aA b (slA 164 74 a (l.length-j) c (flat cI (l.drop j))::F)->K (.slice a (l.length-j) c) b):CF 73 #[.slice a l.length c,aD 0,aD j] H K:=by
 have n:=h.sl_nc 0 rfl;refine cM 73 18682140 ?_;refine⟨⟨by omega,by omega,by omega,by omega⟩,λd=>?_,λd=>?_⟩
 .have:j=0:=by simp only[Vc]at d;omega
  subst this;exact k H h
 .have hj0:0<j:=by simp only[Ve]at d;omega
  refine⟨⟨by omega,by omega,by omega⟩,⟨by omega,by omega,by omega⟩,?_⟩;have f:=h.sl_rd 0 rfl;have hs:=f.some iT (by omega) (k:=0) (by omega);have e0:bZ a 0 c 74=a:=by
   unfold bZ;rw[nO,hs,V9,iN];simp
  have i:=f.subK (k:=j) (c:=c) (sz:=74) (by rw[eZ iT];omega);rw[te iT]at i;have e:=h.sl_take 0 rfl 0 (by omega);simp only[W8,W4]at e;show cA Tryz.prog (Builtin.append_ #[143,143] 143 #[.slice (bZ a 0 c 74) 0 c,.slice (bZ a j c 74) (l.length-j) (c-j)]) H _;rw[e0];refine aA.appendIn sl86 e 0 rfl i (by rw[eZ iT,Vt]) (l8 rS _) (by omega) λb s=>⟨_,_,_,rfl,⟨by omega,by omega,by omega⟩,?_⟩
  rw[Vw];have m:aA b (slA 164 74 a (0+(l.length-j)) c ([]++flat cI (l.drop j))::F):=s;rw[Vw,VB]at m;exact aA.clearS sl86 (by kernel_rfl) m 0 rfl (by omega) λ_ u t=>k _ t
theorem Si{a:KQ}{c:Nat}{l:List bR}(h:aA H F)(j:∀H,aA H F->aP H a (flat de l))(w:l.length<=1000000)
  (k:∀e d f,aA f (slA 421 2 e l.length d (flat de l)::F)->K (.slice e l.length d) f):CF 238 #[.slice a l.length c] H K:=by
 refine cM 238 476 ⟨λi=>?_,λi=>?_⟩
 .have:a=none:=by simpa using i
  subst this;have t:=nV (j H h);have:l=[]:=by
   have:=congrArg List.length t;rw[eZ iS]at this;exact Wn (by simp at this;omega)
  subst this;exact k none 0 H (h.sl_nil 421 2)
 .refine h.al λb _ h=>?_
  have u:=j _ h.tl;have v:=aA.sl_pt (cs:=[]) h 2 0 rfl
  conv=>whnf
  refine aA.append (m:=l.length) sl91 v 0 rfl u (eZ iS l) (l8 zU l) (by omega) (by omega) λe d f s=>⟨_,_,_,rfl,?_⟩
  have n:aA f (slA 421 2 e (0+l.length) d ([]++flat de l)::F):=s;rw[Vw,VB]at n;have:=k e d f n;rw[<-Vw l.length]at this;exact this
theorem Sj{Q:aE}{a:KQ}{c:Nat}{l:List bR}(h:aA H (Q::F))(i:∀H,aA H (Q::F)->aP H a (flat de l))(f:l.length<=1000000)
  (k:∀Q' b e d,aM Q Q'->KIn Q' b (flat de l)->aA d (Q'::F)->K (.slice b l.length e) d):CF 238 #[.slice a l.length c] H K:=
 Si h i f λb e d h=>k _ b e d (aM.add _ Q) KIn.sl (gp.2 h)
end
structure Pv where
 stamp:Int
 value:Int
 name:Fa
 labs:List bR
def Ev.p(e:Ev):Pv:=⟨e.stamp,e.value,e.name,e.labs⟩
section
variable {α β:Type}
def eM(f:α->β)(l:cy α):cy β:=l.map λp=>(p.1,f p.2)
def mapH(f:α->β)(s:HS α):HS β:=⟨s.next,s.most,eM f s.rows⟩
theorem Sk(f:α->β)(l:cy α):aG (eM f l)=aG l:=by simp[eM,aG,VM,Function.comp_def]
theorem Ar(f:α->β)(l:cy α):(eM f l).length=l.length:=Vl ..
theorem Jg(f:α->β)(n:Int)(v:α):∀l:cy α,ins n (f v) (eM f l)=eM f (ins n v l)
 | []=>rfl
 | (a,b)::r=>by
  have c:=Jg f n v r;show (if n<a then _ else _)=eM f (if n<a then _ else _)
  split
  .rfl
  .show (a,f b)::ins n (f v) (eM f r)=(a,f b)::eM f (ins n v r);rw[c]
theorem Jh(f:α->β)(n:Int):∀l:cy α,aL n (eM f l)=(aL n l).map f
 | []=>rfl
 | (a,b)::r=>by
  have c:=Jh f n r;show aL n ((a,f b)::eM f r)=_;unfold aL
  split
  .rfl
  .exact c
theorem Sl(f:α->β)(next most n:Int)(v:α)(s:cy α×Int):eB next most n (f v) (eM f s.1,s.2)=(eM f (eB next most n v s).1,(eB next most n v s).2):=by
 unfold eB;have e:(aL n (eM f s.1)).isSome=(aL n s.1).isSome:=by rw[Jh];simp
 simp only[e]
 split
 .rfl
 .split
  .rfl
  .dsimp only;rw[Jg]
theorem Ji(f:α->β)(next most:Int):∀(l:List α) (n:Int) (s:cy α×Int),ff next most n (l.map f) (eM f s.1,s.2)=(eM f (ff next most n l s).1,(ff next most n l s).2)
 | [],n,s=>rfl
 | v::vs,n,s=>by
  show ff next most (n+1) (vs.map f) (eB next most n (f v) (eM f s.1,s.2))=_;rw[Sl];exact Ji f next most vs (n+1) _
theorem Jj(f:α->β):∀(l:cy α) (next:Int),pop next (eM f l)=((pop next l).1.map f,(pop next l).2.1,eM f (pop next l).2.2)
 | [],next=>rfl
 | (n,v)::r,next=>by
  have a:=Jj f r (next+1);have e1:pop next (eM f ((n,v)::r))=if n=next then (f v::(pop (next+1) (eM f r)).1,(pop (next+1) (eM f r)).2) else ([],next,eM f ((n,v)::r)):=rfl
  have e2:pop next ((n,v)::r)=if n=next then (v::(pop (next+1) r).1,(pop (next+1) r).2) else ([],next,(n,v)::r):=rfl
  rw[e1,e2,a]
  split <;> rfl
theorem Sm(f:α->β)(s:HS α)(first:Int)(items:List α):(mapH f s).offer first (items.map f)=(mapH f (s.offer first items).1,(s.offer first items).2.1.map f,(s.offer first items).2.2):=by
 unfold HS.offer
 split
 .simp
 .have h:=Ji f s.next s.most items first (s.rows,0);simp only[mapH,h,Jj]
theorem wJ{f:α->β}{l:cy α}:gG (eM f l)↔gG l:=by
 unfold gG eM;rw[WR]
theorem Jk{f:α->β}{lo next most:Int}{l:cy α}:jH lo next most (eM f l)↔jH lo next most l:=by
 constructor
 .rintro⟨h1,h2⟩;exact⟨wJ.1 h1,λp a=>h2 (p.1,f p.2) (Vh.2 ⟨p,a,rfl⟩)⟩
 .rintro⟨h1,h2⟩;refine⟨wJ.2 h1,λp a=>?_⟩
  obtain⟨q,b,rfl⟩:=Vh.1 a;exact h2 q b
theorem ok_mapH{f:α->β}{s:HS α}:(mapH f s).Ok↔s.Ok:=
 ⟨λh=>⟨h.next0,h.most1,h.most2,Jk.1 h.rows⟩,λh=>⟨h.next0,h.most1,h.most2,Jk.2 h.rows⟩⟩
theorem So{next most n:Int}{v:α}{s:cy α×Int}{p:Int×α}(h:p∈(eB next most n v s).1):p.2=v\/p∈s.1:=by
 unfold eB at h
 split at h
 .exact .inr h
 .split at h
  .exact .inr h
  .rcases tu.1 h with rfl|h
   .exact .inl rfl
   .exact .inr h
theorem As{next most:Int}:∀{l:List α} {n:Int} {s:cy α×Int} {p:Int×α},p∈(ff next most n l s).1->p.2∈l\/p∈s.1
 | [],n,s,p,h=>.inr h
 | v::vs,n,s,p,h=>by
  rcases As (l:=vs) h with h|h
  .exact .inl (Vq _ h)
  .rcases So h with h|h
   .exact .inl (h▸Vn ..)
   .exact .inr h
theorem At:∀{l:cy α} {next:Int},(∀v∈(pop next l).1,∃p∈l,p.2=v)/\∀p∈(pop next l).2.2,p∈l
 | [],next=>⟨λv h=>UY h (by simp[pop]),λp h=>UY h (by simp[pop])⟩
 | (n,v)::r,next=>by
  have c:=At (l:=r) (next:=next+1);unfold pop
  split
  .refine⟨λx a=>?_,λp b=>Vq _ (c.2 p b)⟩
   rcases Vm.1 a with rfl|a
   .exact⟨_,Vn ..,rfl⟩
   .obtain⟨p,b,e⟩:=c.1 x a;exact⟨p,Vq _ b,e⟩
  .exact⟨λx a=>UY a (by simp),λp b=>b⟩
theorem ue{s:HS α}{first:Int}{items:List α}:(∀v∈(s.offer first items).2.1,v∈items\/∃p∈s.rows,p.2=v)/\∀p∈(s.offer first items).1.rows,p.2∈items\/p∈s.rows:=by
 unfold HS.offer
 split
 .exact⟨λv h=>UY h (by simp),λp h=>.inr h⟩
 .have b:=At (l:=(ff s.next s.most first items (s.rows,0)).1) (next:=s.next);refine⟨λv c=>?_,λp a=>As (b.2 p a)⟩
  obtain⟨p,d,rfl⟩:=b.1 v c
  rcases As d with h|h
  .exact .inl h
  .exact .inr ⟨p,h,rfl⟩
theorem Jl:∀{l:cy α} {next:Int},(pop next l).1.length<=l.length
 | [],_=>Vg _
 | (n,v)::r,next=>by
  have a:=Jl (l:=r) (next:=next+1);unfold pop
  split
  .show (v::(pop (next+1) r).1).length<=_;simp only[Vf];omega
  .simp
theorem Jm{next most:Int}:∀{l:List α} {n:Int} {s:cy α×Int},(ff next most n l s).1.length<=s.1.length+l.length
 | [],n,s=>Vg _
 | v::vs,n,s=>by
  have a:=Jm (next:=next) (most:=most) (l:=vs) (n:=n+1) (s:=eB next most n v s);have b:(eB next most n v s).1.length<=s.1.length+1:=by
   unfold eB
   split
   .omega
   .split
    .dsimp only;omega
    .dsimp only;rw[Nr];omega
  show (ff next most (n+1) vs (eB next most n v s)).1.length<=_;rw[Vf];omega
theorem Jo{s:HS α}{first:Int}{items:List α}:(s.offer first items).2.1.length<=s.rows.length+items.length:=by
 unfold HS.offer
 split
 .simp
 .exact Vu Jl Jm
end
abbrev ik(Q:aE)(e:Ev):Prop:=KIn Q e.la (flat de e.labs)
def hldA(Q:aE)(hb:Nat)(s:HS Pv):aE:=exS λp:Nat×cy Ev=>star [holdC hb p.1 s.next s.most,hZ p.1 p.2,pur (eM Ev.p p.2=s.rows/\∀x∈p.2,ik Q x.2)]
section
variable {Q Q':aE}{hb:Nat}{s:HS Pv}{F L:List aE}{H:aC}{K:KE}
theorem kR:aA H (hldA Q hb s::F)↔∃mb rows,(eM Ev.p rows=s.rows/\∀x∈rows,ik Q x.2)/\aA H (holdC hb mb s.next s.most::hZ mb rows::F):=by
 constructor
 .intro h;obtain⟨⟨mb,rows⟩,h⟩:=cJ.1 h;have h:=aA.open (A:=[_,_,_]) h;have a:=aA.consP (h.o [2,0,1] 3);exact⟨mb,rows,a.1,a.2⟩
 .rintro⟨mb,rows,a,h⟩;refine cJ.2 ⟨(mb,rows),aA.shut [_,_,_] ?_⟩;exact (h.pur a).o [1,2,0] 3
theorem Au(hs:aM Q Q')(h:aA H (hldA Q hb s::F)):aA H (hldA Q' hb s::F):=by
 obtain⟨mb,rows,a,h⟩:=kR.1 h;exact kR.2 ⟨mb,rows,⟨a.1,λx b=>(a.2 x b).sub hs⟩,h⟩
theorem Av{next most:Int}(h:aA H F)
  (k1:next<0\/1099511627776<next\/most<1\/256<most->K (.tuple #[.pointer none,aD 11]) H)
  (k2:∀hb a,0<=next/\next<=1099511627776/\1<=most/\most<=256->aA a (hldA Q hb ⟨next,most,[]⟩::F)->K (.tuple #[PA hb 0,aD 0]) a) :
  CF 185 #[aD next,aD most] H K:=
 QM h k1 λhb mb a c h=>k2 hb a c (kR.2 ⟨mb,[],⟨rfl,λx b=>UY b (by simp)⟩,h⟩)
theorem uf(h:aA H (hldA Q hb s::F)):bU Tryz.prog 124 #[PA hb 0] H (aD s.next):=by
 obtain⟨mb,rows,a,h⟩:=kR.1 h;exact QN h 0 rfl
theorem Jp{first:Int}{t:KQ}{A:Nat}{items:List Ev}(h:aA H (hldA Q hb s::F))(ok:s.Ok)(C:s.next<=1125899906842624)
  (v:∀H,aA H F->aP H t (flat cw items)) (u:∀e∈items,ik Q e) (f:items.length<=1000000)
  (k:∀a c (ready:List Ev) d,ready.map Ev.p=(s.offer first (items.map Ev.p)).2.1->(∀e∈ready,ik Q e)->
   aA d (slA 99 4 a ready.length c (flat cw ready)::hldA Q hb (s.offer first (items.map Ev.p)).1::F)->K (.tuple #[.slice a ready.length c,aD (s.offer first (items.map Ev.p)).2.2]) d) :
  CF 153 #[PA hb 0,aD first,.slice t items.length A] H K:=by
 obtain⟨mb,rows,m,h⟩:=kR.1 h;have n:s=mapH Ev.p ⟨s.next,s.most,rows⟩:=by unfold mapH;rw[m.1]
 have i:=Sm Ev.p ⟨s.next,s.most,rows⟩ first items;rw[<-n]at i;rw[i]at k;have j:(⟨s.next,s.most,rows⟩:HS Ev).Ok:=ok_mapH.1 (n▸ok);have hm:=ue (s:=⟨s.next,s.most,rows⟩) (first:=first) (items:=items);have b:((⟨s.next,s.most,rows⟩:HS Ev).offer first items).1.most=s.most:=by unfold HS.offer;split <;> rfl
 refine QO (s:=⟨s.next,s.most,rows⟩) h j C v f λa c d h=>?_
 refine k a c _ d rfl (λe B=>?_) ?_
 .rcases hm.1 e B with h|⟨p,h,rfl⟩
  .exact u e h
  .exact m.2 p h
 .have h:=h.o [1,2,0] 3;have y:aA d (hldA Q hb (mapH Ev.p ((⟨s.next,s.most,rows⟩:HS Ev).offer first items).1)::_):=kR.2 ⟨mb,_,⟨rfl,λx w=>by
   rcases hm.2 x w with h|h
   .exact u _ h
   .exact m.2 x h⟩,by
    show aA d (holdC hb mb _ ((⟨s.next,s.most,rows⟩:HS Ev).offer first items).1.most::_);rw[b];exact h⟩
  exact y.o [1,0] 2
theorem Aw(h:aA H (hldA Q hb s::F))(n:gG s.rows)(m:∀p∈s.rows,aF p.1)(f:s.rows.length<=1000000)
  (k:∀a c e,aA e (slA 2 1 a s.rows.length c ((aG s.rows).map aD)::hldA Q hb s::F)->K (.slice a s.rows.length c) e) :
  CF 122 #[PA hb 0] H K:=by
 obtain⟨mb,rows,d,h⟩:=kR.1 h;rw[<-d.1]at n m f;have b:s.rows.length=rows.length:=by rw[<-d.1,Ar]
 have i:aG s.rows=aG rows:=by rw[<-d.1,Sk]
 refine Im h (wJ.1 n) (λp j=>m (p.1,p.2.p) (Vh.2 ⟨p,j,rfl⟩)) (by rw[Ar]at f;exact f) λa c e h=>?_
 rw[<-b];refine k a c e ?_;rw[b,i];have h:=h.o [1,2,0] 3;have h:=kR.2 ⟨mb,rows,d,h⟩;exact h.o [1,0] 2
theorem Sp(h:aA H (hldA Q hb s::F))(t:gG s.rows)(n:∀p∈s.rows,aF p.1)(f:s.rows.length<=1000000)
  (k:∀a c (evs:List Ev) b,evs.map Ev.p=s.rows.map (·.2)->(∀e∈evs,ik Q e)->aA b (slA 99 4 a evs.length c (flat cw evs)::hldA Q hb s.drain::F)->K (.slice a evs.length c) b) :
  CF 123 #[PA hb 0] H K:=by
 obtain⟨mb,rows,j,h⟩:=kR.1 h;rw[<-j.1]at t n f;refine QP h (wJ.1 t) (λp i=>n (p.1,p.2.p) (Vh.2 ⟨p,i,rfl⟩)) (by rw[Ar]at f;exact f) λa c b h=>?_
 have h:=h.o [1,2,0] 3;have v:aA b (hldA Q hb s.drain::_):=kR.2 ⟨mb,[],⟨rfl,λx u=>UY u (by simp)⟩,h⟩
 have d:(rows.map (·.2)).length=rows.length:=Vl ..;have m:=k a c (rows.map (·.2)) b (by rw[<-j.1];unfold eM;rw[VM,VM];rfl) (λe w=>by
  obtain⟨p,y,rfl⟩:=Vh.1 w;exact j.2 p y) (by rw[d];exact v.o [1,0] 2)
 rw[d]at m;exact m
theorem Jq(h:aA H (hldA Q hb s::F))
  (k:∀a b,aA b (hldA Q a s::hldA Q hb s::F)->K (PA a 0) b):CF 63 #[PA hb 0] H K:=by
 obtain⟨mb,rows,d,h⟩:=kR.1 h;refine QR h λa c b h=>k a b ?_
 have h:=h.o [2,3,0,1] 4;have h:=kR.2 ⟨mb,rows,d,h⟩;have h:=h.o [1,2,0] 3;exact kR.2 ⟨c,rows,d,h⟩
end
def gP(e:Pv):Bool:=decide (0<=e.stamp)&&decide (e.stamp<=4611686018427387903)&&fu e.name e.labs
def gQ(next:Int)(evs:List Pv):Bool:=decide (0<=next)&&decide (next<=4611686018427387903)&&(decide (1<=evs.length)&&decide (evs.length<=64)&&decide (next<=1099511627776-evs.length)&&evs.all gP)
structure Rp where
 kind:Int
 ag:Int
 ep:Int
 bt:Int
 nx:Int
 st:Int
 nw:Int
 sm:bP
 evs:List Pv
def cr(k:Int):List Nat:=if k=2 then [1,3,6] else if k=3 then [1,2,7,8,9,10] else if k=4 then [1,2,4,6] else if k=5 then [1,2,4,5,6] else if k=6 then [6] else if k=7 then [4] else []
def zrK(k:Int)(i:Nat)(x:Int):Int:=if i∈cr k then 0 else x
abbrev inM(x least most:Int):Bool:=decide (least<=x)&&decide (x<=most)
def Rp.zeros(r:Rp):Bool:=(decide (zrK r.kind 1 r.ag=0)&&decide (zrK r.kind 2 r.ep=0)&&decide (zrK r.kind 3 r.bt=0)&&decide (zrK r.kind 4 r.nx=0)&&decide (zrK r.kind 5 r.st=0)&&decide (zrK r.kind 6 r.nw=0)) &&
 (decide (zrK r.kind 7 r.sm.asked=0)&&decide (zrK r.kind 8 r.sm.got=0)&&decide (zrK r.kind 9 r.sm.sent=0)&&decide (zrK r.kind 10 r.sm.came=0))
def Rp.lim(r:Rp):Bool:=inM r.ag 0 63&&inM r.ep (if r.kind=3\/r.kind=4\/r.kind=5 then 1 else 0) 1099511627776&&inM r.bt (if r.kind=2 then 1 else 0) 1099511627776&&inM r.nx 0 1099511627776&&inM r.st 0 4611686018427387903&&inM r.nw 0 4611686018427387903&&decide (r.sm.ok)
def Rp.right(r:Rp):Bool:=inM r.kind 1 7&&r.zeros&&(if r.kind=4 then gQ r.nx r.evs else decide (r.evs.length=0))&&r.lim
abbrev df(r:Rp)(a:KQ)(c:Nat):Os:=[aB r.kind,aB r.ag,aB r.ep,aB r.bt,aB r.nx,aB r.st,aB r.nw,aB r.sm.asked,aB r.sm.got,aB r.sm.sent,aB r.sm.came,.slice a r.evs.length c]
theorem kinds{k:Int}(b:¬k<1)(a:¬7<k):k=1\/k=2\/k=3\/k=4\/k=5\/k=6\/k=7:=by omega
section
variable {F L:List aE}{H:aC}{K:KE}
theorem wK{next:Int}{evs:List Ev}:mE next evs=gQ next (evs.map Ev.p):=by
 unfold mE iA gQ;rw[Vl,List.all_map];rfl
theorem oh{x a b:Int}:bU Tryz.prog 138 #[aD x,aD a,aD b] H (.bool (inM x a b)):=cM 138 28 ⟨rfl,rfl⟩
theorem Ay{b e:Nat}{k0:Int}{cs:Os}(h:aA H F)(i:Nat)(m:aW i F=cellsA b cs e)(j:aT cs 0=some (aD k0))
  (k:∀a c f,aA f (slA 297 1 a (cr k0).length c ((cr k0).map λi=>PA b i)::F)->K (.slice a (cr k0).length c) f):CF 136 #[PA b 0] H K:=by
 refine cM 136 0x121513c131c13c13c13cbc ?_;have fin:∀(l:List Nat) p f,cr k0=l->aA f (cellsA p (l.map λi=>PA b i) 297::F)->K (.slice (some ⟨p,0,none⟩) l.length l.length) f:=by
  intro l p f e h;subst e;refine k _ _ _ ?_;exact aA.sl_pt h 1 _ (by simp)
 refine⟨k0,(h.rd i m 0).trans j,λd=>?_,λd=>⟨λd=>?_,λd=>⟨λd=>?_,λd=>⟨λd=>?_,λd=>⟨λd=>?_,λd=>⟨λd=>?_,λd=>?_⟩⟩⟩⟩⟩⟩
 .have d:=Va d;subst d;exact h.al λp _ h=>fin [1,3,6] p _ rfl h
 .have d:=Va d;subst d;exact h.al λp _ h=>fin [1,2,7,8,9,10] p _ rfl h
 .have d:=Va d;subst d;exact h.al λp _ h=>fin [1,2,4,6] p _ rfl h
 .have d:=Va d;subst d;exact h.al λp _ h=>fin [1,2,4,5,6] p _ rfl h
 .have d:=Va d;subst d;exact h.al λp _ h=>fin [6] p _ rfl h
 .have d:=Va d;subst d;exact h.al λp _ h=>fin [4] p _ rfl h
 .have e:cr k0=[]:=by
   unfold cr;simp only[Ve]at *;simp only[*,if_false]
  have:=k none 0 H (by rw[e];exact h.sl_nil 297 1);rw[e]at this;exact this
def zrL(cs:Os)(is:List Nat):Os:=is.foldl (λcs i=>cv cs i [aD 0]) cs
theorem zrL_len(cs:Os):∀is,(zrL cs is).length=cs.length:=by
 intro is
 induction is generalizing cs with
 | nil=>rfl
 | cons i r ih=>show (zrL (cv cs i [aD 0]) r).length=_;rw[ih,nU]
theorem zrL_take(cs:Os)(is:List Nat)(j:Nat)(h:j<is.length):zrL cs (is.take (j+1))=cv (zrL cs (is.take j)) is[j] [aD 0]:=by
 unfold zrL;rw[VE h,Wr];rfl
theorem Az{k:Int}:∀i∈cr k,i<11:=by
 unfold cr
 split
 .decide
 split
 .decide
 split
 .decide
 split
 .decide
 split
 .decide
 split
 .decide
 .decide
theorem wL(k:Int):(cr k).length<=6:=by
 unfold cr
 split
 .decide
 split
 .decide
 split
 .decide
 split
 .decide
 split
 .decide
 split
 .decide
 .decide
theorem zrL_enc{r:Rp}{a:KQ}{c:Nat}(d:¬r.kind<1)(b:¬7<r.kind):zrL (df r a c) (cr r.kind) =
  [aD r.kind,aD (zrK r.kind 1 r.ag),aD (zrK r.kind 2 r.ep),aD (zrK r.kind 3 r.bt),aD (zrK r.kind 4 r.nx),aD (zrK r.kind 5 r.st),aD (zrK r.kind 6 r.nw),aD (zrK r.kind 7 r.sm.asked),aD (zrK r.kind 8 r.sm.got),aD (zrK r.kind 9 r.sm.sent),aD (zrK r.kind 10 r.sm.came),.slice a r.evs.length c]:=by
 obtain⟨kind,ag,ep,bt,nx,st,nw,sm,evs⟩:=r;dsimp only at d b
 rcases kinds d b with rfl|rfl|rfl|rfl|rfl|rfl|rfl <;> rfl
theorem eq180{a b c d e f:Int}:iH Tryz.prog .neq 298 (.agg #[aD a,aD b,aD c,aD d,aD e,aD f]) (.agg #[aD 0,aD 0,aD 0,aD 0,aD 0,aD 0])
  (!(decide (a=0)&&decide (b=0)&&decide (c=0)&&decide (d=0)&&decide (e=0)&&decide (f=0))):=by
 have h:=(yI (P:=Tryz.prog) (t:=298) (xs:=[aD a,aD b,aD c,aD d,aD e,aD f]) (ys:=[aD 0,aD 0,aD 0,aD 0,aD 0,aD 0])
  (r:=(a == 0&&(b == 0&&(c == 0&&(d == 0&&(e == 0&&(f == 0&&true))))))) (by kernel_rfl)).2
 have e:(a == 0&&(b == 0&&(c == 0&&(d == 0&&(e == 0&&(f == 0&&true))))))=(decide (a=0)&&decide (b=0)&&decide (c=0)&&decide (d=0)&&decide (e=0)&&decide (f=0)):=by
  rw[VH];simp only[Vd,beq_iff_eq,Vc,Bool.and_true]
  constructor
  .rintro⟨h1,h2,h3,h4,h5,h6⟩;exact⟨⟨⟨⟨⟨h1,h2⟩,h3⟩,h4⟩,h5⟩,h6⟩
  .rintro⟨⟨⟨⟨⟨h1,h2⟩,h3⟩,h4⟩,h5⟩,h6⟩;exact⟨h1,h2,h3,h4,h5,h6⟩
 rw[e]at h;exact h
theorem eq43{a b c d:Int}:iH Tryz.prog .neq 58 (.agg #[aD a,aD b,aD c,aD d]) (.agg #[aD 0,aD 0,aD 0,aD 0])
  (!(decide (a=0)&&decide (b=0)&&decide (c=0)&&decide (d=0))):=by
 have h:=(tr (P:=Tryz.prog) (t:=58) (xs:=[aD a,aD b,aD c,aD d]) (ys:=[aD 0,aD 0,aD 0,aD 0])
  (r:=(a == 0&&(b == 0&&(c == 0&&(d == 0&&true))))) (by kernel_rfl)).2
 have e:(a == 0&&(b == 0&&(c == 0&&(d == 0&&true))))=(decide (a=0)&&decide (b=0)&&decide (c=0)&&decide (d=0)):=by
  rw[VH];simp only[Vd,beq_iff_eq,Vc,Bool.and_true]
  constructor
  .rintro⟨h1,h2,h3,h4⟩;exact⟨⟨⟨h1,h2⟩,h3⟩,h4⟩
  .rintro⟨⟨⟨h1,h2⟩,h3⟩,h4⟩;exact⟨h1,h2,h3,h4⟩
 rw[e]at h;exact h
theorem A0{r:Rp}{a:KQ}{c:Nat}{evs:List Ev}(T:r.evs=evs.map Ev.p)(h:aA H F)(W:lJ F a evs)(Y:evs.length<=1099511627776)
  (k:∀L,aA L F->K (.bool r.right) L):CF 64 #[.agg ⟨df r a c⟩] H K:=by
 have w:r.evs.length=evs.length:=by rw[T,Vl]
 refine cN 64 0x1d1215612399251441d2171bb121517421791794749289 [[(2,sB)],[(8,sI)],[(70,sB)],[(70,sB)],[(8,sI),(9,sI)],[],[(21,sI)]] ?_;refine h.al λb _ h=>⟨_,h.r 0,_,λ_=>h.r 0,λy=>?_,λy=>?_⟩
 .have:r.right=false:=by
   unfold Rp.right inM;simp only[Vr,Vc]at y;have:(decide (1<=r.kind)&&decide (r.kind<=7))=false:=by
    simp only[VF,Ve];omega
   rw[this];simp
  rw[this]at k;exact k _ h.tl
 simp only[Vp,Ve]at y;have I:inM r.kind 1 7=true:=by unfold inM;rw[Vs (by omega),Vs (by omega)];rfl
 refine⟨_,_,_,_,_,_,_,_,_,_,_,_,_,_,h.q 0,?_⟩;refine h.al λb1 _ h=>?_
 refine h.st 0 rfl rfl ?_;intro H2 h;refine Ay h 0 rfl rfl λp pc H3 h=>⟨_,_,_,rfl,?_⟩
 refine⟨λi L=>∃j:Nat,i=j/\j<=(cr r.kind).length/\aA L (slA 297 1 p (cr r.kind).length pc ((cr r.kind).map λi=>PA b1 i)::cellsA b1 (zrL (df r a c) ((cr r.kind).take j)) 61::cellsA b (df r a c) 61::F),
  λi _=>(cr r.kind).length-i.toNat,⟨0,rfl,by omega,h⟩,?_⟩
 rintro i H4 ⟨j,rfl,hj,h⟩;refine⟨λe=>?_,λe=>?_⟩
 .have e:j<(cr r.kind).length:=by have:=Va e;omega
  have U:=(h.sl_rd 0 rfl).at e;have hi:=Az _ (Vk e);have ho:=wL r.kind;refine⟨by omega,_,_,U.1,_,U.2,?_⟩;refine h.st 1 rfl (by rw[zrL_len];exact Nat.ble_eq_true_of_le (by show (cr r.kind)[j]+1<=12;omega)) ?_;intro H5 h
  conv=>whnf
  rw[aJ (x:=(j:Int)+1)];refine⟨⟨j+1,by omega,e,?_⟩,by dsimp only;omega⟩;rw[zrL_take _ _ _ e];exact h
 .have N:(cr r.kind).length<=j:=by have:=Vb e;omega
  rw[V2 N,zrL_enc y.1 y.2]at h;refine⟨_,h.r 1,_,h.r 1,_,h.r 1,_,h.r 1,_,h.r 1,_,h.r 1,?_⟩;refine h.al λb3 _ h=>?_
  refine h.st 0 rfl rfl ?_;intro H5 h;refine⟨_,_,_,_,_,_,h.q 0,_,eq180,_,_,_,_,λ_=>h.q 2,_,λ_=>eq43,λv=>?_,λv=>?_⟩
  .have:r.right=false:=by
    have:r.zeros=false:=by
     unfold Rp.zeros;rw[VF];rw[Vr,V1,V1]at v;exact v
    unfold Rp.right;rw[this];simp
   rw[this]at k;exact k _ h.tl.tl.tl.tl
  have R:r.zeros=true:=by
   rw[Vp,VI,VI]at v;unfold Rp.zeros;rw[v.1,v.2];rfl
  have G:r.right=((if r.kind=4 then gQ r.nx r.evs else decide (r.evs.length=0))&&r.lim):=by
   unfold Rp.right;rw[I,R];simp
  refine⟨_,h.r 3,?_⟩;intro Jn hJ;have fin:∀u,(if r.kind=4 then gQ r.nx r.evs else decide (r.evs.length=0))=true->aA u (cellsA b (df r a c) 61::F)->Jn u:=by
   intro u hb h;rw[hb,WB]at G;refine hJ _ ?_;refine⟨_,h.r 0,?_⟩;intro O Q;have f:∀ep bt,ep=(if r.kind=3\/r.kind=4\/r.kind=5 then (1:Int) else 0)->bt=(if r.kind=2 then (1:Int) else 0)->O ep bt u:=by
    rintro _ _ rfl rfl;refine Q _ _ _ ?_;intro V B;refine⟨_,h.r 0,_,oh,_,λ_=>h.r 0,_,λ_=>oh,_,λ_=>h.r 0,_,λ_=>oh,_,λ_=>h.r 0,_,λ_=>oh,_,λ_=>h.r 0,_,λ_=>oh,_,λ_=>h.r 0,_,λ_=>oh,_,_,_,_,λ_=>h.q 0,λJ=>?_,λJ=>?_⟩
    .refine wv (s:=r.sm) h λH7 h=>⟨_,rfl,B _ _ ?_⟩
     have:r.right=decide r.sm.ok:=by
      rw[G];unfold Rp.lim;rw[J,WB]
     rw[this]at k;exact k _ h.tl
    .refine B _ _ ?_;have:r.right=false:=by
      rw[G];unfold Rp.lim;rw[Bool.not_eq_true]at J;rw[J,Bool.false_and]
     rw[this]at k;exact k _ h.tl
   refine⟨λd=>?_,λd=>?_⟩
   .have d:=Va d;exact f _ _ (by rw[nO]) (by rw[UX d])
   intro S P;have D:=Vb d;have f3:∀t:Bool,t=decide (r.kind=3\/r.kind=4\/r.kind=5)->S t u:=by
    rintro t rfl;refine P _ _ ?_;intro Z E;refine⟨λM=>?_,λM=>?_⟩
    .refine E _ _ ?_;exact f _ _ (by rw[UX (Va M)]) (by rw[UW D])
    .refine E _ _ ?_;exact f _ _ (by rw[UW (Vb M)]) (by rw[UW D])
   refine⟨λd=>?_,λd=>?_⟩
   .have n:=Va d;exact f3 _ (by rw[Vs n,Vs (.inl n)])
   intro h0 A;have n:=Vb d;refine⟨λd=>?_,λd=>?_⟩
   .have m:=Va d;refine A _ _ ?_;exact f3 _ (by rw[Vs m,Vs (.inr (.inl m))])
   .have m:=Vb d;refine A _ _ ?_;refine f3 _ ?_;rw[VH,Vc,Vc];omega
  refine⟨λd=>?_,λd=>?_⟩
  .have d:=Va d;refine⟨_,h.r 3,_,_,_,h.r 3,?_⟩;refine h.al λb4 _ h=>?_
   refine h.st 0 rfl rfl ?_;intro u h;refine⟨_,_,_,_,_,_,_,_,_,_,_,_,_,_,_,_,_,_,_,_,h.q 0,?_⟩;rw[w]at h ⊢;refine Je (evs:=evs) h (((((W.cons _).cons _).cons _).cons _).cons _) Y λH7 h=>⟨_,rfl,λhb=>?_,λhb=>?_⟩
   .have:r.right=false:=by
     rw[G,UX d,T,<-wK];rw[V1]at hb;rw[hb];rfl
    rw[this]at k;exact k _ h.tl.tl.tl.tl.tl
   .refine fin _ ?_ ?_
    .rw [UX d,T,<-wK];simpa using hb
    .rw [<-w]at h;exact h.o [4] 5
  .have d:=Vb d;refine⟨_,_,_,h.r 3,λC=>?_,λC=>?_⟩
   .have C:=Va C;have:r.right=false:=by
     rw[G,UW d,VK (by omega)];rfl
    rw[this]at k;exact k _ h.tl.tl.tl.tl
   .have C:=Vb C;refine fin _ ?_ (h.o [3] 4);rw[UW d,Vs (by omega)]
end
def u64N(v:Int):Nat:=(u64.wrap v).toNat
def aN(l:List Int):List Int:=l.flatMap λv=>bQ (u64N v)
theorem iB(l:List Int):aH (aN l):=jx λ_ _=>oL _
abbrev Rd(α:Type):=RS->Except Int (α×RS)
def okR{α:Type}(s:RS)(x:α):Except Int (α×RS):=if s.e≠0 then .error s.e else .ok (x,s)
def eA:Rd Int:=λs=>okR (bK s).2 ((bK s).1:Int)
def cG:Rd Int:=λs=>okR (bK s).2 (i64.wrap ((bK s).1:Int))
def ge:Rd Int:=λs=>okR (dF s).2 (dF s).1
def dP(m:Int):Rd Int:=λs=>okR (bX m s).2 (bX m s).1
def upR(m:Int):Rd Int:=λs=>match cG s with
 | .ok (v,s')=>if inM v 0 m then .ok (v,s') else .error 10
 | .error e=>.error e
def iX:Rd Pv:=λs=>match cG s with
 | .error e=>.error e
 | .ok (a,s1)=>match ge s1 with
  | .error e=>.error e
  | .ok (b,s2)=>okR ⟨(cK s2).e,(cK s2).rest.bs⟩ ⟨a,b,(cK s2).name,(cK s2).labs⟩
def evB(e:Pv):List Int:=(aN [e.stamp]++cX [e.value])++iV e.name e.labs
theorem wM(e:Pv):aH (evB e):=dE (dE (iB _) (tL _)) (Ae _ _)
def Rp.nums(r:Rp)(i:Nat):Int:=match i with|1=>r.ag|2=>r.ep|3=>r.bt|4=>r.nx|5=>r.st|6=>r.nw|7=>r.sm.asked|8=>r.sm.got|9=>r.sm.sent|10=>r.sm.came|_=>0
def Rp.bytes(r:Rp):List Int:=if r.right then (aN [r.kind]++(cr r.kind).flatMap (λi=>aN [r.nums i]))++(if r.kind=4 then aN [(r.evs.length:Int)] else [])++r.evs.flatMap evB else []
theorem rZ(v:Int):u64N v<18446744073709551616:=by
 have:=tJ v;unfold u64N;omega
theorem wN(v:Int):u64.wrap v=(u64N v:Nat):=by
 have:=tJ v;unfold u64N;omega
theorem dL(l:List Int):(aN l).length<=10*l.length:=by
 induction l with
 | nil=>simp[aN]
 | cons v r ih=>
  have:=nW (rZ v);unfold aN at ih ⊢;rw[V6,UZ,Vf];omega
theorem wO(e:Pv):(evB e).length<=1320:=by
 have c:=dL [e.stamp];have a:=mq [e.value];have b:=wG e.name e.labs;unfold evB;simp only[UZ,Vf,Vy]at *;omega
section
variable {F L:List aE}{H:aC}{K KP:KE}{Q:aE}
theorem pf{a:KQ}{c:Nat}{vs:List Int}(h:aA H F)(A:∀H,aA H F->aP H a (vs.map aD))(E:vs.length<=1000000)
  (k:∀m d n,aA n (slA 5 1 m (aN vs).length d ((aN vs).map U8)::F)->K (.slice m (aN vs).length d) n) :
  CF 49 #[.slice a vs.length c] H K:=by
 refine cN 49 0x1121561239925144c [[(3,sS),(8,sI)]] ?_;refine⟨λm B d i n=>∃j:Nat,i=j/\j<=vs.length/\B=(aN (vs.take j)).length/\aA n (slA 5 1 m (aN (vs.take j)).length d ((aN (vs.take j)).map U8)::F),λ_ _ _ i _=>vs.length-i.toNat,
  ⟨0,rfl,V3 _,rfl,h.sl_nil 5 1⟩,?_⟩
 rintro a1 n1 c1 i J ⟨j,rfl,G,rfl,h⟩;refine⟨λs=>?_,λs=>?_⟩
 .have b:j<vs.length:=by have:=Va s;omega
  have u:=(A _ h.tl).at b;refine⟨by omega,_,_,u.1,vs[j],u.2,?_⟩;dsimp only
  conv=>whnf
  rw[wN];have y:=dL (vs.take j);have w:=nW (rZ vs[j]);have C:(vs.take j).length<=vs.length:=by rw[Vx];omega
  refine h.al λb1 _ h=>?_
  refine qm (us:=[u64N vs[j]]) h (λH h=>h.ce_rd 0 rfl) (by simp;exact rZ _) (by simp) λa2 c2 I h=>⟨_,_,_,rfl,?_⟩
  rw[wF]at h ⊢
  conv=>whnf
  refine dp h (i:=2) rfl rfl rfl (h.sl_rd 0 rfl) (by omega) λa3 c3 D h=>⟨_,_,_,rfl,?_⟩
  conv=>whnf
  rw[aJ (x:=(j:Int)+1)];have e:aN (vs.take (j+1))=aN (vs.take j)++bQ (u64N vs[j]):=jL (f:=λv=>bQ (u64N v)) b
  rw[<-e]at h ⊢;exact⟨⟨j+1,by omega,b,rfl,h.o [2] 3⟩,by dsimp only;omega⟩
 .have t:vs.length<=j:=by have:=Vb s;omega
  have e:vs.take j=vs:=V2 t;rw[e]at h ⊢;exact k _ _ _ h
theorem nJ{b:Nat}{v:Int}(h:aA H F)(i:Nat)(e:aW i F=cellsA b [aD v] 2)
  (k:∀c a d,aA d (slA 5 1 c (aN [v]).length a ((aN [v]).map U8)::F)->K (.slice c (aN [v]).length a) d) :
  CF 49 #[.slice (some ⟨b,0,none⟩) 1 1] H K:=
 pf (vs:=[v]) h (λH h=>h.ce_rd i e) (by simp) k
theorem qy{b:Nat}{v:Int}(h:aA H F)(i:Nat)(e:aW i F=cellsA b [aD v] 2)
  (k:∀c a d,aA d (slA 5 1 c (cX [v]).length a ((cX [v]).map U8)::F)->K (.slice c (cX [v]).length a) d) :
  CF 51 #[.slice (some ⟨b,0,none⟩) 1 1] H K:=
 EZ (vs:=[v]) h (λH h=>h.ce_rd i e) (by simp) k
theorem Jr{e:Ev}(h:aA H F)(u:∀H,aA H F->aP H e.la (flat de e.labs))
  (k:∀t n f,aA f (slA 5 1 t (evB e.p).length n ((evB e.p).map U8)::F)->K (.slice t (evB e.p).length n) f) :
  CF 125 #[aggV e] H K:=by
 refine cN 125 4748 [[(3,sS)]] ?_;refine h.al λb _ h=>?_
 intro w v;have l1:=dL [e.stamp];have l2:=mq [e.value];have l3:=wG e.name e.labs;simp only[Vf,Vy]at l1 l2;have d:∀a c f,aA f (slA 5 1 a (aN [e.stamp]++cX [e.value]).length c ((aN [e.stamp]++cX [e.value]).map U8)::cellsA b (cw e) 99::F)->w a (aN [e.stamp]++cX [e.value]).length c f:=by
  intro a c f h;refine v _ _ _ _ ?_;refine⟨_,_,_,_,h.q 1,?_⟩;refine Am h (λH h=>u H h.tl.tl) λa2 c2 m h=>⟨_,_,_,rfl,?_⟩
  conv=>whnf
  refine dp h (i:=1) rfl rfl rfl (h.sl_rd 0 rfl) (by rw[UZ];omega) λa3 c3 j h=>⟨_,_,_,rfl,?_⟩
  exact k _ _ _ (h.o [1] 3)
 refine⟨_,h.r 0,_,h.r 0,?_,?_⟩
 .refine h.al λb1 _ h=>⟨h.r 1,?_,?_⟩
  .refine nJ h 0 rfl λa1 c1 m h=>⟨_,_,_,rfl,h.r 2,?_⟩
   refine h.al λb2 _ h=>?_
   refine qy h 0 rfl λa2 c2 s h=>⟨_,_,_,rfl,?_⟩
   conv=>whnf
   refine dp h (i:=2) rfl rfl rfl (h.sl_rd 0 rfl) (by omega) λa3 c3 j h=>⟨_,_,_,rfl,?_⟩
   exact d _ _ _ (h.o [2,4] 5)
  .refine h.al λb2 _ h=>?_
   refine nJ h 1 rfl λa1 c1 m h=>⟨_,_,_,rfl,?_⟩
   refine qy h 1 rfl λa2 c2 s h=>⟨_,_,_,rfl,?_⟩
   conv=>whnf
   refine dp h (i:=1) rfl rfl rfl (h.sl_rd 0 rfl) (by omega) λa3 c3 j h=>⟨_,_,_,rfl,?_⟩
   exact d _ _ _ (h.o [1,4] 5)
 .refine h.al λb2 _ h=>⟨h.r 1,?_⟩
  refine h.al λb1 _ h=>?_
  refine nJ h 0 rfl λa1 c1 m h=>⟨_,_,_,rfl,?_⟩
  refine qy h 2 rfl λa2 c2 s h=>⟨_,_,_,rfl,?_⟩
  conv=>whnf
  refine dp h (i:=1) rfl rfl rfl (h.sl_rd 0 rfl) (by omega) λa3 c3 j h=>⟨_,_,_,rfl,?_⟩
  exact d _ _ _ (h.o [1,4] 5)
abbrev pnV(e:Int):Value:=.iface 50 (aD e)
def sd{α:Type}(rb:Nat)(F:List aE)(enc:α->Value)(K KP:KE):Except Int (α×RS)->Prop
 | .ok (x,s)=>∀H',s.e=0->aH s.bs->s.bs.length<=1099511627776->aA H' (crdA rb s::F)->K (enc x) H'
 | .error e=>∀H',e≠0->aA H' F->KP (pnV e) H'
theorem j5{e:Int}(k:e=0->K (.tuple #[]) H)(kp:e≠0->KP (pnV e) H):CP 203 #[aD e] H K KP:=by
 refine cNP 203 5961 [[]] ?_;refine λc b=>⟨λa=>kp (by simpa using a),λa=>b _ ?_⟩
 exact k (by simpa using a)
theorem ug{rb:Nat}{s:RS}(h:aA H (crdA rb s::F))(hb:aH s.bs)(c:s.bs.length<=1099511627776)(k:sd rb F (λv:Int=>.int .u64 v) K KP (eA s)) :
  CP 207 #[.agg #[PA rb 0]] H K KP:=by
 refine cMP 207 4380 ?_;refine h.al λb _ h=>⟨_,h.r 0,?_⟩
 have h:=h.o [1,0] 2;refine nE h hb c λf h=>⟨_,rfl,_,h.r 1,_,mp h,?_⟩
 have a:=gH hb;have d:=jM s;unfold eA okR at k;refine j5 (λe=>⟨rfl,?_⟩) λe=>?_
 .rw [UW (by simpa using e)]at k;exact k _ e a (by omega) (h.o [0] 2)
 .rw [UX e]at k;exact k _ e h.tl.tl
theorem jY{rb:Nat}{s:RS}(h:aA H (crdA rb s::F))(hb:aH s.bs)(a:s.bs.length<=1099511627776)(k:sd rb F aD K KP (cG s)) :
  CP 201 #[.agg #[PA rb 0]] H K KP:=by
 refine cMP 201 28 ?_;refine h.al λb _ h=>⟨_,h.rd 0 rfl 0,?_⟩
 have h:=h.o [1,0] 2;refine ug h hb a ?_;unfold eA okR;unfold cG okR at k
 split
 .rename_i e;rw[UX e]at k;exact λd c h=>k _ c h.tl
 .rename_i e;rw[UW e]at k;exact λd c hb a h=>⟨_,rfl,k _ c hb a (h.o [0] 2)⟩
theorem uh{rb:Nat}{s:RS}(h:aA H (crdA rb s::F))(hb:aH s.bs)(c:s.bs.length<=1099511627776)(k:sd rb F aD K KP (ge s)) :
  CP 199 #[.agg #[PA rb 0]] H K KP:=by
 refine cMP 199 4380 ?_;refine h.al λb _ h=>⟨_,h.r 0,?_⟩
 have h:=h.o [1,0] 2;refine wh h hb c λf h=>⟨_,rfl,_,h.r 1,_,mp h,?_⟩
 have a:aH (dF s).2.bs:=gH hb;have d:(dF s).2.bs.length<=s.bs.length:=jM s;unfold ge okR at k;refine j5 (λe=>⟨rfl,?_⟩) λe=>?_
 .rw [UW (by simpa using e)]at k;exact k _ e a (by omega) (h.o [0] 2)
 .rw [UX e]at k;exact k _ e h.tl.tl
theorem ui{rb:Nat}{s:RS}{m:Int}(hm:aF m)(h:aA H (crdA rb s::F))(hb:aH s.bs)(c:s.bs.length<=1099511627776)(k:sd rb F aD K KP (dP m s)) :
  CP 200 #[.agg #[PA rb 0],aD m] H K KP:=by
 refine cMP 200 4380 ?_;refine h.al λb _ h=>⟨_,h.r 0,?_⟩
 have h:=h.o [1,0] 2;refine tG (most:=m) h hb c hm λf h=>⟨_,rfl,_,h.r 1,_,mp h,?_⟩
 have a:=rK (m:=m) hb;have d:=rL s m;unfold dP okR at k;refine j5 (λe=>⟨rfl,?_⟩) λe=>?_
 .rw [UW (by simpa using e)]at k;exact k _ e a (by omega) (h.o [0] 2)
 .rw [UX e]at k;exact k _ e h.tl.tl
theorem se{rb:Nat}{s:RS}{m:Int}(h:aA H (crdA rb s::F))(hb:aH s.bs)(c:s.bs.length<=1099511627776)(k:sd rb F aD K KP (upR m s)) :
  CP 198 #[.agg #[PA rb 0],aD m] H K KP:=by
 refine cNP 198 287405212 [[]] ?_;refine h.al λb _ h=>⟨_,h.rd 0 rfl 0,?_⟩
 have h:=h.o [1,0] 2;refine jY h hb c ?_;unfold upR at k
 cases hr:cG s with
 | error e=>
  rw[hr]at k;exact λi d h=>k _ d h.tl
 | ok p=>
  obtain⟨v,s1⟩:=p;rw[hr]at k;dsimp only at k;intro i d hb c h;refine⟨_,rfl,_,oh,?_⟩;refine λj f=>⟨λa=>?_,λa=>f _ ?_⟩
  .rw [UW (by rw[V1]at a;rw[a];simp)]at k;exact k _ (by decide) h.tl.tl
  .skip
   rw[UX (by rw[VI]at a;exact a)]at k;exact k _ d hb c (h.o [0] 2)
theorem sf{s:RS}(h:(cK s).e=0):(⟨(cK s).e,(cK s).rest.bs⟩:RS)=(cK s).rest:=by
 unfold cK at h ⊢
 split at h
 .rename_i a;exact UY h a
 .rename_i a;rw[UW a];have a:(dK (bX 8 (aZ 64 s).2).1.toNat (bX 8 (aZ 64 s).2).2).2.e=0:=by simpa using a
  generalize dK (bX 8 (aZ 64 s).2).1.toNat (bX 8 (aZ 64 s).2).2=W at *;obtain⟨w1,w2,w3⟩:=W;dsimp only at a;subst a
  split at h
  .rename_i b;rw[UX b]
  .simp at h
def EPost(rb:Nat)(Q:aE)(F:List aE)(K KP:KE):Except Int (Pv×RS)->Prop
 | .ok (x,s)=>∀Q' (e:Ev) H',aM Q Q'->ik Q' e->e.p=x->s.e=0->aH s.bs->s.bs.length<=1099511627776->aA H' (Q'::crdA rb s::F)->K (aggV e) H'
 | .error e=>∀Q' H',e≠0->aM Q Q'->aA H' (Q'::F)->KP (pnV e) H'
theorem wP{rb:Nat}{s:RS}(h:aA H (Q::crdA rb s::F))(hb:aH s.bs)(y:s.bs.length<=1099511627776)(k:EPost rb Q F K KP (iX s)) :
  CP 211 #[.agg #[PA rb 0]] H K KP:=by
 refine cMP 211 69916 ?_;refine h.al λb _ h=>?_
 refine h.al λb1 _ h=>⟨_,h.rd 1 rfl 0,_,h.rd 1 rfl 0,?_⟩
 have h:=h.o [3,0,1,2] 4;refine jY h hb y ?_;unfold iX at k
 cases hr:cG s with
 | error e=>
  rw[hr]at k;exact λt m h=>k _ _ m (aM.refl Q) (h.o [2] 3)
 | ok p=>
  obtain⟨v,s1⟩:=p;rw[hr]at k;dsimp only at k;intro t x w i h;refine⟨_,rfl,h.rd 2 rfl 0,?_⟩;refine uh h w i ?_
  cases hr:ge s1 with
  | error e=>
   rw[hr]at k;exact λt m h=>k _ _ m (aM.refl Q) (h.o [2] 3)
  | ok p=>
   obtain⟨u,s2⟩:=p;rw[hr]at k;dsimp only at k;intro t B d j h;refine⟨_,rfl,_,h.r 2,?_⟩;refine IS h d j λa c E h=>⟨_,_,_,_,_,rfl,?_⟩
   have n:=Aj d;have A:=Ak s2;refine h.al λb2 _ h=>?_
   refine h.st 0 rfl rfl ?_;intro C h;unfold okR at k;refine j5 (λe=>?_) λe=>?_
   .rw [UW (by simpa using e),sf e]at k;refine⟨rfl,_,_,_,_,h.q 0,?_⟩;refine h.st 3 rfl rfl ?_;intro D h;refine⟨_,_,_,_,_,_,h.q 3,?_⟩;have f:(cK s2).rest.e=0:=by rw[<-sf e];exact e
    refine k _ ⟨v,u,(cK s2).name,(cK s2).labs,a,c⟩ _ (aM.add (slA 421 2 a (cK s2).labs.length c (flat de (cK s2).labs)) Q) (KIn.sl (c:=c)) rfl f n (by omega) ?_;have h:=h.o [2,5,1] 6;exact gp.2 h
   .rw [UX e]at k;have h:=h.o [5] 6;exact k _ _ e (aM.refl Q) h
end
theorem Rp.right_len{r:Rp}(h:r.right=true):r.evs.length<=64:=by
 unfold Rp.right at h;rw[Vd,Vd,Vd]at h;have h:=h.1.2
 split at h
 .unfold gQ at h;simp only[Vd,Vc]at h;omega
 .have:=Va h;omega
theorem ordK_pos{k:Int}:∀i∈cr k,1<=i:=by
 unfold cr
 split
 .decide
 split
 .decide
 split
 .decide
 split
 .decide
 split
 .decide
 split
 .decide
 .decide
theorem encR_get{r:Rp}{a:KQ}{c i:Nat}(b:1<=i)(d:i<11):aT (df r a c) i=some (aD (r.nums i)):=by
 rcases (by omega:i=1\/i=2\/i=3\/i=4\/i=5\/i=6\/i=7\/i=8\/i=9\/i=10) with rfl|rfl|rfl|rfl|rfl|rfl|rfl|rfl|rfl|rfl <;> rfl
abbrev nmB(r:Rp)(is:List Nat):List Int:=is.flatMap λi=>aN [r.nums i]
theorem Js(r:Rp)(is:List Nat):(nmB r is).length<=10*is.length:=by
 induction is with
 | nil=>simp
 | cons i l ih=>
  have:=dL [r.nums i];unfold nmB at *;rw[V6,UZ,Vf];simp only[Vf,Vy]at this;omega
theorem A7(l:List Pv):(l.flatMap evB).length<=1320*l.length:=by
 induction l with
 | nil=>simp
 | cons i l ih=>
  have:=wO i;rw[V6,UZ,Vf];omega
section
variable {F L:List aE}{H:aC}{K KP:KE}{Q:aE}
theorem Sq{r:Rp}{a:KQ}{c:Nat}{evs:List Ev}(G:r.evs=evs.map Ev.p)(h:aA H F)(B:lJ F a evs)(Q:evs.length<=1099511627776)
  (k:∀t f m,aA m (slA 5 1 t r.bytes.length f (r.bytes.map U8)::F)->K (.slice t r.bytes.length f) m):CF 110 #[.agg ⟨df r a c⟩] H K:=by
 have N:r.evs.length=evs.length:=by rw[G,Vl]
 refine cN 110 0x1d1215612399251442174921561239925144c [[(3,sS),(42,sI)],[(3,sS)],[(3,sS),(17,sI)]] ?_;refine h.al λb _ h=>⟨_,_,_,_,_,_,_,_,_,_,_,_,_,_,h.q 0,?_⟩
 refine A0 G h (B.cons _) Q λH1 h=>⟨_,rfl,λy=>?_,λy=>?_⟩
 .have e:r.bytes=[]:=by unfold Rp.bytes;rw[UW (by simpa using y)]
  rw[e]at k;exact k none 0 _ (h.tl.sl_nil 5 1)
 have M:r.right=true:=by simpa using y
 have V:=Rp.right_len M;unfold Rp.bytes at k;rw[UX M]at k;have P:=dL [r.kind];have lo:=wL r.kind;simp only[Vf,Vy]at P;refine⟨_,h.r 0,?_⟩;refine h.al λb1 _ h=>?_
 refine nJ h 0 rfl λa1 c1 W h=>⟨_,_,_,rfl,?_⟩
 refine Ay h 2 rfl rfl λp pc Z h=>⟨_,_,_,rfl,?_⟩
 refine⟨λt C f i m=>∃j:Nat,i=j/\j<=(cr r.kind).length/\C=(aN [r.kind]++nmB r ((cr r.kind).take j)).length/\
  aA m (slA 5 1 t (aN [r.kind]++nmB r ((cr r.kind).take j)).length f ((aN [r.kind]++nmB r ((cr r.kind).take j)).map U8)::slA 297 1 p (cr r.kind).length pc ((cr r.kind).map λi=>PA b i)::cellsA b (df r a c) 61::F),
  λ_ _ _ i _=>(cr r.kind).length-i.toNat,⟨0,rfl,by omega,by simp,?_⟩,?_⟩
 .rw [show aN [r.kind]++nmB r ((cr r.kind).take 0)=aN [r.kind] by simp[nmB]];exact h.o [1,0,3] 4
 rintro a2 n2 c2 i H4 ⟨j,rfl,R,rfl,h⟩;have v:=Js r ((cr r.kind).take j);have E:((cr r.kind).take j).length<=(cr r.kind).length:=by rw[Vx];omega
 refine⟨λd=>?_,λd=>?_⟩
 .have d:j<(cr r.kind).length:=by have:=Va d;omega
  have w:=(h.sl_rd 1 rfl).at d;have hi:=Az _ (Vk d);have A:=ordK_pos _ (Vk d)
  conv=>whnf
  refine⟨by omega,_,_,w.1,_,w.2,⟨r.nums (cr r.kind)[j],(h.r 2).trans (encR_get A hi),?_⟩⟩;refine h.al λb3 _ h=>?_
  refine nJ h 0 rfl λa3 c3 L h=>⟨_,_,_,rfl,?_⟩
  have l1:=dL [r.nums (cr r.kind)[j]];simp only[Vf,Vy]at l1;refine dp h (i:=2) rfl rfl rfl (h.sl_rd 0 rfl) (by rw[UZ];omega) λa4 c4 I h=>⟨_,_,_,rfl,?_⟩
  conv=>whnf
  rw[aJ (x:=(j:Int)+1)];have e:aN [r.kind]++nmB r ((cr r.kind).take (j+1))=(aN [r.kind]++nmB r ((cr r.kind).take j))++aN [r.nums (cr r.kind)[j]]:=by
   unfold nmB;rw[jL d,Vj]
  rw[<-e]at h ⊢;exact⟨⟨j+1,by omega,d,rfl,h.o [2,3,4] 5⟩,by dsimp only;omega⟩
 .have s:(cr r.kind).length<=j:=by have:=Vb d;omega
  rw[V2 s]at h v ⊢;have h:=h.o [0,2] 3;refine⟨_,h.r 1,?_⟩;intro S U;have u:∀(O:List Int) a3 f m,O=(aN [r.kind]++nmB r (cr r.kind))++(if r.kind=4 then aN [(r.evs.length:Int)] else [])->aA m (slA 5 1 a3 O.length f (O.map U8)::cellsA b (df r a c) 61::F)->S a3 O.length f m:=by
   intro O a3 c3 L J h;refine U _ _ _ _ ?_;have Y:O.length<=80:=by
    rw[J];have l2:=dL [(r.evs.length:Int)];simp only[Vf,Vy]at l2
    split <;> simp only[UZ,Vy] <;> omega
   refine⟨_,_,_,h.r 1,?_⟩;rw[<-J]at k;refine⟨λt C f i m=>∃j:Nat,i=j/\j<=evs.length/\C=(O++(r.evs.take j).flatMap evB).length/\
    aA m (slA 5 1 t (O++(r.evs.take j).flatMap evB).length f ((O++(r.evs.take j).flatMap evB).map U8)::cellsA b (df r a c) 61::F),
    λ_ _ _ i _=>evs.length-i.toNat,⟨0,rfl,by omega,by simp,by simpa using h⟩,?_⟩
   rintro a4 n4 c4 i I ⟨j,rfl,R,rfl,h⟩;have v:=A7 (r.evs.take j);have E:(r.evs.take j).length<=r.evs.length:=by rw[Vx];omega
   refine⟨λd=>?_,λd=>?_⟩
   .have d:j<evs.length:=by have:=Va d;omega
    have w:=B.rd _ h.tl.tl;refine⟨by omega,_,_,w.some fH (by omega) d,_,_,_,_,_,_,w.els fH d,?_⟩;refine h.al λb5 _ h=>?_
    refine h.st 0 rfl rfl ?_;intro H7 h;refine⟨_,_,_,_,_,_,h.q 0,?_⟩;refine Jr (e:=evs[j]) h (λH h=>B.labs _ (Vk d) H h.tl.tl.tl) λa6 c6 H8 h=>⟨_,_,_,rfl,?_⟩
    have l1:=wO evs[j].p
    conv=>whnf
    refine dp h (i:=2) rfl rfl rfl (h.sl_rd 0 rfl) (by rw[UZ];omega) λa7 c7 H9 h=>⟨_,_,_,rfl,?_⟩
    conv=>whnf
    rw[aJ (x:=(j:Int)+1)];have D:j<r.evs.length:=by omega
    have T:r.evs[j]=evs[j].p:=by simp[G]
    have e:O++(r.evs.take (j+1)).flatMap evB=(O++(r.evs.take j).flatMap evB)++evB evs[j].p:=by
     rw[jL D,Vj,T]
    rw[<-e]at h ⊢;exact⟨⟨j+1,by omega,d,rfl,h.o [2,3] 4⟩,by dsimp only;omega⟩
   .have s:r.evs.length<=j:=by have:=Vb d;omega
    rw[V2 s]at h ⊢;exact k _ _ _ (h.o [0] 2)
  refine⟨λn=>?_,λn=>?_⟩
  .have n:=Va n;refine⟨_,_,_,h.r 1,?_⟩;refine h.al λb6 _ h=>?_
   refine nJ h 0 rfl λa3 c3 L h=>⟨_,_,_,rfl,?_⟩
   have l1:=dL [(r.evs.length:Int)];simp only[Vf,Vy]at l1
   conv=>whnf
   refine dp h (i:=2) rfl rfl rfl (h.sl_rd 0 rfl) (by rw[UZ];omega) λa4 c4 I h=>⟨_,_,_,rfl,?_⟩
   refine u _ _ _ _ (by rw[UX n]) (h.o [2,3] 4)
  .have n:=Vb n;refine u _ _ _ _ (by rw[UW n,V4]) h
end
structure Fq where
 kind:Int
 ag:Int:=0
 ep:Int:=0
 bt:Int:=0
 ct:Int:=0
 got:Int:=0
 sent:Int:=0
 next:Int:=0
 stamp:Int:=0
 win:Int:=0
 evs:List Pv:=[]
 sn:Fa:=⟨#[]⟩
 sl:List bR:=[]
 data:List Int:=[]
def aU(k:Int):List Nat:=if k=1 then [1,3] else if k=2 then [1,3,2] else if k=3 then [1,3,4] else if k=4 then [1,2,3,4,5,6] else
 if k=5\/k=6 then [1,2,7] else if k=7 then [1,2,7,8] else if k=8 then [9] else []
def Fq.nums(f:Fq)(i:Nat):Int:=match i with
 | 1=>f.ag|2=>f.ep|3=>f.bt|4=>f.ct|5=>f.got|6=>f.sent|7=>f.next|8=>f.stamp|9=>f.win|_=>0
structure QA where
 ea:KQ:=none
 ec:Nat:=0
 la:KQ:=none
 lc:Nat:=0
 da:KQ:=none
 dc:Nat:=0
abbrev cH(f:Fq)(x:QA):Os:=
 [aB f.kind,aB f.ag,aB f.ep,aB f.bt,aB f.ct,aB f.got,aB f.sent,aB f.next,aB f.stamp,aB f.win,.slice x.ea f.evs.length x.ec,.string f.sn,.slice x.la f.sl.length x.lc,.slice x.da f.data.length x.dc]
structure Fq.Sh(f:Fq)(x:QA):Prop where
 ev:f.kind≠5->f.evs=[]/\x.ea=none/\x.ec=0
 em:f.kind≠8->f.sn=⟨#[]⟩/\f.sl=[]/\x.la=none/\x.lc=0/\f.data=[]/\x.da=none/\x.dc=0
 nm:∀i,1<=i->i<=9->i∉aU f.kind->f.nums i=0
structure lK(F:List aE)(f:Fq)(x:QA)(evs:List Ev):Prop where
 eq:f.evs=evs.map Ev.p
 ev:lJ F x.ea evs
 lab:∀H,aA H F->aP H x.la (flat de f.sl)
 dat:∀H,aA H F->aP H x.da (f.data.map U8)
 dA:x.da=none\/∃k o,x.da=some ⟨k,o,none⟩
 sh:f.Sh x
 el:evs.length<=1000000
 ll:∀e∈evs,e.labs.length<=1000000
 sl:f.sl.length<=1000000
 dl:f.data.length<=1000000000
theorem lK.cons{F:List aE}{f:Fq}{x:QA}{evs:List Ev}(h:lK F f x evs)(A:aE):lK (A::F) f x evs:=
 ⟨h.eq,h.ev.cons A,λH a=>h.lab H a.tl,λH a=>h.dat H a.tl,h.dA,h.sh,h.el,h.ll,h.sl,h.dl⟩
theorem lK.len{F:List aE}{f:Fq}{x:QA}{evs:List Ev}(h:lK F f x evs):f.evs.length=evs.length:=by rw[h.eq,Vl]
def gR(f:Fq):Bool:=if f.kind=4 then decide (f.got<=f.sent) else if f.kind=5 then gQ f.next f.evs else
 if f.kind=6\/f.kind=7 then decide (f.next<=1099511627776) else if f.kind=8 then fu f.sn f.sl&&decide (f.data.length<=4096) else true
def fx(f:Fq):Bool:=inM f.kind 1 8&&(inM f.ag 0 63&&inM f.ep 0 1099511627776)&&(aU f.kind).all (λi=>inM (f.nums i) 0 4611686018427387903)&&gR f
theorem A8{k:Int}:∀i∈aU k,1<=i/\i<=9:=by
 unfold aU
 split
 .decide
 split
 .decide
 split
 .decide
 split
 .decide
 split
 .decide
 split
 .decide
 split
 .decide
 .decide
theorem wQ(k:Int):(aU k).length<=6:=by
 unfold aU
 split
 .decide
 split
 .decide
 split
 .decide
 split
 .decide
 split
 .decide
 split
 .decide
 split
 .decide
 .decide
theorem kinds8{k:Int}(b:1<=k)(a:k<=8):k=1\/k=2\/k=3\/k=4\/k=5\/k=6\/k=7\/k=8:=by omega
theorem Jt{k:Int}:aU k=[]↔¬(1<=k/\k<=8):=by
 constructor
 .intro h a
  rcases kinds8 a.1 a.2 with rfl|rfl|rfl|rfl|rfl|rfl|rfl|rfl <;> exact UY h (by decide)
 .intro h;unfold aU;rw[nO,nO,nO,nO,nO,nO,nO]
theorem Ju{f:Fq}{x:QA}{i:Nat}(a:1<=i)(b:i<=9):aT (cH f x) i=some (aB (f.nums i)):=by
 rcases (by omega:i=1\/i=2\/i=3\/i=4\/i=5\/i=6\/i=7\/i=8\/i=9) with rfl|rfl|rfl|rfl|rfl|rfl|rfl|rfl|rfl <;> rfl
def pg(f:Fq)(is:List Nat):Os:=is.foldl (λcs i=>cv cs i [aB (f.nums i)]) (cH { kind:=f.kind } {})
theorem Sr(f:Fq):∀is,(pg f is).length=14:=by
 have:∀(is:List Nat) (cs:Os),cs.length=14->(is.foldl (λcs i=>cv cs i [aB (f.nums i)]) cs).length=14:=by
  intro is
  induction is with
  | nil=>intro cs h;exact h
  | cons i is ih=>intro cs h;exact ih _ (by rw[nU];exact h)
 exact λis=>this is _ rfl
theorem Ss(f:Fq)(is:List Nat)(i:Nat):pg f (is++[i])=cv (pg f is) i [aB (f.nums i)]:=by
 unfold pg;rw[Wr];rfl
theorem St{f:Fq}(c:1<=f.kind)(b:f.kind<=8)(a:∀i,1<=i->i<=9->i∉aU f.kind->f.nums i=0) :
  pg f (aU f.kind)=[aB f.kind,aB f.ag,aB f.ep,aB f.bt,aB f.ct,aB f.got,aB f.sent,aB f.next,aB f.stamp,aB f.win,.slice none 0 0,.string ⟨#[]⟩,.slice none 0 0,.slice none 0 0]:=by
 obtain⟨kind,ag,ep,bt,ct,got,sent,next,stamp,win,evs,sn,sl,data⟩:=f;dsimp only at c b;have n1:1∉aU kind->ag=0:=a 1 (by decide) (by decide);have n2:2∉aU kind->ep=0:=a 2 (by decide) (by decide);have n3:3∉aU kind->bt=0:=a 3 (by decide) (by decide);have n4:4∉aU kind->ct=0:=a 4 (by decide) (by decide);have n5:5∉aU kind->got=0:=a 5 (by decide) (by decide);have n6:6∉aU kind->sent=0:=a 6 (by decide) (by decide);have n7:7∉aU kind->next=0:=a 7 (by decide) (by decide);have n8:8∉aU kind->stamp=0:=a 8 (by decide) (by decide);have n9:9∉aU kind->win=0:=a 9 (by decide) (by decide)
 clear a
 rcases kinds8 c b with rfl|rfl|rfl|rfl|rfl|rfl|rfl|rfl
 .rw [n2 (by decide),n4 (by decide),n5 (by decide),n6 (by decide),n7 (by decide),n8 (by decide),n9 (by decide)];rfl
 .rw [n4 (by decide),n5 (by decide),n6 (by decide),n7 (by decide),n8 (by decide),n9 (by decide)];rfl
 .rw [n2 (by decide),n5 (by decide),n6 (by decide),n7 (by decide),n8 (by decide),n9 (by decide)];rfl
 .rw [n7 (by decide),n8 (by decide),n9 (by decide)];rfl
 .rw [n3 (by decide),n4 (by decide),n5 (by decide),n6 (by decide),n8 (by decide),n9 (by decide)];rfl
 .rw [n3 (by decide),n4 (by decide),n5 (by decide),n6 (by decide),n8 (by decide),n9 (by decide)];rfl
 .rw [n3 (by decide),n4 (by decide),n5 (by decide),n6 (by decide),n9 (by decide)];rfl
 .rw [n1 (by decide),n2 (by decide),n3 (by decide),n4 (by decide),n5 (by decide),n6 (by decide),n7 (by decide),n8 (by decide)];rfl
section
variable {F L:List aE}{H:aC}{K:KE}
theorem wR{b e:Nat}{k0:Int}{cs:Os}(h:aA H F)(i:Nat)(B:aW i F=cellsA b cs e)(A:aT cs 0=some (aD k0))
  (k:∀a c j,(a.isNone=true↔aU k0=[])->aA j (slA 297 1 a (aU k0).length c ((aU k0).map λi=>PA b i)::F)->K (.slice a (aU k0).length c) j):CF 170 #[PA b 0] H K:=by
 refine cN 170 0x121513c13c13c13c217943c13cbc [[(68,sB)]] ?_;have fin:∀(l:List Nat) p j,aU k0=l->l≠[]->aA j (cellsA p (l.map λi=>PA b i) 297::F)->K (.slice (some ⟨p,0,none⟩) l.length l.length) j:=by
  intro l p j e C h;subst e;refine k _ _ _ ⟨λx=>(by cases x),λx=>UY x C⟩ ?_
  exact aA.sl_pt h 1 _ (by simp)
 refine⟨k0,(h.rd i B 0).trans A,λd=>?_,λd=>⟨λd=>?_,λd=>⟨λd=>?_,λd=>⟨λd=>?_,λd=>?_⟩⟩⟩⟩
 .obtain rfl:=Va d;exact h.al λp _ h=>fin [1,3] p _ rfl (by decide) h
 .obtain rfl:=Va d;exact h.al λp _ h=>fin [1,3,2] p _ rfl (by decide) h
 .obtain rfl:=Va d;exact h.al λp _ h=>fin [1,3,4] p _ rfl (by decide) h
 .obtain rfl:=Va d;exact h.al λp _ h=>fin [1,2,3,4,5,6] p _ rfl (by decide) h
 simp only[Ve]at *;intro E D;have s:∀t:Bool,t=decide (k0=5\/k0=6)->E t H:=by
  intro t w;refine D _ _ ⟨λf=>?_,λf=>⟨λm=>?_,λm=>⟨λu=>?_,λu=>?_⟩⟩⟩
  .rw [f]at w;have n:=Va w.symm;refine h.al λp _ h=>fin [1,2,7] p _ ?_ (by decide) h
   rcases n with rfl|rfl <;> rfl
  .obtain rfl:=Va m;exact h.al λp _ h=>fin [1,2,7,8] p _ rfl (by decide) h
  .obtain rfl:=Va u;exact h.al λp _ h=>fin [9] p _ rfl (by decide) h
  .rw [f]at w;have n:=Vb w.symm;simp only[Ve]at *;have e:aU k0=[]:=by
    unfold aU;simp only[*,if_false]
   have:=k none 0 H ⟨λ_=>e,λ_=>rfl⟩ (by rw[e];exact h.sl_nil 297 1)
   rw[e]at this;exact this
 refine⟨λv=>s _ ?_,λv=>s _ ?_⟩
 .rw [v];exact (Vs (.inl (Va v))).symm
 .have y:=Vb v;exact decide_eq_decide.2 ⟨λh=>.inr h,λh=>h.resolve_left y⟩
end
theorem batchP_B{next:Int}{evs:List Ev}(h:0<=next/\next<=4611686018427387903):gQ next (evs.map Ev.p)=iA next evs:=by
 rw[<-wK,Se,Vs h.1,WB]
section
variable {F L:List aE}{H:aC}{K:KE}{f:Fq}{x:QA}{evs:List Ev}
theorem Su(h:aA H F)(r:lK F f x evs)(k:∀d,aA d F->K (.bool true) d) :
  CF 227 #[.agg ⟨cH f x⟩,.agg ⟨cH f x⟩] H K:=by
 refine cN 227 4745 [[(4,sB)]] ?_;refine h.al λb _ h=>?_
 refine h.al λb1 _ h=>?_
 intro t i;have r2:=(r.cons (cellsA b (cH f x) 81)).cons (cellsA b1 (cH f x) 81);have c:=r.len;refine⟨_,_,_,h.q 1,_,_,_,h.q 0,true,eq102,_,_,_,_,_,_,_,_,_,_,_,_,_,_,_,_,_,_,_,_,λ_=>h.q 1,_,_,_,_,_,_,_,_,_,_,_,_,_,_,_,_,_,_,_,_,λ_=>h.q 0,λ_=>?_,λa=>UY rfl a⟩
 refine wI h λj h=>⟨_,_,_,_,_,_,_,rfl,λ_=>h.q 0,?_⟩
 refine wI h λn h=>⟨_,_,_,_,_,_,_,rfl,true,eq314,_,_,_,λ_=>h.r 1,_,_,_,λ_=>h.r 0,λ_=>?_,λa=>UY rfl a⟩
 rw[c]at *;refine Jb h r2.ev r.el r.ll λs h=>⟨_,rfl,_,_,_,_,λ_=>h.q 1,_,_,_,_,λ_=>h.q 0,λ_=>?_,λa=>UY rfl a⟩
 refine Ap h r2.lab r.sl λm h=>⟨_,rfl,_,_,_,λ_=>h.r 1,_,_,_,λ_=>h.r 0,λ_=>?_,λa=>UY (by simp) a⟩
 refine Aq r.dA r.dA (r2.dat _ h) (r2.dat _ h) ⟨_,rfl,i _ _ ?_⟩;have:=k _ h.tl.tl;have e:((bF f.data).toList == (bF f.data).toList)=true:=by simp
 rw[e];exact this
theorem Jv(h:aA H F)(r:lK F f x evs)(k:∀v,aA v F->K (.bool (fx f)) v):CF 137 #[.agg ⟨cH f x⟩] H K:=by
 refine cN 137 0x11d11215612399251d4421517b171b217947b171b9c [[],[],[(88,sB)],[],[],[(43,sI)]] ?_;have T:=r.len;refine h.al λb _ h=>?_
 refine wR h 0 rfl rfl λp pc H1 hp h=>⟨_,_,_,rfl,_,λ_=>h.r 1,_,λ_=>h.r 1,_,λ_=>h.r 1,_,λ_=>h.r 1,λc=>?_,λc=>?_⟩
 .have:fx f=false:=by
   unfold fx;simp only[Vr,Vc]at c
   rcases c with (((c|c)|c)|c)|c
   .have h0:=Jt.1 (hp.1 c);have:inM f.kind 1 8=false:=by
     rw[VF,Ve,Ve];omega
    rw[this];rfl
   .have:inM f.ag 0 63=false:=by rw[VF,Ve,Ve];omega
    rw[this];simp
   .have:inM f.ag 0 63=false:=by rw[VF,Ve,Ve];omega
    rw[this];simp
   .have:inM f.ep 0 1099511627776=false:=by rw[VF,Ve,Ve];omega
    rw[this];simp
   .have:inM f.ep 0 1099511627776=false:=by rw[VF,Ve,Ve];omega
    rw[this];simp
  rw[this]at k;exact k _ h.tl.tl
 simp only[Vp,Ve]at c;obtain⟨⟨⟨⟨P,j1⟩,h9⟩,r0⟩,j3⟩:=c;have D:1<=f.kind/\f.kind<=8:=by
  apply Classical.byContradiction;intro hn;rw[hp.2 (Jt.2 hn)]at P
  cases P
 have L:(inM f.kind 1 8&&(inM f.ag 0 63&&inM f.ep 0 1099511627776))=true:=by
  simp only[Vd,Vc];omega
 refine⟨_,h.r 1,?_⟩;refine h.al λb1 _ h=>?_
 refine h.st 0 rfl rfl ?_;intro H2 h;have h:aA H2 (cellsA b1 (pg f []) 81::slA 297 1 p (aU f.kind).length pc ((aU f.kind).map λi=>PA b i)::cellsA b (cH f x) 81::F):=h
 refine wR (k0:=f.kind) h 0 rfl rfl λp1 E H3 l0 h=>⟨_,_,_,rfl,?_⟩
 have lo:=wQ f.kind;refine⟨λi v=>∃j:Nat,i=j/\j<=(aU f.kind).length/\(∀q,q<j->∀M:q<(aU f.kind).length,inM (f.nums (aU f.kind)[q]) 0 4611686018427387903=true)/\
  aA v (slA 297 1 p1 (aU f.kind).length E ((aU f.kind).map λi=>PA b1 i)::cellsA b1 (pg f ((aU f.kind).take j)) 81::slA 297 1 p (aU f.kind).length pc ((aU f.kind).map λi=>PA b i)::cellsA b (cH f x) 81::F),
  λi _=>(aU f.kind).length-i.toNat,⟨0,rfl,by omega,λq M=>UY M (by omega),h⟩,?_⟩
 rintro i H4 ⟨j,rfl,hj,C,h⟩;refine⟨λa=>?_,λa=>?_⟩
 .have a:j<(aU f.kind).length:=by have:=Va a;omega
  have hr:=(h.sl_rd 2 rfl).at a;have Q:=(h.sl_rd 0 rfl).at a;have hi:=A8 _ (Vk a);have W:∀{v},aA v (slA 297 1 p1 (aU f.kind).length E ((aU f.kind).map λi=>PA b1 i)::cellsA b1 (pg f ((aU f.kind).take j)) 81::slA 297 1 p (aU f.kind).length pc ((aU f.kind).map λi=>PA b i)::cellsA b (cH f x) 81::F)->
   aK v b (aU f.kind)[j]=some (aD (f.nums (aU f.kind)[j])):=λh=>(h.r 3).trans (Ju hi.1 hi.2)
  refine⟨by omega,_,_,hr.1,_,hr.2,⟨_,W h,λ_=>trivial,_,λ_=>W h,λc=>?_,λc=>?_⟩⟩
  .have:fx f=false:=by
    unfold fx;have e:(aU f.kind).all (λi=>inM (f.nums i) 0 4611686018427387903)=false:=by
     refine wB a ?_;simp only[Vr,Vc]at c;rw[VF,Ve,Ve];omega
    rw[e];simp
   rw[this]at k;exact k _ h.tl.tl.tl.tl
  .simp only[Vp,Ve]at c;refine⟨by omega,_,_,Q.1,_,Q.2,⟨_,W h,?_⟩⟩;refine h.st 1 rfl (by rw[Sr];exact Nat.ble_eq_true_of_le (by show (aU f.kind)[j]+1<=14;omega)) ?_;intro H5 h;have hw:i64.wrap ((j:Int)+1)=((j+1:Nat):Int):=by rw[aJ];omega
   refine⟨⟨j+1,hw,a,λq M Z=>?_,?_⟩,by rw[hw];dsimp only;omega⟩
   .rcases V0 q j with h1|h1
    .exact C q h1 Z
    .obtain rfl:q=j:=by omega
     rw[Vd,Vc,Vc];omega
   .rw [VE a,Ss];exact h
 have h3:j=(aU f.kind).length:=by have:=Vb a;omega
 subst h3;have B:(aU f.kind).all (λi=>inM (f.nums i) 0 4611686018427387903)=true:=by
  rw[VL];intro i hi;obtain⟨q,M,rfl⟩:=VU hi;exact C q M M
 have hR:fx f=gR f:=by unfold fx;rw[L,B];simp
 rw[hR]at k;rw[V8,St D.1 D.2 r.sh.nm]at h;have N:∀i∈aU f.kind,0<=f.nums i/\f.nums i<=4611686018427387903:=by
  intro i hi;have:=VL.1 B i hi;rw[Vd,Vc,Vc]at this;exact this
 refine⟨_,h.r 3,?_⟩;intro Jn hJ;have fin:gR f=true->∀v,aA v (slA 297 1 p1 (aU f.kind).length E ((aU f.kind).map λi=>PA b1 i)::cellsA b1 (cH f x) 81::slA 297 1 p (aU f.kind).length pc ((aU f.kind).map λi=>PA b i)::cellsA b (cH f x) 81::F)->Jn v:=by
  intro h7 v h;refine hJ _ ?_;refine⟨_,_,_,_,_,_,_,_,_,_,_,_,_,_,_,_,_,_,_,_,h.q 3,_,_,_,_,_,_,_,_,_,_,_,_,_,_,_,_,_,_,_,_,h.q 1,?_⟩;rw[h7]at k;refine Su h ((((r.cons _).cons _).cons _).cons _) λH7 h=>⟨_,rfl,?_⟩
  exact k _ h.tl.tl.tl.tl
 have d:f.kind≠5->f.kind≠8->[aD f.kind,aD f.ag,aD f.ep,aD f.bt,aD f.ct,aD f.got,aD f.sent,aD f.next,aD f.stamp,aD f.win,.slice none 0 0,.string ⟨#[]⟩,.slice none 0 0,.slice none 0 0]=cH f x:=by
  intro m w;obtain⟨e1,e2,e3⟩:=r.sh.ev m;obtain⟨d1,d2,d3,d4,d5,d6,d7⟩:=r.sh.em w;unfold cH;rw[e1,e2,e3,d1,d2,d3,d4,d5,d6,d7];rfl
 refine⟨λn=>?_,λn=>?_⟩
 .have n:=Va n;refine⟨_,h.r 3,_,h.r 3,λG=>?_,λG=>?_⟩
  .have e:gR f=false:=by unfold gR;rw[UX n];have:=Va G;exact VK (by omega)
   rw[e]at k;exact k _ h.tl.tl.tl.tl
  .rw [d (by omega) (by omega)]at h;refine fin ?_ _ h;unfold gR;rw[UX n];have:=Vb G;exact Vs (by omega)
 have n:=Vb n;intro l5 y;refine⟨λm=>?_,λm=>?_⟩
 .have m:=Va m;have U:0<=f.next/\f.next<=4611686018427387903:=N 7 (by rw[m];decide);have s:gR f=iA f.next evs:=by unfold gR;rw[UW n,UX m,r.eq,batchP_B U]
  refine⟨_,_,_,h.r 3,?_⟩;refine h.st 1 rfl rfl ?_;intro H5 h;refine⟨_,h.r 3,_,_,_,h.r 3,?_⟩;rw[T];refine Jc h ((((r.ev.cons _).cons _).cons _).cons _) (by have:=r.el;omega) λH6 h=>⟨_,rfl,λhb=>?_,λhb=>y _ ?_⟩
  .rw [s,show iA f.next evs=false by simpa using hb]at k;exact k _ h.tl.tl.tl.tl
  .refine fin (by rw[s];simpa using hb) _ ?_;obtain⟨d1,d2,d3,d4,d5,d6,d7⟩:=r.sh.em (by omega);have e:cH f x=[aD f.kind,aD f.ag,aD f.ep,aD f.bt,aD f.ct,aD f.got,aD f.sent,aD f.next,aD f.stamp,aD f.win,.slice x.ea f.evs.length x.ec,.string ⟨#[]⟩,.slice none 0 0,.slice none 0 0]:=by
    unfold cH;rw[d1,d2,d3,d4,d5,d6,d7];rfl
   rw[e]at h ⊢;exact h
 have m:=Vb m;intro h2 V;have A:∀t:Bool,t=decide (f.kind=6\/f.kind=7)->h2 t H4:=by
  intro t S;refine V _ _ ?_;intro j2 I;refine⟨λJ=>?_,λJ=>?_⟩
  .rw [J]at S;have u:=Va S.symm;refine⟨_,h.r 3,λG=>?_,λG=>I _ (y _ ?_)⟩
   .have e:gR f=false:=by unfold gR;rw[UW n,UW m,UX u];have:=Va G;exact VK (by omega)
    rw[e]at k;exact k _ h.tl.tl.tl.tl
   .rw [d (by omega) (by omega)]at h;refine fin ?_ _ h;unfold gR;rw[UW n,UW m,UX u];have:=Vb G;exact Vs (by omega)
  rw[J]at S;have u:=Vb S.symm;intro l6 O;refine⟨λw=>?_,λw=>O _ (I _ (y _ ?_))⟩
  .have w:=Va w;have s:gR f=(fu f.sn f.sl&&decide (f.data.length<=4096)):=by unfold gR;rw[UW n,UW m,UW u,UX w]
   refine⟨_,_,_,_,h.q 3,_,_,_,h.r 3,?_⟩;refine h.st 1 rfl rfl ?_;intro H5 h;refine h.st 1 rfl rfl ?_;intro H6 h;refine⟨_,_,_,_,h.q 3,?_⟩;refine qx h (λH h=>r.lab H h.tl.tl.tl.tl) λH7 h=>⟨_,rfl,_,_,_,λ_=>h.r 3,λhb=>?_,λhb=>O _ (I _ (y _ ?_))⟩
   .have e:gR f=false:=by
     rw[s,VF];simp only[Vr,V1,Vc]at hb
     rcases hb with hb|hb
     .exact .inl hb
     .exact .inr (VK (by omega))
    rw[e]at k;exact k _ h.tl.tl.tl.tl
   .simp only[Vp,VI,Ve]at hb;refine fin (by rw[s,hb.1,Vs (by omega)];rfl) _ ?_;obtain⟨e1,e2,e3⟩:=r.sh.ev (by omega);have e:cH f x=[aD f.kind,aD f.ag,aD f.ep,aD f.bt,aD f.ct,aD f.got,aD f.sent,aD f.next,aD f.stamp,aD f.win,.slice none 0 0,.string f.sn,.slice x.la f.sl.length x.lc,.slice x.da f.data.length x.dc]:=by
     unfold cH;rw[e1,e2,e3];rfl
    rw[e]at h ⊢;exact h
  .have w:=Vb w;rw[d m w]at h;refine fin ?_ _ h;unfold gR;rw[UW n,UW m,UW u,UW w]
 refine⟨λR=>A _ ?_,λR=>A _ ?_⟩
 .rw [R];exact (Vs (.inl (Va R))).symm
 .have Y:=Vb R;exact decide_eq_decide.2 ⟨λh=>.inr h,λh=>h.resolve_left Y⟩
end
abbrev nmF(f:Fq)(is:List Nat):List Int:=is.flatMap λi=>aN [f.nums i]
def mF(f:Fq):List Int:=if f.kind=5 then aN [(f.evs.length:Int)]++f.evs.flatMap evB else if f.kind=8 then iV f.sn f.sl++cZ (bF f.data) else []
def j6(f:Fq):List Int:=(aN [f.kind]++nmF f (aU f.kind))++mF f
def cC(f:Fq):List Int:=if fx f=false then [] else if 65536<(eK (j6 f)).length then [] else eK (j6 f)
def frmE(f:Fq):Int:=if fx f=false then 10 else if 65536<(eK (j6 f)).length then 17 else 0
theorem usB_one(v:Int):aN [v]=bQ (u64N v):=by simp[aN]
theorem Jw{f:Fq}(h:fx f=true):gR f=true:=by
 unfold fx at h;rw[Vd]at h;exact h.2
theorem Jx{f:Fq}(h:fx f=true)(a:f.kind=5):f.evs.length<=64:=by
 have h:=Jw h;unfold gR at h;rw[nO,UX a]at h;unfold gQ at h;simp only[Vd,Vc]at h;omega
theorem Sv{f:Fq}(h:fx f=true)(a:f.kind=8):f.data.length<=4096:=by
 have h:=Jw h;unfold gR at h;rw[nO,nO,nO,UX a]at h;simp only[Vd,Vc]at h;omega
theorem Jy(f:Fq)(is:List Nat):(nmF f is).length<=10*is.length:=by
 induction is with
 | nil=>simp
 | cons i l ih=>
  have:=dL [f.nums i];unfold nmF at *;rw[V6,UZ,Vf];simp only[Vf,Vy]at this;omega
section
variable {F L:List aE}{H:aC}{K:KE}{f:Fq}{x:QA}{evs:List Ev}
theorem Sw{b o c:Nat}{y:Fy}(h:aA H F)(m:aP H (some ⟨b,o,none⟩) [dY y])(n:aP H y.a (y.bs.map U8))(s:y.bs.length<=100000000)
  (k:∀e d f,aA f (slA 5 1 e y.bs.length d (y.bs.map U8)::F)->K (.slice e y.bs.length d) f) :
  CF 255 #[.slice (some ⟨b,o,none⟩) 1 c,.slice none 0 0] H K:=by
 refine cN 255 0x1dd12172174949215612399251217494411215612399251144c [[(9,sI),(72,sI)],[],[(5,sI),(44,sI)],[],[(5,sI)]] ⟨λj=>UY j (by decide),λ_=>⟨λ_=>?_,λj=>UY j (by decide)⟩⟩
 refine⟨by decide,_,_,rfl,_,_,_,(m 0 _ rfl).2,?_⟩;have h:=h.sl_nil 5 1;refine dp (x:=[]) (y:=y.bs) h (i:=0) rfl rfl rfl n (by simp only[Vy];omega) λe d f h=>⟨_,_,_,rfl,?_⟩
 rw[VB]at h;have:=k e d f h;exact this
theorem Sx{b c:Nat}{y:Fy}(h:aA H F)(i:Nat)(n:aW i F=cellsA b [dY y] 43)(t:∀H,aA H F->aP H y.a (y.bs.map U8))(hb:aH y.bs)(w:y.bs.length<=100000000)
  (k:∀f e u,aA u (slA 5 1 f (eK y.bs).length e ((eK y.bs).map U8)::F)->K (.slice f (eK y.bs).length e) u) :
  CF 179 #[.slice (some ⟨b,0,none⟩) 1 c] H K:=by
 have s:=zz (c:=c) (parts:=[y]) (h.ce_rd i n) (λz d=>by rw[Vo]at d;subst d;exact t _ h) (by simp) (λz d=>by rw[Vo]at d;subst d;omega)
 rw[show ([y]:List Fy).flatMap Fy.bs=y.bs by simp]at s;refine cM 179 4380 ⟨_,s,?_⟩;obtain⟨s0,s1⟩:=zv y.bs;have j:=Gt s0 s1;refine Sw h (h.ce_rd i n) (t _ h) w λf e B h=>⟨_,_,_,rfl,by decide,by decide,by decide,?_⟩
 refine h.al λb1 A h=>?_
 refine aA.append (m:=4) (ws:=(le4 (kL y.bs)).map U8) rM h 1 rfl (h.ce_rd 0 (by rw[<-j];rfl)) (by simp[le4]) (nu (λ_=>rfl) _) (by omega) (by omega) λa3 c3 v x=>⟨_,_,_,rfl,?_⟩
 have:=k a3 c3 v;unfold eK at this;rw[UZ,show (le4 (kL y.bs)).length=4 from rfl]at this;refine this ?_;rw[Vv];exact x.tl
theorem wS{b:Nat}{v:Int}(h:aA H F)(i:Nat)(e:aW i F=cellsA b [.int .u64 (u64.wrap v)] 155)
  (k:∀c a d,aA d (slA 5 1 c (aN [v]).length a ((aN [v]).map U8)::F)->K (.slice c (aN [v]).length a) d):CF 111 #[.slice (some ⟨b,0,none⟩) 1 1] H K:=by
 rw[usB_one]at k;refine ze h (λH h=>?_) (rZ v) k
 rw[<-wN];exact h.ce_rd i e
theorem AA(h:aA H F)(r:lK F f x evs)
  (k:∀B c d,aA d (slA 5 1 B (cC f).length c ((cC f).map U8)::F)->K (.tuple #[.slice B (cC f).length c,aD (frmE f)]) d) :
  CF 82 #[.agg ⟨cH f x⟩] H K:=by
 refine cN 82 0x1d121561239925144215171156123992511144171491dc [[(4,sS)],[(4,sS),(49,sI)],[(4,sS)],[(4,sS),(20,sI)]] ?_;have V:=r.len;refine h.al λb _ h=>⟨_,_,_,_,_,_,_,_,_,_,_,_,_,_,_,_,_,_,_,_,h.q 0,?_⟩
 refine Jv h (r.cons _) λH1 h=>⟨_,rfl,λG=>?_,λG=>?_⟩
 .have e:cC f=[]:=by unfold cC;rw[UX (by simpa using G)]
  have e2:frmE f=10:=by unfold frmE;rw[UX (by simpa using G)]
  rw[e,e2]at k;exact k none 0 _ (h.tl.sl_nil 5 1)
 have I:fx f=true:=by simpa using G
 have W:=dL [f.kind];have lo:=wQ f.kind;simp only[Vf,Vy]at W;refine⟨_,h.r 0,?_⟩;refine h.al λb1 _ h=>?_
 refine wS h 0 rfl λa1 c1 H2 h=>⟨_,_,_,rfl,?_⟩
 refine wR h 2 rfl rfl λp pc H3 _ h=>⟨_,_,_,rfl,?_⟩
 refine⟨λB L c i d=>∃j:Nat,i=j/\j<=(aU f.kind).length/\L=(aN [f.kind]++nmF f ((aU f.kind).take j)).length/\
  aA d (slA 5 1 B (aN [f.kind]++nmF f ((aU f.kind).take j)).length c ((aN [f.kind]++nmF f ((aU f.kind).take j)).map U8)::slA 297 1 p (aU f.kind).length pc ((aU f.kind).map λi=>PA b i)::cellsA b (cH f x) 81::F),
  λ_ _ _ i _=>(aU f.kind).length-i.toNat,⟨0,rfl,by omega,by simp,?_⟩,?_⟩
 .rw [show aN [f.kind]++nmF f ((aU f.kind).take 0)=aN [f.kind] by simp[nmF]];exact h.o [1,0,3] 4
 rintro a2 n2 c2 i H4 ⟨j,rfl,hj,rfl,h⟩;have v:=Jy f ((aU f.kind).take j);have R:((aU f.kind).take j).length<=(aU f.kind).length:=by rw[Vx];omega
 refine⟨λa=>?_,λa=>?_⟩
 .have a:j<(aU f.kind).length:=by have:=Va a;omega
  have E:=(h.sl_rd 1 rfl).at a;have hi:=A8 _ (Vk a)
  conv=>whnf
  refine⟨by omega,_,_,E.1,_,E.2,⟨f.nums (aU f.kind)[j],(h.r 2).trans (Ju hi.1 hi.2),?_⟩⟩;refine h.al λb3 _ h=>?_
  refine wS h 0 rfl λa3 c3 T h=>⟨_,_,_,rfl,?_⟩
  have l1:=dL [f.nums (aU f.kind)[j]];simp only[Vf,Vy]at l1;refine dp h (i:=2) rfl rfl rfl (h.sl_rd 0 rfl) (by rw[UZ];omega) λa4 c4 J h=>⟨_,_,_,rfl,?_⟩
  have C:i64.wrap ((j:Int)+1)=((j+1:Nat):Int):=by rw[aJ];omega
  have e:aN [f.kind]++nmF f ((aU f.kind).take (j+1))=(aN [f.kind]++nmF f ((aU f.kind).take j))++aN [f.nums (aU f.kind)[j]]:=by
   unfold nmF;rw[jL a,Vj]
  rw[<-e]at h;refine⟨⟨j+1,C,a,by rw[e],h.o [2,3,4] 5⟩,by rw[C];dsimp only;omega⟩
 have A:(aU f.kind).length<=j:=by have:=Vb a;omega
 rw[V2 A]at h v ⊢;have h:=h.o [0,2] 3;refine⟨_,h.r 1,?_⟩;intro Jn hJ;have e0:cC f=if 65536<(eK (j6 f)).length then [] else eK (j6 f):=by unfold cC;rw[UW (by rw[I];decide)]
 have e1:frmE f=if 65536<(eK (j6 f)).length then 17 else 0:=by unfold frmE;rw[UW (by rw[I];decide)]
 have fin:∀(t:List Int) a3 c d,mF f=t->t.length<=100000->aH t->aA d (slA 5 1 a3 ((aN [f.kind]++nmF f (aU f.kind))++t).length c (((aN [f.kind]++nmF f (aU f.kind))++t).map U8)::cellsA b (cH f x) 81::F)->
   Jn a3 ((aN [f.kind]++nmF f (aU f.kind))++t).length c d:=by
  intro t a3 c d ht j1 N h;have S:j6 f=(aN [f.kind]++nmF f (aU f.kind))++t:=by unfold j6;rw[ht]
  rw[<-S]at h ⊢;have lb:(j6 f).length<=100100:=by rw[S,UZ,UZ];omega
  have Q:aH (j6 f):=by
   rw[S];exact dE (dE (iB _) (jx λi _=>iB _)) N
  refine hJ _ _ _ _ ?_;refine h.al λb4 _ h=>?_
  refine Sx (y:=⟨a3,c,j6 f⟩) h 0 rfl (λH h=>h.sl_rd 1 rfl) Q (by dsimp only;omega) λa5 c5 J h=>⟨_,_,_,rfl,λw=>?_,λw=>?_⟩
  .have w:=Va w;dsimp only at w;rw[e0,e1,pO,pO]at k;exact k none 0 _ (h.tl.tl.tl.tl.sl_nil 5 1)
  .have w:=Vb w;dsimp only at w;rw[e0,e1,nO,nO]at k;exact k _ _ _ (h.o [0] 4)
 refine⟨λm=>?_,λm=>?_⟩
 .have m:=Va m;have h4:=Jx I m;have n:mF f=aN [(f.evs.length:Int)]++f.evs.flatMap evB:=by unfold mF;rw[UX m]
  refine⟨_,_,_,h.r 1,?_⟩;refine h.al λb5 _ h=>?_
  refine wS h 0 rfl λa4 c4 T h=>⟨_,_,_,rfl,?_⟩
  have l1:=dL [(f.evs.length:Int)];simp only[Vf,Vy]at l1;refine dp h (i:=2) rfl rfl rfl (h.sl_rd 0 rfl) (by rw[UZ];omega) λa5 c5 J h=>⟨_,_,_,rfl,?_⟩
  have h:=h.o [2,3] 4;refine⟨_,_,_,h.r 1,?_⟩;obtain⟨O,P⟩:∃O,(aN [f.kind]++nmF f (aU f.kind))++aN [(f.evs.length:Int)]=O:=⟨_,rfl⟩;have lO:O.length<=80:=by rw[<-P];simp only[UZ];omega
  rw[P]at h ⊢;refine⟨λB L c i d=>∃j:Nat,i=j/\j<=evs.length/\L=(O++(f.evs.take j).flatMap evB).length/\
    aA d (slA 5 1 B (O++(f.evs.take j).flatMap evB).length c ((O++(f.evs.take j).flatMap evB).map U8)::cellsA b (cH f x) 81::F),
    λ_ _ _ i _=>evs.length-i.toNat,⟨0,rfl,by omega,by simp,by rw[show O++(f.evs.take 0).flatMap evB=O by simp];exact h⟩,?_⟩
  rintro a6 n6 c6 i H7 ⟨j,rfl,hj,rfl,h⟩;have v:=A7 (f.evs.take j);have R:(f.evs.take j).length<=f.evs.length:=by rw[Vx];omega
  refine⟨λa=>?_,λa=>?_⟩
  .have a:j<evs.length:=by have:=Va a;omega
   have E:=r.ev.rd _ h.tl.tl;refine⟨by omega,_,_,E.some fH (by omega) a,_,_,_,_,_,_,E.els fH a,?_⟩;refine h.al λb6 _ h=>?_
   refine h.st 0 rfl rfl ?_;intro H8 h;refine⟨_,h.r 0,?_⟩;refine h.al λb7 _ h=>?_
   refine wS h 0 rfl λa7 c7 H9 h=>⟨_,_,_,rfl,?_⟩
   have m1:=dL [evs[j].stamp];simp only[Vf,Vy]at m1;refine dp h (i:=3) rfl rfl rfl (h.sl_rd 0 rfl) (by rw[UZ];omega) λa8 c8 j2 h=>⟨_,_,_,rfl,?_⟩
   have h:=h.o [2,3,4] 5;refine⟨_,h.r 0,?_⟩;refine h.al λb8 _ h=>?_
   refine qy h 0 rfl λa9 c9 h7 h=>⟨_,_,_,rfl,?_⟩
   have m2:=mq [evs[j].value];simp only[Vf,Vy]at m2;refine dp h (i:=3) rfl rfl rfl (h.sl_rd 0 rfl) (by simp only[UZ];omega) λj3 Z l5 h=>⟨_,_,_,rfl,?_⟩
   have h:=h.o [2,3,4] 5;refine⟨_,_,_,_,h.q 0,?_⟩;refine Am h (λH h=>r.ev.labs _ (Vk a) H h.tl.tl.tl) λh0 h6 Y h=>⟨_,_,_,rfl,?_⟩
   have m3:=wG evs[j].name evs[j].labs;refine dp h (i:=2) rfl rfl rfl (h.sl_rd 0 rfl) (by simp only[UZ];omega) λh3 h2 h1 h=>⟨_,_,_,rfl,?_⟩
   have C:i64.wrap ((j:Int)+1)=((j+1:Nat):Int):=by rw[aJ];omega
   have M:j<f.evs.length:=by omega
   have ej:f.evs[j]=evs[j].p:=by simp[r.eq]
   have e:O++(f.evs.take (j+1)).flatMap evB=(((O++(f.evs.take j).flatMap evB)++aN [evs[j].stamp])++cX [evs[j].value])++iV evs[j].name evs[j].labs:=by
    rw[jL M,ej];unfold evB;simp only[Vj];rfl
   rw[<-e]at h;exact⟨⟨j+1,C,a,by rw[e],h.o [2,3] 4⟩,by rw[C];dsimp only;omega⟩
  .have A:f.evs.length<=j:=by have:=Vb a;omega
   rw[V2 A]at h v ⊢;have U:O++f.evs.flatMap evB=(aN [f.kind]++nmF f (aU f.kind))++mF f:=by rw[n,<-P,Vj]
   rw[U]at h;have:=fin _ _ _ _ rfl (by rw[n,UZ];omega) (by rw[n];exact dE (iB _) (jx λe _=>wM e)) h
   rw[<-U]at this;exact this
 have m:=Vb m;intro h9 D;refine⟨λu=>?_,λu=>?_⟩
 .have u:=Va u;have hd:=Sv I u;have n:mF f=iV f.sn f.sl++cZ (bF f.data):=by unfold mF;rw[UW m,UX u]
  refine⟨_,_,_,_,h.q 1,?_⟩;refine Am h (λH h=>r.lab H h.tl.tl) λa3 c3 T h=>⟨_,_,_,rfl,?_⟩
  have m3:=wG f.sn f.sl;refine dp h (i:=1) rfl rfl rfl (h.sl_rd 0 rfl) (by simp only[UZ];omega) λa4 c4 J h=>⟨_,_,_,rfl,?_⟩
  have h:=h.o [1,2] 3;refine⟨_,_,_,h.r 1,_,rH r.dA (r.dat _ h.tl.tl),?_⟩;refine h.al λb5 _ h=>?_
  have hz:(bF f.data).size=f.data.length:=nI _;refine wH h (λH h=>h.ce_rd 0 rfl) (by omega) λa5 c5 H7 h=>⟨_,_,_,rfl,?_⟩
  have m4:=lE (s:=bF f.data) (by omega);refine dp h (i:=2) rfl rfl rfl (h.sl_rd 0 rfl) (by simp only[UZ];omega) λa6 c6 H8 h=>⟨_,_,_,rfl,?_⟩
  refine D _ _ _ _ ?_;have h:=h.o [2,3] 4;rw[Vj,<-n]at h ⊢;exact fin _ _ _ _ rfl (by rw[n,UZ];omega) (by rw[n];exact dE (Ae _ _) (ql _)) h
 .have u:=Vb u;refine D _ _ _ _ ?_;have n:mF f=[]:=by unfold mF;rw[UW m,UW u]
  have:=fin [] a2 c2 H4 n (by simp) kJ;rw[V4]at this;exact this h
end
def iY:Nat->Rd (List Int)
 | 0,s=>.ok ([],s)
 | n+1,s=>match iY n s with
  | .error e=>.error e
  | .ok (vs,s1)=>match cG s1 with
   | .error e=>.error e
   | .ok (v,s2)=>.ok (vs++[v],s2)
def kS:Nat->Rd (List Pv)
 | 0,s=>.ok ([],s)
 | n+1,s=>match kS n s with
  | .error e=>.error e
  | .ok (vs,s1)=>match iX s1 with
   | .error e=>.error e
   | .ok (v,s2)=>.ok (vs++[v],s2)
def atV(k:Int)(vs:List Int)(i:Nat):Int:=if i∈cr k then vs.getD ((cr k).idxOf i) 0 else 0
def kT(k:Int)(vs:List Int)(evs:List Pv):Rp:=⟨k,atV k vs 1,atV k vs 2,atV k vs 3,atV k vs 4,atV k vs 5,atV k vs 6,⟨atV k vs 7,atV k vs 8,atV k vs 9,atV k vs 10⟩,evs⟩
def evsR(k:Int):Rd (List Pv):=λs=>if k=4 then (match dP 64 s with
 | .error e=>.error e
 | .ok (n,s3)=>kS n.toNat s3) else .ok ([],s)
def recR(bs:List Int):Except Int Rp:=match eA ⟨0,bs⟩ with
 | .error e=>.error e
 | .ok (k,s1)=>if k<1\/7<k then .error 16 else match iY (cr k).length s1 with
  | .error e=>.error e
  | .ok (vs,s2)=>match evsR k s2 with
   | .error e=>.error e
   | .ok (evs,s4)=>if (dG s4).e≠0 then .error (dG s4).e else if (kT k vs evs).right then .ok (kT k vs evs) else .error 10
theorem AB:∀{n:Nat} {s:RS} {vs:List Int} {a:RS},iY n s=.ok (vs,a)->vs.length=n
 | 0,s,vs,a,h=>by cases h;rfl
 | n+1,s,vs,a,h=>by
  unfold iY at h
  split at h
  .cases h
  .rename_i c s1 b
   split at h
   .cases h
   .cases h
    rw[UZ,AB b];rfl
theorem Jz:∀{n:Nat} {s:RS} {vs:List Pv} {a:RS},kS n s=.ok (vs,a)->vs.length=n
 | 0,s,vs,a,h=>by cases h;rfl
 | n+1,s,vs,a,h=>by
  unfold kS at h
  split at h
  .cases h
  .rename_i c s1 b
   split at h
   .cases h
   .cases h
    rw[UZ,Jz b];rfl
theorem AC{s:RS}{e:Int}:∀{n j:Nat},iY j s=.error e->j<=n->iY n s=.error e
 | 0,j,h,hj=>by
  obtain rfl:j=0:=by omega
  exact h
 | n+1,j,h,hj=>by
  rcases V0 n j with a|a
  .obtain rfl:j=n+1:=by omega
   exact h
  .unfold iY;rw[AC h a]
theorem J0{s:RS}{e:Int}:∀{n j:Nat},kS j s=.error e->j<=n->kS n s=.error e
 | 0,j,h,hj=>by
  obtain rfl:j=0:=by omega
  exact h
 | n+1,j,h,hj=>by
  rcases V0 n j with a|a
  .obtain rfl:j=n+1:=by omega
   exact h
  .unfold kS;rw[J0 h a]
def stL:Os->List Nat->List Int->Os
 | cs,i::is,v::vs=>stL (cv cs i [aB v]) is vs
 | cs,_,_=>cs
theorem AD:∀(is:List Nat) (vs:List Int) (cs:Os),(stL cs is vs).length=cs.length
 | [],_,_=>rfl
 | _::_,[],_=>rfl
 | i::is,v::vs,cs=>by
  show (stL (cv cs i [aB v]) is vs).length=_;rw[AD is vs,nU]
theorem J1:∀{is:List Nat} {vs:List Int} {cs:Os} {i:Nat} {v:Int},is.length=vs.length->stL cs (is++[i]) (vs++[v])=cv (stL cs is vs) i [aB v]
 | [],[],cs,i,v,_=>rfl
 | a::is,b::vs,cs,i,v,h=>by
  show stL (cv cs a [aB b]) (is++[i]) (vs++[v])=cv (stL (cv cs a [aB b]) is vs) i [aB v];exact J1 (by simpa using h)
 | [],b::vs,cs,i,v,h=>by simp at h
 | a::is,[],cs,i,v,h=>by simp at h
abbrev zR(k:Int):Os:=[aB k,aB 0,aB 0,aB 0,aB 0,aB 0,aB 0,aB 0,aB 0,aB 0,aB 0,.slice none 0 0]
theorem stL_fill{k:Int}{vs:List Int}(i:¬k<1)(j:¬7<k)(h:vs.length=(cr k).length):stL (zR k) (cr k) vs=df (kT k vs []) none 0:=by
 rcases kinds i j with rfl|rfl|rfl|rfl|rfl|rfl|rfl
 .match vs,h with
  | [],_=>rfl
 .match vs,h with
  | [a,b,c],_=>rfl
 .match vs,h with
  | [a,b,c,d,e,f],_=>rfl
 .match vs,h with
  | [a,b,c,d],_=>rfl
 .match vs,h with
  | [a,b,c,d,e],_=>rfl
 .match vs,h with
  | [a],_=>rfl
 .match vs,h with
  | [a],_=>rfl
section
variable {F L:List aE}{H:aC}{K KP:KE}{Q:aE}
theorem J2:iH Tryz.prog .eql 20 .nilIface .nilIface true:=by
 intro b a w
 cases b <;> cases a <;> kernel_rfl
theorem eqPn{e:Int}:iH Tryz.prog .eql 20 (pnV e) .nilIface false:=by
 intro b a w
 kernel_rfl
theorem assertPn{e:Int}:lU Tryz.prog (Instr.typeAssert (pnV e) 20 50 true) (.tuple #[(aD e),(.bool true)]):=by
 intro w
 kernel_rfl
theorem J3(k:K (aD 0) H):CF 197 #[.nilIface] H K:=
 cM 197 304646796286996 ⟨true,J2,λ_=>k,λh=>UY h (by simp)⟩
theorem J4{e:Int}(k:K (aD e) H):CF 197 #[pnV e] H K:=
 cM 197 304646796286996 ⟨false,eqPn,λh=>UY h (by simp),λ_=>⟨e,true,assertPn,λ_=>k,λh=>UY h (by simp)⟩⟩
theorem Sy{b b1:Nat}{e:Int}{cs:Os}{v1:Int}{i:FrameMode->aC->Prop}(t:e≠0)(a:cs.length=12)(h:aA H (cellsA b1 [aD v1] 50::cellsA b cs 61::F))
  (k:∀d,aA d (cellsA b1 [aD e] 50::cellsA b (zR 0) 61::F)->i (bi (pnV e) true) d):cB Tryz.prog 210 [(PA b1 0),(PA b 0)] (bi (pnV e) false) H i:=by
 have hd:cB Tryz.prog 210 [(PA b1 0),(PA b 0)] (bi (pnV e) false) H λf d=>f=bi (pnV e) true/\aA d (cellsA b1 [aD e] 50::cellsA b (zR 0) 61::F):=by
  refine rD.defq (.inr ⟨rfl,rfl⟩) ?_;unfold rD.code;refine J4 ⟨_,rfl,?_⟩;refine h.st 0 rfl rfl ?_;intro x h;refine⟨_,h.r 0,?_⟩;intro A n;refine⟨λ_=>?_,λm=>UY m (by simpa using t)⟩
  refine h.st 1 rfl (by rw[a];rfl) ?_;intro u h;refine n _ ?_
  skip
  rw[vA _ cs (by rw[a];rfl)]at h;exact h
 intro w s;refine (hd w s).mono λj y v c=>?_
 cases j <;> simp only at c ⊢
 exact⟨c.1,c.2.1▸k _ c.2.2⟩
theorem Sz{b b1:Nat}{cs:Os}{v1:Int}{e:FrameMode->aC->Prop}(h:aA H (cellsA b1 [aD v1] 50::cellsA b cs 61::F))
  (k:∀c,aA c (cellsA b1 [aD 0] 50::cellsA b cs 61::F)->e .returning c):cB Tryz.prog 210 [(PA b1 0),(PA b 0)] .returning H e:=by
 have hd:cB Tryz.prog 210 [(PA b1 0),(PA b 0)] .returning H λd c=>d=.returning/\aA c (cellsA b1 [aD 0] 50::cellsA b cs 61::F):=by
  refine rD.defq (.inl ⟨rfl,rfl,rfl⟩) ?_;unfold rD.code;refine J3 ⟨_,rfl,?_⟩;refine h.st 0 rfl rfl ?_;intro s h;refine⟨_,h.r 0,?_⟩;intro u j;refine⟨λi=>UY i (by simp),λ_=>j _ ?_⟩
  skip
  exact h
 intro w m;refine (hd w m).mono λf t n a=>?_
 cases f <;> simp only at a ⊢
 exact⟨a.1,a.2.1▸k _ a.2.2⟩
end
section
variable {F L:List aE}{H:aC}{K KP:KE}{Q:aE}
def RdPost(Q:aE)(F:List aE)(K:KE):Except Int Rp->Prop
 | .ok r=>∀Q' evs a' c' H',aM Q Q'->r.evs=evs.map Ev.p->(∀e∈evs,ik Q' e)->aA H' (Q'::slA 99 4 a' evs.length c' (flat cw evs)::F)->K (.tuple #[.agg ⟨df r a' c'⟩,aD 0]) H'
 | .error e=>∀Q' H',e≠0->aM Q Q'->aA H' (Q'::F)->K (.tuple #[.agg ⟨zR 0⟩,aD e]) H'
theorem encR_evs{r:Rp}{evs:List Ev}{a:KQ}{c:Nat}(b:r.evs=evs.map Ev.p):df r a c=[aD r.kind,aD r.ag,aD r.ep,aD r.bt,aD r.nx,aD r.st,aD r.nw,aD r.sm.asked,aD r.sm.got,aD r.sm.sent,aD r.sm.came,.slice a evs.length c]:=by
 unfold df;rw[b,Vl]
theorem AE(s:RS):0<=(bX 64 s).1/\(bX 64 s).1<=64:=by
 unfold bX
 split
 .dsimp only;omega
 .split
  .split
   .dsimp only;omega
   .dsimp only;omega
  .dsimp only;omega
  .dsimp only;omega
theorem S0{a:KQ}{c:Nat}{bs:List Int}(h:aA H (Q::F))(ha:∀H,aA H (Q::F)->aP H a (bs.map U8))(hb:aH bs)(hl:bs.length<=1099511627776)
  (k:RdPost Q F K (recR bs)):CF 107 #[.slice a bs.length c] H K:=by
 refine Oz ?_;refine h.al λb _ h=>?_
 refine h.al λb1 _ h=>?_
 have pan:∀e Q' N cs v1,recR bs=.error e->e≠0->aM Q Q'->cs.length=12->aA N (cellsA b1 [aD v1] 50::cellsA b cs 61::Q'::F)->
   bI 210 X.calls=true/\cB Tryz.prog 210 [(PA b1 0),(PA b 0)] (bi (pnV e) false) N λy3 V=>y3=bi (pnV e) true/\
    ∃P E D I O J M G L R A C B y,bD V b 0 [(aD P),(aD E),(aD D),(aD I),(aD O),(aD J),(aD M),(aD G),(aD L),(aD R),(aD A),(.slice C B y)]/\
    ∃W,aK V b1 0=some (aD W)/\
    K (.tuple #[(.agg #[(aD P),(aD E),(aD D),(aD I),(aD O),(aD J),(aD M),(aD G),(aD L),(aD R),(aD A),(.slice C B y)]),(aD W)]) V:=by
  intro e Q' N cs v1 hr f hs l5 h;refine⟨rfl,Sy f l5 h λH2 h=>⟨rfl,_,_,_,_,_,_,_,_,_,_,_,_,_,_,h.q 1,_,h.r 0,?_⟩⟩
  rw[hr]at k;exact k Q' _ f hs h.tl.tl
 refine rG h (λH h=>ha H h.tl.tl) hl λrb H2 h=>⟨_,rfl,?_⟩
 refine h.al λb2 _ h=>?_
 refine h.st 0 rfl rfl ?_;intro H3 h;refine⟨_,h.q 0,?_⟩;have h:=h.o [1,0,2,3,4] 5;refine ug h hb hl ?_;unfold recR at k pan
 cases hr0:eA ⟨0,bs⟩ with
 | error e=>
  rw[hr0]at pan;exact λN f h=>pan _ Q _ _ _ rfl f (aM.refl Q) rfl (h.o [1,2] 3)
 | ok p=>
 obtain⟨s,s1⟩:=p;rw[hr0]at pan k;dsimp only at pan k;intro H4 he1 u8 hl1 h;refine⟨_,rfl,?_⟩;intro Jn hJ;refine⟨λhc=>?_,λhc=>hJ _ ?_⟩
 .simp only[Vr,Vc]at hc;rw[UX hc]at pan;exact pan _ Q _ _ _ rfl (by decide) (aM.refl Q) rfl (h.o [2,3] 4)
 simp only[Vp,Ve]at hc;rw[nO]at pan k;have r0:i64.wrap s=s:=aJ;rw[r0];refine h.st 3 rfl rfl ?_;intro H5 h;refine Ay h 3 rfl rfl λp pc H6 h=>⟨_,_,_,rfl,?_⟩
 have ho:=wL s;refine⟨λi N=>∃(j:Nat) (U:List Int) (s2:RS),i=j/\j<=(cr s).length/\iY j s1=.ok (U,s2)/\s2.e=0/\aH s2.bs/\s2.bs.length<=1099511627776/\
  aA N (crdA rb s2::slA 297 1 p (cr s).length pc ((cr s).map λi=>PA b i)::cellsA b2 [PA rb 0] 388::cellsA b1 [aD 0] 50::cellsA b (stL (zR s) ((cr s).take j) U) 61::Q::F),
  λi _=>(cr s).length-i.toNat,⟨0,[],s1,rfl,by omega,rfl,he1,u8,hl1,h.o [1,0,2,3,4] 5⟩,?_⟩
 rintro i H7 ⟨j,U,s2,rfl,hj,h6,he2,h5,h4,h⟩;have hvl:=AB h6;refine⟨λd=>?_,λd=>?_⟩
 .have d:j<(cr s).length:=by have:=Va d;omega
  have h8:=(h.sl_rd 1 rfl).at d;have hi:=Az _ (Vk d);refine⟨by omega,_,_,h8.1,_,h8.2,_,h.q 2,?_⟩;refine jY h h5 h4 ?_;have w:iY (j+1) s1=match cG s2 with|.error e=>.error e|.ok (v,s2)=>.ok (U++[v],s2):=by
   rw[iY,h6] <;> rfl
  cases hr2:cG s2 with
  | error e=>
   rw[hr2]at w;rw[AC w d]at pan;exact λN f h=>pan _ Q _ _ _ rfl f (aM.refl Q) (by rw[AD];rfl) (h.o [2,3] 4)
  | ok q=>
  obtain⟨v,s3⟩:=q;rw[hr2]at w;intro H8 j3 h1 h0 h;refine⟨_,rfl,cY ?_⟩;refine h.st 4 rfl (by rw[AD];exact Nat.ble_eq_true_of_le (by show (cr s)[j]+1<=12;omega)) ?_;intro H9 h;rw[aJ (x:=(j:Int)+1)];refine⟨⟨j+1,_,s3,by omega,d,w,j3,h1,h0,?_⟩,by dsimp only;omega⟩;rw[VE d,J1 (by rw[Vx];omega)];exact h
 have l0:j=(cr s).length:=by have:=Vb d;omega
 subst l0;rw[h6]at pan k;dsimp only at pan k;rw[V8,stL_fill (by omega) (by omega) hvl]at h;refine⟨_,h.r 4,?_⟩;intro Jn1 hJ1;have fin:∀(Q':aE) (evs:List Ev) (S:KQ) (T:Nat) (s4:RS) N,aM Q Q'->evsR s s2=.ok (evs.map Ev.p,s4)->(∀e∈evs,ik Q' e)->evs.length<=64->aH s4.bs->s4.bs.length<=1099511627776->
   aA N (crdA rb s4::slA 99 4 S evs.length T (flat cw evs)::cellsA b2 [PA rb 0] 388::cellsA b1 [aD 0] 50::cellsA b (df (kT s U (evs.map Ev.p)) S T) 61::Q'::F)->Jn1 N:=by
  intro Q' evs S T s4 H10 t u Z hlen h2 h3 h;rw[u]at pan k;dsimp only at pan k;refine hJ1 _ ?_;refine⟨_,h.r 2,?_⟩;refine wi h λH11 h=>⟨_,rfl,?_⟩
  refine j5 (λf=>⟨rfl,?_⟩) λf=>?_
  .rw [UW (by simpa using f)]at pan k;refine⟨_,_,_,_,_,_,_,_,_,_,_,_,_,_,h.q 4,?_⟩;have y2:lJ (crdA rb (dG s4)::slA 99 4 S evs.length T (flat cw evs)::cellsA b2 [PA rb 0] 388::cellsA b1 [aD 0] 50::cellsA b (df (kT s U (evs.map Ev.p)) S T) 61::Q'::F) S evs:=
    ⟨λH h=>h.sl_rd 1 rfl,λe f H h=>(Z e f).at h 5 rfl⟩
   refine A0 (r:=kT s U (evs.map Ev.p)) rfl h y2 (by omega) λH12 h=>⟨_,rfl,?_⟩
   intro Jn2 r8;refine⟨λhr=>?_,λhr=>r8 _ ?_⟩
   .rw [UW (by simpa using hr)]at pan;exact pan _ Q' _ _ _ rfl (by decide) t rfl (h.o [3,4] 5)
   .rw [UX (by simpa using hr)]at k;refine⟨_,_,_,_,_,_,_,_,_,_,_,_,_,_,h.q 4,?_⟩;refine h.st 4 rfl rfl ?_;intro H13 h;refine h.st 3 rfl rfl ?_;intro H14 h;have h:=h.o [3,4,0,1,2,5] 6;refine⟨rfl,Sz h λH15 h=>⟨rfl,_,_,_,_,_,_,_,_,_,_,_,_,_,_,h.q 1,_,h.r 0,?_⟩⟩
    exact k Q' evs S T _ t rfl Z (h.o [5,3] 6)
  .rw [UX f]at pan;exact pan _ Q' _ _ _ rfl f t rfl (h.o [3,4] 5)
 refine⟨λhk=>?_,λhk=>?_⟩
 .have hk:s=4:=Va hk;have u:evsR s s2=match dP 64 s2 with|.error e=>.error e|.ok (n,s3)=>kS n.toNat s3:=by
   unfold evsR;rw[UX hk] <;> rfl
  refine⟨_,h.q 2,?_⟩;refine ui (by unfold aF;decide) h h5 h4 ?_
  cases hr2:dP 64 s2 with
  | error e=>
   rw[hr2]at u;rw[u]at pan;exact λN f h=>pan _ Q _ _ _ rfl f (aM.refl Q) rfl (h.o [2,3] 4)
  | ok q=>
  obtain⟨n,s3⟩:=q;rw[hr2]at u;dsimp only at u;have hn64:0<=n/\n<=64:=by
   unfold dP okR at hr2
   split at hr2
   .cases hr2
   .cases hr2
    exact AE _
  intro H8 j3 h1 h0 h;refine⟨_,rfl,?_⟩;refine⟨λi N=>∃(j:Nat) (evs:List Ev) (Q':aE) (S:KQ) (T:Nat) (s4:RS),i=j/\(j:Int)<=n/\kS j s3=.ok (evs.map Ev.p,s4)/\aM Q Q'/\(∀e∈evs,ik Q' e)/\aH s4.bs/\s4.bs.length<=1099511627776/\
   aA N (Q'::crdA rb s4::slA 99 4 S evs.length T (flat cw evs)::cellsA b2 [PA rb 0] 388::cellsA b1 [aD 0] 50::cellsA b (df (kT s U (evs.map Ev.p)) S T) 61::F),
   λi _=>n.toNat-i.toNat,⟨0,[],Q,none,0,s3,rfl,by omega,rfl,aM.refl Q,λe f=>UY f (by simp),h1,h0,(h.sl_nil 99 4).o [6,1,0,3,4,5] 7⟩,?_⟩
  rintro i H9 ⟨j,evs,Q',S,T,s4,rfl,hj,h7,t,j1,h2,h3,h⟩;have l6:=Jz h7;rw[Vl]at l6;refine⟨λd=>?_,λd=>?_⟩
  .have d:=Va d;refine⟨_,_,_,h.r 5,_,h.q 3,?_⟩;refine wP h h2 h3 ?_;have w:kS (j+1) s3=match iX s4 with|.error e=>.error e|.ok (v,s2)=>.ok (evs.map Ev.p++[v],s2):=by
    rw[kS,h7] <;> rfl
   cases hr4:iX s4 with
   | error e=>
    rw[hr4]at w;rw[u,J0 w (by omega)]at pan;exact λQ2 N f Y h=>pan _ Q2 _ _ _ rfl f (t.trans Y) rfl (h.o [3,4,0] 5)
   | ok q=>
   obtain⟨pv,s5⟩:=q;rw[hr4]at w;intro Q2 ev H10 Y h9 j2 he5 r9 hl5 h;subst j2;refine⟨_,_,_,_,_,_,rfl,h.r 5,?_⟩;refine h.al λb4 _ h=>⟨h.r 6,?_⟩
   have hfl:(kT s U (evs.map Ev.p)).evs.length=evs.length:=Vl ..;rw[hfl];refine h.append (m:=1) (ws:=cw ev) sl44 3 rfl (h.ce_rd 0 rfl) rfl (zV ev) (by omega) (by omega) λa5 c5 H11 h=>⟨_,_,_,rfl,?_⟩
   refine h.st 6 rfl rfl ?_;intro H12 h;rw[aJ (x:=(j:Int)+1)];refine⟨⟨j+1,evs++[ev],Q2,a5,c5,s5,by omega,by omega,by rw[w,Vv];rfl,t.trans Y,λe f=>?_,r9,hl5,?_⟩,by dsimp only;omega⟩
   .rcases Vz.1 f with f|f
    .exact (j1 e f).sub Y
    .rw [Vo]at f;subst f;exact h9
   .have e:flat cw (evs++[ev])=flat cw evs++cw ev:=by rw[dT];simp[flat]
    have e2:df (kT s U ((evs++[ev]).map Ev.p)) a5 c5=cv (df (kT s U (evs.map Ev.p)) S T) 11 [.slice a5 (evs.length+1) c5]:=by
     rw[encR_evs (r:=kT s U ((evs++[ev]).map Ev.p)) rfl,UZ];rfl
    rw[e,e2,UZ];exact h.o [1,2,3,4,5,6] 7
  .have l0:=Vb d;have hjn:j=n.toNat:=by omega
   subst hjn;refine fin Q' evs S T s4 _ t (by rw[u,h7]) j1 (by omega) h2 h3 ?_;exact h.o [1,2,3,4,5,0] 6
 .have hk:¬s=4:=Vb hk;have u:evsR s s2=.ok ([],s2):=by unfold evsR;rw[UW hk]
  refine fin Q [] none 0 s2 _ (aM.refl Q) u (λe f=>UY f (by simp)) (by simp) h5 h4 ?_
  exact (h.sl_nil 99 4).o [1,0,3,4,5,6] 7
end
abbrev pnF(e:Int):Value:=.iface 335 (.agg #[aD e])
def ph:Rd Int:=λs=>match eA s with
 | .error e=>.error e
 | .ok (u,s')=>if u<1\/8<u then .error 16 else .ok (u,s')
def serQ:Rd (Fa×List bR):=λs=>okR ⟨(cK s).e,(cK s).rest.bs⟩ ((cK s).name,(cK s).labs)
def evQ:Rd Pv:=λs=>okR ⟨(cK (dF (bK s).2).2).e,(cK (dF (bK s).2).2).rest.bs⟩
 ⟨i64.wrap ((bK s).1:Int),(dF (bK s).2).1,(cK (dF (bK s).2).2).name,(cK (dF (bK s).2).2).labs⟩
def j7:Nat->Rd (List Pv)
 | 0,s=>.ok ([],s)
 | n+1,s=>match j7 n s with
  | .error e=>.error e
  | .ok (vs,s1)=>match evQ s1 with
   | .error e=>.error e
   | .ok (v,s2)=>.ok (vs++[v],s2)
theorem AF:∀{n:Nat} {s:RS} {vs:List Pv} {a:RS},j7 n s=.ok (vs,a)->vs.length=n
 | 0,s,vs,a,h=>by cases h;rfl
 | n+1,s,vs,a,h=>by
  unfold j7 at h
  split at h
  .cases h
  .rename_i c s1 b
   split at h
   .cases h
   .cases h
    rw[UZ,AF b];rfl
theorem J5{s:RS}{e:Int}:∀{n j:Nat},j7 j s=.error e->j<=n->j7 n s=.error e
 | 0,j,h,hj=>by
  obtain rfl:j=0:=by omega
  exact h
 | n+1,j,h,hj=>by
  rcases V0 n j with a|a
  .obtain rfl:j=n+1:=by omega
   exact h
  .unfold j7;rw[J5 h a]
def mG:Rd (List Pv):=λs=>match dP 64 s with
 | .error e=>.error e
 | .ok (n,s1)=>j7 n.toNat s1
section
variable {F L:List aE}{H:aC}{K KP:KE}{Q:aE}
theorem sg{e:Int}(k:e=0->K (.tuple #[]) H)(kp:e≠0->KP (pnF e) H):CP 172 #[aD e] H K KP:=
 cNP 172 5961 [[]] λc b=>⟨λa=>kp (by simpa using a),λa=>b _ (k (by simpa using a))⟩
def FPost{α:Type}(rb:Nat)(F:List aE)(enc:α->Value)(K KP:KE):Except Int (α×RS)->Prop
 | .ok (x,s)=>∀H',s.e=0->aH s.bs->s.bs.length<=1099511627776->aA H' (crdA rb s::F)->K (enc x) H'
 | .error e=>∀H',e≠0->aA H' F->KP (pnF e) H'
theorem S1{rb:Nat}{s:RS}(h:aA H (crdA rb s::F))(hb:aH s.bs)(c:s.bs.length<=1099511627776)(k:FPost rb F aD K KP (ph s)) :
  CP 169 #[PA rb 0] H K KP:=by
 refine cNP 169 4582372508 [[]] ?_;refine nE h hb c λj h=>⟨_,rfl,_,mp h,?_⟩
 have b:=gH hb;have d:=jM s;have i:=we hb;unfold ph eA okR at k;refine sg (λe=>⟨rfl,?_⟩) λe=>?_
 .rw [UW (by simpa using e)]at k;dsimp only at k;intro m f;refine⟨λa=>?_,λa=>f _ ?_⟩
  .simp only[Vr,Vc]at a;rw[UX a]at k;exact k _ (by decide) h.tl
  .simp only[Vp,Ve]at a;rw[nO]at k;have:=k _ e b (by omega) h;rw[<-aJ (x:=(((bK s).1:Nat):Int)) (by omega) (by omega)]at this;exact this
 .rw [UX e]at k;exact k _ e h.tl
def SPost(rb:Nat)(F:List aE)(K KP:KE):Except Int ((Fa×List bR)×RS)->Prop
 | .ok (x,s)=>∀a c H',s.e=0->aH s.bs->s.bs.length<=1099511627776->aA H' (crdA rb s::slA 421 2 a x.2.length c (flat de x.2)::F)->K (.agg #[.string x.1,.slice a x.2.length c]) H'
 | .error e=>∀H',e≠0->aA H' F->KP (pnF e) H'
theorem J6{rb:Nat}{s:RS}(h:aA H (crdA rb s::F))(hb:aH s.bs)(i:s.bs.length<=1099511627776)(k:SPost rb F K KP (serQ s)) :
  CP 175 #[PA rb 0] H K KP:=by
 refine cMP 175 4380 ?_;refine h.al λb _ h=>?_
 have h:=h.o [1,0] 2;refine IS h hb i λa c t h=>⟨_,_,_,_,_,rfl,?_⟩
 have f:=Aj hb;have j:=Ak s;refine h.al λb2 _ h=>?_
 refine h.st 0 rfl rfl ?_;intro m h;unfold serQ okR at k;refine sg (λe=>?_) λe=>?_
 .rw [UW (by simpa using e),sf e]at k;refine⟨rfl,_,_,_,_,h.q 0,?_⟩;refine h.st 3 rfl rfl ?_;intro n h;refine⟨_,_,_,_,h.q 3,?_⟩;have d:(cK s).rest.e=0:=by rw[<-sf e];exact e
  exact k _ _ _ d f (by omega) (h.o [1,2] 4)
 .rw [UX e]at k;exact k _ e (h.o [] 4)
def EsPost(rb:Nat)(Q:aE)(F:List aE)(K KP:KE):Except Int (List Pv×RS)->Prop
 | .ok (x,s)=>∀Q' (evs:List Ev) a c H',aM Q Q'->x=evs.map Ev.p->(∀e∈evs,ik Q' e)->s.e=0->aH s.bs->s.bs.length<=1099511627776->
   aA H' (Q'::crdA rb s::slA 99 4 a evs.length c (flat cw evs)::F)->K (.slice a evs.length c) H'
 | .error e=>∀Q' H',e≠0->aM Q Q'->aA H' (Q'::F)->KP (pnF e) H'
theorem S2{rb:Nat}{s:RS}(h:aA H (Q::crdA rb s::F))(hb:aH s.bs)(Z:s.bs.length<=1099511627776)(k:EsPost rb Q F K KP (mG s)) :
  CP 174 #[PA rb 0] H K KP:=by
 refine cNP 174 0x111121561239925111144c [[(3,sS),(12,sI)]] ?_;have h:=h.o [1,0] 2;refine tG h hb Z (by unfold aF;decide) λH1 h=>⟨_,rfl,_,mp h,?_⟩
 have G:=rK (m:=64) hb;have T:=rL s 64;unfold mG dP okR at k;refine sg (λe=>⟨rfl,?_⟩) λe=>?_
 case refine_2=>
  rw[UX e]at k;exact k Q _ e (aM.refl Q) h.tl
 rw[UW (by simpa using e)]at k;dsimp only at k;have B:=AE s;obtain⟨n,O⟩:∃n,(bX 64 s).1=n:=⟨_,rfl⟩;obtain⟨s3,I⟩:∃s3,(bX 64 s).2=s3:=⟨_,rfl⟩;rw[O,I]at k;rw[O]at B;rw[I]at h e G T;rw[O];refine⟨λla Y lc i W=>∃(j:Nat) (evs:List Ev) (Q':aE) (s4:RS),i=j/\(j:Int)<=n/\Y=evs.length/\j7 j s3=.ok (evs.map Ev.p,s4)/\aM Q Q'/\(∀e∈evs,ik Q' e)/\s4.e=0/\aH s4.bs/\s4.bs.length<=1099511627776/\
   aA W (Q'::crdA rb s4::slA 99 4 la evs.length lc (flat cw evs)::F),
   λ_ _ _ i _=>n.toNat-i.toNat,⟨0,[],Q,s3,rfl,by omega,rfl,rfl,aM.refl Q,λe f=>UY f (by simp),e,G,by omega,(h.sl_nil 99 4).o [2,1,0] 3⟩,?_⟩
 rintro la Y lc i H2 ⟨j,evs,Q',s4,rfl,hj,rfl,y,t,E,N,x,C,h⟩;have L:=AF y;rw[Vl]at L;refine⟨λw=>?_,λw=>?_⟩
 .have w:=Va w;refine h.al λb _ h=>?_
  have h:=h.o [2,0,1,3] 4;refine nE h x C λH3 h=>⟨_,rfl,?_⟩
  have D:=gH x;have h1:=jM s4;refine h.st 1 rfl rfl ?_;intro H4 h;refine wh h D (by omega) λH5 h=>⟨_,rfl,?_⟩
  have P:aH (dF (bK s4).2).2.bs:=gH D;have h2:(dF (bK s4).2).2.bs.length<=(bK s4).2.bs.length:=jM _;refine h.st 1 rfl rfl ?_;intro H6 h;refine J6 h P (by omega) ?_;have d:j7 (j+1) s3=match evQ s4 with|.error e=>.error e|.ok (v,s2)=>.ok (evs.map Ev.p++[v],s2):=by
   rw[j7,y] <;> rfl
  unfold evQ at d;unfold serQ;unfold okR at d ⊢
  by_cases f:(cK (dF (bK s4).2).2).e=0
  case neg=>
   rw[UX f]at d ⊢;dsimp only at d;rw[J5 d (by omega)]at k;exact λW f h=>k Q' _ f t (h.o [1] 3)
  rw[UW (by simpa using f)]at d ⊢;dsimp only at d;intro a c H7 S A J h;dsimp only at S A J h;refine⟨_,_,_,_,rfl,?_⟩;refine h.st 2 rfl rfl ?_;intro H8 h;refine⟨_,_,_,_,_,_,h.q 2,?_⟩;obtain⟨ev,u⟩:∃ev:Ev,ev=⟨i64.wrap ((bK s4).1:Int),(dF (bK s4).2).1,(cK (dF (bK s4).2).2).name,(cK (dF (bK s4).2).2).labs,a,c⟩:=⟨_,rfl⟩;refine h.al λb4 R h=>?_
  have h:aA R (cellsA b4 (cw ev) 99::crdA rb ⟨(cK (dF (bK s4).2).2).e,(cK (dF (bK s4).2).2).rest.bs⟩::slA 421 2 a ev.labs.length c (flat de ev.labs)::cellsA b (cw ev) 99::Q'::slA 99 4 la evs.length lc (flat cw evs)::F):=by rw[u];exact h
  refine h.append (m:=1) (ws:=cw ev) sl44 5 rfl (h.ce_rd 0 (by rw[u];rfl)) rfl (zV ev) (by omega) (by omega) λa5 c5 H9 h=>⟨_,_,_,rfl,?_⟩
  have V:i64.wrap ((j:Int)+1)=((j+1:Nat):Int):=by rw[aJ];omega
  have M:(cK (dF (bK s4).2).2).rest.e=0:=by rw[<-sf f];exact f
  rw[sf f]at d h;have ep:ev.p=⟨i64.wrap ((bK s4).1:Int),(dF (bK s4).2).1,(cK (dF (bK s4).2).2).name,(cK (dF (bK s4).2).2).labs⟩:=by rw[u];rfl
  refine⟨⟨j+1,evs++[ev],slA 421 2 a ev.labs.length c (flat de ev.labs)*Q',_,V,by omega,by simp,by rw[d,Vv,V5,ep];rfl,t.trans (aM.add _ Q'),λe f=>?_,M,A,J,?_⟩,by rw[V];dsimp only;omega⟩
  .rcases Vz.1 f with f|f
   .exact (E e f).sub (aM.add _ Q')
   .rw [Vo]at f;rw[f];have e1:ev.la=a:=by rw[u]
    unfold ik;rw[e1];exact KIn.sl (c:=c)
  .have e:flat cw (evs++[ev])=flat cw evs++cw ev:=by rw[dT];simp[flat]
   rw[e,UZ];have h:=h.o [2,4,1,5] 6;exact gp.2 h
 .have h0:=Vb w;have U:j=n.toNat:=by omega
  subst U;rw[y]at k;exact k Q' evs _ _ _ t rfl E N x C h
end
def Fq.set(f:Fq)(i:Nat)(v:Int):Fq:=match i with
 | 1=>{ f with ag:=v }|2=>{ f with ep:=v }|3=>{ f with bt:=v }|4=>{ f with ct:=v }|5=>{ f with got:=v }
 | 6=>{ f with sent:=v }|7=>{ f with next:=v }|8=>{ f with stamp:=v }|9=>{ f with win:=v }|_=>f
theorem encQ_set{f:Fq}{x:QA}{i:Nat}{v:Int}(a:1<=i)(b:i<=9):cv (cH f x) i [aB v]=cH (f.set i v) x:=by
 rcases (by omega:i=1\/i=2\/i=3\/i=4\/i=5\/i=6\/i=7\/i=8\/i=9) with rfl|rfl|rfl|rfl|rfl|rfl|rfl|rfl|rfl <;> rfl
theorem S3{f:Fq}{i j:Nat}{v:Int}(h:j≠i):(f.set i v).nums j=f.nums j:=by
 unfold Fq.set
 split <;> (unfold Fq.nums;split <;> first|rfl|exact UY rfl h)
theorem set_keep(f:Fq)(i:Nat)(v:Int):(f.set i v).kind=f.kind/\(f.set i v).evs=f.evs/\(f.set i v).sn=f.sn/\(f.set i v).sl=f.sl/\(f.set i v).data=f.data:=by
 unfold Fq.set
 split <;> exact⟨rfl,rfl,rfl,rfl,rfl⟩
def iZ:Fq->List Nat->List Int->Fq
 | f,i::is,v::vs=>iZ (f.set i v) is vs
 | f,_,_=>f
theorem J7:∀{is:List Nat} {vs:List Int} {f:Fq} {i:Nat} {v:Int},is.length=vs.length->iZ f (is++[i]) (vs++[v])=(iZ f is vs).set i v
 | [],[],f,i,v,_=>rfl
 | a::is,b::vs,f,i,v,h=>by
  show iZ (f.set a b) (is++[i]) (vs++[v])=_;exact J7 (by simpa using h)
 | [],_::_,_,_,_,h=>by simp at h
 | _::_,[],_,_,_,h=>by simp at h
theorem wT:∀(is:List Nat) (vs:List Int) (f:Fq),(iZ f is vs).kind=f.kind/\(iZ f is vs).evs=f.evs/\(iZ f is vs).sn=f.sn/\(iZ f is vs).sl=f.sl/\(iZ f is vs).data=f.data
 | [],_,f=>⟨rfl,rfl,rfl,rfl,rfl⟩
 | _::_,[],f=>⟨rfl,rfl,rfl,rfl,rfl⟩
 | i::is,v::vs,f=>by
  obtain⟨a1,a2,a3,a4,a5⟩:=set_keep f i v;obtain⟨b1,b2,b3,b4,b5⟩:=wT is vs (f.set i v);exact⟨b1.trans a1,b2.trans a2,b3.trans a3,b4.trans a4,b5.trans a5⟩
theorem J8{j:Nat}:∀(is:List Nat) (vs:List Int) (f:Fq),j∉is->(iZ f is vs).nums j=f.nums j
 | [],_,f,_=>rfl
 | _::_,[],f,_=>rfl
 | i::is,v::vs,f,h=>by
  show (iZ (f.set i v) is vs).nums j=_;rw[J8 is vs _ λa=>h (Vq _ a),S3 λa=>h (by rw[a];exact Vn ..)]
def mH(f:Fq):RS->Except Int (Fq×RS):=λs=>
 if f.kind=5 then match mG s with
  | .error e=>.error e
  | .ok (l,s')=>.ok ({ f with evs:=l },s')
 else if f.kind=8 then match serQ s with
  | .error e=>.error e
  | .ok (x,s1)=>okR (aZ 4096 s1).2 { f with sn:=x.1,sl:=x.2,data:=(aZ 4096 s1).1 }
 else .ok (f,s)
def endQ:Except Int (Fq×RS)->Except Int Fq
 | .error e=>.error e
 | .ok (f,s)=>if (dG s).e≠0 then .error (dG s).e else if fx f then .ok f else .error 10
def nK(bs:List Int):Except Int Fq:=match ph ⟨0,bs⟩ with
 | .error e=>.error e
 | .ok (kd,s1)=>match iY (aU kd).length s1 with
  | .error e=>.error e
  | .ok (vs,s2)=>endQ (mH (iZ { kind:=kd } (aU kd) vs) s2)
abbrev zF:Os:=cH { kind:=0 } {}
section
variable {F L:List aE}{H:aC}{K KP:KE}{Q:aE}
theorem eqPnF{e:Int}:iH Tryz.prog .eql 20 (pnF e) .nilIface false:=by
 intro b a w
 kernel_rfl
theorem S4{e:Int}:lU Tryz.prog (Instr.typeAssert (pnF e) 20 335 true) (.tuple #[.agg #[aD e],.bool true]):=by
 intro w
 kernel_rfl
theorem S5{b b1:Nat}{e:Int}{cs:Os}{v1:Int}{m:FrameMode->aC->Prop}(a:cs.length=14)(h:aA H (cellsA b1 [aD v1] 50::cellsA b cs 81::F))
  (k:∀d,aA d (cellsA b1 [aD e] 50::cellsA b zF 81::F)->m (bi (pnF e) true) d):cB Tryz.prog 167 [(PA b 0),(PA b1 0)] (bi (pnF e) false) H m:=by
 have hd:cB Tryz.prog 167 [(PA b 0),(PA b1 0)] (bi (pnF e) false) H λj d=>j=bi (pnF e) true/\aA d (cellsA b1 [aD e] 50::cellsA b zF 81::F):=by
  refine rF.defq (.inr ⟨rfl,rfl⟩) ?_;unfold rF.code;refine⟨_,eqPnF,λC t=>⟨λf=>UY f (by simp),λ_=>⟨_,_,S4,λv i=>⟨λ_=>?_,λf=>UY f (by simp)⟩⟩⟩⟩
  refine h.al λb2 _ h=>?_
  refine h.st 0 rfl rfl ?_;intro A h;refine⟨_,h.r 0,?_⟩;refine h.st 2 rfl (by rw[a];rfl) ?_;intro x h;refine⟨h.r 0,?_⟩;refine h.st 1 rfl rfl ?_;intro s h;refine i _ (t _ ?_);have h:=h.o [1,2] 3;have e2:cv cs 0 zF=zF:=vA _ cs (by rw[a];rfl);have h:aA s (cellsA b1 [aD e] 50::cellsA b (cv cs 0 zF) 81::F):=h;rw[e2]at h;exact h
 intro w u;refine (hd w u).mono λn B y c=>?_
 cases n <;> simp only at c ⊢
 exact⟨c.1,c.2.1▸k _ c.2.2⟩
theorem S6{b b1:Nat}{cs:Os}{v1:Int}{e:FrameMode->aC->Prop}(h:aA H (cellsA b1 [aD v1] 50::cellsA b cs 81::F))
  (k:∀c,aA c (cellsA b1 [aD v1] 50::cellsA b cs 81::F)->e .returning c):cB Tryz.prog 167 [(PA b 0),(PA b1 0)] .returning H e:=by
 have hd:cB Tryz.prog 167 [(PA b 0),(PA b1 0)] .returning H λd c=>d=.returning/\aA c (cellsA b1 [aD v1] 50::cellsA b cs 81::F):=by
  refine rF.defq (.inl ⟨rfl,rfl,rfl⟩) ?_;unfold rF.code;exact⟨_,J2,λt j=>⟨λ_=>j _ h,λi=>UY i (by simp)⟩⟩
 intro w m;refine (hd w m).mono λf s n a=>?_
 cases f <;> simp only at a ⊢
 exact⟨a.1,a.2.1▸k _ a.2.2⟩
def QPost(Q:aE)(F:List aE)(K:KE):Except Int Fq->Prop
 | .ok f=>∀Q' x evs H',aM Q Q'->f.evs=evs.map Ev.p->(∀e∈evs,ik Q' e)->f.Sh x->aA H' (Q'::slA 99 4 x.ea evs.length x.ec (flat cw evs)::F)->K (.tuple #[.agg ⟨cH f x⟩,aD 0]) H'
 | .error e=>∀Q' H',e≠0->aM Q Q'->aA H' (Q'::F)->K (.tuple #[.agg ⟨zF⟩,aD e]) H'
theorem kindR_ok{s a:RS}{kd:Int}(h:ph s=.ok (kd,a)):1<=kd/\kd<=8:=by
 unfold ph at h
 split at h
 .cases h
 .split at h
  .cases h
  .cases h;omega
theorem numF_sh{kd:Int}{vs:List Int}{x:QA}(b:kd≠5->x.ea=none/\x.ec=0)(a:kd≠8->x.la=none/\x.lc=0/\x.da=none/\x.dc=0):(iZ { kind:=kd } (aU kd) vs).Sh x:=by
 obtain⟨a1,a2,a3,a4,a5⟩:=wT (aU kd) vs { kind:=kd };refine⟨λh=>⟨a2,b (by rwa[a1]at h)⟩,λh=>?_,λi d c h=>?_⟩
 .obtain⟨b1,b2,b3,b4⟩:=a (by rwa[a1]at h);exact⟨a3,a4,b1,b2,a5,b3,b4⟩
 .rw [a1]at h;rw[J8 _ _ _ h]
  rcases (by omega:i=1\/i=2\/i=3\/i=4\/i=5\/i=6\/i=7\/i=8\/i=9) with rfl|rfl|rfl|rfl|rfl|rfl|rfl|rfl|rfl <;> rfl
end
structure En where
 epoch:Int
 boot:Int
 time:Int
deriving DecidableEq
def En.z:En:=⟨0,0,0⟩
abbrev encE(e:En):Os:=[.int .i64 e.epoch,.int .i64 e.boot,.int .i64 e.time]
abbrev aggE(e:En):Value:=.agg #[.int .i64 e.epoch,.int .i64 e.boot,.int .i64 e.time]
def aR:Nat->List En->List (Int×En)
 | _,[]=>[]
 | i,e::r=>if 0<e.epoch then ((i:Int),e)::aR (i+1) r else aR (i+1) r
theorem pi{i:Nat}:∀{l:List En} {p:Int×En},p∈aR i l->(i:Int)<=p.1/\p.1<i+l.length/\0<p.2.epoch
 | [],p,h=>by simp[aR]at h
 | e::r,p,h=>by
  simp only[aR]at h;have a:=pi (i:=i+1) (l:=r) (p:=p);simp only[Vf]
  split at h
  .rcases Vm.1 h with rfl|h
   .rename_i b;simp only;omega
   .have:=a h;omega
  .have:=a h;omega
theorem wU{i:Nat}:∀{l:List En},(aG (aR i l)).Pairwise (·< ·)
 | []=>by simp[aR]
 | e::r=>by
  simp only[aR]
  split
  .simp only[aG,V5,VX];refine⟨λa b=>?_,wU⟩
   obtain⟨p,c,rfl⟩:=Vh.1 b;have:=pi c;omega
  .exact wU
theorem wV{i:Nat}{l:List En}:(aG (aR i l)).Nodup:=wU.imp (λh=>by omega)
theorem S7{i:Nat}{l:List En}:sortI (aG (aR i l))=aG (aR i l):=yA (wU.imp (λh=>by omega))
theorem AG{i:Nat}:∀{l:List En} {k:Nat},aL ((i+k:Nat):Int) (aR i l)=match l[k]? with|some e=>if 0<e.epoch then some e else none|none=>none
 | [],k=>by simp[aR,aL]
 | e::r,0=>by
  have c:aL ((i+0:Nat):Int) (aR (i+1) r)=none:=fp.2 λh=>by
   obtain⟨p,b,d⟩:=Vh.1 h;have:=pi b;omega
  simp only[aR,List.getElem?_cons_zero]
  split
  .simp [aL]
  .exact c
 | e::r,k+1=>by
  have a:=AG (i:=i+1) (l:=r) (k:=k);rw[show i+1+k=i+(k+1) by omega]at a;simp only[aR,List.getElem?_cons_succ]
  split
  .simp only[aL];rw[nO];exact a
  .exact a
theorem AH{i:Nat}{x:En}(c:0<x.epoch):∀{l:List En} {k:Nat},k<l.length->(aR i (l.set k x)).Perm (mset ((i+k:Nat):Int) x (aR i l))
 | e::r,0,_=>by
  have hd:bT ((i+0:Nat):Int) (aR (i+1) r)=aR (i+1) r:=kG (fp.2 λh=>by
   obtain⟨p,d,f⟩:=Vh.1 h;have:=pi d;omega)
  simp only[WI,aR,UX c];have e2:bT ((i+0:Nat):Int) (if 0<e.epoch then ((i:Int),e)::aR (i+1) r else aR (i+1) r)=aR (i+1) r:=by
   split
   .have:bT ((i+0:Nat):Int) (((i:Int),e)::aR (i+1) r)=bT ((i+0:Nat):Int) (aR (i+1) r):=by simp[bT]
    rw[this,hd]
   .exact hd
  unfold mset;rw[e2];exact .refl _
 | e::r,k+1,h=>by
  have a:=AH (i:=i+1) c (l:=r) (k:=k) (by simpa using h);rw[show i+1+k=i+(k+1) by omega]at a;simp only[Yc,aR]
  split
  .refine (a.cons _).trans ?_;unfold mset;have:bT ((i+(k+1):Nat):Int) (((i:Int),e)::aR (i+1) r)=((i:Int),e)::bT ((i+(k+1):Nat):Int) (aR (i+1) r):=by
    have b:¬(i:Int)=((i+(k+1):Nat):Int):=by omega
    simp[bT,VD,b];omega
   rw[this];exact .swap _ _ _
  .exact a
theorem J9{i:Nat}:∀{l:List En},(aR i l).length=(l.filter λe=>decide (0<e.epoch)).length
 | []=>rfl
 | e::r=>by
  simp only[aR,VD];have:=J9 (i:=i+1) (l:=r)
  by_cases h:0<e.epoch <;> simp[h,this]
abbrev bad(agent boot now:Int):Prop:=agent<0\/63<agent\/boot<1\/1099511627776<boot\/now<0\/4611686018427387903<now
def bg(rows:List En)(agent:Int):En:=if agent<0 then En.z else (rows[agent.toNat]?).getD En.z
structure fO(rows:List En):Prop where
 len:rows.length=64
 ep:∀e∈rows,0<=e.epoch/\e.epoch<=1099511627776
 in64:∀e∈rows,aF e.boot/\aF e.time
 zero:∀e∈rows,¬0<e.epoch->e=En.z
abbrev full(most:Int)(rows:List En):Prop:=most<=((aR 0 rows).length:Int)
def grant(most:Int)(rows:List En)(agent boot now:Int):List En×En×Bool×Int:=
 if bad agent boot now then (rows,En.z,false,11) else
 let x:=bg rows agent
 if 0<x.epoch/\x.boot=boot then (rows,x,false,0)
 else if 0<x.epoch/\boot<x.boot then (rows,En.z,false,22)
 else if x.epoch=1099511627776 then (rows,En.z,false,17)
 else if x.epoch=0/\full most rows then (rows,En.z,false,20)
 else (rows.set agent.toNat ⟨x.epoch+1,boot,now⟩,⟨x.epoch+1,boot,now⟩,true,0)
def gy(most:Int)(rows:List En)(agent:Int)(e:En):List En×Int:=
 if bad agent e.boot e.time\/e.epoch<1\/1099511627776<e.epoch then (rows,11)
 else if 0<(bg rows agent).epoch then (rows,18)
 else if full most rows then (rows,20)
 else (rows.set agent.toNat e,0)
theorem fO.at{rows:List En}(h:fO rows)(agent:Int):0<=(bg rows agent).epoch/\(bg rows agent).epoch<=1099511627776/\aF (bg rows agent).boot/\aF (bg rows agent).time:=by
 unfold bg
 split
 .simp [En.z,aF]
 cases he:rows[agent.toNat]? with
 | none=>simp[En.z,aF]
 | some e=>exact⟨(h.ep e (VA he)).1,(h.ep e (VA he)).2,h.in64 e (VA he)⟩
theorem fO.set{rows:List En}(h:fO rows){k:Nat}{x:En}(c:0<x.epoch/\x.epoch<=1099511627776)(b:aF x.boot/\aF x.time):fO (rows.set k x) where
 len:=by simp[h.len]
 ep e a:=by
  rcases WX a with a|rfl
  .exact h.ep e a
  .omega
 in64 e a:=by
  rcases WX a with a|rfl
  .exact h.in64 e a
  .exact b
 zero e a:=by
  rcases WX a with a|rfl
  .exact h.zero e a
  .omega
theorem grant_ok{most:Int}{rows:List En}(h:fO rows)(agent boot now:Int):fO (grant most rows agent boot now).1:=by
 unfold grant;have:=h.at agent
 split
 .exact h
 .rename_i hb;simp only[bad,not_or,Int.not_lt]at hb;simp only
  split
  .exact h
  .split
   .exact h
   .split
    .exact h
    .split
     .exact h
     .exact h.set ⟨by simp only;omega,by simp only;omega⟩ ⟨by simp only[aF];omega,by simp only[aF];omega⟩
theorem setR_ok{most:Int}{rows:List En}(h:fO rows)(agent:Int)(e:En):fO (gy most rows agent e).1:=by
 unfold gy
 split
 .exact h
 .rename_i hb;simp only[bad,not_or,Int.not_lt]at hb
  split
  .exact h
  .split
   .exact h
   .exact h.set ⟨by omega,by omega⟩ ⟨by simp only[aF];omega,by simp only[aF];omega⟩
theorem AI{rows:List En}(agent:Int):aL agent (aR 0 rows)=if 0<(bg rows agent).epoch then some (bg rows agent) else none:=by
 by_cases h0:agent<0
 .have:aL agent (aR 0 rows)=none:=fp.2 λh=>by
   obtain⟨p,a,b⟩:=Vh.1 h;have:=pi a;omega
  rw[this,bg,UX h0];rfl
 .have:=AG (i:=0) (l:=rows) (k:=agent.toNat);rw[show ((0+agent.toNat:Nat):Int)=agent by omega]at this;rw[this];unfold bg;rw[UW h0]
  cases rows[agent.toNat]? with
  | none=>simp[En.z]
  | some e=>simp
theorem fO.rowZ{rows:List En}(h:fO rows)(agent:Int)(h0:¬0<(bg rows agent).epoch):bg rows agent=En.z:=by
 unfold bg at h0 ⊢
 split
 .rfl
 rename_i a;rw[UW a]at h0
 cases he:rows[agent.toNat]? with
 | none=>rfl
 | some e=>rw[he]at h0;exact h.zero e (VA he) h0
theorem uj{rows:List En}(h:fO rows){agent:Int}:(aL agent (aR 0 rows)).getD En.z=bg rows agent:=by
 rw[AI]
 split
 .rfl
 .rename_i a;exact (h.rowZ agent a).symm
theorem wW{rows:List En}(h:fO rows){agent:Int}:(aL agent (aR 0 rows)).isSome=decide (0<(bg rows agent).epoch):=by
 rw[AI]
 split
 .rename_i a;simp[a]
 .rename_i a;simp[a]
theorem S8:fO (List.replicate 64 En.z) where
 len:=by simp
 ep e he:=by rw[Yn he];decide
 in64 e he:=by rw[Yn he];simp[En.z,aF]
 zero e he _:=Yn he
theorem wX{rows:List En}(h:fO rows):(aR 0 rows).length<=64:=by
 rw[J9];exact Vu (WV _ _) (Nat.le_of_eq h.len)
namespace Ro
theorem mt56:l9 Tryz.prog 256 2 149 aggE En.z:=qf Tryz.underlying256 (by kernel_rfl)
theorem ko2:nr Tryz.prog 2 aB:=vE Tryz.underlying2
abbrev rollC(rb mb:Nat)(most:Int):aE:=cellsA rb [aB most,.map (some mb)] 259
abbrev mapE(mb:Nat)(rows:List En):aE:=mapA aB aggE mb (aR 0 rows)
section
variable {rb mb sb:Nat}{most:Int}{rows:List En}{F:List aE}{H:aC}{K:KE}
theorem JA{a b n:Int}:bU Tryz.prog 229 #[aB a,aB b,aB n] H (.bool (!decide (bad a b n))):=by
 refine cM 229 28 ⟨congrArg Value.bool ?_,rfl⟩;rw[VH];simp only[Vd,Vc,V1,Ve];omega
theorem New_spec(h:aA H F)(k1:most<1\/64<most->K (.tuple #[.pointer none,aB 11]) H)
  (k2:¬(most<1\/64<most)->∀rb mb b,aA b (rollC rb mb most::mapE mb (List.replicate 64 En.z)::F)->K (.tuple #[.pointer (some ⟨rb,0,none⟩),aB 0]) b) :
  CF 183 #[aB most] H K:=by
 refine cM 183 476 ⟨λa=>k1 (by simpa using a),λa=>?_⟩
 refine h.alm aB aggE λmb _ h=>?_
 refine h.al λrb _ h=>?_
 exact k2 (by simp at a;omega) _ _ _ h
end
section
variable {rb mb sb:Nat}{most:Int}{rows:List En}{F:List aE}{H:aC}{K:KE}
theorem Of_spec(ok:fO rows){agent:Int}(h:aA H (rollC rb mb most::mapE mb rows::F))
  (k:∀b,aA b (rollC rb mb most::mapE mb rows::F)->K (.tuple #[aggE (bg rows agent),.bool (decide (0<(bg rows agent).epoch))]) b) :
  CF 142 #[.pointer (some ⟨rb,0,none⟩),aB agent] H K:=by
 refine cM 142 284 ?_;refine h.al λ_ _ h=>?_;refine⟨_,Ra2,?_⟩
 have a:=h.mp_get mt56 ko2 2 rfl (x:=agent);rw[uj ok,wW ok]at a;refine⟨_,_,_,_,a,?_⟩
 repeat (first|refine h.al λ_ _ h=>?_|refine St2 h λ_ h=>?_|refine⟨_,_,_,Rs2,?_⟩)
 exact k _ h.tl.tl
theorem Is_spec(ok:fO rows){agent epoch:Int}(h:aA H (rollC rb mb most::mapE mb rows::F))
  (k:∀b,aA b (rollC rb mb most::mapE mb rows::F)->K (.bool (decide (0<(bg rows agent).epoch)&&decide ((bg rows agent).epoch=epoch))) b) :
  CF 141 #[.pointer (some ⟨rb,0,none⟩),aB agent,aB epoch] H K:=by
 refine cM 141 284 ?_;refine⟨_,Ra2,?_⟩;have a:=h.mp_get mt56 ko2 1 rfl (x:=agent);rw[uj ok,wW ok]at a;refine⟨_,_,_,_,a,?_⟩;refine h.al λ_ _ h=>?_;refine St2 h λ_ h=>?_;refine⟨_,λ_=>Ra2,?_⟩
 exact k _ h.tl
theorem Grant_spec(ok:fO rows){agent boot now:Int}(h:aA H (rollC rb mb most::mapE mb rows::F))
  (k:∀s,aA s (rollC rb mb most::mapE mb (grant most rows agent boot now).1::F)->
   K (.tuple #[aggE (grant most rows agent boot now).2.1,.bool (grant most rows agent boot now).2.2.1,aB (grant most rows agent boot now).2.2.2]) s) :
  CF 143 #[.pointer (some ⟨rb,0,none⟩),aB agent,aB boot,aB now] H K:=by
 refine cM 143 0x1d12513c13c13cb11c ?_;refine h.al λ_ _ h=>?_
 refine⟨_,JA,λj=>?_,λj=>?_⟩
 .have hb:bad agent boot now:=by simpa using j
  have e:grant most rows agent boot now=(rows,En.z,false,11):=UX hb;rw[e]at k;refine St1 h λ_ h=>?_;refine⟨_,_,_,Rs1,?_⟩
  exact k _ h.tl
 .have hb:¬bad agent boot now:=by simpa using j
  have h0:0<=agent:=by simp only[bad,not_or,Int.not_lt]at hb;omega
  refine⟨_,Ra2,?_⟩;have n:=h.mp_get mt56 ko2 2 rfl (x:=agent);rw[uj ok,wW ok]at n;refine⟨_,_,_,_,n,?_⟩;refine h.al λ_ _ h=>?_;refine St2 h λ_ h=>?_;refine⟨_,λ_=>Ra2,?_⟩
  have y:=ok.at agent;have u:=wX ok;refine⟨λd=>?_,λd=>?_⟩
  .simp only[Vd,Vc]at d;have e:grant most rows agent boot now=(rows,bg rows agent,false,0):=by unfold grant;rw[UW hb];exact UX d
   rw[e]at k
   repeat (first|refine St2 h λ_ h=>?_|refine⟨_,_,_,Rs2,?_⟩)
   exact k _ h.tl.tl
  have n1:¬(0<(bg rows agent).epoch/\(bg rows agent).boot=boot):=λa=>by simp[a.1,a.2]at d
  refine⟨_,λ_=>Ra2,?_⟩
  refine⟨λb=>?_,λb=>?_⟩
  .simp only[Vd,Vc]at b;have e:grant most rows agent boot now=(rows,En.z,false,22):=by unfold grant;rw[UW hb];simp only;rw[UW n1,UX b]
   rw[e]at k;refine St2 h λ_ h=>?_;refine⟨_,_,_,Rs2,?_⟩
   exact k _ h.tl.tl
  have n2:¬(0<(bg rows agent).epoch/\boot<(bg rows agent).boot):=λa=>by simp[a.1,a.2]at b
  refine⟨_,λ_=>Ra2,?_⟩
  refine⟨λf=>?_,λf=>?_⟩
  .simp only[Vd,Vc]at f;have e:grant most rows agent boot now=(rows,En.z,false,17):=by unfold grant;rw[UW hb];simp only;rw[UW n1,UW n2,pO]
   rw[e]at k;refine St2 h λ_ h=>?_;refine⟨_,_,_,Rs2,?_⟩
   exact k _ h.tl.tl
  have n3:¬((bg rows agent).epoch=1099511627776):=λa=>by simp[a]at f
  refine⟨λ_=>trivial,?_⟩;refine⟨_,λ_=>Ra3,?_⟩
  refine⟨_,λ_=>h.mp_len mt56 3 rfl,?_⟩
  refine⟨λ_=>trivial,?_⟩;refine⟨_,λ_=>Ra3,?_⟩
  refine⟨λc=>?_,λc=>?_⟩
  .simp only[Vd,V1,Ve,Vc]at c;have e:grant most rows agent boot now=(rows,En.z,false,20):=by unfold grant;rw[UW hb];simp only;rw[UW n1,UW n2,UW n3,UX ⟨by omega,c.2⟩]
   rw[e]at k;refine St2 h λ_ h=>?_;refine⟨_,_,_,Rs2,?_⟩
   exact k _ h.tl.tl
  have n4:¬((bg rows agent).epoch=0/\full most rows):=λa=>by
   have t:most<=((aR 0 rows).length:Int):=a.2;simp[a.1,t]at c
  have e:grant most rows agent boot now=(rows.set agent.toNat ⟨(bg rows agent).epoch+1,boot,now⟩,⟨(bg rows agent).epoch+1,boot,now⟩,true,0):=by
   unfold grant;rw[UW hb];simp only;rw[UW n1,UW n2,UW n3,UW n4]
  rw[e]at k;have w:i64.wrap ((bg rows agent).epoch+1)=(bg rows agent).epoch+1:=aJ;have m:agent.toNat<rows.length:=by simp only[bad,not_or,Int.not_lt]at hb;rw[ok.len];omega
  have hs:=AH (i:=0) (x:=⟨(bg rows agent).epoch+1,boot,now⟩) (by simp only;omega) m;rw[show ((0+agent.toNat:Nat):Int)=agent by omega]at hs;simp only[mapE]at k;rw[ns hs,<-w]at k
  repeat (first|refine⟨_,Ra3,?_⟩|refine St3 h λ_ h=>?_|refine⟨_,_,_,Rs3,?_⟩)
  refine h.mp_update (α:=En) (v:=⟨_,_,_⟩) mt56 ko2 3 rfl λ_ h=>?_
  repeat (first|refine St3 h λ_ h=>?_|refine⟨_,_,_,Rs3,?_⟩)
  exact k _ h.tl.tl
theorem Set_spec(ok:fO rows){agent:Int}{x:En}(h:aA H (rollC rb mb most::mapE mb rows::F))
  (k:∀j,aA j (rollC rb mb most::mapE mb (gy most rows agent x).1::F)->K (aB (gy most rows agent x).2) j) :
  CF 260 #[.pointer (some ⟨rb,0,none⟩),aB agent,aggE x] H K:=by
 refine cM 260 488750364 ?_;refine h.al λ_ _ h=>?_;refine⟨_,Ra1,?_⟩;refine⟨_,Ra1,?_⟩
 refine⟨_,JA,?_⟩;refine⟨_,λ_=>Ra1,?_⟩;refine⟨_,λ_=>Ra1,?_⟩
 refine⟨λc=>?_,λc=>?_⟩
 .have e:gy most rows agent x=(rows,11):=UX (by
   simp only[Vr,V1,VI,Vc,Bool.not_not]at c;omega)
  rw[e]at k;exact k _ h.tl
 .have n1:¬(bad agent x.boot x.time\/x.epoch<1\/1099511627776<x.epoch):=by
   simp only[Vp,Bool.not_not,Ve]at c;omega
  refine⟨_,Ra2,?_⟩;have f:=h.mp_get mt56 ko2 2 rfl (x:=agent);rw[uj ok,wW ok]at f;refine⟨_,_,_,_,f,?_⟩;refine h.al λ_ _ h=>?_;refine St2 h λ_ h=>?_
  refine⟨λb=>?_,λb=>?_⟩
  .have e:gy most rows agent x=(rows,18):=by unfold gy;rw[UW n1,UX (by simpa using b)]
   rw[e]at k;exact k _ h.tl.tl
  have n2:¬0<(bg rows agent).epoch:=by simpa using b
  refine⟨_,Ra3,?_⟩;refine⟨_,h.mp_len mt56 3 rfl,?_⟩;refine⟨_,Ra3,?_⟩;refine⟨λa=>?_,λa=>?_⟩
  .have e:gy most rows agent x=(rows,20):=by unfold gy;rw[UW n1,UW n2,UX (by simpa using a)]
   rw[e]at k;exact k _ h.tl.tl
  have n3:¬full most rows:=by simpa using a
  have e:gy most rows agent x=(rows.set agent.toNat x,0):=by unfold gy;rw[UW n1,UW n2,UW n3]
  rw[e]at k;refine⟨_,Ra3,?_⟩;refine⟨_,_,_,Rs3,?_⟩;refine h.mp_update (α:=En) (v:=x) mt56 ko2 3 rfl λ_ h=>?_
  have d:agent.toNat<rows.length:=by simp only[bad,not_or,Int.not_lt]at n1;rw[ok.len];omega
  have hs:=AH (i:=0) (x:=x) (by omega) d;rw[show ((0+agent.toNat:Nat):Int)=agent by simp only[bad,not_or,Int.not_lt]at n1;omega]at hs;refine k _ ?_;show aA _ (rollC rb mb most::mapA aB aggE mb (aR 0 (rows.set agent.toNat x))::F);rw[ns hs];exact h.tl.tl
end
section
variable {rb mb sb:Nat}{most:Int}{rows:List En}{F:List aE}{H:aC}{K:KE}
theorem Clone_spec(h:aA H (rollC rb mb most::mapE mb rows::F))
  (k:∀a b c,aA c (rollC a b most::mapE b rows::rollC rb mb most::mapE mb rows::F)->K (.pointer (some ⟨a,0,none⟩)) c) :
  CF 58 #[.pointer (some ⟨rb,0,none⟩)] H K:=by
 refine cM 58 28 ?_;refine⟨_,Ra1,?_⟩;refine⟨_,Ra1,?_⟩;refine ES h 1 rfl λc h _=>⟨_,rfl,?_⟩
 refine⟨h.r 1,?_⟩;refine h.al λ_ _ h=>?_
 exact k _ _ _ h
theorem All_spec(h:aA H F)(k:∀c0 a,aA a (cellsA c0 [.pointer (some ⟨rb,0,none⟩)] 139::F)->K (.func (.func 114) #[] #[.pointer (some ⟨c0,0,none⟩)]) a) :
  CF 53 #[.pointer (some ⟨rb,0,none⟩)] H K:=by
 refine cM 53 28 ?_;refine h.al λ_ _ h=>?_
 exact k _ _ h
theorem All1_spec{l c0:Nat}(ok:fO rows)(A:Nat->aE)(C:aE)
  (h:aA H (A 0::cellsA c0 [.pointer (some ⟨rb,0,none⟩)] 139::rollC rb mb most::mapE mb rows::F))
  (L:∀j (E:j<(aR 0 rows).length) (G:List aE) (y:aC) (w:KE),aA y (A j::G)->(∀f,aA f (A (j+1)::G)->w (.bool true) f)->(∀f,aA f (C::G)->w (.bool false) f)->
   fI Tryz.prog l [aB (aR 0 rows)[j].1,aggE (aR 0 rows)[j].2] y w)
  (k:∀e,aA e (A (aR 0 rows).length::cellsA c0 [.pointer (some ⟨rb,0,none⟩)] 139::rollC rb mb most::mapE mb rows::F)->K (.tuple #[]) e)
  (P:∀e,aA e (C::cellsA c0 [.pointer (some ⟨rb,0,none⟩)] 139::rollC rb mb most::mapE mb rows::F)->K (.tuple #[]) e) :
  CF 114 #[.func (.yield l) #[] #[],.pointer (some ⟨c0,0,none⟩)] H K:=by
 refine cN 114 0x11561239925113994 [[(15,sI)]] ?_;have Q:=wX ok;refine⟨_,Ra3,?_⟩;refine⟨_,Ra3,?_⟩;refine ES h 3 rfl λy J _=>⟨_,rfl,?_⟩
 refine OI ⟨_,_,rfl,?_⟩;refine OJ J 0 rfl (λx M=>?_) (by omega) λa c f D _=>⟨_,_,_,rfl,?_⟩
 .obtain⟨p,I,rfl⟩:=Vh.1 M;have:=pi I;have:=ok.len;unfold aF;omega
 rw[S7]at D;refine⟨λt e=>∃j:Nat,t=j/\j<=(aR 0 rows).length/\aA e (A j::slA 2 1 a (aR 0 rows).length c ((aG (aR 0 rows)).map aB)::mapA aB aggE H.size (aR 0 rows)::cellsA c0 [.pointer (some ⟨rb,0,none⟩)] 139::rollC rb mb most::mapE mb rows::F),
  λt _=>(aR 0 rows).length-t.toNat,⟨0,rfl,V3 _,D.o [2,0,1] 3⟩,?_⟩
 rintro t N ⟨j,rfl,E,s⟩;refine⟨λu=>?_,λu=>?_⟩
 .have b:j<(aR 0 rows).length:=by have:=Va u;omega
  have d:=(s.sl_rd 1 rfl).at (j:=j) (by simpa[aG] using b);have m:(aG (aR 0 rows))[j]'(by simpa[aG] using b)=(aR 0 rows)[j].1:=by simp[aG]
  rw[m]at d;have i:=s.mp_get1 mt56 ko2 2 rfl (x:=(aR 0 rows)[j].1);have n:((aR 0 rows)[j].1,(aR 0 rows)[j].2)∈aR 0 rows:=Vk b;rw[md wV n]at i;refine⟨⟨by omega,by omega⟩,_,_,d.1,_,d.2,_,_,_,i,?_⟩;refine L j b _ N _ s (λO B=>⟨true,rfl,λv=>(by cases v),λ_=>?_⟩) λO B=>⟨false,rfl,λ_=>?_,λv=>(by cases v)⟩
  .conv=>whnf
   rw[aJ];exact⟨⟨j+1,rfl,b,B⟩,by simp only;omega⟩
  .exact P _ (B.o [0] 3)
 .obtain rfl:j=(aR 0 rows).length:=by have:=Vb u;omega
  exact k _ (s.o [0] 3)
end
end Ro
end Go.Proofs.YtaaieblnikcndaaGreatDoor
