/-
  Lemmas for the Fleet: what else they rest on. Conditions: none.
-/
import Derived.Test.YtlmphkpeajnhjaaGreatDoorPR11
set_option linter.unusedVariables false
set_option linter.unusedSimpArgs false
set_option maxRecDepth 100000
set_option maxHeartbeats 16000000
open Go.IntKind (i64 u64 i8 u8 i32 u32 i16 u16)
namespace Go.Proofs.YtlmphkpeajnhjaaGreatDoor
open Go
open Go Go.Maps Go.RowKit
open Go Go.ChangeShapes Go.WideShapes Go.ChangeAt Go.RowKit
abbrev ala(a0:KQ)(a1:Value):Xa:=[.pointer a0,a1]
abbrev q3o(f:FuncId)(l:Xa)(H:aC)(k:Xa->aC->Prop):Prop:=CF f ⟨l⟩ H λu H'=>∃a0 a1 a2 a3 a4 a5 a6 a7 a8 a9 C6 D0 a12 E4 Fz,u=.agg ⟨[aB a0,aB a1,aB a2,aB a3,aB a4,aB a5,aB a6,aB a7,.string a8,.slice a9 C6 D0,.slice a12 E4 Fz]⟩/\k ([aB a0,aB a1,aB a2,aB a3,aB a4,aB a5,aB a6,aB a7,.string a8,.slice a9 C6 D0,.slice a12 E4 Fz]) H'
abbrev q3v(c:Prop)(H:aC)(b o:Nat)(k:Xa->Prop):Prop:=∃a0 a1 a2 a3 a4 a5 a6 a7 a8 a9 C6 D0 a12 E4 Fz,(c->bE H b o ([aB a0,aB a1,aB a2,aB a3,aB a4,aB a5,aB a6,aB a7,aB a8,aB a9,aB C6,aB D0,aB a12,aB E4,aB Fz]))/\k ([aB a0,aB a1,aB a2,aB a3,aB a4,aB a5,aB a6,aB a7,aB a8,aB a9,aB C6,aB D0,aB a12,aB E4,aB Fz])
abbrev q3w(c:Prop)(H:aC)(b o:Nat)(k:Xa->Prop):Prop:=∃a0 a1 a2 a3 a4 a5 a6 a7 a8 a9 C6 D0 a12 E4 Fz,(c->bE H b o ([aB a0,aB a1,aB a2,aB a3,aB a4,aB a5,aB a6,aB a7,.string a8,.slice a9 C6 D0,.slice a12 E4 Fz]))/\k ([aB a0,aB a1,aB a2,aB a3,aB a4,aB a5,aB a6,aB a7,.string a8,.slice a9 C6 D0,.slice a12 E4 Fz])
variable {H:aC}{K:KE}{F:List aF}{e:Et}{Q:aF}{m:Nat}{s:KQ}{c:Int}{w:Fb}{A:List Int}
theorem q43{a:Int}{b:Int}{d:Int}{e:Int}{f:Int}{g:Int}{i:Int}{j:Int}{k:Int}{a0:Int}{a1:Int}{a2:Int}{a3:Int}{a4:Int}{a5:Int}{a6:Int}{a7:Int}{a8:Int}{a9:Int}{b0:Int}{b1:Int}{b2:Int}{l:Nat}{n:Nat}{o:Nat}{p:Nat}{q:Nat}{t:KQ}{u:KQ}(h : AL H (uV a b c d e f g i j k a0 a1 a2 a3 a4) 27 λb7 f0=>AL f0 (AK a5 a6 a7 a8 a9 b0 b1 b2 w t n o u p q) 65 λy f1=>TL 6 [] f1 λf2 c5=>IF (!f2) (K (.bool false) c5) (∀d0:HP,(∀e6 c4,(IF e6 (K (.bool true) c4) (AU c4 b7 0 λf3=>HY 8 (ahV (.agg ⟨f3⟩) s l m) c4 λr1 c6=>IF r1.isNone (AU c6 b7 0 λf4=>agh 9 [.agg ⟨f4⟩] c6 λf5 f6=>TL 10 [.agg ⟨f5⟩] f6 λf7 f8=>K (.bool (!f7)) f8) (HY 18 [.pointer r1] c6 λd2 f9=>HY 19 [.pointer r1] f9 λb5 c7=>IF (d2.isNone||b5.isNone) (K (.bool false) c7) (HO 14 [.pointer r1] c7 λd3=>E3 20 [.pointer r1] c7 λd4 g0=>FI 12 [.pointer r1] g0 λn5 b8 n6 d5=>uU d5 y 0 λg1=>q3o 16 [.agg ⟨g1⟩] d5 λg2 g3=>E3 15 (ala r1 (.agg ⟨g2⟩)) g3 λr v=>aO v y 0 λb4=>lI ((decide (b4=4))=false) v y 0 λb6=>lI (((decide (b4=4))||(decide (b6=5)))=false) v y 0 λb9=>∀d1:HP,(∀e7 c9,(IF e7 (K (.bool true) c9) (HY 18 [.pointer r1] c9 λd6 g4=>HY 19 [.pointer r1] g4 λc0 d7=>IF (d6.isNone||c0.isNone) (K (.bool false) d7) (∀x:HP,(∀e8 e9,(K (.bool e8) e9)->x e8 e9)->FI 25 [.pointer d2] d7 λg5 g6 g7 g8=>FI 25 [.pointer d6] g8 λg9 i0 i1 z=>Q_b 24 (fW g5 g6 g7 g9 i0 i1) z λi2=>JF (i2=true) (FI 27 [.pointer b5] z λi3 i4 i5 i6=>FI 27 [.pointer c0] i6 λi7 i9 k0 b3=>Q_b 26 (fW i3 i4 i5 i7 i9 k0) b3 λc1=>X7 (c1=true) 21 [.pointer c0] b3 λd8=>X7 (c1=true) 21 [.pointer b5] b3 λd9=>X7 ((c1&&(decide (d8=d9)))=true) 14 [.pointer r1] b3 λk1=>JF (((c1&&(decide (d8=d9)))&&(decide (k1=d3)))=true) (E3 20 [.pointer r1] b3 λk2 e0=>JF ((decide (k2=d4))=true) (FI 12 [.pointer r1] e0 λn7 k3 n8 k4=>x (decide ((k3:Int)=(b8:Int))) k4) (x false e0)) (JF (false=true) (FI 12 [.pointer r1] b3 λn9 k5 o0 k6=>x (decide ((k5:Int)=(b8:Int))) k6) (x false b3))) (X7 (false=true) 21 [.pointer c0] z λe1=>X7 (false=true) 21 [.pointer b5] z λe2=>X7 ((false&&(decide (e1=e2)))=true) 14 [.pointer r1] z λk7=>JF (((false&&(decide (e1=e2)))&&(decide (k7=d3)))=true) (E3 20 [.pointer r1] z λk8 e3=>JF ((decide (k8=d4))=true) (FI 12 [.pointer r1] e3 λo1 k9 o2 m0=>x (decide ((k9:Int)=(b8:Int))) m0) (x false e3)) (JF (false=true) (FI 12 [.pointer r1] z λo3 m1 o4 m2=>x (decide ((m1:Int)=(b8:Int))) m2) (x false z))))))->d1 e7 c9)->lI ((!decide (r=10))=true) v y 0 λc2=>lI ((((!decide (r=10))&&(!((decide (c2=0))&&(!decide (r=0)))))=true)/\((((decide (b4=4))||(decide (b6=5)))||(decide (b9=6)))&&(decide (r=19)))=true) v y 6 λe4=>X7 ((((!decide (r=10))&&(!((decide (c2=0))&&(!decide (r=0)))))=true)/\((((decide (b4=4))||(decide (b6=5)))||(decide (b9=6)))&&(decide (r=19)))=true) 21 [.pointer b5] v λe5=>q3w ((((!decide (r=10))&&(!((decide (c2=0))&&(!decide (r=0)))))&&(!(((((decide (b4=4))||(decide (b6=5)))||(decide (b9=6)))&&(decide (r=19)))&&(decide (e5<=e4)))))=false) v y 0 λm3=>JF ((((!decide (r=10))&&(!((decide (c2=0))&&(!decide (r=0)))))&&(!(((((decide (b4=4))||(decide (b6=5)))||(decide (b9=6)))&&(decide (r=19)))&&(decide (e5<=e4)))))=false) (q3o 22 [.agg ⟨m3⟩] v λm4 m5=>TL 23 [.agg ⟨m4⟩] m5 λm6 m7=>d1 (m6&&(decide (r=10))) m7) (d1 true v)))))->d0 e6 c4)->AU c5 b7 0 λm8=>TL 7 (ahV (.agg ⟨m8⟩) s l m) c5 λc8 c3=>q3v (c8=false) c3 b7 0 λm9=>q3w (c8=false) c3 y 0 λn0=>JF (c8=false) (AL c3 n0 65 λn1 n2=>TL 7 (ahV (.agg ⟨m9⟩) (some ⟨n1,0,none⟩) 1 1) n2 λn3 n4=>d0 n3 n4) (d0 true c3))):CF 4 ⟨[(ad6 a b c d e f g i j k a0 a1 a2 a3 a4),.slice s l m,(AM a5 a6 a7 a8 a9 b0 b1 b2 w t n o u p q)]⟩ H K:=cE 0x1d2283c91d11d111112283c911d289 [[(6,sB)],[(106,sB)],[(27,sB)]] h
abbrev adv:Xa:=[aB 0,aB 0,aB 0,aB 0,aB 0,aB 0,aB 0,aB 0,.string (⟨#[]⟩:Fb),.slice none 0 0,.slice none 0 0]
abbrev ahX(a0:Fb):Xa:=[.string a0,.slice none 0 0]
theorem afX{l:Nat}(h : AL H (ahY w s l m) 62 λd r=>AL r (ahX (⟨#[]⟩:Fb)) 81 λf g=>jR g d 0 λt=>AL g (ahX (⟨#[]⟩:Fb)) 81 λc u=>ST u c 0 (ahX t) λv=>∃(e:eH) (q:hZ),e 0 v/\ ∀b a,e b a->dN a d 1 λb5 x b6=>ID (b<x) (dN a c 1 λi j k=>dN a d 1 λy z b7=>IA b z y λa0 a1=>jR a a0 (a1+b.toNat*2) λa2=>dN a d 1 λa3 a4 b8=>IA b a4 a3 λa5 a6=>jR a a5 (a6+b.toNat*2+1) λa7=>AL a (kB a2 a7) 289 λa8 n=>aM n c 1=some (.slice i j k)/\ AP #[79,79] 79 (fW i j k (some ⟨a8,0,none⟩) 1 1) n λa9 b0 b1 b2=>ST b2 c 1 [.slice a9 b0 b1] λo=>e (i64.wrap (b+1)) o/\q (i64.wrap (b+1)) o<q b a) (Jc a c 0 λb3=>ST a f 0 b3 λp=>Jc p f 0 λb4=>K (.agg ⟨b4⟩) p)):CF 70 ⟨[(ad4 w s l m)]⟩ H K:=cE 0x112156213992544c [[(4,sI)]] h
theorem akb{a:Int}{b:Int}{d:Int}{e:Int}{f:Int}{g:Int}{i:Int}{l:Nat}{n:Nat}{o:Nat}{t:KQ}(h : AL H (AK a b c d e f g i w s l m t n o) 65 λj b1=>AL b1 adv 83 λa2 k=>aO k j 0 λr=>aO k j 1 λu=>aO k j 2 λv=>aO k j 3 λx=>aO k j 4 λy=>aO k j 5 λz=>aO k j 6 λa0=>aO k j 7 λa1=>Jc k j 8 λb2=>dN k j 10 λa3 a4 a5=>CF 70 ⟨[.agg ⟨b2⟩]⟩ k λb3 p=>∃a7 a8 a9 b0,b3=(ad4 a7 a8 a9 b0)/\ aM p j 10=some (.slice a3 a4 a5)/\ aM p j 7=some (aB a1)/\ aM p j 6=some (aB a0)/\ aM p j 5=some (aB z)/\ aM p j 4=some (aB y)/\ aM p j 3=some (aB x)/\ aM p j 2=some (aB v)/\ aM p j 1=some (aB u)/\ aM p j 0=some (aB r)/\ FI 66 [.slice a3 a4 a5] p λb4 b5 b6 q=>aM q j 7=some (aB a1)/\ aM q j 6=some (aB a0)/\ aM q j 5=some (aB z)/\ aM q j 4=some (aB y)/\ aM q j 3=some (aB x)/\ aM q j 2=some (aB v)/\ aM q j 1=some (aB u)/\ aM q j 0=some (aB r)/\ ST q a2 0 (AK r u v x y z a0 a1 a7 a8 a9 b0 b4 b5 b6) λa6=>uU a6 a2 0 λb7=>K (.agg ⟨b7⟩) a6):CF 22 ⟨[(AM a b c d e f g i w s l m t n o)]⟩ H K:=cE 28 [] h
open Go.Shelf
open Go.Shelf
open Go.Shelf
open Go.Shelf
open  Go.RowKit Go.Maps Go.Sort Go.Shelf
theorem q3x{b:KQ}{d:Nat}{ys:List Int}(w:aQ H s (A.map U8))(hb:aQ H b (ys.map U8))(xs:A.length<=1099511627776) : bX Tryz.prog 24 #[.slice s A.length m,.slice b ys.length d] H (.bool (decide (A=ys))):=by
 unfold bX;refine cN 24 0x1d21562139925b4c [[(5,sI)]] ⟨λx=>?_,λx=>?_⟩
 .have:A.length≠ys.length:=by grind
  refine⟨?_,rfl⟩;rw[decide_eq_false (λe=>this (by rw[e]))];rfl
 have t:A.length=ys.length:=by grind
 refine⟨λi u=>u=H/\∃k:Nat,i=k/\k<=A.length/\A.take k=ys.take k,λi _=>A.length-i.toNat,⟨rfl,0,rfl,EA _,rfl⟩,?_⟩;rintro i u ⟨rfl,k,rfl,y,v⟩;refine⟨λc=>?_,λc=>?_⟩
 .have f:k<A.length:=by grind
  have n:=w.at f;have a:=hb.at (j:=k) ez;have e3:i64.wrap ((k:Int)+1)=((k+1:Nat):Int):=aN;refine⟨⟨ez,ez⟩,_,_,n.1,_,n.2,⟨ez,ez⟩,_,_,a.1,_,a.2,λh=>?_,λh=>?_⟩
  .have:A[k]≠ys[k]:=by grind
   refine⟨?_,rfl⟩;rw[decide_eq_false (λe=>this (by simp[e]))];rfl
  have:A[k]=ys[k]:=by grind
  conv=>whnf
  rw[e3];refine⟨⟨rfl,k+1,rfl,f,?_⟩,by grind⟩;grind [List.take_succ_eq_append_getElem]
 have:k=A.length:=by grind
 subst this;rw[FL (w_ _),FL ez]at v;exact⟨by rw[RD v];rfl,rfl⟩
open  Go.RowKit Go.Maps Go.Sort Go.Shelf
open  Go.Shelf Go.RowKit Go.Lib Go.Sort
open  Go.RowKit Go.Sort
open  Go.Sort
theorem q3p{w:Wr}(h:aA H (ma Q m w::F)):bX Tryz.prog 21 #[PA m 0] H (aD w.next):=by let⟨mb,wb,e1,e2,h⟩:=jk.1 h;exact cM 21 28 ⟨_,h.r 0,rfl,rfl⟩
open  Go.Shelf Go.RowKit Go.Lib Go.Sort
theorem q46{b:KQ}{c d:Nat}{ys:List Int}(k:aQ H s (A.map aD))(hb:aQ H b (ys.map aD))(B:A.length<=1000000):bX Tryz.prog 26 #[.slice s A.length c,.slice b ys.length d] H (.bool (decide (A=ys))):=by
 refine cN 26 0x1d21562139925b4c [[(5,sI)]] ⟨λi=>?_,λi=>?_⟩;.rw [show decide (A=ys)=false from decide_eq_false λe=>by grind];exact⟨rfl,rfl⟩
 have w:A.length=ys.length:=by grind
 refine⟨λt xs=>xs=H/\∃j:Nat,t=j/\j<=A.length/\A.take j=ys.take j,λt _=>A.length-t.toNat,⟨rfl,0,rfl,EA _,rfl⟩,?_⟩;rintro t m ⟨rfl,j,rfl,C,n⟩;refine⟨λi=>?_,λi=>?_⟩
 .have h:j<A.length:=by grind
  have f:j<ys.length:=ez;have y:i64.wrap ((j:Int)+1)=((j+1:Nat):Int):=by grind [aN]
  have one:∀l:List Int,l.map aD=flat (λv=>[aD v]) l:=λl=>q3f;rw[one]at k hb;have u:aM m (aV s) (aS s+j)=some (aD A[j]):=eu (k.el (λ_=>rfl) h 0 (v:=aD A[j]) rfl);have x:aM m (aV b) (aS b+j)=some (aD ys[j]):=eu (hb.el (λ_=>rfl) f 0 (v:=aD ys[j]) rfl);refine⟨⟨ez,ez⟩,_,_,k.some (λ_=>rfl) ee h,_,u,⟨ez,ez⟩,_,_,hb.some (λ_=>rfl) ee f,_,x,λa=>?_,λa=>?_⟩;.rw [show decide (A=ys)=false from decide_eq_false λe=>by grind];exact⟨rfl,rfl⟩
  have a:A[j]=ys[j]:=by grind
  exact⟨⟨rfl,j+1,y,h,by grind [List.take_succ_eq_append_getElem]⟩,by grind⟩
 have i:=ix i;obtain rfl:j=A.length:=ez;rw[FE,w,FE]at n;rw[show decide (A=ys)=true from RD n];exact⟨rfl,rfl⟩
def aef:List Fb:=[⟨#[110]⟩,⟨#[97,98]⟩,⟨#[97,114,118,83]⟩,⟨#[97,114]⟩,⟨#[107,114]⟩,⟨#[107]⟩,⟨#[107]⟩,⟨#[97,66]⟩,⟨#[]⟩,⟨#[]⟩,⟨#[]⟩,⟨#[75]⟩]
def RU(k:Int):Fb:=if k<0\/12<=k then ⟨#[63]⟩ else (aef[k.toNat]?).getD ⟨#[]⟩
def inS(s:Fb)(c:Int):Bool:=(List.range s.size).any λi=>decide (FJ s i=c)
def q3m(e:Et):List Int:=[e.ag,e.now,e.rd,e.bt,e.val,e.num,e.eS,(e.bs.length:Int),i64.wrap ((e.nm.size:Int)+(e.labs.length:Int))]
abbrev kk9:Fb:=⟨#[97,110,114,98,118,107,75,66,83]⟩
theorem q49(k:Int):(RU k).size<=4:=by
 unfold RU;split;.decide
 rename_i h;obtain⟨j,a⟩:∃j:Nat,k.toNat=j:=⟨_,rfl⟩;rw[a];rcases (ez:j=0\/j=1\/j=2\/j=3\/j=4\/j=5\/j=6\/j=7\/j=8\/j=9\/j=10\/j=11) with rfl|rfl|rfl|rfl|rfl|rfl|rfl|rfl|rfl|rfl|rfl|rfl <;> decide
theorem q41(h:lh e=true):e.kind=0\/e.kind=1\/e.kind=2\/e.kind=3\/e.kind=4\/e.kind=5\/e.kind=6\/e.kind=7\/e.kind=8\/e.kind=9\/e.kind=10\/e.kind=11:=by
 refine Decidable.byContradiction λa=>?_;have:ku e=none:=by unfold ku;grind
 grind [lh]
theorem q4a:w.toList=[]↔w=⟨#[]⟩:=by have h:=SD w ⟨#[]⟩;rw[show (⟨#[]⟩:Fb).toList=[] by simp]at h;grind
theorem aeX(h:lh e=true)(j:Nat)(c:j<9)(b:(q3m e)[j]'(by simpa[q3m] using c)≠0):inS (RU e.kind) (FJ kk9 j)=true:=by have a:=q41 h;unfold lh at h;rcases a with a|a|a|a|a|a|a|a|a|a|a|a <;> unfold ku at h <;> simp[a,YJ,Xe,q4a]at h <;>rcases (ez:j=0\/j=1\/j=2\/j=3\/j=4\/j=5\/j=6\/j=7\/j=8) with rfl|rfl|rfl|rfl|rfl|rfl|rfl|rfl|rfl <;>first
  | (rw[a];decide)
  | (exfalso;apply b;simp[q3m,h];done)
  | (exfalso;apply b;simp[q3m,h];decide)
theorem akl:Fh Tryz.prog 79 289 2 32:=fU kf
theorem ahM(h:aA H F)(k:∀kind,aA kind F->K (.string (RU c)) kind):CF 71 #[aD c] H K:=by
 refine cM 71 4572 (h.al λb d h=>⟨λe=>?_,λe=>?_⟩);.have:RU c=⟨#[63]⟩:=c_ (by grind);rw[this]at k;exact k _ h.tl
 have e:¬(c<0\/12<=c):=by grind
 have h:aA d (ax b (aef.map Value.string) 9::F):=h;have i:c.toNat<aef.length:=by show c.toNat<12;omega
 have f:aT (aef.map Value.string) c.toNat=some (.string (RU c)):=by rw[iE,List.getElem?_map];unfold RU;grind
 have a:aM d b (0+c.toNat)=some (.string (RU c)):=by rw[CB];exact (h.r 0).trans f
 exact⟨⟨ez,ez⟩,_,_,rfl,_,a,k _ h.tl⟩
theorem ajU(hs:w.size<=4):bX Tryz.prog 72 #[.string w,.int .u8 c] H (.bool (inS w c)):=by
 refine cN 72 81440968969182028 [[(5,sI)]] ⟨λt k=>k=H/\∃j:Nat,t=j/\j<=w.size/\∀i,i<j->FJ w i≠c,λt _=>w.size-t.toNat,⟨rfl,0,rfl,EA _,λi h=>cS h ez⟩,?_⟩;rintro t m ⟨rfl,j,rfl,n,d⟩;refine⟨λf=>⟨⟨ez,by grind⟩,λb=>?_,λb=>?_⟩,λf=>?_⟩
 .have a:j<w.size:=by grind
  have:inS w c=true:=List.any_eq_true.2 ⟨j,List.mem_range.2 a,b⟩;rw[this];exact⟨rfl,rfl⟩
 .have a:j<w.size:=by grind
  have e:i64.wrap ((j:Int)+1)=((j+1:Nat):Int):=by grind [aN]
  refine⟨⟨rfl,j+1,e,a,λi hi=>?_⟩,by grind⟩;grind
 obtain rfl:j=w.size:=by grind
 have:inS w c=false:=by grind [inS]
 rw[this];exact⟨rfl,rfl⟩
theorem afU{x:Z_}(h:aA H F)(k:∀B f,(lh e=true->B=true)->aA f F->K (.bool B) f):CF 23 #[.agg ⟨fB e x⟩] H K:=by
 refine cN 23 0x11d121562139925b4c [[(5,sI)]] (h.al λb _ h=>⟨_,h.r 0,ahM h λD h=>⟨_,rfl,_,λ_=>h.r 0,_,λ_=>h.r 0,λd=>?_,λd=>?_⟩⟩)
 .refine k false _ (λm=>?_) h.tl;exfalso;let⟨a0,a1⟩:=XM m;have a:=q41 m;have y:¬e.ag<0:=ez;have C:¬63<e.ag:=ez;have A:((RU e.kind).toList == (⟨#[63]⟩:Fb).toList)=false:=by rcases a with a|a|a|a|a|a|a|a|a|a|a|a <;> rw[a] <;> rw[SD] <;> decide
  grind
 refine⟨_,h.r 0,_,h.r 0,_,h.r 0,_,h.r 0,_,h.r 0,_,h.r 0,_,h.r 0,_,_,_,h.r 0,_,h.r 0,_,_,_,h.r 0,h.al λb1 u h=>?_⟩;have h:aA u (ax b1 ((q3m e).map aD) 2::ax b (fB e x) 83::F):=h;refine⟨λi f=>∃j:Nat,i=j/\j<=9/\aA f (ax b1 ((q3m e).map aD) 2::ax b (fB e x) 83::F),λi _=>9-i.toNat,⟨0,rfl,ez,h⟩,?_⟩;clear h;rintro i v ⟨j,rfl,E,h⟩;refine⟨λt=>?_,λt=>k true _ (λ_=>rfl) h.tl.tl⟩;have c:j<9:=by grind
 have s:i64.wrap ((j:Int)+1)=((j+1:Nat):Int):=by grind [aN]
 have n:j<(q3m e).length:=c;have w:aM v b1 (0+j)=some (aD (q3m e)[j]):=by rw[CB,h.r 0,iE,List.getElem?_map,List.getElem?_eq_getElem n];rfl
 refine⟨⟨ez,ez⟩,_,_,rfl,_,w,λ_=>⟨ez,by show (j:Int)<9;omega⟩,_,λ_=>ajU (q49 _),λd=>?_,λ_=>⟨⟨j+1,s,c,h⟩,by grind⟩⟩;refine k false _ (λm=>?_) h.tl.tl;exfalso;simp only[q_,SO,C5]at d;have:=aeX m j c d.1;grind
theorem q4b{lc:Nat}{ls:List bO}(n:DE Q s (flat cJ ls))(y:ls.length<=1000000)(h:aA H (Q::F)) (k:∀a c e,aA e (Q::F)->K (.agg ⟨[.string w,.slice a ls.length c]⟩) e):CF 70 #[.agg ⟨[.string w,.slice s ls.length lc]⟩] H K:=by
 refine afX (h.al λb _ h=>h.al λb1 _ h=>⟨_,h.r 1,h.al λb2 _ h=>h.st 0 rfl rfl λB h=>⟨λi e=>∃(j:Nat) (a:KQ) (c:Nat),i=j/\j<=ls.length/\aA e (ax b2 [.string w,.slice a j c] 81::ay 289 2 a j c (flat cJ (ls.take j))::ax b1 [.string ⟨#[]⟩,.slice none 0 0] 81::ax b [.string w,.slice s ls.length lc] 62::Q::F),λi _=>ls.length-i.toNat,⟨0,none,0,rfl,EA _,(h.cp 289 2).o [1,0,2,3,4] 5⟩,?_⟩⟩);clear h;rintro i C ⟨j,a,c,rfl,D,h⟩;refine⟨_,_,_,h.r 3,λt=>?_,λt=>?_⟩
 .have d:j<ls.length:=by grind
  have la:i64.wrap ((j:Int)+1)=((j+1:Nat):Int):=by grind [aN]
  have f:=n.at h 4 rfl;have s1:=f.some iI ee d;refine⟨_,_,_,h.r 0,_,_,_,h.rd 3 rfl _,⟨ez,ez⟩,_,_,s1,_,f.el iI d 0 rfl,_,_,_,h.rd 3 rfl _,⟨ez,ez⟩,_,_,s1,_,f.el iI d 1 rfl,h.al λb5 _ h=>⟨h.r 1,h.append (m:=1) (ws:=cJ ls[j]) akl 2 rfl (h.ew 0 rfl) rfl rfl ez ez λv u nm h=>⟨_,_,_,rfl,h.st 1 rfl rfl λx h=>⟨⟨j+1,v,u,la,d,?_⟩,by grind⟩⟩⟩⟩;have e1:flat cJ (ls.take j)++cJ ls[j]=flat cJ (ls.take (j+1)):=by grind [List.take_succ_eq_append_getElem,flat]
  have h:=h.tl;rw[<-e1];exact h
 obtain rfl:j=ls.length:=by grind
 exact⟨_,_,_,_,h.q 0,h.st 2 rfl rfl λA h=>⟨_,_,_,_,h.q 2,k _ _ _ (h.o [4] 5)⟩⟩
theorem ad0{F:List aF}{x:Z_}(hi:ND Q e x)(n:e.bs.length<=500/\e.labs.length<=100)(h:aA H (Q::F))(k:∀f d,aA d (Q::F)->K (.agg ⟨fB e f⟩) d):CF 22 #[.agg ⟨fB e x⟩] H K:=akb (h.al λb _ h=>h.al λb1 _ h=>⟨_,h.r 1,_,h.r 1,_,h.r 1,_,h.r 1,_,h.r 1,_,h.r 1,_,h.r 1,_,h.r 1,_,_,_,_,h.q 1,_,_,_,h.r 1,q4b (F:=ax b1 _ 83::ax b (fB e x) 65::F) hi.lab ez (h.o [2,0,1] 3) λa c j h=>⟨_,_,_,_,rfl,h.r 2,h.r 2,h.r 2,h.r 2,h.r 2,h.r 2,h.r 2,h.r 2,h.r 2,Sf h (λH h=>hi.bs.at h 0 rfl) ez λa2 c2 m h=>⟨_,_,_,rfl,h.r 3,h.r 3,h.r 3,h.r 3,h.r 3,h.r 3,h.r 3,h.r 3,h.st 2 rfl rfl λi h=>⟨_,_,_,_,_,_,_,_,_,_,_,_,_,_,_,h.q 2,k ⟨a,c,a2,c2⟩ _ (h.o [1] 4)⟩⟩⟩⟩)
theorem acV{f:aY}{cr:aY×Int}{B:Bool}(ok:ft f.w)(t:lh e=true->B=true) (j:(((!decide ((Ff f e cr).2=10))&&(!(decide (e.kind=0)&&(!decide ((Ff f e cr).2=0)))))&&(!(((decide (e.kind=4)||decide (e.kind=5))||decide (e.kind=6))&&decide ((Ff f e cr).2=19)&&decide (f.w.next<=e.num))))=false) : (B&&decide ((Ff f e cr).2=10))=true\/(Ff f e cr).1=f:=by
 by_cases hr:lh e=true
 .rw [t hr];by_cases h10:(Ff f e cr).2=10;.left;simp[h10]
  right;have n:(e.kind=0/\(Ff f e cr).2≠0)\/((e.kind=4\/e.kind=5\/e.kind=6)/\(Ff f e cr).2=19/\f.w.next<=e.num):=by
   refine Decidable.byContradiction λi=>?_;rw[not_or]at i;let⟨n1,n2⟩:=i;have:(((!decide ((Ff f e cr).2=10))&&(!(decide (e.kind=0)&&(!decide ((Ff f e cr).2=0)))))&&(!(((decide (e.kind=4)||decide (e.kind=5))||decide (e.kind=6))&&decide ((Ff f e cr).2=19)&&decide (f.w.next<=e.num))))=true:=by
    simp only[q_,SO,C5,Bool.and_eq_false_iff,q2p,v_,E5];refine⟨⟨h10,?_⟩,?_⟩
    .by_cases h0:e.kind=0;.exact .inr (Decidable.byContradiction λh=>n1 ⟨h0,h⟩)
     exact .inl h0
    by_cases h4:e.kind=4\/e.kind=5\/e.kind=6
    .by_cases d:(Ff f e cr).2=19;.exact .inr λh=>n2 ⟨h4,d,h⟩
     exact .inl (.inr d)
    exact .inl (.inl ⟨⟨λh=>h4 (.inl h),λh=>h4 (.inr (.inl h))⟩,λh=>h4 (.inr (.inr h))⟩)
   rw[this]at j;cases j
  have c:f.w.next<=e.num->aK e.num f.w.m=none:=λi=>by cases hm:aK e.num f.w.m with
    | none=>rfl
    | some p=>have:=(ok.keys _ (eD hm)).2;dsimp only at this;omega
  rcases n with ⟨h0,a⟩|⟨b,d,i⟩
  .unfold Ff at a ⊢;rw[b_ (by rw[hr];decide),c_ h0]at a ⊢;split;.rfl
   rename_i s;rw[b_ s]at a;exact cS rfl a
  have hm:=c i;have k:gI f.w e.num=(f.w,(false,0,0,[]),19):=by unfold gI;rw[hm]
  have hd:lD f.w e.num=(f.w,-1,19):=by unfold lD;rw[hm]
  unfold Ff;rw[b_ (by rw[hr];decide)];rcases b with b|b|b;.rw [nO,nO,nO,nO,c_ b];unfold aaz;rw[k];rfl
  .rw [nO,nO,nO,nO,nO,c_ b,k]
  rw [nO,nO,nO,nO,nO,nO,c_ b,hd]
 right;unfold Ff;rw[c_ (eu hr)]
theorem q4c{c:SM}{lc:Nat}{xs:List Ey}{y:Ey}(O:xs.length<=maxLen)(hr:aQ H s (flat mX xs))(h4:∀x∈xs,EyH H x)(hy:EyH H y) : CF 4 #[.agg ⟨iU c⟩,.slice s xs.length lc,.agg ⟨fB y.e y.x⟩] H λv J=>v=.bool true/\eB H J:=by
 have j1:=afn O hr h4;have r9:=hy.ajm;refine q43 ((akn H).al λb _ h=>h.al λb1 _ h=>q03 (h.o [2,1,0] 3) λQ1 H1 k h=>⟨_,rfl,λT=>by simp at T,λ_=>?_⟩);have K:=j1.sub k;have M:=r9.sub k;intro Jn hJ;have A:∀t J,t=(grF c xs||grF c [y])->aA J [Q1,ax b (iU c) 27,ax b1 (fB y.e y.x) 65]->Jn t J:=by
  refine λt H2 ht h=>hJ _ _ ⟨λa=>⟨rfl,Dy k h⟩,λa=>?_⟩;rw[a]at ht;obtain⟨hg,u8⟩:=E5.1 ht.symm;have g1:=(X6 hg).1;have h5:=(X6 u8).2.2 y (CS.2 rfl);refine⟨_,_,_,_,_,_,_,_,_,_,_,_,_,_,_,h.q 1,ZT (c:=c) K hg h (λhn H3 h=>⟨_,rfl,λ_=>⟨_,_,_,_,_,_,_,_,_,_,_,_,_,_,_,h.q 1,adF (c:=c) h λH4 h=>⟨_,_,_,_,_,_,_,_,_,_,_,_,_,_,_,rfl,adB (c:=c) h λH5 h=>⟨_,rfl,⟨by rw[hn];rfl,Dy k h⟩⟩⟩⟩,λa=>cS a eh⟩) λhy Q2 fb ab f H3 D I h=>⟨_,rfl,λa=>cS a eh,λ_=>?_⟩⟩;have j:=I.ok;have fr:=I.fr;have hfc:=j.facts;let⟨r_,Ek,E,R0,LL,n0,kk,h6⟩:=j.gi;have i:=h6.ok ez;have l5:=i.kept;have alw:(Fs f.g.s).length<=10000000000:=Oi i.R.ok i.R.g_ ez;refine Z7 i (h.o [1,0,2,3] 4) λsb H4 h=>⟨some ⟨sb,0,none⟩,rfl,Pl j.w (h.o [2,1,0,3,4] 5) λQ3 wb m1 H5 Z W h=>⟨some ⟨wb,0,none⟩,rfl,λa=>cS a eh,λ_=>?_⟩⟩;have u:=YL j.w W;refine⟨_,Es (h.o [2] 6),Z8 i (h.o [2,0,1,3,4,5] 6) λH6 h=>⟨_,rfl,ZL fr.fl ez (h.o [1,0,2,3,4,5] 6) λQ4 gs ga gc H7 Q h3 hgk h=>⟨_,_,_,rfl,?_⟩⟩⟩;have U:=((M.sub D).sub Z).sub Q;refine⟨_,_,_,_,_,_,_,_,_,_,_,_,_,_,_,h.q 6,ZR U h5 h λQ5 x' H8 G P h=>⟨_,_,_,_,_,_,_,_,_,_,_,_,_,_,_,rfl,?_⟩⟩;have h:=uo G (h.o [2,0,1,3,4,5,6] 7);refine aj_ ⟨j,fr,Kp.refl f⟩ ez P h5 (h.o [1,0,2,3,4,5,6] 7) λQ6 f' r H9 L y3 I' h=>⟨_,rfl,?_⟩;let⟨cr,_,h9,S⟩:=y3;refine⟨_,h.r 6,_,λ_=>h.r 6,_,λ_=>h.r 6,λSK j2=>?_⟩;have n:aH Q2 Q6:=Z.trans (Q.trans (G.trans L));have m2:∀t J,(t=true\/f'=f)->aA J [Q6,gx Q6 fb ab f',ay 71 9 ga gs.length gc (flat fM gs),ma Q3 wb { f.w with m:=m1 },p_ Q2 sb f.g.s,ax b (iU c) 27,ax b1 (fB y.e y.x) 65]->SK t J:=by
   refine λt h8 ht h=>j2 _ _ ⟨λa=>⟨rfl,Dy (k.trans (D.trans n)) h⟩,λa=>?_⟩;have e:f'=f:=ht.resolve_left (by rw[a];decide);rw[e]at h;refine Z7 i (h.o [1,0,2,3,4,5,6] 7) λl0 l6 h=>⟨some ⟨l0,0,none⟩,rfl,Pl j.w (h.o [2,1,0,3,4,5,6,7] 8) λQ7 r0 m2 H12 C Y h=>⟨some ⟨r0,0,none⟩,rfl,λa=>cS a eh,λ_=>?_⟩⟩;have N:=YL j.w Y;intro YG h7;have h:=tZ C (h.o [3,0,1,2,4,5,6,7,8] 9);have h:=tZ (n.trans C) (h.o [6,1,0,2,3,4,5,7,8] 9);refine Nd i.R.ok i.R.g_ ez (h.o [1,0,2,3,4,5,6,7,8] 9) λa1 c1 H13 h=>⟨_,_,_,rfl,Nd i.R.ok i.R.g_ ez (h.o [1,3,0,2,4,5,6,7,8,9] 10) λa2 c2 H14 h=>⟨_,_,_,rfl,⟨_,q3x (h.a_ 3 rfl) (h.a_ 0 rfl) ez,λ_=>?_,λa=>cS (RD rfl) a⟩⟩⟩;refine Z9 u (h.o [8,1,5,6,7,9,10] 11) λa3 c3 H15 h=>⟨_,_,_,rfl,Z9 N (h.o [3,0,1,2,4,5,6,7] 8) λa4 c4 j3 h=>⟨_,_,_,rfl,?_⟩⟩;have hq:bX Tryz.prog 26 #[.slice a3 m1.length c3,.slice a4 m2.length c4] j3 (.bool true):=by
    have e1:(i_ (aJ m1)).length=m1.length:=by rw[tg];simp[aJ]
    have e2:(i_ (aJ m2)).length=m2.length:=by rw[tg];simp[aJ]
    have e3:i_ (aJ m1)=i_ (aJ m2):=I4 ((W.trans Y.symm).map _);have hm:=u.len;have h0:=u.most;have:=q46 (c:=c3) (d:=c4) (h.a_ 2 rfl) (h.a_ 0 rfl) (by rw[e1];dsimp only at hm h0;omega);rw[e1,e2,RD e3]at this;exact this
   refine⟨_,hq,_,λ_=>q3p (h.o [1] 9),_,λ_=>q3p (h.o [3] 9),_,λ_=>Es (h.o [5] 9),λ_=>?_,λa=>cS a eh⟩;refine Z8 i (h.o [5,4,6,7,8] 9) λH17 h=>⟨_,rfl,λ_=>?_,λa=>cS (RD rfl) a⟩;refine ZL fr.fl ez (h.o [1,0,2,3,4] 5) λQ8 r8 ga2 gc2 H18 y2 V alA h=>⟨_,_,_,rfl,h7 _ _ ⟨?_,Dy (k.trans (D.trans (n.trans (C.trans y2)))) h⟩⟩;have e1:r8.length=gs.length:=by have h1:=congrArg List.length h3;have h2:=congrArg List.length V;rw[FW]at h1 h2;omega
   rw[e1];exact congrArg Value.bool (RD rfl)
  refine⟨_,λ_=>h.r 6,_,λ_=>h.r 6,_,λ_=>q3p (h.o [3] 7),_,_,_,_,_,_,_,_,_,_,_,_,_,_,_,λ_=>h.q 6,λT=>?_,λT=>m2 true _ (.inl rfl) h⟩;refine ad0 ((U.sub G).sub L) h5 h λx2 h8 h=>⟨_,_,_,_,_,_,_,_,_,_,_,_,_,_,_,rfl,afU h λB l6 hB h=>⟨_,rfl,m2 _ _ ?_ h⟩⟩;rw[h9,S];rw[S]at T;exact acV j.w hB T
 refine⟨_,_,_,_,_,_,_,_,_,_,_,_,_,_,_,h.q 1,ZS (c:=c) K h λH2 h=>⟨_,rfl,_,_,_,_,_,_,_,_,_,_,_,_,_,_,_,λ_=>h.q 1,_,_,_,_,_,_,_,_,_,_,_,_,_,_,_,λ_=>h.q 2,λa=>?_,λa=>?_⟩⟩
 .refine h.al λb2 H3 h=>?_;have h:aA H3 (ax b2 (flat mX [y]) 65::[Q1,ax b (iU c) 27,ax b1 (fB y.e y.x) 65]):=by
   have e:flat mX [y]=mX y:=by simp[flat]
   rw[e];exact h
  have hK:EyK (ax b2 (flat mX [y]) 65*Q1) (some ⟨b2,0,none⟩) [y]:=⟨λH0 F h=>(iu.1 h).ew 0 rfl,λz hz=>by rw[CS.1 hz];exact M.sub (aH.add _ Q1),by simp[maxLen]⟩;exact ZS (c:=c) hK (iu.2 h) λH4 h=>⟨_,rfl,A _ _ (by rw[a,q33]) (iu.1 h).tl⟩
 have a:grF c xs=true:=eu a;exact A _ _ (by rw[a,Bool.true_or]) h

end Go.Proofs.YtlmphkpeajnhjaaGreatDoor
