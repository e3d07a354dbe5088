/-
  Lemmas for GateQuiet: part 4 of what it rests on. Conditions: none.
-/
import Derived.Test.YtaaieblnikcndaaGreatDoorGC3
set_option linter.unusedVariables false
set_option linter.unusedSimpArgs false
set_option maxRecDepth 100000
set_option maxHeartbeats 16000000
open Go.IntKind (i64 u64 i8 u8 i32 u32 i16 u16)
namespace Go.Proofs.YtaaieblnikcndaaGreatDoor
open Go
def le4(s:Int):List Int:=[s%256,s/256%256,s/65536%256,s/16777216%256]
def eK(bs:List Int):List Int:=bs++le4 (kL bs)
def dZ(bs:List Int):Int×List Int:=
 if bs.length<4 then (15,[]) else if eK (bs.take (bs.length-4))=bs then (0,bs.take (bs.length-4)) else (14,[])
theorem P0(s:Int):aH (le4 s):=by
 intro x a;simp only[le4,Vm,We,or_false]at a
 rcases a with rfl|rfl|rfl|rfl <;> omega
theorem Gr{bs:List Int}(h:aH bs):aH (eK bs):=tH h (P0 _)
theorem rO(bs:List Int):(eK bs).length=bs.length+4:=by simp[eK,le4]
theorem Gs(bs:List Int):dZ (eK bs)=(0,bs):=by
 unfold dZ;rw[rO,nO,Yg];have:(eK bs).take bs.length=bs:=by unfold eK;rw[List.take_left]
 rw[this,UX rfl]
theorem zA{bs p:List Int}(h:dZ bs=(0,p)):bs=eK p:=by
 unfold dZ at h
 split at h
 .cases h
 .split at h
  .rename_i a
   cases h
   exact a.symm
  .cases h
theorem le4_val{s:Int}(h0:0<=s)(f:s<4294967296){a b c d:Int}(i:0<=a/\a<256)(hb:0<=b/\b<256)(e:0<=c/\c<256)(hd:0<=d/\d<256) :
  le4 s=[a,b,c,d]↔a+256*b+65536*c+16777216*d=s:=by
 unfold le4
 constructor
 .intro h;simp only[List.cons.injEq,and_true]at h;omega
 .intro h;simp only[List.cons.injEq,and_true];omega
theorem zB{a m p:Nat}(d:a<2^p)(h:a+m*2^p<4294967296):aY .or .u32 (a:Int) ((m*2^p:Nat):Int)=((a+m*2^p:Nat):Int):=by
 have c:a<4294967296:=by omega
 have b:m*2^p<4294967296:=by omega
 have e3:a ||| m*2^p=a+m*2^p:=by
  rw[Nat.mul_comm m,Nat.or_comm,<-Ym d,W6]
 show u32.wrap ((BitVec.ofInt u32.bits (a:Int) ||| BitVec.ofInt u32.bits ((m*2^p:Nat):Int)).toNat:Int)=_;rw[BitVec.toNat_or,rN c,rN b,e3,u32w (by omega) (by omega)]
theorem sum_code{a b c d:Int}(k:0<=a/\a<256)(hb:0<=b/\b<256)(j:0<=c/\c<256)(hd:0<=d/\d<256) :
  aY .or .u32 (aY .or .u32 (aY .or .u32 (u32.wrap a) (u32.wrap ((u32.wrap b)*2^(min (Int.toNat 8) (u32.bits))))) (u32.wrap ((u32.wrap c)*2^(min (Int.toNat 16) (u32.bits))))) (u32.wrap ((u32.wrap d)*2^(min (Int.toNat 24) (u32.bits))))
   = a+256*b+65536*c+16777216*d:=by
 rw[u32w (x:=a) (by omega) (by omega),u32w (x:=b) (by omega) (by omega),u32w (x:=c) (by omega) (by omega),u32w (x:=d) (by omega) (by omega)];show aY .or .u32 (aY .or .u32 (aY .or .u32 a (u32.wrap (b*256))) (u32.wrap (c*65536))) (u32.wrap (d*16777216))=_;rw[u32w (x:=b*256) (by omega) (by omega),u32w (x:=c*65536) (by omega) (by omega),u32w (x:=d*16777216) (by omega) (by omega)];obtain⟨h,rfl⟩:=Yh k.1;obtain⟨e,rfl⟩:=Yh hb.1;obtain⟨f,rfl⟩:=Yh j.1;obtain⟨i,rfl⟩:=Yh hd.1;have e1:=zB (a:=h) (m:=e) (p:=8) (by omega) (by omega);have e2:=zB (a:=h+e*2^8) (m:=f) (p:=16) (by omega) (by omega);have e3:=zB (a:=h+e*2^8+f*2^16) (m:=i) (p:=24) (by omega) (by omega);rw[show (2:Nat)^8=256 by decide]at e1 e2 e3;rw[show (2:Nat)^16=65536 by decide]at e2 e3;rw[show (2:Nat)^24=16777216 by decide]at e3;have f1:((e*256:Nat):Int)=(e:Int)*256:=Wy ..;have f2:((f*65536:Nat):Int)=(f:Int)*65536:=Wy ..;have f3:((i*16777216:Nat):Int)=(i:Int)*16777216:=Wy ..;rw[f1]at e1;rw[f2]at e2;rw[f3]at e3;rw[e1,e2,e3];omega
theorem last4{bs:List Int}(h:¬bs.length<4):∃a b c d,bs=bs.take (bs.length-4)++[a,b,c,d]/\bs.drop (bs.length-4)=[a,b,c,d]:=by
 have f:(bs.drop (bs.length-4)).length=4:=by rw[Vt];omega
 obtain⟨a,b,c,d,e⟩:∃a b c d,bs.drop (bs.length-4)=[a,b,c,d]:=by
  match hx:bs.drop (bs.length-4),f with
  | [a,b,c,d],_=>exact⟨a,b,c,d,rfl⟩
 exact⟨a,b,c,d,by rw[<-e,VO],e⟩
section
variable {F L:List aE}{H:aC}{K:KE}
theorem Gt{s:Int}(h0:0<=s)(a:s<4294967296) :
  [U8 (u8.wrap s),U8 (u8.wrap (Int.fdiv s (2^(min (Int.toNat 8) (u32.bits))))),U8 (u8.wrap (Int.fdiv s (2^(min (Int.toNat 16) (u32.bits))))),U8 (u8.wrap (Int.fdiv s (2^(min (Int.toNat 24) (u32.bits)))))]=(le4 s).map U8:=by
 obtain⟨n,rfl⟩:=Yh h0;show [U8 (u8.wrap (n:Int)),U8 (u8.wrap (Int.fdiv (n:Int) 256)),U8 (u8.wrap (Int.fdiv (n:Int) 65536)),U8 (u8.wrap (Int.fdiv (n:Int) 16777216))]=_;rw[Wx _ (by decide),Wx _ (by decide),Wx _ (by decide)];rw[show (n:Int)/256=((n/256:Nat):Int) by omega,show (n:Int)/65536=((n/65536:Nat):Int) by omega,show (n:Int)/16777216=((n/16777216:Nat):Int) by omega];rw[oM,oM,oM,oM];unfold le4;simp only[V5,W9,List.cons.injEq,Value.int.injEq,true_and,and_true];omega
theorem Gu{a:KQ}{c:Nat}{bs:List Int}(h:aA H F)(L:∀H,aA H F->aP H a (bs.map U8))(hb:aH bs)(Q:bs.length<=1099511627776)(P:bs.length<=c)
  (k1:∀E D p s,dZ bs=(0,p)->aA s (slA 5 1 E p.length D (p.map U8)::F)->K (.tuple #[.slice E p.length D,.int .i64 0]) s)
  (k2:∀e s,e≠0->dZ bs=(e,[])->aA s F->K (.tuple #[.slice none 0 0,.int .i64 e]) s) :
  CF 79 #[.slice a bs.length c] H K:=by
 refine O4 ?_;refine⟨λd=>?_,λd=>?_⟩
 .have M:bs.length<4:=by simp at d;omega
  exact k2 15 _ (by decide) (by unfold dZ;rw[UX M]) h
 .have i:¬bs.length<4:=by simp at d;omega
  have en:i64.wrap ((bs.length:Int)-4)=((bs.length-4:Nat):Int):=by rw[aJ];omega
  rw[en,Vi];have j:bZ a 0 c 1=a:=sl_same (L _ h) (by intro d;have:=congrArg List.length d;simp at this;subst this;simp at i);rw[j];obtain⟨A,v,w,t,e1,e2⟩:=last4 i;obtain⟨p,C⟩:∃p,bs.take (bs.length-4)=p:=⟨_,rfl⟩;have G:p.length=bs.length-4:=by rw[<-C,Vx];omega
  rw[C]at e1;have n:=(L _ h).subB (k:=bs.length-4) (c:=c) (by simpa using P);rw[<-List.map_drop,e2]at n;have q0:=n 0 _ rfl;have q1:=n 1 _ rfl;have q2:=n 2 _ rfl;have q3:=n 3 _ rfl;refine⟨⟨by omega,by omega,by omega⟩,⟨by omega,by omega,by omega⟩,⟨by omega,by omega⟩,_,_,q0.1,_,q0.2,⟨by omega,by omega⟩,_,_,q0.1,_,q1.2,by decide,⟨by omega,by omega⟩,_,_,q0.1,_,q2.2,by decide,⟨by omega,by omega⟩,_,_,q0.1,_,q3.2,by decide,?_⟩;rw[<-G];have m:∀H,aA H F->aP H a (p.map U8):=λH h=>by
   have:=(L H h).take (bs.length-4)
   rwa[<-List.map_take,C]at this
  refine h.al λb4 S h=>?_
  have O:=zz (c:=1) (parts:=[⟨a,c,p⟩]) (h.ce_rd 0 rfl) (λy u=>by
   rw[Vo]at u;subst u;exact m _ h.tl) (by simp) (λy u=>by rw[Vo]at u;subst u;dsimp only;omega)
  simp only[V6,List.flatMap_nil,V4]at O;refine⟨_,O,?_⟩;have b:∀x∈[A,v,w,t],0<=x/\x<256:=λx d=>hb x (by rw[e1];exact WG _ d)
  have ba:=b A (by simp);have bb:=b v (by simp);have bc:=b w (by simp);have bd:=b t (by simp);rw[sum_code ba bb bc bd];obtain⟨s0,s1⟩:=zv p;have N:=le4_val s0 s1 ba bb bc bd;have B:dZ bs=if eK p=bs then (0,p) else (14,[]):=by unfold dZ;rw[UW i,C]
  have f:eK p=bs↔le4 (kL p)=[A,v,w,t]:=by
   unfold eK
   constructor
   .intro e;rw[e1]at e;exact List.append_cancel_left e
   .intro e;rw[e];exact e1.symm
  refine⟨λd=>?_,λd=>?_⟩
  .have I:¬A+256*v+65536*w+16777216*t=kL p:=by simpa using d
   exact k2 14 _ (by decide) (by rw[B,UW];rw[f,N];exact I) h.tl
  .have J:A+256*v+65536*w+16777216*t=kL p:=by simpa using d
   refine zd h.tl m (by omega) λE D R h=>⟨_,_,_,rfl,k1 _ _ _ _ ?_ h⟩
   rw[B,UX];rw[f,N];exact J
theorem P3{b o c:Nat}{parts:List Fy}(h:aA H F)(ha:∀H,aA H F->aP H (some ⟨b,o,none⟩) (parts.map dY))(Y:∀H,aA H F->∀y∈parts,aP H y.a (y.bs.map U8))(hA:∀y∈parts,y.a=none\/∃b o,y.a=some ⟨b,o,none⟩)
  (hb:∀y∈parts,aH y.bs) (n:2<=parts.length) (hc:parts.length<=c) (hn:parts.length<=1000) (hl:(parts.flatMap Fy.bs).length<=1099511627776) (h6:0<(parts.flatMap Fy.bs).length)
  (k:∀a' c' H',aA H' (slA 5 1 a' (eK (parts.flatMap Fy.bs)).length c' ((eK (parts.flatMap Fy.bs)).map U8)::F)->K (.slice a' (eK (parts.flatMap Fy.bs)).length c') H') :
  CF 179 #[.slice (some ⟨b,o,none⟩) parts.length c] H K:=by
 refine cM 179 4380 ?_;have j2:∀y∈parts,y.bs.length<=1099511627776:=λy I=>by
  refine Vu ?_ hl;obtain⟨s,t,rfl⟩:=List.append_of_mem I;simp only[VW,V6,UZ];omega
 have hq:=zz (c:=c) (ha _ h) (Y _ h) (by omega) j2;refine⟨_,hq,?_⟩;obtain⟨bs,j⟩:∃bs,parts.flatMap Fy.bs=bs:=⟨_,rfl⟩;rw[j]at hl h6 k hq ⊢;obtain⟨s0,s1⟩:=zv bs;have j1:aH bs:=by
  rw[<-j];intro x f;obtain⟨y,I,f⟩:=WK.1 f;exact hb y I x f
 refine .mk λw hw=>?_
 subst hw;have R:∀l:List Fy,Lib.lens (l.map λy=>Lib.bytesOf y.bs)=(l.flatMap Fy.bs).length:=by
  intro l
  induction l with
  | nil=>rfl
  | cons y r ih=>
   simp only[Lib.lens,V5,W0,V6,UZ]at ih ⊢;rw[ih];simp[Lib.bytesOf]
 have G:∀l:List Fy,Lib.join (l.map λy=>Lib.bytesOf y.bs) []=Lib.bytesOf (l.flatMap Fy.bs):=by
  intro l;have:∀l:List Fy,(l.map λy=>Lib.bytesOf y.bs).flatten=Lib.bytesOf (l.flatMap Fy.bs):=by
   intro l
   induction l with
   | nil=>rfl
   | cons y r ih=>simp only[V5,List.flatten_cons,V6,ih];simp[Lib.bytesOf]
  cases l with
  | nil=>rfl
  | cons y r=>
   rw[V5,Lib.join_cons];unfold Lib.joinTail;simp only[VB,List.map_id'];rw[this r];simp[Lib.bytesOf]
 have h7:Lib.PartsAt w ⟨b,o,none⟩ (parts.map dY) (parts.map λy=>Lib.bytesOf y.bs):=by
  refine⟨by simp,λi v Z=>?_,λi v l Z J=>?_⟩
  .rw [iN,cell?_cellAt];exact (ha _ h i v (by rw[fL];exact Z)).2
  .rw [List.getElem?_map,Option.map_eq_some_iff]at Z J;obtain⟨y,I,rfl⟩:=Z;obtain⟨y',O,rfl⟩:=J;rw[I]at O
   cases O
   have hm:y∈parts:=VA I;have E:=Y _ h y hm;refine⟨y.a,y.c,by simp[Lib.bytesOf],λl0=>?_,λa' D i x f=>?_⟩
   .rw [l0]at E;have:=nV E;simp at this;simp[Lib.bytesOf,this]
   .have Q:i<y.bs.length:=by
     have:=(List.getElem?_eq_some_iff.1 f).1;simpa[Lib.bytesOf] using this
    have A:=E.at Q;rw[D]at A
    rcases hA y hm with e|⟨b',o',e⟩
    .rw [D]at e;cases e
    .rw [D]at e
     cases e
     rw[iN,cell?_cellAt];simp only[aV,aS]at A;rw[A.2];simp only[Lib.bytesOf,List.getElem?_map,List.getElem?_eq_getElem Q,V9,Option.some.injEq]at f;rw[<-f,qj (hb y hm)]
 have hs:Lib.HoldsBytes w (.slice none 0 0) []:=⟨none,0,rfl,λ_=>rfl,λa ha=>by cases ha⟩
 have B:=Any.bytes_Join_many Tryz.joinB b o parts.length c (parts.map dY) (parts.map λy=>Lib.bytesOf y.bs) (.slice none 0 0) [] w (by simp) n h7 hc hs (by omega) (by rw[R,j];simp;omega)
 refine jg B ?_;rintro e w' ⟨v',rfl,V,M⟩;refine⟨_,rfl,tn M,?_⟩;rw[G,j]at V;obtain⟨g,cap,u,rfl,l6,N,r9,r0,j3,P,T,h5⟩:=V;have W:(Lib.bytesOf bs).length=bs.length:=by simp[Lib.bytesOf]
 rw[W]at N P ⊢;have hz:u.take bs.length=bs:=by
  have h9:(u.take bs.length).length=bs.length:=by rw[Vx];omega
  refine Wa h9 λi A n=>?_
  have e1:=congrArg (λl:List UInt8=>l[i]?) P
  simp only[Lib.bytesOf,List.getElem?_map,List.getElem?_eq_getElem A,List.getElem?_eq_getElem n,V9,Option.some.injEq]at e1;have b1:=qj (xs:=u.take bs.length) (λx f=>j3 x (VR f)) i A
  have b2:=qj j1 i n;rw[<-b1,<-b2,e1]
 have U:∃(C:Array Value) (S:TypeId) (fr:Nat×Nat),w'.heap[g]?=some (.cells C S fr):=by
  have h0:=T 0 (by omega);unfold World.cell? at h0
  split at h0
  .rename_i C S fr hh;exact⟨C,S,fr,hh⟩
  .cases h0
 obtain⟨C,S,fr,U⟩:=U;have d:∀i,i<cap->C.toList[i]?=some (U8 (u.getD i 0)):=λi hi=>by
  have h0:=T i hi;rw[cell?_cellAt]at h0;unfold aK at h0;rw[U]at h0;simpa using h0
 have r8:cap<=C.toList.length:=by
  rcases WS cap with h0|h0
  .omega
  .have:=(List.getElem?_eq_some_iff.1 (d (cap-1) (by omega))).1;omega
 have l5:C.toList=bs.map U8++C.toList.drop bs.length:=by
  rw[<-VO bs.length C.toList];congr 1
  .refine Wu λi=>?_
   rcases V0 i bs.length with hi|hi
   .rw [List.getElem?_take_of_lt hi,d i (by omega),List.getElem?_map,List.getElem?_eq_getElem hi,V9];have:u.getD i 0=bs[i]:=by
     have A:i<(u.take bs.length).length:=by rw[hz];exact hi
     have n:(u.take bs.length)[i]=bs[i]:=by simp only[hz]
     rw[<-n,List.getElem_take];have h3:i<u.length:=by omega
     rw[List.getD,List.getElem?_eq_getElem h3];rfl
    rw[this]
   .rw [List.getElem?_eq_none (by rw[Vx];omega),List.getElem?_eq_none (by simpa using hi)]
  .rw [VO]
 have L:aA w'.heap (slA 5 1 (some ⟨g,0,none⟩) bs.length cap (bs.map U8)::F):=by
  refine (h.new (rp M) l6 U).mono λp Y=>⟨by simp,.inr ⟨g,[],C.toList.drop bs.length,S,fr,rfl,N,by rw[Vt];omega,λ_ i A n hh=>?_,?_⟩⟩
  .have:=h5 i (by simp at n;omega);unfold World.frozen? at this;rw[U]at this;simp only[VF,Ve]at this;omega
  .rw [VB,<-l5];exact Y
 refine⟨_,_,_,rfl,by decide,by decide,by decide,?_⟩;have h8:=Gt s0 s1;refine L.al λb1 H3 h=>?_
 refine aA.append (m:=4) (ws:=(le4 (kL bs)).map U8) rM h 1 rfl (h.ce_rd 0 (by rw[<-h8];rfl)) (by simp[le4]) (nu (λ_=>rfl) _) (by omega) (by omega) λa3 c3 H4 h4=>⟨_,_,_,rfl,?_⟩
 have:=k a3 c3 H4;unfold eK at this;rw[UZ,show (le4 (kL bs)).length=4 from rfl]at this;refine this ?_;rw[Vv];exact h4.tl
end
structure Rc where
 kind:Int
 data:List Int
 deriving DecidableEq
def gw(r:Rc):List Int:=eK (bQ r.kind.toNat++r.data)
def bM(r:Rc):List Int:=bQ (gw r).length++gw r
structure Rc.ok(r:Rc):Prop where
 k0:0<=r.kind
 k1:r.kind<=255
 len:r.data.length<=262144
 by':aH r.data
def kw(b:List Int):Option Rc:=if (dZ b).1≠0 then none else match rdU 0 0 (dZ b).2 with
 | .ok kind j=>if 255<kind\/262144<(dZ b).2.length-j then none else some ⟨kind,(dZ b).2.drop j⟩
 | _=>none
def iO(b:List Int):Option (Rc×Nat):=match rdU 0 0 b with
 | .ok n k=>if b.length<k+n then none else (kw ((b.drop k).take n)).map λr=>(r,k+n)
 | _=>none
def nF:Nat->List Int->List Rc×Nat
 | 0,_=>([],0)
 | f+1,b=>match iO b with
  | none=>([],0)
  | some (r,n)=>(r::(nF f (b.drop n)).1,n+(nF f (b.drop n)).2)
def eD(b:List Int):List Rc×Nat:=nF b.length b
theorem wp{b:List Int}(hb:aH b):aH (dZ b).2:=by
 unfold dZ
 split
 .intro x a;cases a
 .split
  .exact tI _ hb
  .intro x a;cases a
theorem zC{u:Nat}(h:u<=255):(bQ u).length<=2:=by
 by_cases h1:u<128
 .rw [lD h1];simp
 .rw [nB h1,lD (by omega)];simp
theorem Gv{b:List Int}{r:Rc}(hb:aH b)(h:kw b=some r):b=gw r/\r.ok:=by
 unfold kw at h
 split at h
 .cases h
 .rename_i h0;have a:=wp hb;have h0:(dZ b).1=0:=Classical.not_not.1 h0;obtain⟨p,d⟩:∃p,dZ b=(0,p):=⟨(dZ b).2,by rw[<-h0]⟩;rw[d]at a h;dsimp only at a h;have c:=zA d
  split at h
  .rename_i kind j i
   split at h
   .cases h
   .rename_i m
    cases h
    obtain⟨w,e,k,n,f,_,_,_⟩:=vW a i (by omega);simp only[Nat.mul_zero,Nat.pow_zero,VT,Vw]at e;subst e;rw[Nat.sub_zero]at f;refine⟨?_,⟨by dsimp only;omega,by dsimp only;omega,by simp only[Vt];omega,oO _ a⟩⟩;unfold gw;dsimp only;rw[Vi,f,VO];exact c
  .cases h
theorem P4{r:Rc}(h:r.ok):kw (gw r)=some r:=by
 have h0:=h.k0;have b:=h.k1;have c:=h.len;unfold kw gw;rw[Gs,UW (by simp)];dsimp only;rw[vX r.data (by omega) (by omega) (λa=>UY a (by omega))]
 simp only[Nat.mul_zero,Nat.pow_zero,VT,Vw];rw[UW,WA,WT h0];rw[UZ];omega
theorem tQ{r:Rc}(h:r.ok):(gw r).length<=262150/\5<=(gw r).length:=by
 have h0:=h.k0;have a:=h.k1;have b:=h.len;unfold gw;rw[rO,UZ];have:=zC (u:=r.kind.toNat) (by omega);have:=vV r.kind.toNat
 omega
theorem P5{r:Rc}(h:r.ok):aH (gw r):=Gr (tH (oL _) h.by')
theorem rP{r:Rc}(h:r.ok):aH (bM r):=tH (oL _) (P5 h)
theorem zD{u:Nat}(h:u<=262150):(bQ u).length<=3:=by
 by_cases h1:u<128
 .rw [lD h1];simp
 .rw [nB h1]
  by_cases h2:u/128<128
  .rw [lD h2];simp
  .rw [nB h2,lD (by omega)];simp
theorem qp{r:Rc}(h:r.ok):(bM r).length<=262153/\6<=(bM r).length/\(bM r).length<=r.data.length+9:=by
 have a:=tQ h;have e:=zD a.1;have f:=vV (gw r).length;have b:=h.k1;have c:=zC (u:=r.kind.toNat) (by omega);have d:(gw r).length=(bQ r.kind.toNat).length+r.data.length+4:=by unfold gw;rw[rO,UZ]
 unfold bM;rw[UZ];omega
theorem P6{b:List Int}(hb:aH b)(h:262150<b.length):kw b=none:=by
 cases hr:kw b with
 | none=>rfl
 | some r=>
  obtain⟨a,c⟩:=Gv hb hr;have:=tQ c;rw[a]at h;omega
theorem zE{b:List Int}{r:Rc}{n:Nat}(hb:aH b)(h:iO b=some (r,n)):r.ok/\n<=b.length/\b.take n=bM r/\0<n:=by
 unfold iO at h
 split at h
 .rename_i m k s;obtain⟨w,d,t,x,e,_,_,_⟩:=vW hb s (by omega);simp only[Nat.mul_zero,Nat.pow_zero,VT,Vw]at d;subst d;rw[Nat.sub_zero]at e
  split at h
  .cases h
  .rename_i v;rw[Option.map_eq_some_iff]at h;obtain⟨u,j,f⟩:=h
   cases f
   obtain⟨c,i⟩:=Gv (tI _ (oO _ hb)) j;refine⟨i,by omega,?_,by omega⟩;have a:(gw r).length=m:=by rw[<-c,Vx,Vt];omega
   unfold bM;rw[a,e,<-c,<-List.take_add]
 .cases h
theorem oneM_rec{r:Rc}(h:r.ok)(rest:List Int):iO (bM r++rest)=some (r,(bM r).length):=by
 have b:=tQ h;unfold iO bM;rw[Vj,vX (gw r++rest) (by omega) (by omega) (λa=>UY a (by omega))]
 simp only[Nat.mul_zero,Nat.pow_zero,VT,Vw];rw[UW (by simp only[UZ];omega),WA,List.take_left,P4 h];simp
theorem P7{r:Rc}(h:r.ok){k:Nat}(b:k<(bM r).length):iO ((bM r).take k)=none:=by
 have c:=tQ h;have e:=zD c.1;unfold bM at b ⊢;rw[UZ]at b
 rcases V0 k (bQ (gw r).length).length with a|a
 .rw [WL (by omega)];unfold iO;rw[rdU_part a (by omega)]
 .rw [List.take_append,V2 a];unfold iO;rw[vX _ (by omega) (by omega) (λd=>UY d (by omega))]
  simp only[Nat.mul_zero,Nat.pow_zero,VT,Vw];rw[UX];simp only[UZ,Vx];omega
theorem Gw:∀{f:Nat} {b:List Int},aH b->b.length<=f->nF f b=eD b:=by
 have:∀{n f g:Nat} {b:List Int},aH b->b.length<=n->b.length<=f->b.length<=g->nF f b=nF g b:=by
  intro n
  induction n with
  | zero=>
   intro f g b hb a _ _;have:b=[]:=Wk.1 (by omega);subst this
   cases f <;> cases g <;> rfl
  | succ n ih=>
   intro f g b hb a d c
   cases b with
   | nil=>cases f <;> cases g <;> rfl
   | cons x b=>
    cases f with
    | zero=>simp at d
    | succ f=>
     cases g with
     | zero=>simp at c
     | succ g=>
      simp only[nF]
      cases h:iO (x::b) with
      | none=>rfl
      | some p=>
       obtain⟨r,m⟩:=p;have e:=(zE hb h).2.2.2;have hd:((x::b).drop m).length<=(x::b).length-1:=by rw[Vt];omega
       simp only[Vf]at a d c hd;have:=ih (f:=f) (g:=g) (b:=(x::b).drop m) (oO _ hb) (by omega) (by omega) (by omega);dsimp only;rw[this]
 intro f b hb h;exact this (n:=b.length) hb (Vg _) h (Vg _)
theorem zG{b:List Int}(h:iO b=none):eD b=([],0):=by
 unfold eD
 cases b with
 | nil=>rfl
 | cons x b=>simp only[Vf,nF,h]
theorem zH{b:List Int}{r:Rc}{n:Nat}(hb:aH b)(h:iO b=some (r,n)):eD b=(r::(eD (b.drop n)).1,n+(eD (b.drop n)).2):=by
 have a:=(zE hb h).2.2.2;have e:eD b=nF (b.length+1) b:=(Gw hb (by omega)).symm;rw[e];simp only[nF,h];rw[Gw (oO _ hb) (by rw[Vt];omega)]
theorem P8{r:Rc}(h:r.ok){rest:List Int}(a:aH rest):eD (bM r++rest)=(r::(eD rest).1,(bM r).length+(eD rest).2):=by
 rw[zH (tH (rP h) a) (oneM_rec h rest),WA]
theorem P9{rs:List Rc}(h:∀r∈rs,r.ok):aH (rs.flatMap bM):=by
 intro x a;obtain⟨r,b,a⟩:=WK.1 a;exact rP (h r b) x a
theorem zI:∀{rs:List Rc} {t:List Int},(∀r∈rs,r.ok)->aH t->iO t=none->eD (rs.flatMap bM++t)=(rs,(rs.flatMap bM).length)
 | [],t,_,_,ht=>by simp[zG ht]
 | r::rs,t,h,hb,ht=>by
  have b:=h r Vn;have a:∀x∈rs,x.ok:=λx c=>h x (Vq _ c)
  rw[V6,Vj,P8 b (tH (P9 a) hb),zI a hb ht];simp
theorem PB{rs:List Rc}(h:∀r∈rs,r.ok):eD (rs.flatMap bM)=(rs,(rs.flatMap bM).length):=by
 have:=zI (t:=[]) h (λx a=>by cases a) rfl
 rwa[V4]at this
theorem zJ:∀{n:Nat} {b:List Int},b.length<=n->aH b->(∀r∈(eD b).1,r.ok)/\(eD b).2<=b.length/\(eD b).1.flatMap bM=b.take (eD b).2
 | n,b,hn,hb=>by
  cases h:iO b with
  | none=>rw[zG h];exact⟨λr e=>(by cases e),V3 _,rfl⟩
  | some p=>
   obtain⟨r,m⟩:=p;obtain⟨d,f,c,i⟩:=zE hb h;rw[zH hb h]
   cases n with
   | zero=>omega
   | succ n=>
    obtain⟨i1,i2,i3⟩:=zJ (n:=n) (b:=b.drop m) (by rw[Vt];omega) (oO _ hb);rw[Vt]at i2;refine⟨λx a=>?_,by dsimp only;omega,?_⟩
    .rcases Vm.1 a with rfl|a
     .exact d
     .exact i1 x a
    .rw [V6,i3,<-c,List.take_add]
theorem Gx{b:List Int}(hb:aH b) :
  ((∃e,e≠0/\aZ 262150 ⟨0,b⟩=([],⟨e,b⟩))/\iO b=none)\/
  ∃k n,(aZ 262150 ⟨0,b⟩)=((b.drop k).take n,⟨0,b.drop (k+n)⟩)/\k+n<=b.length/\0<k/\iO b=(kw ((b.drop k).take n)).map λr=>(r,k+n):=by
 unfold aZ iO;simp only[ne_eq,not_true_eq_false,if_false]
 cases hr:rdU 0 0 b with
 | form=>exact .inl ⟨⟨10,by decide,rfl⟩,rfl⟩
 | ended=>exact .inl ⟨⟨15,by decide,rfl⟩,rfl⟩
 | ok n k=>
  have a:=qi hb hr;dsimp only
  by_cases h1:(max 262150 0:Int)<n
  .rw [UX h1];refine .inl ⟨⟨17,by decide,rfl⟩,?_⟩
   split
   .rfl
   .rw [P6 (tI _ (oO _ hb)) (by rw[Vx,Vt];omega)];rfl
  .rw [UW h1]
   by_cases h2:b.length<k+n
   .rw [UX h2,UX h2];exact .inl ⟨⟨15,by decide,rfl⟩,rfl⟩
   .rw [UW h2,UW h2];exact .inr ⟨k,n,rfl,by omega,a.1,rfl⟩
theorem PC{b:List Int}(hb:aH b)(h0:(dZ b).1=0) :
  ((∃e,e≠0/\bX 255 ⟨0,(dZ b).2⟩=(0,⟨e,(dZ b).2⟩))/\kw b=none)\/
  (∃kind j:Nat,bX 255 ⟨0,(dZ b).2⟩=((kind:Int),⟨0,(dZ b).2.drop j⟩)/\j<=(dZ b).2.length/\kw b=if 262144<(dZ b).2.length-j then none else some ⟨kind,(dZ b).2.drop j⟩):=by
 have a:=wp hb;unfold kw bX;obtain⟨p,d⟩:∃p,dZ b=(0,p):=⟨(dZ b).2,by rw[<-h0]⟩;rw[d]at a ⊢;dsimp only at a ⊢;simp only[ne_eq,not_true_eq_false,if_false]
 cases hr:rdU 0 0 p with
 | form=>exact .inl ⟨⟨10,by decide,rfl⟩,rfl⟩
 | ended=>exact .inl ⟨⟨15,by decide,rfl⟩,rfl⟩
 | ok n k=>
  have c:=qi a hr;dsimp only
  by_cases h1:(max 255 0:Int)<n
  .rw [UX h1,UX (Or.inl (by omega))];exact .inl ⟨⟨17,by decide,rfl⟩,rfl⟩
  .rw [UW h1];refine .inr ⟨n,k,rfl,c.2.1,?_⟩
   by_cases h2:262144<p.length-k
   .rw [UX (Or.inr h2),UX h2]
   .rw [nO,UW h2]
structure Ry where
 kind:Int
 y:Fy
def Ry.rc(r:Ry):Rc:=⟨r.kind,r.y.bs⟩
abbrev fT(r:Ry):Os:=[.int .i64 r.kind,dY r.y]
theorem oT(r:Ry):(fT r).length=2:=rfl
def rowsR(rs:List Ry):aE:=star (rs.map λr=>rowY r.y)
theorem Gy(a b:List Ry):rowsR (a++b)=rowsR a*rowsR b:=by unfold rowsR;rw[Vv,sY]
theorem PD(r:Ry):rowsR [r]=rowY r.y:=by unfold rowsR;simp only[V5,W9,star];rw[vw]
theorem zK:∀{rs:List Ry} {H:aC} {F:List aE},aA H (rowsR rs::F)->∀r∈rs,aP H r.y.a (r.y.bs.map U8)
 | [],_,_,_,r,b=>by cases b
 | x::rs,H,F,h,r,b=>by
  have c:aA H (rowY x.y::rowsR rs::F):=gp.1 h
  rcases Vm.1 b with rfl|b
  .exact c.sl_rd 0 rfl
  .exact zK c.tl r b
theorem slb54:SlT Tryz.prog 127 234 2 32:=iM (by kernel_rfl)
section
variable {F L:List aE}{H:aC}{K:KE}
theorem PE{a:KQ}{c:Nat}{bs:List Int}(h:aA H L)(j:∀H,aA H L->aP H a (bs.map U8))(x:bs.length<=1099511627776)
  (k:∀e d f,aA f (slA 5 1 e bs.length d (bs.map U8)::L)->K (.slice e bs.length d) f):CF 300 #[.slice a bs.length c] H K:=by
 refine cM 300 476 ⟨λi=>?_,λi=>?_⟩
 .have:a=none:=by simpa using i
  subst this;have t:=nV (j H h);have:bs=[]:=by simpa using t
  subst this;exact k none 0 H (h.sl_nil 5 1)
 .refine h.al λb w h=>?_
  have u:=j _ h.tl;have v:=aA.sl_pt (cs:=[]) h 1 0 rfl;refine aA.append (m:=bs.length) rM v 0 rfl u (by simp) (nu (λ_=>rfl) _) (by omega) (by omega) λe d f s=>⟨_,_,_,rfl,?_⟩
  have n:aA f (slA 5 1 e (0+bs.length) d ([]++bs.map U8)::L):=s;rw[Vw,VB]at n;have:=k e d f n;rw[<-Vw bs.length]at this;exact this
theorem PF{a:KQ}{c:Nat}{bs:List Int}(h:aA H F)(G:∀H,aA H F->aP H a (bs.map U8))(hb:aH bs)(B:bs.length<=1099511627776)(x:bs.length<=c)
  (k1:∀(r:Ry) n,kw bs=some r.rc->aA n (rowY r.y::F)->K (.tuple #[.agg #[.int .i64 r.kind,dY r.y],.bool true]) n)
  (k2:∀n,kw bs=none->aA n F->K (.tuple #[.agg #[.int .i64 0,.slice none 0 0],.bool false]) n) :
  CF 259 #[.slice a bs.length c] H K:=by
 refine Od ?_;refine h.al λb N h=>?_
 refine Gu h (λH h=>G H h.tl) hb B x (λa1 c1 p C i h=>?_) λe C s i h=>?_
 .refine⟨_,_,_,_,rfl,(λv=>by cases v),λ_=>?_⟩
  have A:p.length<=bs.length:=by
   have:=congrArg List.length (zA i);rw[rO]at this;omega
  have w:aH p:=by have:=wp hb;rwa[i]at this
  have d:=PC hb (by rw[i]);rw[i]at d;dsimp only at d;refine rG h (λH h=>h.sl_rd 0 rfl) (by omega) λrb J h=>⟨_,rfl,?_⟩
  refine tG h w (by dsimp only;omega) (by unfold aF;omega) λO h=>⟨_,rfl,_,mp h,_,λ_=>oN h,λf=>?_,λf=>?_⟩
  .refine h.st 2 rfl rfl λL h=>⟨_,_,_,_,h.q 2,k2 _ ?_ h.tl.tl.tl⟩
   rcases d with ⟨_,E⟩|⟨kind,j,m,I,t⟩
   .exact E
   .rw [t];rw[m]at f;simp only[Vt,decide_true,Bool.not_true,W1,Vc]at f;rw[pO]
  .rcases d with ⟨⟨e,s,m⟩,_⟩|⟨kind,j,m,I,t⟩
   .rw [m]at f;simp[s]at f
   .rw [m]at f h ⊢;dsimp only at h ⊢;simp only[Vt,decide_true,Bool.not_true,W1,Ve]at f;rw[nO]at t;refine⟨_,oN h,?_⟩;dsimp only;have D:i64.wrap ((p.length:Int)-((p.drop j).length:Int))=(j:Nat):=by
     rw[Vt,aJ];omega
    have u:=h.sl_nc 1 rfl;rw[D,Vi];refine⟨⟨by omega,by omega,by omega⟩,?_⟩;rw[show p.length-j=(p.drop j).length by rw[Vt]];refine PE h (λH h=>by
     have:=(h.sl_rd 1 rfl).subB (k:=j) (c:=c1) (by simpa using u)
     rwa[<-List.map_drop]at this) (by rw[Vt];omega) λa5 c5 L h=>⟨_,_,_,rfl,?_⟩
    refine h.st 3 rfl rfl λM h=>⟨_,_,_,_,h.q 3,?_⟩
    refine k1 ⟨kind,⟨a5,c5,p.drop j⟩⟩ _ t ?_;exact h.o [0] 4
 .refine⟨_,_,_,_,rfl,λ_=>?_,λv=>by simp[s]at v⟩
  refine h.st 0 rfl rfl λJ h=>⟨_,_,_,_,h.q 0,k2 _ ?_ h.tl⟩
  unfold kw;rw[i,UX s]
end
section
variable {F L:List aE}{H:aC}{K:KE}
theorem PG{a:KQ}{c:Nat}{bs:List Int}(h:aA H F)(R:∀H,aA H F->aP H a (bs.map U8))(hb:aH bs)(P:bs.length<=1099511627776)
  (k:∀(rs:List Ry) a' c' f,rs.map Ry.rc=(eD bs).1->aA f (slA 234 2 a' rs.length c' (flat fT rs)::rowsR rs::F)->K (.tuple #[.slice a' rs.length c',.int .i64 (eD bs).2]) f) :
  CF 194 #[.slice a bs.length c] H K:=by
 refine cN 194 0x11112a621399512139912139914c [[(4,sS),(5,sI)],[(4,sS),(5,sI)]] ?_;refine rG h R P λrb S h=>⟨_,rfl,λJn hJ=>?_⟩
 have fin:∀la lc (rs:List Ry) (w:Nat) s t f,iO t=none->eD bs=(rs.map Ry.rc++(eD t).1,w+(eD t).2)->aA f (crdA rb s::slA 234 2 la rs.length lc (flat fT rs)::rowsR rs::F)->Jn la rs.length lc w f:=by
  intro la lc rs w s t f C j W;refine hJ _ _ _ _ _ ?_;rw[zG C,V4,Wm]at j;have:=k rs la lc f (by rw[j]) W.tl
  rwa[j]at this
 refine⟨λla N lc b f=>∃(rs:List Ry) (w:Nat),N=rs.length/\b=w/\w<=bs.length/\rs.length<=w/\eD bs=(rs.map Ry.rc++(eD (bs.drop w)).1,w+(eD (bs.drop w)).2)/\
   aA f (crdA rb ⟨0,bs.drop w⟩::slA 234 2 la rs.length lc (flat fT rs)::rowsR rs::F),λ_ _ _ b _=>bs.length-b.toNat,⟨[],0,rfl,rfl,V3 _,V3 _,by simp,?_⟩,?_⟩
 .have M:aA S (rowsR []::crdA rb ⟨0,bs⟩::F):=zi.2 h;have L:=(M.sl_nil 234 2).o [2,0,1] 3;exact L
 rintro la N lc b H2 ⟨rs,w,rfl,rfl,hw,Y,j,h⟩;have d:aH (bs.drop w):=oO _ hb;refine⟨_,oN h,λi=>?_,λi=>?_⟩
 .refine nD h d (by simp only[Vt];omega) (by unfold aF;omega) λH3 h=>⟨_,rfl,_,mp h,λi=>?_,λi=>?_⟩
  .rcases Gx d with ⟨⟨e,x,m⟩,C⟩|⟨kk,n,G,B,I,v⟩
   .rw [m]at h;exact fin _ _ _ _ _ _ _ C j h
   .rw [G]at i;simp at i
  .rcases Gx d with ⟨⟨e,x,m⟩,C⟩|⟨kk,n,G,B,I,v⟩
   .rw [m]at i;simp[x]at i
   .rw [G]at h ⊢;dsimp only at h ⊢;obtain⟨t,u⟩:∃t,((bs.drop w).drop kk).take n=t:=⟨_,rfl⟩;rw[u]at v ⊢;have A:aH t:=by rw[<-u];exact tI _ (oO _ d)
    have Q:t.length<=bs.length:=by rw[<-u];simp only[Vx,Vt];omega
    rw[Vt]at B;refine wb A h λa4 c4 H4 h=>⟨_,_,_,rfl,?_⟩
    have D:=h.sl_nc 0 rfl;refine PF h (λH h=>h.sl_rd 0 rfl) A (by omega) D (λr Z J h=>⟨_,_,_,_,_,rfl,?_⟩) λZ J h=>⟨_,_,_,_,_,rfl,?_⟩
    .refine h.al λb6 O h=>?_
     refine h.st 0 rfl rfl λU h=>⟨(λE=>by cases E),λ_=>⟨_,_,_,_,h.q 0,?_⟩⟩
     rw[J,V9]at v;rw[WM]at h;rintro _ _ rfl rfl;refine h.append1 slb54 4 rfl (by rfl) (by rfl) (by omega) (by omega) λa8 c8 T h=>⟨_,_,_,rfl,?_⟩
     have h:=h.o [3,4,5,1] 6;refine⟨_,oN h,?_⟩;have e1:i64.wrap ((bs.length:Int)-((bs.drop (w+(kk+n))).length:Int))=((w+(kk+n):Nat):Int):=by
      rw[Vt,aJ];omega
     dsimp only
     conv=>whnf
     rw[e1];refine⟨⟨rs++[r],w+(kk+n),by simp,rfl,by omega,by rw[UZ,VN];omega,?_,?_⟩,by simp only[Vi];omega⟩
     .rw [j,zH d v,WM];simp[VQ]
     .rw [Gy,PD,dT,nq,UZ,VN];have M:=h.o [0,1,2,3] 4;have L:aA T (slA 234 2 a8 (rs.length+1) c8 (flat fT rs++fT r)::crdA rb ⟨0,bs.drop (w+(kk+n))⟩::rowsR rs::rowY r.y::F):=h.o [1,0,2,3] 4;have h4:=L.o [2,3,1,0] 4;have V:=gp.2 h4;exact V.o [1,2,0] 3
    .refine h.al λb6 O h=>?_
     refine h.st 0 rfl rfl λU h=>⟨λ_=>?_,(λE=>by cases E)⟩
     rw[J,Option.map_none]at v;exact fin _ _ _ _ _ _ _ v j (h.o [2,3,4] 5)
 .have hd:bs.drop w=[]:=by
   simp at i;exact List.drop_eq_nil_of_le (by omega)
  exact fin _ _ _ _ _ _ _ (by rw[hd];rfl) j h
end
def iv(kind:Int)(n:Nat):Int:=if kind<0\/255<kind then 11 else if 262144<n then 17 else 0
theorem wq{kind:Int}{bs:List Int}(hb:aH bs)(h:iv kind bs.length=0):(⟨kind,bs⟩:Rc).ok:=by
 unfold iv at h
 split at h
 .cases h
 .split at h
  .cases h
  .exact⟨by dsimp only;omega,by dsimp only;omega,by dsimp only;omega,hb⟩
theorem PI{r:Rc}(h:r.ok):iv r.kind r.data.length=0:=by
 have:=h.k0;have:=h.k1;have:=h.len;unfold iv;rw[nO,nO]
section
variable {F L:List aE}{H:aC}{K:KE}
theorem tR{e sz n c:Nat}{a:KQ}{cs:Os}(h:aA H (slA e sz a n c cs::F)):a=none\/∃b o,a=some ⟨b,o,none⟩:=by
 rcases (kr (F:=star F) h).2 with ⟨d,_⟩|⟨b,pre,post,f,fr,d,_⟩
 .exact .inl d
 .exact .inr ⟨_,_,d⟩
theorem PJ{kind:Int}{a:KQ}{c:Nat}{bs:List Int}(h:aA H F)(G:∀H,aA H F->aP H a (bs.map U8))(L:a=none\/∃b o,a=some ⟨b,o,none⟩)(hb:aH bs)(P:bs.length<=1099511627776)
  (k1:∀D C k,iv kind bs.length=0->aA k (slA 5 1 D (bM ⟨kind,bs⟩).length C ((bM ⟨kind,bs⟩).map U8)::F)->K (.tuple #[.slice D (bM ⟨kind,bs⟩).length C,.int .i64 0]) k)
  (k2:∀k,iv kind bs.length≠0->aA k F->K (.tuple #[.slice none 0 0,.int .i64 (iv kind bs.length)]) k) :
  CF 190 #[.agg #[.int .i64 kind,.slice a bs.length c]] H K:=by
 refine cM 190 122140 ?_;refine h.al λb S h=>⟨_,h.r 0,_,λ_=>h.r 0,λB=>?_,λB=>?_⟩
 .have n:kind<0\/255<kind:=by simpa using B
  have e:iv kind bs.length=11:=by unfold iv;rw[UX n]
  have:=k2 _ (by rw[e];decide) h.tl
  rwa[e]at this
 .have n:¬(kind<0\/255<kind):=by simp at B;omega
  refine⟨_,_,_,h.r 0,λi=>?_,λi=>?_⟩
  .have v:262144<bs.length:=by simp at i;omega
   have e:iv kind bs.length=17:=by unfold iv;rw[UW n,UX v]
   have:=k2 _ (by rw[e];decide) h.tl
   rwa[e]at this
  .have w:¬262144<bs.length:=by simp at i;omega
   have e:iv kind bs.length=0:=by unfold iv;rw[UW n,UW w]
   have A:=wq hb e;have t:=tQ A;obtain⟨u,E⟩:∃u:Nat,kind=u:=⟨kind.toNat,by omega⟩;refine⟨_,h.r 0,_,_,_,h.r 0,?_⟩;rw[u64w (x:=kind) (by omega) (by omega)];refine h.al λb1 Q h=>⟨h.r 1,?_⟩
   refine ze (u:=u) h (λH h=>by rw[<-E];exact h.ce_rd 0 rfl) (by omega) λa3 c3 R h=>⟨_,_,_,rfl,h.r 2,?_⟩
   refine h.al λb2 T h=>?_
   have s:=tR h.tl;have j:([⟨a3,c3,bQ u⟩,⟨a,c,bs⟩]:List Fy).flatMap Fy.bs=bQ u++bs:=by simp
   have N:=zC (u:=u) (by omega);have up:=vV u;refine P3 (parts:=[⟨a3,c3,bQ u⟩,⟨a,c,bs⟩]) h (λH h=>h.ce_rd 0 rfl) (λH h y d=>?_) (λy d=>?_) (λy d=>?_) (Vg _) (Vg _) (WH rfl) (by rw[j,UZ];omega) (by rw[j,UZ];omega) λa5 c5 V h=>⟨_,_,_,rfl,?_⟩
   .simp only[Vm,We,or_false]at d
    rcases d with rfl|rfl
    .exact h.sl_rd 1 rfl
    .exact G _ h.tl.tl.tl.tl
   .simp only[Vm,We,or_false]at d
    rcases d with rfl|rfl
    .exact s
    .exact L
   .simp only[Vm,We,or_false]at d
    rcases d with rfl|rfl
    .exact oL _
    .exact hb
   .rw [j]at h ⊢;have I:eK (bQ u++bs)=gw ⟨kind,bs⟩:=by unfold gw;dsimp only;rw[E,Vi]
    rw[I]at h ⊢
    conv=>whnf
    rw[u64w (x:=(((gw ⟨kind,bs⟩).length:Nat):Int)) (by omega) (by omega)];refine h.al λb3 O h=>?_
    refine ze (u:=(gw ⟨kind,bs⟩).length) h (λH h=>h.ce_rd 0 rfl) (by omega) λa7 c7 U h=>⟨_,_,_,rfl,?_⟩
    have M:=zD t.1;refine aA.append (m:=(gw ⟨kind,bs⟩).length) (ws:=(gw ⟨kind,bs⟩).map U8) rM h 0 rfl (h.sl_rd 2 rfl) (by simp) (nu (λ_=>rfl) _) (by omega) (by omega) λa8 c8 J h=>⟨_,_,_,rfl,?_⟩
    have f:=k1 a8 c8 J e;unfold bM at f;rw[UZ,Vv]at f;exact f (h.o [0] 7)
end
def fU(rows:DR):Prop:=∀r∈rows,(0<=r.1/\r.1<=2147483647)/\0<=r.2/\r.2<256
theorem fU.bytes{rows:DR}(h:fU rows)(f:Int):aH (bytesOf f rows):=by
 intro x a;unfold bytesOf at a;obtain⟨r,b,rfl⟩:=Vh.1 a;exact (h r (Wd.1 b).1).2
theorem fU.app{rows:DR}(h:fU rows){f:Int}{bs:List Int}(d:0<=f/\f<=2147483647)(hb:aH bs):fU (rows++bs.map λb=>(f,b)):=by
 intro r a
 rcases Vz.1 a with a|a
 .exact h r a
 .obtain⟨b,c,rfl⟩:=Vh.1 a;exact⟨d,hb b c⟩
theorem fU.take{rows:DR}(h:fU rows)(n:Nat):fU (rows.take n):=λr a=>h r (VR a)
theorem fU.filter{rows:DR}(h:fU rows)(p:Int×Int->Bool):fU (rows.filter p):=λr a=>h r (Wd.1 a).1
structure RL where
 most:Int
 seg:Int
 next:Nat
 syn:Nat
structure RL.ok(s:RL):Prop where
 seg:0<=s.seg/\s.seg<=2147483647
 most:64<=s.most/\s.most<=1048576
 next:s.next<=1099511627776
 syn:s.syn<=1099511627776
def reelA(rb db:Nat)(s:RL):aE:=cellsA rb [.pointer (some ⟨db,0,none⟩),.int .i64 s.most,.int .i64 s.seg,.int .i64 s.next,.int .i64 s.syn] 222
def oU(rows:DR)(s:RL)(n:Nat):Bool:=decide (0<(bytesOf s.seg rows).length)&&decide (s.most<(((bytesOf s.seg rows).length+n:Nat):Int))
def iw(rows:DR)(s:RL)(r:Rc):Int:=
 if iv r.kind r.data.length≠0 then iv r.kind r.data.length else if oU rows s (bM r).length=true/\s.seg=2147483647 then 20 else 0
def dm(rows:DR)(s:RL)(r:Rc):RL:=if iw rows s r≠0 then s else { s with seg:=if oU rows s (bM r).length then s.seg+1 else s.seg,next:=s.next+1 }
def fV(rows:DR)(s:RL)(r:Rc):DR:=if iw rows s r≠0 then rows else rows++(bM r).map λb=>((dm rows s r).seg,b)
def appN(rows:DR)(s:RL)(r:Rc):Int:=if iw rows s r≠0 then -1 else s.next
theorem zL{rows:DR}{s:RL}{r:Rc}(hb:aH r.data)(h:iw rows s r=0):r.ok:=by
 unfold iw at h
 split at h
 .rename_i a;exact UY h a
 .rename_i a;obtain⟨k,d⟩:=r;exact wq hb (Classical.not_not.1 a)
theorem appS_seg{rows:DR}{s:RL}{r:Rc}(h:s.ok):0<=(dm rows s r).seg/\(dm rows s r).seg<=2147483647:=by
 have:=h.seg;unfold dm
 split
 .exact this
 .rename_i a;unfold iw at a;dsimp only
  split
  .rename_i b
   split at a
   .rename_i c;exact UY c a
   .split at a
    .exact UY (by decide) a
    .rename_i d;have:s.seg≠2147483647:=λe=>d ⟨b,e⟩
     omega
  .exact this
section
variable {F L:List aE}{H:aC}{K:KE}{rb db pb:Nat}{rows:DR}{syn:Nat}{s:RL}
theorem Gz{f:Int}(i:rows.length<=1099511627776)(h:aA H (diskX db rows syn::F))
  (k:∀a c e b,aA b (slA 5 1 a (bytesOf f rows).length c ((bytesOf f rows).map U8)::diskX db rows syn::F)->K (.tuple #[.slice a (bytesOf f rows).length c,.int .i64 e]) b) :
  CF 192 #[.pointer (some ⟨db,0,none⟩),.int .i64 f] H K:=by
 refine Pm i h (λd b h=>?_) λd a c b h=>?_
 .have:=k none 0 23 b;rw[d]at this;exact this (h.sl_nil 5 1)
 .exact k a c 0 b h
theorem PK{a:KQ}{c:Nat}{parts:List Fy}(h:aA H F)(D:∀H,aA H F->aP H a (parts.map dY))(G:∀H,aA H F->∀y∈parts,aP H y.a (y.bs.map U8))(O:parts.length<=1099511627776)(L:(parts.flatMap Fy.bs).length<=262144)
  (k:∀v u n,aA n (slA 5 1 v (parts.flatMap Fy.bs).length u ((parts.flatMap Fy.bs).map U8)::F)->K (.slice v (parts.flatMap Fy.bs).length u) n) :
  CF 191 #[.slice a parts.length c] H K:=by
 refine cN 191 0x1121a6123992512139944c [[(3,sS),(8,sI)],[(3,sS)]] ?_;intro Q J;have d:∀j,((parts.take j).flatMap Fy.bs).length<=(parts.flatMap Fy.bs).length:=by
  intro j
  conv=>rhs;rw[<-VO j parts,VW,UZ]
  omega
 refine⟨λw on A i n=>∃j:Nat,i=j/\j<=parts.length/\on=((parts.take j).flatMap Fy.bs).length/\aA n (slA 5 1 w ((parts.take j).flatMap Fy.bs).length A (((parts.take j).flatMap Fy.bs).map U8)::F),λ_ _ _ i _=>parts.length-i.toNat,⟨0,rfl,V3 _,rfl,h.sl_nil 5 1⟩,?_⟩
 rintro w on A i M ⟨j,rfl,N,rfl,h⟩;have E:=d j;refine⟨λs=>?_,λs=>?_⟩
 .have b:j<parts.length:=by simpa using s
  have B:=(D _ h.tl).at b;have I:=G _ h.tl _ (Vk b);have e:=zw b;have f:=d (j+1);rw[e,UZ]at f;refine⟨⟨by omega,by omega⟩,_,_,B.1,_,_,_,B.2,λC=>?_,λ_=>?_⟩
  .have:=Va C;omega
  .refine aA.append (m:=parts[j].bs.length) (ws:=parts[j].bs.map U8) rM h 0 rfl I (by simp) (nu (λ_=>rfl) _) (by omega) (by omega) λa8 c8 P h=>⟨_,_,_,rfl,?_⟩
   conv=>whnf
   rw[aJ (x:=(j:Int)+1)];refine⟨⟨j+1,rfl,b,by rw[e,UZ],?_⟩,by simp only[Vi];omega⟩;rw[e,UZ,Vv];exact h
 .have t:j=parts.length:=by simp at s;omega
  subst t;rw[V8]at h ⊢;refine J _ _ _ _ ?_;exact k _ _ _ h
theorem PM(h:aA H (reelA rb db s::F)):bU Tryz.prog 93 #[.pointer (some ⟨rb,0,none⟩)] H (.int .i64 s.syn):=by
 unfold bU;refine cM 93 28 ?_;exact⟨_,h.r 0,rfl,rfl⟩
theorem G0(h:aA H (reelA rb db s::F)):bU Tryz.prog 97 #[.pointer (some ⟨rb,0,none⟩)] H (.int .i64 s.seg):=by
 unfold bU;refine cM 97 28 ?_;exact⟨_,h.r 0,rfl,rfl⟩
theorem G1(hs:0<=s.seg/\s.seg<=2147483647)(h:aA H (reelA rb db s::F))
  (k1:s.seg=2147483647->∀a,aA a (reelA rb db s::F)->K (.tuple #[.int .i64 (-1),.int .i64 20]) a)
  (k2:s.seg≠2147483647->∀a,aA a (reelA rb db { s with seg:=s.seg+1 }::F)->K (.tuple #[.int .i64 (s.seg+1),.int .i64 0]) a) :
  CF 95 #[.pointer (some ⟨rb,0,none⟩)] H K:=by
 refine cM 95 7452 ?_;refine⟨_,h.r 0,λb=>k1 (by simpa using b) _ h,λb=>⟨_,h.r 0,?_⟩⟩
 conv=>whnf
 rw[aJ (x:=s.seg+1)];exact h.st 0 rfl rfl λa h=>⟨_,h.r 0,k2 (by simpa using b) _ h⟩
theorem G2(h:aA H (reelA rb db s::diskX db rows syn::F))(k:∀a,aA a (reelA rb db { s with syn:=s.next }::diskX db rows rows.length::F)->K (.tuple #[]) a) :
  CF 40 #[.pointer (some ⟨rb,0,none⟩)] H K:=by
 refine cM 40 20 ?_;refine⟨_,h.r 0,?_⟩;refine Pl (F:=reelA rb db s::F) (h.o [1,0] 2) λb h=>⟨rfl,_,h.r 1,?_⟩
 exact h.st 1 rfl rfl λa h=>k _ (h.o [1,0] 2)
theorem G3{a:KQ}{c:Nat}{parts:List Fy}{kind:Int}(hs:s.ok)(hB:rows.length<=549755813888)(h:aA H (reelA rb db s::diskX db rows syn::F))
  (A:∀H,aA H F->aP H a (parts.map dY)) (w:∀H,aA H F->∀y∈parts,aP H y.a (y.bs.map U8)) (hb:aH (parts.flatMap Fy.bs)) (Q:parts.length<=1099511627776) (I:(parts.flatMap Fy.bs).length<=262144)
  (k:∀n,aA n (reelA rb db (dm rows s ⟨kind,parts.flatMap Fy.bs⟩)::diskX db (fV rows s ⟨kind,parts.flatMap Fy.bs⟩) syn::F)->
   K (.tuple #[.int .i64 (appN rows s ⟨kind,parts.flatMap Fy.bs⟩),.int .i64 (iw rows s ⟨kind,parts.flatMap Fy.bs⟩)]) n) :
  CF 96 #[.pointer (some ⟨rb,0,none⟩),.int .i64 kind,.slice a parts.length c] H K:=by
 refine O1 ?_;have t:=hs.seg;have R:=hs.most;have S:=hs.next;refine PK h (λH h=>A H h.tl.tl) (λH h=>w H h.tl.tl) Q I λa1 c1 Y h=>⟨_,_,_,rfl,?_⟩
 obtain⟨d,hd⟩:∃d,parts.flatMap Fy.bs=d:=⟨_,rfl⟩;rw[hd]at hb I h k ⊢;refine PJ h (λH h=>h.sl_rd 0 rfl) (tR h) hb (by omega) (λa2 c2 J j h=>⟨_,_,_,_,rfl,(λf=>by cases f),λ_=>?_⟩) λJ j h=>⟨_,_,_,_,rfl,λ_=>?_,λf=>by simp[j]at f⟩
 .have u:=qp (wq hb j);have E:=rP (wq hb j);dsimp only at u;obtain⟨r,L⟩:∃r:Rc,(⟨kind,d⟩:Rc)=r:=⟨_,rfl⟩;have G:iv r.kind r.data.length=0:=by rw[<-L];exact j
  rw[L]at h u E k ⊢;have T:=tN s.seg rows;refine⟨_,h.r 2,_,h.r 2,?_⟩;refine Gz (F:=slA 5 1 a2 (bM r).length c2 ((bM r).map U8)::slA 5 1 a1 d.length c1 (d.map U8)::reelA rb db s::F) (by omega) (h.o [3,0,1,2] 4) λa3 c3 e3 W h=>⟨_,_,_,_,rfl,λ_=>trivial,_,λ_=>h.r 4,λJn N=>?_⟩
  have U:i64.wrap (((bytesOf s.seg rows).length:Int)+((bM r).length:Int))=(((bytesOf s.seg rows).length+(bM r).length:Nat):Int):=by rw[aJ];omega
  have O:(decide ((0:Int)<((bytesOf s.seg rows).length:Int))&&decide (s.most<(((bytesOf s.seg rows).length+(bM r).length:Nat):Int)))=oU rows s (bM r).length:=by
   unfold oU;congr 1;exact decide_eq_decide.2 (by omega)
  rw[U,O];have e:∀g n,0<=g/\g<=2147483647->iw rows s r=0->dm rows s r={ s with seg:=g,next:=s.next+1 }->aA n (reelA rb db { s with seg:=g }::diskX db rows syn::slA 5 1 a2 (bM r).length c2 ((bM r).map U8)::F)->yV.r1 rb 0 K a2 (bM r).length c2 n:=by
   intro g n V e0 M h;unfold yV.r1;refine⟨_,h.r 0,_,h.r 0,?_⟩;refine h.al λb D h=>⟨h.r 1,h.r 1,?_⟩
   have B:([⟨a2,c2,bM r⟩]:List Fy).flatMap Fy.bs=bM r:=by simp
   refine Pq (F:=cellsA b [.slice a2 (bM r).length c2] 43::reelA rb db { s with seg:=g }::slA 5 1 a2 (bM r).length c2 ((bM r).map U8)::F) (pc:=1) (parts:=[⟨a2,c2,bM r⟩]) (by rw[B];omega) (by simp) (λH h=>⟨h.ce_rd 0 rfl,λp w=>by
    rw[Vo]at w;subst w;exact h.sl_rd 2 rfl⟩) (h.o [2,0,1,3] 4) (λf=>UY f (by dsimp only;omega)) λ_ Z h=>⟨_,rfl,(λf=>by cases f),λ_=>⟨_,h.r 2,?_⟩⟩
   conv=>whnf
   rw[aJ (x:=(s.next:Int)+1)];refine h.st 2 rfl rfl λP h=>⟨_,h.r 2,?_⟩
   have i:=k P;rw[show appN rows s r=s.next by unfold appN;rw[UW (by rw[e0];decide)],e0,show fV rows s r=rows++(bM r).map (λb=>(g,b)) by unfold fV;rw[UW (by rw[e0];decide),M],M]at i
   have en:i64.wrap (((s.next:Int)+1)-1)=s.next:=by rw[aJ];omega
   conv=>whnf
   rw[en];refine i ?_;have A:jj g [(⟨a2,c2,bM r⟩:Fy)]=(bM r).map (λb=>(g,b)):=by simp[jj]
   have h:=h.o [2,0] 4;rw[<-A];exact h
  have e0:iw rows s r=if oU rows s (bM r).length=true/\s.seg=2147483647 then 20 else 0:=by unfold iw;rw[UW (by rw[G];decide)]
  refine⟨λv=>?_,λv=>?_⟩
  .refine G1 (F:=slA 5 1 a3 (bytesOf s.seg rows).length c3 ((bytesOf s.seg rows).map U8)::diskX db rows syn::slA 5 1 a2 (bM r).length c2 ((bM r).map U8)::slA 5 1 a1 d.length c1 (d.map U8)::F) t (h.o [4,0,1,2,3] 5) (λhm D h=>⟨_,_,rfl,λ_=>?_,(λf=>by cases f)⟩) λhm D h=>⟨_,_,rfl,(λf=>by cases f),λ_=>N _ ?_⟩
   .rw [UX ⟨v,hm⟩]at e0;have i:=k D;unfold appN dm fV at i;rw[e0,UX (by decide),UX (by decide),UX (by decide)]at i;exact i (h.o [0,2] 5)
   .rw [UW (λC=>hm C.2)]at e0
    exact e (s.seg+1) _ (by omega) e0 (by unfold dm;rw[UW (by rw[e0];decide),UX v]) (h.o [0,2,3] 5)
  .have m:oU rows s (bM r).length=false:=v;rw[UW (λC=>by rw[C.1]at m;cases m)]at e0
   exact N _ (e s.seg _ t e0 (by unfold dm;rw[UW (by rw[e0];decide),m];rfl) (h.o [4,1,2] 5))
 .have e0:iw rows s ⟨kind,d⟩=iv kind d.length:=by unfold iw;dsimp only;rw[UX j]
  have i:=k J;unfold appN dm fV at i;rw[e0,UX j,UX j,UX j]at i;exact i (h.o [1,2] 3)
end
def dv(rows:DR):List Rc:=(bB rows).flatMap λf=>(eD (bytesOf f rows)).1
def iP(rows:DR):Int:=match (bB rows)[(bB rows).length-1]? with
 | none=>0
 | some f=>f+1
def ft(most:Int)(rows:DR):Int:=if most<64\/1048576<most then 11 else if 2147483647<iP rows then 20 else 0
def iy(below:Int)(rows:DR):DR:=rows.filter λr=>decide (below<=r.1)
theorem G4{b:List Int}(hb:aH b):(eD b).1.length<=b.length:=by
 obtain⟨e,i,f⟩:=zJ (Vg _) hb;have d:=congrArg List.length f;rw[Vx]at d;have:∀a:List Rc,(∀r∈a,r.ok)->a.length<=(a.flatMap bM).length:=by
  intro a
  induction a with
  | nil=>intro _;simp
  | cons r a ih=>
   intro h;have e1:=qp (h r Vn);have e2:=ih λx c=>h x (Vq _ c)
   rw[V6,UZ,Vf];omega
 have:=this _ e;omega
theorem PN(rows:DR):(bB rows).Nodup:=(oP rows).imp λh=>by omega
theorem zM{rows:DR}(h:fU rows):(dv rows).length<=rows.length:=by
 have a:=zl rows (bB rows) (PN rows) λr b=>jy.2 (Vh.2 ⟨r,b,rfl⟩)
 rw[<-a];unfold dv;generalize bB rows=l
 induction l with
 | nil=>simp
 | cons f l ih=>
  rw[V6,UZ,V5,W0];have:=G4 (h.bytes f);omega
theorem G5{α β:Type}(f:α->List β)(l:List α)(j:Nat):((l.take j).flatMap f).length<=(l.flatMap f).length:=by
 conv=>rhs;rw[<-VO j l,VW,UZ]
 omega
theorem PS{α β:Type}(f:α->List β){l:List α}{j:Nat}(h:j<l.length):(l.take (j+1)).flatMap f=(l.take j).flatMap f++f l[j]:=by
 rw[VE h,VW];simp
theorem tS{rows:DR}{n:Nat}(h:n+1=(bB rows).length):∃f,(bB rows)[n]?=some f/\iP rows=f+1/\f∈bB rows:=by
 have a:n<(bB rows).length:=by omega
 refine⟨_,List.getElem?_eq_getElem a,?_,Vk a⟩;unfold iP;rw[<-h,Yg,List.getElem?_eq_getElem a]
theorem wr{rows:DR}(h:(bB rows).length=0):iP rows=0:=by
 unfold iP;rw[Wk.1 h];rfl
theorem fU.file{rows:DR}(h:fU rows){f:Int}(a:f∈bB rows):0<=f/\f<=2147483647:=by
 obtain⟨r,b,rfl⟩:=Vh.1 (jy.1 a);exact (h r b).1
theorem G6{rows:DR}(h:fU rows):0<=iP rows/\iP rows<=2147483648:=by
 cases hn:(bB rows).length with
 | zero=>rw[wr hn];omega
 | succ n=>
  obtain⟨f,b,c,a⟩:=tS hn.symm;have:=h.file a;omega
def jQ(below:Int)(rows:DR)(j:Nat):DR:=rows.filter λr=>!(decide (r.1∈(bB rows).take j)&&decide (r.1<below))
theorem PT(below:Int)(rows:DR):jQ below rows 0=rows:=by
 unfold jQ;simp
theorem PU(below:Int)(rows:DR):jQ below rows (bB rows).length=iy below rows:=by
 unfold jQ iy;refine WU λr a=>?_
 rw[V8,Vs (jy.2 (Vh.2 ⟨r,a,rfl⟩)),WB,<-decide_not];exact decide_eq_decide.2 (by omega)
theorem PW{below:Int}{rows:DR}{j:Nat}(h:j<(bB rows).length) :
  jQ below rows (j+1)=if (bB rows)[j]<below then (jQ below rows j).filter (λr=>decide (r.1≠(bB rows)[j])) else jQ below rows j:=by
 have hm:∀x,decide (x∈(bB rows).take (j+1))=(decide (x∈(bB rows).take j)||decide (x=(bB rows)[j])):=by
  intro x;rw[<-Bool.decide_or];refine decide_eq_decide.2 ?_;rw[VE h,Vz,Vo]
 split
 .rename_i b;unfold jQ;rw[List.filter_filter];refine WU λr d=>?_
  rw[hm]
  by_cases e:r.1=(bB rows)[j]
  .rw [Vs e,show decide (r.1≠(bB rows)[j])=false from VK λc=>c e,show decide (r.1<below)=true from Vs (by rw[e];exact b)]
   simp
  .rw [VK e,show decide (r.1≠(bB rows)[j])=true from Vs e,Bool.or_false,WB]
 .rename_i a;unfold jQ;refine WU λr d=>?_
  rw[hm]
  by_cases e:r.1=(bB rows)[j]
  .rw [show decide (r.1<below)=false from VK (by rw[e];exact a),Bool.and_false,Bool.and_false]
  .rw [VK e,Bool.or_false]
section
variable {F L:List aE}{H:aC}{K:KE}{rb db pb:Nat}{rows:DR}{syn:Nat}{s:RL}
theorem PX{below:Int}(w:rows.length<=1099511627776)(hs:syn<=rows.length)(h:aA H (reelA rb db s::diskX db rows syn::F))
  (k1:syn<rows.length->∀b,aA b (reelA rb db s::diskX db rows syn::F)->K (.int .i64 21) b)
  (k2:¬syn<rows.length->∀b,aA b (reelA rb db s::diskX db (iy below rows) (iy below rows).length::F)->K (.int .i64 0) b) :
  CF 94 #[.pointer (some ⟨rb,0,none⟩),.int .i64 below] H K:=by
 refine cN 94 0x1d21561239925117494c [[],[(19,sI)]] ?_;refine⟨_,h.r 0,?_⟩;refine zq (F:=reelA rb db s::F) w (h.o [1,0] 2) λJ h=>⟨_,rfl,λc=>?_,λc=>?_⟩
 .have:=Va c;exact k1 (by omega) _ (h.o [1,0] 2)
 .have c:=Vb c;have n:syn=rows.length:=by omega
  refine⟨_,h.r 1,?_⟩;refine Gl w h λm u E h=>⟨_,_,_,rfl,?_⟩
  have B:=Gn rows;refine⟨λi b=>∃j:Nat,i=j/\j<=(bB rows).length/\aA b (slA 3 1 m (bB rows).length u ((bB rows).map aD)::diskX db (jQ below rows j) (jQ below rows j).length::reelA rb db s::F),λi _=>(bB rows).length-i.toNat,⟨0,rfl,V3 _,?_⟩,?_⟩
  .rw [PT,<-n];exact h
  rintro i I ⟨j,rfl,G,h⟩;refine⟨λc=>?_,λc=>?_⟩
  .have f:j<(bB rows).length:=by simpa using c
   have k:=(h.sl_rd 0 rfl).at f;refine⟨⟨by omega,by omega⟩,_,_,k.1,_,k.2,λD C=>?_⟩
   have a:=PW (below:=below) f;have next:∀b,aA b (slA 3 1 m (bB rows).length u ((bB rows).map aD)::diskX db (jQ below rows (j+1)) (jQ below rows (j+1)).length::reelA rb db s::F)->D b:=by
    intro b h;refine C _ ?_
    conv=>whnf
    rw[aJ (x:=(j:Int)+1)];exact⟨⟨j+1,rfl,f,h⟩,by simp only[Vi];omega⟩
   refine⟨λd=>⟨_,h.r 2,?_⟩,λd=>?_⟩
   .have d:(bB rows)[j]<below:=Va d;rw[UX d]at a;refine Pn (F:=slA 3 1 m (bB rows).length u ((bB rows).map aD)::reelA rb db s::F) (h.o [1,0,2] 3) (λv A h=>⟨_,rfl,next _ ?_⟩) (λ_ y=>UY y (Nat.lt_irrefl _)) λv _ A h=>⟨_,rfl,next _ ?_⟩
    .have e:(jQ below rows j).filter (λr=>decide (r.1≠(bB rows)[j]))=jQ below rows j:=by
      refine WQ.2 λr k=>?_
      have:¬r.1=(bB rows)[j]:=λe=>by
       have:=Gb.2 (Vh.2 ⟨r,k,e⟩);exact this v
      simp[this]
     rw[a,e];exact h.o [1,0,2] 3
    .rw [a];exact h.o [1,0,2] 3
   .have d:¬(bB rows)[j]<below:=Vb d;rw[UW d]at a;refine next _ ?_;rw[a];exact h
  .have t:j=(bB rows).length:=by simp at c;omega
   subst t;rw[PU]at h;exact k2 (by omega) _ (h.o [2,1] 3)
end
section
variable {F L:List aE}{H:aC}{K:KE}{rb db pb:Nat}{rows:DR}{syn:Nat}{s:RL}{most:Int}
abbrev opS(most:Int)(rows:DR):RL:=⟨most,iP rows,(dv rows).length,(dv rows).length⟩
def qq(rows:DR)(j:Nat):List Rc:=((bB rows).take j).flatMap λf=>(eD (bytesOf f rows)).1
theorem G7(h:fU rows)(j:Nat):(qq rows j).length<=rows.length:=Vu (G5 _ _ _) (zM h)
theorem PY{j:Nat}(h:j<(bB rows).length):qq rows (j+1)=qq rows j++(eD (bytesOf (bB rows)[j] rows)).1:=PS _ h
theorem allJ_all:qq rows (bB rows).length=dv rows:=by unfold qq dv;rw[V8]
theorem PZ{a b:List Ry}(h:aA H (rowsR a::rowsR b::F)):aA H (rowsR (a++b)::F):=by rw[Gy];exact gp.2 h
theorem G8(r:Ry):cR (fT r)=true:=rfl
theorem Qa(ok:fU rows)(N:rows.length<=1099511627776)(h:aA H (diskX db rows syn::F))
  (k1:ft most rows=0->∀(rs:List Ry) a c rb k,rs.map Ry.rc=dv rows->aA k (reelA rb db (opS most rows)::slA 234 2 a rs.length c (flat fT rs)::rowsR rs::diskX db rows syn::F)->
   K (.tuple #[.pointer (some ⟨rb,0,none⟩),.slice a rs.length c,.int .i64 0]) k)
  (k2:ft most rows≠0->∀k,aA k (diskX db rows syn::F)->K (.tuple #[.pointer none,.slice none 0 0,.int .i64 (ft most rows)]) k) :
  CF 99 #[.pointer (some ⟨db,0,none⟩),.int .i64 most] H K:=by
 refine cN 99 0x1d1121749d12156123992511144c [[(9,sS),(38,sI)],[(8,sI)]] ?_;refine⟨λd=>?_,λd=>?_⟩
 .have hm:most<64\/1048576<most:=by simpa using d
  have e:ft most rows=11:=by unfold ft;rw[UX hm]
  have:=k2 (by rw[e];decide) _ h
  rwa[e]at this
 have hm:¬(most<64\/1048576<most):=by simp at d;omega
 have V:=G6 ok;refine Gl N h λA C H1 h=>⟨_,_,_,rfl,λJn Y=>?_⟩
 have W:=Gn rows;have rest:∀k,aA k (slA 3 1 A (bB rows).length C ((bB rows).map aD)::diskX db rows syn::F)->Jn (iP rows) k:=by
  intro k h;refine Y _ _ ?_;refine⟨λd=>?_,λd=>?_⟩
  .have b:2147483647<iP rows:=Va d;have e:ft most rows=20:=by unfold ft;rw[UW hm,UX b]
   have:=k2 (by rw[e];decide) _ h.tl
   rwa[e]at this
  .have D:¬2147483647<iP rows:=Vb d;have e:ft most rows=0:=by unfold ft;rw[UW hm,UW D]
   refine⟨λla M lc i k=>∃(j:Nat) (rs:List Ry),i=j/\j<=(bB rows).length/\M=rs.length/\rs.map Ry.rc=qq rows j/\
    aA k (slA 234 2 la rs.length lc (flat fT rs)::rowsR rs::slA 3 1 A (bB rows).length C ((bB rows).map aD)::diskX db rows syn::F),λ_ _ _ i _=>(bB rows).length-i.toNat,⟨0,[],rfl,V3 _,rfl,rfl,?_⟩,?_⟩
   .have w:aA k (rowsR []::slA 3 1 A (bB rows).length C ((bB rows).map aD)::diskX db rows syn::F):=zi.2 h;exact w.sl_nil 234 2
   rintro la M lc i H2 ⟨j,rs,rfl,hj,rfl,s,h⟩;have Z:rs.length<=rows.length:=by
    have:=congrArg List.length s;rw[Vl]at this;rw[this];exact G7 ok j
   refine⟨λd=>?_,λd=>?_⟩
   .have b:j<(bB rows).length:=by simpa using d
    have u:=(h.sl_rd 2 rfl).at b;refine⟨⟨by omega,by omega⟩,_,_,u.1,_,u.2,?_⟩;have Q:=tN (bB rows)[j] rows;refine Gz (F:=slA 234 2 la rs.length lc (flat fT rs)::rowsR rs::slA 3 1 A (bB rows).length C ((bB rows).map aD)::F) N (h.o [3,0,1,2] 4) λa3 c3 e3 H3 h=>⟨_,_,_,_,rfl,?_⟩
    refine PG h (λH h=>h.sl_rd 0 rfl) (ok.bytes _) (by omega) λv a4 c4 H4 E h=>⟨_,_,_,_,rfl,?_⟩
    have O:=G4 (ok.bytes (bB rows)[j]);have t:(rs++v).map Ry.rc=qq rows (j+1):=by rw[PY b,Vv,s,E]
    have I:rs.length+v.length<=rows.length:=by
     have:=congrArg List.length t;rw[Vl,UZ]at this;rw[this];exact G7 ok (j+1)
    refine aA.append (m:=v.length) (ws:=flat fT v) slb54 h 4 rfl (h.sl_rd 0 rfl) (eZ oT _) (l8 G8 _) (by omega) (by omega) λa8 c8 H8 h=>⟨_,_,_,rfl,?_⟩
    conv=>whnf
    rw[aJ (x:=(j:Int)+1)];refine⟨⟨j+1,rs++v,rfl,b,by rw[UZ],t,?_⟩,by simp only[Vi];omega⟩;have w:=PZ (h.o [5,1,4,6,3] 7);rw[dT,UZ];exact w.o [1,0,2,3] 4
   .have G:j=(bB rows).length:=by simp at d;omega
    subst G;rw[allJ_all]at s;refine h.al λb1 R h=>?_
    have B:=k1 e rs la lc b1 R s;have y:rs.length=(dv rows).length:=by rw[<-s,Vl]
    unfold reelA at B;dsimp only at B;rw[<-y]at B;exact B (h.o [0,1,2,4] 5)
 refine⟨λd=>?_,λd=>?_⟩
 .have J:0<(bB rows).length:=by have:=Va d;omega
  obtain⟨n,T⟩:∃n,n+1=(bB rows).length:=⟨(bB rows).length-1,by omega⟩;obtain⟨f,L,w,P⟩:=tS T;have hf:=ok.file P;have en:i64.wrap (((bB rows).length:Int)-1)=(n:Nat):=by rw[aJ];omega
  have b:n<(bB rows).length:=by omega
  have u:=(h.sl_rd 0 rfl).at b
  conv=>whnf
  rw[en];have S:(bB rows)[n]=f:=by rw[List.getElem?_eq_getElem b]at L;exact Option.some.inj L
  rw[S]at u;refine⟨⟨by omega,by omega⟩,_,_,u.1,_,u.2,?_⟩
  conv=>whnf
  rw[aJ (x:=f+1),<-w];exact rest _ h
 .have U:(bB rows).length=0:=by have:=Vb d;omega
  have:=rest _ h
  rwa[wr U]at this
end
theorem wt:ft 64 []=0/\dv []=[]/\iP []=0:=by
 have a:bB []=[]:=by
  cases h:bB [] with
  | nil=>rfl
  | cons f r=>
   have:f∈bB []:=by rw[h];exact Vn
   rw[jy]at this
   cases this
 have hs:iP []=0:=wr (by rw[a];rfl);refine⟨?_,?_,hs⟩
 .unfold ft;rw[hs];rfl
 .unfold dv;rw[a];rfl
section
variable {F L:List aE}{H:aC}{K:KE}
theorem G9:∀{rs:List Ry} {H:aC} {F:List aE},aA H (rowsR rs::F)->∀r∈rs,r.y.a=none\/∃b o,r.y.a=some ⟨b,o,none⟩
 | [],_,_,_,r,c=>by cases c
 | x::rs,H,F,h,r,c=>by
  have d:aA H (rowY x.y::rowsR rs::F):=gp.1 h
  rcases Vm.1 c with rfl|c
  .exact tR d
  .exact G9 d.tl r c
end
structure TI(most:Int)(rows:DR)(syn:Nat)(s:RL)(j:Nat):Prop where
 rok:fU rows
 files:∀r∈rows,r.1<=s.seg
 syn:syn<=rows.length
 seg0:0<=s.seg
 seg:s.seg<=j
 len:rows.length<=300000*j
 next:s.next<=300000*j
 ssyn:s.syn<=300000*j
 hm:s.most=most
 range:64<=most/\most<=1048576
theorem TI.ok{most:Int}{rows:DR}{syn:Nat}{s:RL}{j:Nat}(h:TI most rows syn s j)(a:j<=1000):s.ok:=by
 have d:=h.seg0;have c:=h.seg;have i:=h.next;have e:=h.ssyn;have f:=h.hm;have b:=h.range;exact⟨by omega,by omega,by omega,by omega⟩
theorem TI.mono{most:Int}{rows:DR}{syn:Nat}{s:RL}{j:Nat}(h:TI most rows syn s j):TI most rows syn s (j+1):=
 ⟨h.rok,h.files,h.syn,h.seg0,by have:=h.seg;omega,by have:=h.len;omega,by have:=h.next;omega,by have:=h.ssyn;omega,h.hm,h.range⟩
theorem GB{rows:DR}{s:RL}{r:Rc}:s.seg<=(dm rows s r).seg/\(dm rows s r).seg<=s.seg+1/\(dm rows s r).next<=s.next+1/\(dm rows s r).syn=s.syn/\(dm rows s r).most=s.most:=by
 unfold dm
 split
 .exact⟨by omega,by omega,by omega,rfl,rfl⟩
 .dsimp only
  split <;> exact⟨by omega,by omega,by omega,rfl,rfl⟩
theorem TI.append{most:Int}{rows:DR}{syn:Nat}{s:RL}{j:Nat}(h:TI most rows syn s j)(f:j<=1000){r:Rc}(hb:aH r.data)(v:r.data.length<=262144) :
  TI most (fV rows s r) syn (dm rows s r) (j+1):=by
 have hs:=GB (rows:=rows) (s:=s) (r:=r);have k:=appS_seg (rows:=rows) (r:=r) (h.ok f);have w:=h.seg0;have m:=h.seg;have n:=h.next;have y:=h.ssyn;have t:=h.len;have d:=h.files;have u:=h.syn
 by_cases he:iw rows s r=0
 .have a:=zL hb he;have i:=qp a;have e:fV rows s r=rows++(bM r).map λb=>((dm rows s r).seg,b):=by unfold fV;rw[UW (by rw[he];decide)]
  rw[e];refine⟨h.rok.app k (rP a),λx c=>?_,by rw[UZ];omega,by omega,by omega,by rw[UZ,Vl];omega,by omega,by omega,by rw[hs.2.2.2.2];exact h.hm,h.range⟩
  rcases Vz.1 c with c|c
  .have:=d x c;omega
  .obtain⟨b,_,rfl⟩:=Vh.1 c;exact V7 _
 .have e:fV rows s r=rows:=by unfold fV;rw[UX he]
  have e2:dm rows s r=s:=by unfold dm;rw[UX he]
  rw[e,e2];exact h.mono
theorem TI.sync{most:Int}{rows:DR}{syn:Nat}{s:RL}{j:Nat}(h:TI most rows syn s j):TI most rows rows.length { s with syn:=s.next } (j+1):=
 ⟨h.rok,h.files,Vg _,h.seg0,by have:=h.seg;dsimp only;omega,by have:=h.len;omega,by have:=h.next;dsimp only;omega,by have:=h.next;dsimp only;omega,h.hm,h.range⟩
theorem TI.drop{most:Int}{rows:DR}{syn:Nat}{s:RL}{j:Nat}(h:TI most rows syn s j)(below:Int):TI most (iy below rows) (iy below rows).length s (j+1):=by
 have b:(iy below rows).length<=rows.length:=WV _ _;have c:=h.len;exact⟨h.rok.filter _,λr a=>h.files r (Wd.1 a).1,Vg _,h.seg0,by have:=h.seg;omega,by omega,by have:=h.next;omega,by have:=h.ssyn;omega,h.hm,h.range⟩
theorem segOf_le{rows:DR}{g:Int}(h0:0<=g)(h:∀r∈rows,r.1<=g):iP rows<=g+1:=by
 cases hn:(bB rows).length with
 | zero=>rw[wr hn];omega
 | succ n=>
  obtain⟨f,d,c,a⟩:=tS hn.symm;obtain⟨r,b,rfl⟩:=Vh.1 (jy.1 a);have:=h r b;omega
theorem Qb{rows:DR}(c:fU rows):∀r∈rows,r.1<=iP rows:=by
 intro r m;have k:r.1∈bB rows:=jy.2 (Vh.2 ⟨r,m,rfl⟩);obtain⟨i,hi,e⟩:=VU k;obtain⟨n,j⟩:∃n,n+1=(bB rows).length:=⟨(bB rows).length-1,by omega⟩;obtain⟨f,b,d,s⟩:=tS j;have a:n<(bB rows).length:=by omega
 rw[List.getElem?_eq_getElem a]at b;have b:=Option.some.inj b;rw[d,<-e,<-b]
 rcases V0 i n with h|h
 .have:=Yi.1 (oP rows) i n hi a h;omega
 .have:i=n:=by omega
  subst this;omega
theorem TI.crash{most:Int}{rows:DR}{syn:Nat}{s:RL}{j:Nat}(h:TI most rows syn s j)(d:j<=1000)(keep:Int) :
  TI most (fF rows syn keep) (fF rows syn keep).length ⟨most,iP (fF rows syn keep),(dv (fF rows syn keep)).length,(dv (fF rows syn keep)).length⟩ (j+1)/\ft most (fF rows syn keep)=0:=by
 have c:=Px rows syn keep;have i:=h.len;have f:=h.seg;have a:fU (fF rows syn keep):=h.rok.take _;have hs:=segOf_le (rows:=fF rows syn keep) h.seg0 λr b=>h.files r (VR b)
 have k:=zM a;have b:=G6 a;refine⟨⟨a,Qb a,Vg _,b.1,by dsimp only;omega,by omega,by dsimp only;omega,by dsimp only;omega,rfl,h.range⟩,?_⟩;have e:=h.range;unfold ft;rw[nO,nO]
theorem ti0{most:Int}(h:ft most []=0):TI most [] 0 (opS most []) 0:=by
 obtain⟨_,c,b⟩:=wt;have a:64<=most/\most<=1048576:=by
  unfold ft at h
  split at h
  .cases h
  .omega
 unfold opS;rw[c,b];exact⟨λr a=>(by cases a),λr a=>(by cases a),Vg _,V7 _,V7 _,Vg _,Vg _,Vg _,rfl,a⟩
abbrev LG:=List (Int×Rc)
def fG(L:LG):DR:=L.flatMap λx=>(bM x.2).map λb=>(x.1,b)
theorem GD(A B:LG):fG (A++B)=fG A++fG B:=VW
theorem Qc(x:Int×Rc):fG [x]=(bM x.2).map λb=>(x.1,b):=by simp[fG]
theorem oV(x:Int×Rc)(L:LG):fG (x::L)=((bM x.2).map λb=>(x.1,b))++fG L:=rfl
theorem GE(f:Int):∀L:LG,bytesOf f (fG L)=((L.filter λx=>decide (x.1=f)).map Prod.snd).flatMap bM
 | []=>rfl
 | x::L=>by
  rw[oV,qn,GE f L,VD]
  by_cases e:x.1=f
  .rw [e,zj,UX (Vs rfl)];rfl
  .rw [zk (λh=>e h.symm),UW (by simpa using e),VB]
structure LG.ok(L:LG):Prop where
 recs:∀x∈L,x.2.ok
 up:L.Pairwise λx y=>x.1<=y.1
theorem GL{f:Int}:∀{L:LG},(L.Pairwise λx y=>x.1<=y.1)->(∀x∈L,f<=x.1)->L=L.filter (λx=>decide (x.1=f))++L.filter λx=>decide (x.1≠f)
 | [],_,_=>rfl
 | x::L,h,hf=>by
  rw[VX]at h
  by_cases e:x.1=f
  .have c:=GL h.2 λy a=>hf y (Vq _ a)
   rw[VD,UX (Vs e),VD,UW (by simpa using e),Wf,<-c]
  .have d:f<x.1:=by have:=hf x Vn;omega
   have b:∀y∈x::L,¬y.1=f:=λy a=>by
    rcases Vm.1 a with rfl|a
    .exact e
    .have:=h.1 y a;omega
   rw[Wq.2 λy a=>by simpa using b y a,VB,WQ.2 λy a=>by simpa using b y a]
theorem GM:∀{fs:List Int} {L:LG},fs.Pairwise (·< ·)->(L.Pairwise λx y=>x.1<=y.1)->(∀x∈L,x.1∈fs)->fs.flatMap (λf=>L.filter λx=>decide (x.1=f))=L
 | [],[],_,_,_=>rfl
 | [],x::L,_,_,h=>by have:=h x Vn;cases this
 | f::fs,L,hr,hs,h=>by
  rw[VX]at hr;have n:∀x∈L,f<=x.1:=λx b=>by
   rcases Vm.1 (h x b) with e|e
   .omega
   .have:=hr.1 _ e;omega
  have j:=GL hs n;have d:=GM (fs:=fs) (L:=L.filter λx=>decide (x.1≠f)) hr.2 (hs.filter _) λx b=>by
   obtain⟨m,i⟩:=Wd.1 b;have i:x.1≠f:=Va i
   rcases Vm.1 (h x m) with e|e
   .exact UY e i
   .exact e
  have e:fs.flatMap (λa=>L.filter λx=>decide (x.1=a))=fs.flatMap λa=>(L.filter λx=>decide (x.1≠f)).filter λx=>decide (x.1=a):=by
   have:∀l:List Int,(∀y∈l,f<y)->l.flatMap (λa=>L.filter λx=>decide (x.1=a))=l.flatMap λa=>(L.filter λx=>decide (x.1≠f)).filter λx=>decide (x.1=a):=by
    intro l
    induction l with
    | nil=>intro _;rfl
    | cons y l d=>
     intro c;rw[V6,V6,d λz k=>c z (Vq _ k)]
     congr 1;rw[List.filter_filter];refine WU λx b=>?_
     have:=c y Vn
     by_cases ex:x.1=y
     .rw [Vs ex,WB];exact (Vs (by omega)).symm
     .rw [VK ex,Bool.false_and]
   exact this fs λy c=>hr.1 y c
  rw[V6,e,d];exact j.symm
theorem Qd{L:LG}(d:∀x∈L,x.2.ok){x:Int×Rc}(a:x∈L):x.1∈(fG L).map Prod.fst:=by
 have c:=qp (d x a);obtain⟨b,hb⟩:∃b,b∈bM x.2:=by
  cases h:bM x.2 with
  | nil=>rw[h]at c;simp at c
  | cons b r=>exact⟨b,Vn⟩
 exact Vh.2 ⟨(x.1,b),WK.2 ⟨x,a,Vh.2 ⟨b,hb,rfl⟩⟩,rfl⟩
theorem GN{L:LG}(d:L.ok){g:Int}{t:List Int}(h:aH t)(i:iO t=none):dv (fG L++t.map λb=>(g,b))=L.map Prod.snd:=by
 have hb:∀f,(eD (bytesOf f (fG L++t.map λb=>(g,b)))).1=(L.filter λx=>decide (x.1=f)).map Prod.snd:=by
  intro f;rw[qn,GE];have a:∀r∈(L.filter λx=>decide (x.1=f)).map Prod.snd,r.ok:=λr j=>by
   obtain⟨x,c,rfl⟩:=Vh.1 j;exact d.recs x (Wd.1 c).1
  by_cases e:f=g
  .subst e;rw[zj,zI a h i]
  .rw [zk e,V4,PB a]
 unfold dv;have e1:(λf=>(eD (bytesOf f (fG L++t.map λb=>(g,b)))).1)=λf=>(L.filter λx=>decide (x.1=f)).map Prod.snd:=funext hb
 rw[e1];have e2:=GM (oP (fG L++t.map λb=>(g,b))) d.up λx c=>by
  rw[jy,Vv];exact WP _ (Qd d.recs c)
 have e3:=congrArg (List.map Prod.snd) e2;rw[List.map_flatMap]at e3;exact e3
theorem GU:∀(L:LG) (n:Nat),∃p g t,(fG L).take n=fG (L.take p)++(t.map λb=>(g,b))/\p<=L.length/\
  (t=[]\/∃r:Rc,(∃x∈L,r=x.2)/\∃k,k<(bM r).length/\t=(bM r).take k)/\∀m,m<=L.length->(fG (L.take m)).length<=n->(∀x∈L,0<(bM x.2).length)->m<=p
 | [],n=>⟨0,0,[],by simp[fG],V3 _,.inl rfl,λm hm _ _=>hm⟩
 | x::L,n=>by
  rcases V0 n (bM x.2).length with h|h
  .refine⟨0,x.1,(bM x.2).take n,?_,V3 _,.inr ⟨x.2,⟨x,Vn,rfl⟩,n,h,rfl⟩,λm hm c e=>?_⟩
   .rw [oV,WL (by rw[Vl];omega),List.map_take];rfl
   .cases m with
    | zero=>exact Vg _
    | succ m=>
     rw[Wo,oV,UZ,Vl]at c;omega
  .obtain⟨p,g,t,j,u,a,s⟩:=GU L (n-(bM x.2).length);refine⟨p+1,g,t,?_,by rw[Vf];omega,?_,λm hm c e=>?_⟩
   .rw [oV,List.take_append,V2 (by rw[Vl];omega),Vl,j,Wo,oV,Vj]
   .rcases a with a|⟨r,⟨y,d,i⟩,f⟩
    .exact .inl a
    .exact .inr ⟨r,⟨y,Vq _ d,i⟩,f⟩
   .cases m with
    | zero=>omega
    | succ m=>
     rw[Wo,oV,UZ,Vl]at c;have:=s m (by simp at hm;omega) (by omega) λy d=>e y (Vq _ d)
     omega
theorem GW(below:Int)(L:LG):iy below (fG L)=fG (L.filter λx=>decide (below<=x.1)):=by
 unfold iy
 induction L with
 | nil=>rfl
 | cons x L ih=>
  rw[oV,List.filter_append,ih,VD]
  by_cases e:below<=x.1
  .rw [UX (Vs e),oV,WQ.2];intro y a;obtain⟨b,_,rfl⟩:=Vh.1 a;exact Vs e
  .rw [UW (by simpa using e),Wq.2,VB];intro y a;obtain⟨b,_,rfl⟩:=Vh.1 a;simpa using e
theorem aP.subS{H:aC}{a:KQ}{cs:Os}{k c sz:Nat}(h:aP H a cs)(s:cs.length<=c*sz):aP H (bZ a k c sz) (cs.drop (k*sz)):=by
 intro j v f;have b:aT cs (k*sz+j)=Option.some v:=by
  rw[fL]at f ⊢
  rwa[List.getElem?_drop]at f
 have n:=nT b;obtain⟨m,i⟩:=h _ _ b;have d:c≠k:=λe=>by subst e;omega
 have e:bZ a k c sz=Option.some ⟨aV a,aS a+k*sz,none⟩:=by
  unfold bZ;rw[UW d,m,V9,iN];rfl
 rw[e];refine⟨rfl,?_⟩;show aK H (aV a) (aS a+k*sz+j)=_;rw[VQ];exact i
section
variable {H0:aC}{ca:KQ}{cc:Nat}{most:Int}
theorem openE_in{rows:DR}(h:64<=most/\most<=1048576)(hs:iP rows<=2147483647):ft most rows=0:=by
 unfold ft;rw[nO,nO]
theorem Qe{rows:DR}(ok:fU rows){rs:List Ry}(h:rs.map Ry.rc=dv rows):rs.length<=rows.length/\∀r∈rs,r.y.bs.length<=1099511627776:=by
 refine⟨?_,λr a=>?_⟩
 .rw [<-Vl (f:=Ry.rc),h];exact zM ok
 .have hm:r.rc∈dv rows:=by rw[<-h];exact Vh.2 ⟨r,a,rfl⟩
  obtain⟨f,b,hm⟩:=WK.1 hm;have:=((zJ (Vg _) (ok.bytes f)).1 _ hm).len;unfold Ry.rc at this;dsimp only at this;omega
theorem files_lt{rows:DR}:∀x∈rows,x.1<iP rows:=by
 intro r k;have j:r.1∈bB rows:=jy.2 (Vh.2 ⟨r,k,rfl⟩);obtain⟨i,hi,d⟩:=VU j;obtain⟨n,e⟩:∃n,n+1=(bB rows).length:=⟨(bB rows).length-1,by omega⟩;obtain⟨f,b,c,m⟩:=tS e;have a:n<(bB rows).length:=by omega
 rw[List.getElem?_eq_getElem a]at b;have b:=Option.some.inj b;rw[c,<-d,<-b]
 rcases V0 i n with h|h
 .have:=Yi.1 (oP rows) i n hi a h;omega
 .have:i=n:=by omega
  subst this;omega
end
def dw:List Rc->Option (List Int)×List Rc
 | []=>(none,[])
 | r::l=>if (dw l).1=none then (if r.kind=0 then (some r.data,l) else (none,r::l)) else dw l
theorem zN:∀{l:List Rc},(∀r∈l,r.kind≠0)->dw l=(none,l)
 | [],_=>rfl
 | r::l,h=>by
  have b:=zN λx a=>h x (Vq _ a)
  rw[dw,b,UX rfl,UW (h r Vn)]
theorem GZ{r:Rc}{l:List Rc}(b:r.kind=0)(h:∀x∈l,x.kind≠0):∀a:List Rc,dw (a++r::l)=(some r.data,l)
 | []=>by rw[VB,dw,zN h,UX rfl,UX b]
 | x::a=>by
  have c:=GZ b h a;rw[Wf,dw,c,UW (by simp)]
def bookA(bb rb:Nat)(saved:Bool)(num seg:Int):aE:=cellsA bb [.pointer (some ⟨rb,0,none⟩),.bool saved,.int .i64 num,.int .i64 seg] 113
structure nZ(rs:List Ry)(fy:Fy)(has:Bool)(qs:List Ry):Prop where
 sub:∀q∈qs,q∈rs
 st:fy=Fy.z\/∃r∈rs,fy=r.y
 tell:dw (rs.map Ry.rc)=(if has then some fy.bs else none,qs.map Ry.rc)
 no:has=false->fy=Fy.z
theorem nZ.none{rs:List Ry}(h:∀r∈rs,r.kind≠0):nZ rs Fy.z false rs:=by
 refine⟨λq a=>a,.inl rfl,?_,λ_=>rfl⟩
 rw[zN]
 .rfl
 .intro r c;obtain⟨x,b,rfl⟩:=Vh.1 c;exact h x b
theorem nZ.at{rs:List Ry}{i:Nat}{r:Ry}(hi:rs[i]?=some r)(h0:r.kind=0)(h:∀x∈rs.drop (i+1),x.kind≠0):nZ rs r.y true (rs.drop (i+1)):=by
 obtain⟨a,d⟩:=List.getElem?_eq_some_iff.1 hi;refine⟨λq j=>Wh j,.inr ⟨r,VA hi,rfl⟩,?_,λf=>by cases f⟩
 have e:rs=rs.take i++r::rs.drop (i+1):=by rw[<-d,<-VP a,VO]
 conv=>lhs;rw[e]
 rw[Vv,V5,GZ (r:=r.rc) h0]
 .rfl
 .intro x c;obtain⟨y,b,rfl⟩:=Vh.1 c;exact h y b
theorem Qf{rows:DR}{s:RL}(f:∀x∈rows,x.1<s.seg){r:Rc}(d:r.ok) :
  iw rows s r=0/\dm rows s r={ s with next:=s.next+1 }/\fV rows s r=(rows++(bM r).map λb=>(s.seg,b))/\appN rows s r=s.next:=by
 have e:bytesOf s.seg rows=[]:=by
  unfold bytesOf;rw[Wq.2 λy h=>by have:=f y h;simp;omega]
  rfl
 have c:oU rows s (bM r).length=false:=by
  unfold oU;rw[e];rfl
 have a:iw rows s r=0:=by
  unfold iw;rw[PI d,UW (by decide),c];rfl
 have hs:dm rows s r={ s with next:=s.next+1 }:=by unfold dm;rw[UW (by rw[a];decide),c];rfl
 refine⟨a,hs,?_,?_⟩
 .unfold fV;rw[UW (by rw[a];decide),hs]
 .unfold appN;rw[UW (by rw[a];decide)]
section
variable {F L:List aE}{H:aC}{K:KE}{rb db bb:Nat}{rows:DR}{syn:Nat}{s:RL}{most:Int}
theorem Qg{a:KQ}{n c:Nat}(h:aA H F)(k:∀c0 d,aA d (cellsA c0 [.slice a n c] 127::F)->K (.func (.func 195) #[] #[.pointer (some ⟨c0,0,none⟩)]) d):CF 100 #[.slice a n c] H K:=by
 refine cM 100 28 ?_;exact h.al λb _ h=>k b _ h
theorem Qh{l c0:Nat}{pa:KQ}{pc:Nat}{rs:List Ry}(C:rs.length<=1099511627776)(A:Nat->aE)(s:aE)
  (h:aA H (A rs.length::cellsA c0 [.slice pa rs.length pc] 127::slA 234 2 pa rs.length pc (flat fT rs)::F))
  (u:∀j (d:j<rs.length) (G:List aE) (c:aC) (f:KE),aA c (A (j+1)::G)->(∀b,aA b (A j::G)->f (.bool true) b)->(∀b,aA b (s::G)->f (.bool false) b)->
   fI Tryz.prog l [.int .i64 j,.agg #[.int .i64 rs[j].kind,dY rs[j].y]] c f)
  (k:∀a,aA a (A 0::cellsA c0 [.slice pa rs.length pc] 127::slA 234 2 pa rs.length pc (flat fT rs)::F)->K (.tuple #[]) a)
  (w:∀a,aA a (s::cellsA c0 [.slice pa rs.length pc] 127::slA 234 2 pa rs.length pc (flat fT rs)::F)->K (.tuple #[]) a) :
  CF 195 #[.func (.yield l) #[] #[],.pointer (some ⟨c0,0,none⟩)] H K:=by
 refine cN 195 96300973186693524 [[(3,sI)]] ?_;have B:i64.wrap ((rs.length:Int)-1)=(rs.length:Int)-1:=aJ;refine⟨_,_,_,h.r 1,λi a=>∃j:Nat,i=(j:Int)-1/\j<=rs.length/\aA a (A j::cellsA c0 [.slice pa rs.length pc] 127::slA 234 2 pa rs.length pc (flat fT rs)::F),λi _=>(i+1).toNat,⟨rs.length,B,Vg _,h⟩,?_⟩
 rintro i c ⟨j,rfl,d,h⟩;refine⟨λe=>?_,λe=>?_⟩
 .obtain⟨q,rfl⟩:∃q,j=q+1:=⟨j-1,by have:=Va e;omega⟩;have eq:((q+1:Nat):Int)-1=(q:Int):=by omega
  rw[eq];have t:=h.sl_rd 2 rfl;refine⟨_,_,_,h.rd 1 rfl _,⟨by omega,by omega⟩,_,_,t.some oT (by omega) d,_,_,_,_,t.els oT d,?_⟩;refine u q d _ c _ h (λv n=>⟨true,rfl,λm=>(by cases m),λ_=>?_⟩) λv n=>⟨false,rfl,λ_=>w _ n,λm=>(by cases m)⟩
  conv=>whnf
  rw[aJ (x:=(q:Int)-1)];exact⟨⟨q,rfl,by omega,n⟩,by simp only;omega⟩
 .obtain rfl:j=0:=by have:=Vb e;omega
  exact k _ h
theorem Ia{a:KQ}{c:Nat}{d:List Ry}(h:aA H L)(n:∀H,aA H L->aP H a (flat fT d))(y:d.length<=1099511627776)
  (k:∀f e i,aA i (slA 234 2 f d.length e (flat fT d)::L)->K (.slice f d.length e) i):CF 101 #[.slice a d.length c] H K:=by
 refine cM 101 476 ⟨λj=>?_,λj=>?_⟩
 .have:a=none:=by simpa using j
  subst this;have u:=nV (n H h);have:d=[]:=by
   cases d with
   | nil=>rfl
   | cons q r=>simp[l7]at u
  subst this;exact k none 0 H (h.sl_nil 234 2)
 .refine h.al λb x h=>?_
  have v:=n _ h.tl;have w:=aA.sl_pt (cs:=[]) h 2 0 rfl;refine aA.append (m:=d.length) slb54 w 0 rfl v (eZ oT _) (l8 G8 _) (by omega) (by omega) λf e i t=>⟨_,_,_,rfl,?_⟩
  have s:aA i (slA 234 2 f (0+d.length) e ([]++flat fT d)::L):=t;rw[Vw,VB]at s;have:=k f e i s;rw[<-Vw d.length]at this;exact this
def boA(b1 b2 b3 l:Nat)(R:Loop)(a:KQ)(c:Nat)(rs:List Ry)(j:Nat):aE:=
 star [pur (∀r∈rs.drop j,r.kind≠0),cellsA b1 [.slice a rs.length c] 127,cellsA b2 [.slice none 0 0,.bool false,.slice none 0 0] 129,cellsA b3 [.slice a rs.length c] 127,pt l (.loop R)]
def boX(b1 b2 b3 l:Nat)(R:Loop)(a:KQ)(c:Nat)(rs:List Ry):aE:=
 exS λp:Nat×Ry=>star [pur (rs[p.1]?=some p.2/\p.2.kind=0/\∀r∈rs.drop (p.1+1),r.kind≠0),cellsA b1 [.slice a rs.length c] 127,cellsA b2 [dY p.2.y,.bool true,.slice none 0 0] 129,
  cellsA b3 [.slice (bZ a (p.1+1) c 2) (rs.length-(p.1+1)) (c-(p.1+1))] 127,pt l (.loop { R with state:=.done,pending:=some (.exit 0) })]
theorem Qi{b1 b2 b3 j c:Nat}{a:KQ}{rs:List Ry}{e k:aC}{R:Loop}{G:List aE}{i:KE}(C:rs.length<=1099511627776)(w:rs.length<=c)(m:j<rs.length)
  (h:aA k (boA b1 b2 b3 (e.size+1) R a c rs (j+1)::G)) (t:∀d,aA d (boA b1 b2 b3 (e.size+1) R a c rs j::G)->i (.bool true) d) (s:∀d,aA d (boX b1 b2 b3 (e.size+1) R a c rs::G)->i (.bool false) d) :
  yY.y1 b1 b2 b3 e R [.int .i64 j,.agg #[.int .i64 rs[j].kind,dY rs[j].y]] k i:=by
 obtain⟨n,h⟩:=aA.consP h.open;have h:aA k (cellsA b1 [.slice a rs.length c] 127::cellsA b2 [.slice none 0 0,.bool false,.slice none 0 0] 129::cellsA b3 [.slice a rs.length c] 127::pt (e.size+1) (.loop R)::G):=h;have u:rs.drop j=rs[j]::rs.drop (j+1):=VP m;unfold yY.y1;refine⟨_,_,_,_,_,rfl,h.getO 3 rfl,?_⟩;refine h.al λb4 _ h=>h.st 0 rfl rfl λ_ h=>⟨h.getO 4 rfl,h.stl 4 rfl λA h=>⟨_,h.r 0,λb=>?_,λb=>?_⟩⟩
 .have h0:rs[j].kind=0:=Va b;refine⟨_,_,_,h.r 0,?_⟩;refine h.st 2 rfl rfl λ_ h=>h.st 2 rfl rfl λ_ h=>⟨_,_,_,h.r 1,?_⟩
  rw[aJ (x:=(j:Int)+1)];have v:((j:Int)+1).toNat=j+1:=by omega
  rw[v];refine⟨⟨by omega,by omega,by omega⟩,?_⟩;refine h.st 3 rfl rfl λB h=>⟨h.getO 4 rfl,s _ ?_⟩
  have h:=h.setO 4 rfl (.loop { R with state:=.done,pending:=some (.exit 0) });exact cJ.2 ⟨(j,rs[j]),aA.shut [_,_,_,_,_] (aA.pur (h.o [1,2,3,4] 5) ⟨List.getElem?_eq_getElem m,h0,n⟩)⟩
 .have h0:rs[j].kind≠0:=Vb b;refine⟨h.getO 4 rfl,t _ ?_⟩;have h:=h.setO 4 rfl (.loop R);refine aA.shut [_,_,_,_,_] (aA.pur (h.o [1,2,3,4] 5) λr f=>?_)
  rw[u]at f
  rcases Vm.1 f with rfl|f
  .exact h0
  .exact n r f
theorem Qj(ok:fU rows)(hB:rows.length<=1099511627776)(h:aA H (diskX db rows syn::F))
  (k1:ft most rows=0->∀(rs t:List Ry) (N:Fy) (has:Bool) a c bb rb n,rs.map Ry.rc=dv rows->nZ rs N has t->
   aA n (bookA bb rb false 0 0::reelA rb db (opS most rows)::slA 234 2 a t.length c (flat fT t)::rowsR rs::diskX db rows syn::F)->
   K (.tuple #[.pointer (some ⟨bb,0,none⟩),.agg #[dY N,.bool has,.slice a t.length c],.int .i64 0]) n)
  (k2:ft most rows≠0->∀n,aA n (diskX db rows syn::F)->K (.tuple #[.pointer none,.agg #[.slice none 0 0,.bool false,.slice none 0 0],.int .i64 (ft most rows)]) n) :
  CF 45 #[.pointer (some ⟨db,0,none⟩),.int .i64 most] H K:=by
 refine OC ?_;refine h.al λb U h=>?_
 refine Qa (F:=cellsA b [.slice none 0 0,.bool false,.slice none 0 0] 129::F) ok hB (h.o [1,0] 2) (λs rs a1 c1 rb P e h=>⟨_,_,_,_,_,rfl,?_⟩) λs P h=>⟨_,_,_,_,_,rfl,?_⟩
 .obtain⟨M,L⟩:=Qe ok e;have f:=h.sl_nc 1 rfl;refine h.al λb1 V h=>h.st 0 rfl rfl λW h=>⟨(λA=>by cases A),λ_=>?_⟩
  refine h.al λb2 H5 h=>⟨_,_,_,h.r 1,?_⟩
  refine h.al λb3 H6 h=>h.st 0 rfl rfl λH7 h=>⟨_,_,_,h.r 2,?_⟩
  refine Qg h λc0 d h=>⟨_,_,rfl,rfl,λR E x T=>?_⟩
  have h:=h.rng R;have h0:aA ((d.push (.deferred (some []))).push (.loop R)) (boA b1 b2 b3 (d.size+1) R a1 c1 rs rs.length::cellsA c0 [.slice a1 rs.length c1] 127::slA 234 2 a1 rs.length c1 (flat fT rs)::pt d.size (.deferred (some []))::reelA rb db (opS most rows)::rowsR rs::diskX db rows syn::cellsA b [.slice none 0 0,.bool false,.slice none 0 0] 129::F):=by
   refine aA.shut [_,_,_,_,_] (aA.pur ?_ ?_)
   .exact h.o [5,4,3,0,2,7,1,6,8,9,10] 11
   .rw [VY];intro r hr;cases hr
  refine Qh (by omega) (λj=>boA b1 b2 b3 (d.size+1) R a1 c1 rs j) (boX b1 b2 b3 (d.size+1) R a1 c1 rs) h0 (λj Q G U K1 S Z Y=>T _ _ _ (Qi (by omega) f Q S Z Y)) (λI h=>?_) λI h=>?_
  .obtain⟨u,h⟩:=aA.consP h.open;have h:aA I (cellsA b1 [.slice a1 rs.length c1] 127::cellsA b2 [.slice none 0 0,.bool false,.slice none 0 0] 129::cellsA b3 [.slice a1 rs.length c1] 127::pt (d.size+1) (.loop R)::cellsA c0 [.slice a1 rs.length c1] 127::slA 234 2 a1 rs.length c1 (flat fT rs)::pt d.size (.deferred (some []))::reelA rb db (opS most rows)::rowsR rs::diskX db rows syn::cellsA b [.slice none 0 0,.bool false,.slice none 0 0] 129::F):=h;rw[List.drop_zero]at u;refine⟨.ready,none,by decide,by rw[nt E x];exact h.getO 3 rfl,h.stl 3 rfl λD h=>Or.inl ⟨rfl,_,_,_,h.r 2,?_⟩⟩
   refine Ia h (λH h=>h.sl_rd 5 rfl) (by omega) λa5 c5 B h=>⟨_,_,_,rfl,?_⟩
   refine h.st 2 rfl rfl λJ h=>⟨_,_,_,_,_,_,_,h.q 2,?_⟩
   refine h.al λb5 v h=>⟨h.q 3,?_⟩
   refine h.st 12 rfl rfl λC h=>⟨h.getO 8 rfl,?_⟩
   have h:=h.setO 8 rfl (.deferred none);refine⟨_,_,_,_,_,_,_,h.q 12,?_⟩;exact k1 s rs rs Fy.z false a5 c5 b5 rb _ e (nZ.none u) (h.o [0,9,1,10,11] 13)
  .obtain⟨p,h⟩:=cJ.1 h;obtain⟨u,h⟩:=aA.consP h.open;obtain⟨i,r⟩:=p;obtain⟨hi,m,O⟩:=u;dsimp only at hi m O;have h:aA I (cellsA b1 [.slice a1 rs.length c1] 127::cellsA b2 [dY r.y,.bool true,.slice none 0 0] 129::cellsA b3 [.slice (bZ a1 (i+1) c1 2) (rs.length-(i+1)) (c1-(i+1))] 127::pt (d.size+1) (.loop { R with state:=.done,pending:=some (.exit 0) })::cellsA c0 [.slice a1 rs.length c1] 127::slA 234 2 a1 rs.length c1 (flat fT rs)::pt d.size (.deferred (some []))::reelA rb db (opS most rows)::rowsR rs::diskX db rows syn::cellsA b [.slice none 0 0,.bool false,.slice none 0 0] 129::F):=h;refine⟨.done,some (.exit 0),by decide,h.getO 3 rfl,h.stl 3 rfl λD h=>Or.inr ⟨rfl,_,_,_,h.r 2,?_⟩⟩
   have w:rs.length-(i+1)=(rs.drop (i+1)).length:=by rw[Vt]
   rw[w];refine Ia h (λH h=>by
    have:=aP.subS (k:=i+1) (c:=c1) (sz:=2) (h.sl_rd 5 rfl) (by rw[eZ oT];exact VS _ f)
    rwa[te oT]at this) (by rw[Vt];omega) λa5 c5 B h=>⟨_,_,_,rfl,?_⟩
   refine h.st 2 rfl rfl λJ h=>⟨_,_,_,_,_,_,_,h.q 2,?_⟩
   refine h.al λb5 v h=>⟨h.q 3,?_⟩
   refine h.st 12 rfl rfl λC h=>⟨h.getO 8 rfl,?_⟩
   have h:=h.setO 8 rfl (.deferred none);refine⟨_,_,_,_,_,_,_,h.q 12,?_⟩;exact k1 s rs (rs.drop (i+1)) r.y true a5 c5 b5 rb _ e (nZ.at hi m O) (h.o [0,9,1,10,11] 13)
 .refine h.al λb1 V h=>h.st 0 rfl rfl λW h=>⟨λ_=>?_,λA=>by simp[s]at A⟩
  refine h.st 2 rfl rfl λH5 h=>⟨_,_,_,_,_,_,_,h.q 2,?_⟩
  exact k2 s _ (h.o [1] 3)
theorem Qk{a:KQ}{n c:Nat}{kind:Int}{saved:Bool}{num seg:Int}(h:aA H (bookA bb rb saved num seg::F))
  (k1:kind<=0->K (.tuple #[.int .i64 (-1),.int .i64 11]) H)
  (k2:¬kind<=0->CF 96 #[.pointer (some ⟨rb,0,none⟩),.int .i64 kind,.slice a n c] H λu d=>∃r r1:Int,u=.tuple #[.int .i64 r,.int .i64 r1]/\K (.tuple #[.int .i64 r,.int .i64 r1]) d) :
  CF 109 #[.pointer (some ⟨bb,0,none⟩),.int .i64 kind,.slice a n c] H K:=by
 refine cM 109 476 ?_;exact⟨λb=>k1 (Va b),λb=>⟨_,h.r 0,k2 (Vb b)⟩⟩
theorem Ql{a:KQ}{c:Nat}{parts:List Fy}{saved:Bool}{num seg:Int}(hs:s.ok)(O:s.seg<2147483647)(m:∀r∈rows,r.1<=s.seg)(T:rows.length<=549755813888)
  (h:aA H (bookA bb rb saved num seg::reelA rb db s::diskX db rows syn::F))
  (J:∀H,aA H F->aP H a (parts.map dY)) (Q:∀H,aA H F->∀y∈parts,aP H y.a (y.bs.map U8)) (hb:aH (parts.flatMap Fy.bs)) (R:parts.length<=1099511627776) (L:(parts.flatMap Fy.bs).length<=262144)
  (k:∀v,aA v (bookA bb rb true s.next (s.seg+1)::reelA rb db { s with seg:=s.seg+1,next:=s.next+1 }::diskX db (rows++(bM ⟨0,parts.flatMap Fy.bs⟩).map λb=>(s.seg+1,b)) syn::F)->
   K (.tuple #[.int .i64 s.next,.int .i64 0]) v) :
  CF 42 #[.pointer (some ⟨bb,0,none⟩),.slice a parts.length c] H K:=by
 refine cN 42 0x112156123992511b421b1d1c [[(6,sI),(15,sI)]] ?_;have D:=hs.seg;have I:=hs.next;have f:∀j,((parts.take j).flatMap Fy.bs).length<=(parts.flatMap Fy.bs).length:=λj=>G5 _ _ _
 refine⟨λsize i v=>∃j:Nat,i=j/\j<=parts.length/\size=(((parts.take j).flatMap Fy.bs).length:Nat)/\v=H,λ_ i _=>parts.length-i.toNat,⟨0,rfl,V3 _,rfl,rfl⟩,?_⟩
 rintro size i v ⟨j,rfl,W,rfl,rfl⟩;refine⟨λC=>?_,λC=>?_⟩
 .have u:j<parts.length:=by simpa using C
  have N:=(J _ h.tl.tl.tl).at u;have B:=zw u;have G:=f (j+1);rw[B,UZ]at G;have U:i64.wrap ((((parts.take j).flatMap Fy.bs).length:Int)+(parts[j].bs.length:Int))=(((parts.take (j+1)).flatMap Fy.bs).length:Nat):=by
   rw[B,UZ,aJ];omega
  refine⟨⟨by omega,by omega⟩,_,_,N.1,_,_,_,N.2,?_⟩;dsimp only
  conv=>whnf
  rw[U];refine⟨λP=>?_,λ_=>?_⟩
  .have:=Va P;have:=f (j+1);omega
  .conv=>whnf
   rw[aJ (x:=(j:Int)+1)];exact⟨⟨j+1,rfl,u,rfl,rfl⟩,by simp only[Vi];omega⟩
 .refine⟨_,h.r 0,?_⟩;refine G1 (F:=bookA bb rb saved num seg::diskX db rows syn::F) D (h.o [1,0,2] 3) (λm=>UY m (by omega)) λ_ S h=>⟨_,_,rfl,(λm=>by cases m),λ_=>⟨_,h.r 1,?_⟩⟩
  have E:({ s with seg:=s.seg+1 }:RL).ok:=⟨by dsimp only;omega,hs.most,I,hs.syn⟩;have w:(⟨0,parts.flatMap Fy.bs⟩:Rc).ok:=⟨V7 0,by show (0:Int)<=255;decide,L,hb⟩;have e:=Qf (rows:=rows) (s:={ s with seg:=s.seg+1 }) (λx C=>by have:=m x C;dsimp only;omega) w
  have M:=G3 (F:=bookA bb rb saved num seg::F) (a:=a) (c:=c) (kind:=0) (parts:=parts) (rb:=rb) (db:=db) (syn:=syn) (H:=S) (K:=λu1 d=>∃r2 r3:Int,u1=(.tuple #[(.int .i64 r2),(.int .i64 r3)])/\
   (((!decide (r3=0)))=true->K (.tuple #[(.int .i64 (-1)),(.int .i64 r3)]) d)/\
   (((!decide (r3=0)))=false->
   ∃v2:KQ,aK d bb 0=some (.pointer v2)/\
   ∃r4:Int,bU Tryz.prog 97 #[(.pointer v2)] d (.int .i64 r4)/\
   eQ d bb (0+1) [(.bool true)]/\
   ∀n:aC,n=fJ d bb (0+1) [(.bool true)]->
   eQ n bb (0+2) [(.int .i64 r2)]/\
   ∀t:aC,t=fJ n bb (0+2) [(.int .i64 r2)]->
   eQ t bb (0+3) [(.int .i64 r4)]/\
   ∀A:aC,A=fJ t bb (0+3) [(.int .i64 r4)]->
   K (.tuple #[(.int .i64 r2),(.int .i64 0)]) A)) E T (h.o [0,2,1] 3) (λH h=>J H h.tl) (λH h=>Q H h.tl) hb R L
  rw[e.1,e.2.1,e.2.2.1,e.2.2.2]at M;refine M λV h=>⟨_,_,rfl,(λm=>by cases m),λ_=>⟨_,h.r 2,_,G0 h,?_⟩⟩
  refine h.st 2 rfl rfl λY h=>h.st 2 rfl rfl λZ h=>h.st 2 rfl rfl λH5 h=>k _ ?_
  exact h.o [2,0,1] 3
theorem Qm{saved:Bool}{num seg:Int}(j:rows.length<=1099511627776)(hs:syn<=rows.length)(h:aA H (bookA bb rb saved num seg::reelA rb db s::diskX db rows syn::F))
  (k0:saved=false->K (.int .i64 19) H)
  (k1:saved=true->(s.syn:Int)<=num->K (.int .i64 21) H)
  (k2:saved=true->¬(s.syn:Int)<=num->syn<rows.length->∀c,aA c (bookA bb rb saved num seg::reelA rb db s::diskX db rows syn::F)->K (.int .i64 21) c)
  (k3:saved=true->¬(s.syn:Int)<=num->¬syn<rows.length->∀c,aA c (bookA bb rb saved num seg::reelA rb db s::diskX db (iy seg rows) (iy seg rows).length::F)->K (.int .i64 0) c) :
  CF 41 #[.pointer (some ⟨bb,0,none⟩)] H K:=by
 refine cM 41 7644 ?_;refine⟨_,h.r 0,λd=>k0 (by simpa using d),λd=>?_⟩
 have b:saved=true:=by simpa using d
 refine⟨_,h.r 0,_,PM (h.o [1,0,2] 3),_,h.r 0,λa=>k1 b (Va a),λa=>⟨_,h.r 0,_,h.r 0,?_⟩⟩
 have f:=Vb a;refine PX (F:=bookA bb rb saved num seg::F) j hs (h.o [1,2,0] 3) (λe i h=>⟨_,rfl,k2 b f e _ (h.o [2,0,1] 3)⟩) λe i h=>⟨_,rfl,k3 b f e _ (h.o [2,0,1] 3)⟩
end
theorem nZ.rd{rs c:List Ry}{b:Fy}{has:Bool}(h:nZ rs b has c){H:aC}{F:List aE}(hs:aA H (rowsR rs::F)):aP H b.a (b.bs.map U8):=by
 rcases h.st with rfl|⟨r,d,rfl⟩
 .exact ip _ _
 .exact zK hs r d
theorem TI.save{most:Int}{rows:DR}{syn:Nat}{s:RL}{j:Nat}(h:TI most rows syn s j)(m:j<=1000){r:Rc}(c:r.ok)(k:r.data.length<=262144) :
  TI most (rows++(bM r).map λb=>(s.seg+1,b)) syn { s with seg:=s.seg+1,next:=s.next+1 } (j+1):=by
 have n:=h.seg0;have e:=h.seg;have u:=h.next;have t:=h.ssyn;have f:=h.len;have i:=h.syn;have d:=qp c;refine⟨h.rok.app ⟨by omega,by omega⟩ (rP c),λx a=>?_,by rw[UZ];omega,by dsimp only;omega,by dsimp only;omega,by rw[UZ,Vl];omega,by dsimp only;omega,by dsimp only;omega,h.hm,h.range⟩
 rcases Vz.1 a with a|a
 .have:=h.files x a;dsimp only;omega
 .obtain⟨b,_,rfl⟩:=Vh.1 a;exact V7 _
theorem Qn{R X:DR}(h:∀r∈R,∀x∈X,r.1<x.1):bB (R++X)=bB R++bB X:=by
 refine zo (oP _) ?_ λx=>?_
 .rw [List.pairwise_append];refine⟨oP R,oP X,λa d b hb=>?_⟩
  obtain⟨r,e,rfl⟩:=Vh.1 (jy.1 d);obtain⟨y,c,rfl⟩:=Vh.1 (jy.1 hb);exact h r e y c
 .rw [jy,Vv,Vz,Vz,jy,jy]
theorem Ib{f:Int}{X:DR}(h:∀x∈X,x.1≠f):bytesOf f X=[]:=by
 unfold bytesOf;rw[Wq.2 λy a=>by simpa using h y a]
 rfl
theorem Ic{α β:Type}{l:List α}{f g:α->List β}(h:∀x∈l,f x=g x):l.flatMap f=l.flatMap g:=by
 rw[List.flatMap_def,List.flatMap_def,Wp h]
theorem Qo{R X:DR}(h:∀r∈R,∀x∈X,r.1<x.1):dv (R++X)=dv R++dv X:=by
 unfold dv;rw[Qn h,VW];congr 1
 .refine Ic λf b=>?_
  obtain⟨r,c,rfl⟩:=Vh.1 (jy.1 b);rw[qn,Ib (X:=X) λx a=>by have:=h r c x a;omega,V4]
 .refine Ic λf b=>?_
  obtain⟨x,a,rfl⟩:=Vh.1 (jy.1 b);rw[qn,Ib (X:=R) λr c=>by have:=h r c x a;omega,VB]
structure jk(rows:DR)(syn:Nat)(s:RL)(R:DR)(L:LG)(n0:Int)(k:Nat):Prop where
 rows':rows=R++fG L
 ok:L.ok
 low:∀r∈R,r.1<s.seg
 lowL:∀r∈R,∀x∈L,r.1<x.1
 seg:∀x∈L,x.1<=s.seg
 next:s.next=n0+L.length
 kle:k<=L.length
 ssyn:s.syn=n0+k
 syn:syn=R.length+(fG (L.take k)).length
theorem jk.push{rows:DR}{syn:Nat}{s:RL}{R:DR}{L:LG}{n0:Int}{k:Nat}(h:jk rows syn s R L n0 k){g:Int}(f:s.seg<=g){r:Rc}(d:r.ok) :
  jk (rows++(bM r).map λb=>(g,b)) syn { s with seg:=g,next:=s.next+1 } R (L++[(g,r)]) n0 k:=by
 refine⟨by rw[GD,Qc,h.rows',Vj],⟨λx c=>?_,?_⟩,λr d=>by have:=h.low r d;dsimp only;omega,λr d x c=>?_,λx c=>?_,?_,by rw[UZ];have:=h.kle;omega,h.ssyn,
  by rw[WL h.kle];exact h.syn⟩
 .rcases Vz.1 c with c|c
  .exact h.ok.recs x c
  .rw [Vo]at c;subst c;exact d
 .rw [List.pairwise_append];refine⟨h.ok.up,List.pairwise_singleton _ _,λa e b hb=>?_⟩
  rw[Vo]at hb;subst hb;have:=h.seg a e;dsimp only;omega
 .rcases Vz.1 c with c|c
  .exact h.lowL r d x c
  .rw [Vo]at c;subst c;have:=h.low r d;dsimp only;omega
 .rcases Vz.1 c with c|c
  .have:=h.seg x c;dsimp only;omega
  .rw [Vo]at c;subst c;exact V7 _
 .rw [UZ];have:=h.next;dsimp only;simp only[Vf,Vy];omega
theorem jk.append{rows:DR}{syn:Nat}{s:RL}{R:DR}{L:LG}{n0:Int}{k:Nat}(h:jk rows syn s R L n0 k){r:Rc}(hb:aH r.data)(a:iw rows s r=0) :
  jk (fV rows s r) syn (dm rows s r) R (L++[((dm rows s r).seg,r)]) n0 k:=by
 have hs:=GB (rows:=rows) (s:=s) (r:=r);have e1:fV rows s r=rows++(bM r).map λb=>((dm rows s r).seg,b):=by unfold fV;rw[UW (by rw[a];decide)]
 have e2:dm rows s r={ s with seg:=(dm rows s r).seg,next:=s.next+1 }:=by unfold dm;rw[UW (by rw[a];decide)]
 have:=h.push hs.1 (zL hb a);rw[<-e1,<-e2]at this;exact this
theorem jk.sync{rows:DR}{syn:Nat}{s:RL}{R:DR}{L:LG}{n0:Int}{k:Nat}(h:jk rows syn s R L n0 k):jk rows rows.length { s with syn:=s.next } R L n0 L.length:=
 ⟨h.rows',h.ok,h.low,h.lowL,h.seg,h.next,Vg _,h.next,by rw[V8,h.rows',UZ]⟩
theorem jk.trim{rows:DR}{s:RL}{R:DR}{A B:LG}{seg:Int}{d:List Int}{n0:Int}{k:Nat}(h:jk rows rows.length s R (A++(seg,⟨0,d⟩)::B) n0 k)(hs:s.syn=s.next)(i:∀x∈A,x.1<seg) :
  jk (iy seg rows) (iy seg rows).length s [] ((seg,⟨0,d⟩)::B) (n0+A.length) (B.length+1):=by
 have b:=h.ok.up;rw[List.pairwise_append]at b;obtain⟨u1,u2,u3⟩:=b;have f:∀x∈(seg,(⟨0,d⟩:Rc))::B,seg<=x.1:=λx a=>by
  rcases Vm.1 a with rfl|a
  .exact V7 _
  .exact (VX.1 u2).1 x a
 have e:iy seg rows=fG ((seg,⟨0,d⟩)::B):=by
  rw[h.rows',GD];unfold iy;rw[List.filter_append,List.filter_append,Wq.2 λr c=>?_,VB]
  .have a1:=GW seg A;have a2:=GW seg ((seg,⟨0,d⟩)::B);unfold iy at a1 a2;rw[a1,a2,Wq.2 λx a=>by have:=i x a;simp;omega,WQ.2 λx a=>Vs (f x a)]
   rfl
  .have:=h.lowL r c (seg,⟨0,d⟩) (by simp);simp;omega
 have j:=h.next;rw[UZ,Vf]at j;refine⟨by rw[e];rfl,⟨λx a=>h.ok.recs x (WG _ a),u2⟩,λr c=>UY c (by simp),λr c=>UY c (by simp),λx a=>h.seg x (WG _ a),?_,Vg _,?_,?_⟩
 .rw [Vf];omega
 .omega
 .rw [e,V2 (by rw[Vf];omega)];simp
theorem jk.cut{rows:DR}{syn:Nat}{s:RL}{R:DR}{L:LG}{n0:Int}{k:Nat}(h:jk rows syn s R L n0 k)(keep:Int):∃p,k<=p/\p<=L.length/\dv (fF rows syn keep)=dv R++(L.take p).map Prod.snd:=by
 unfold fF;obtain⟨n,A⟩:∃n,syn+(min (max keep 0) ((rows.length:Int)-syn)).toNat=n:=⟨_,rfl⟩;rw[A];have f:=h.syn;obtain⟨p,g,t,B,m,u,C⟩:=GU L (n-R.length);have e:∀x∈L,0<(bM x.2).length:=λx a=>by have:=qp (h.ok.recs x a);omega
 have w:=C k h.kle (by omega) e;have c:LG.ok (L.take p):=⟨λx a=>h.ok.recs x (VR a),h.ok.up.take⟩
 refine⟨p,w,m,?_⟩;have d:∀r∈R,∀x∈(fG L).take (n-R.length),r.1<x.1:=λr D x a=>by
  obtain⟨y,i,a⟩:=WK.1 (VR a);obtain⟨b,_,rfl⟩:=Vh.1 a;exact h.lowL r D y i
 rw[h.rows',List.take_append,V2 (by omega),Qo d,B];congr 1
 rcases u with rfl|⟨r,⟨x,a,rfl⟩,j,v,rfl⟩
 .exact GN c (g:=g) (t:=[]) (λx a=>by cases a) rfl
 .exact GN c (tI _ (rP (h.ok.recs x a))) (P7 (h.ok.recs x a) v)
theorem Qp{rows:DR}(most:Int):jk rows rows.length (opS most rows) rows [] (dv rows).length 0:=by
 unfold opS;exact⟨by simp[fG],⟨λx a=>UY a (by simp),List.Pairwise.nil⟩,files_lt,λr b x a=>UY a (by simp),λx a=>UY a (by simp),by simp,Vg _,by simp,by simp[fG]⟩
theorem tellM_no:∀{l:List Rc},(dw l).1=none->dw l=(none,l)
 | [],_=>rfl
 | r::l,h=>by
  rw[dw]at h ⊢
  split at h
  .rename_i h0;rw[UX h0]
   split at h
   .cases h
   .rename_i a;rw[UW a]
  .rename_i h0;exact UY h h0
theorem zO:∀(a b:List Rc),dw (a++b)=if (dw b).1=none then ((dw a).1,(dw a).2++b) else dw b
 | [],b=>by
  by_cases e:(dw b).1=none
  .rw [UX e,VB,tellM_no e];rfl
  .rw [UW e,VB]
 | r::a,b=>by
  rw[Wf,dw,zO a b]
  by_cases e:(dw b).1=none
  .simp only[UX e];rw[dw]
   by_cases h:(dw a).1=none
   .rw [UX h,UX h]
    split <;> rfl
   .rw [UW h,UW h]
  .simp only[UW e]
theorem Ie(l:List Rc)(x:Rc):dw (l++[x])=if x.kind=0 then (some x.data,[]) else ((dw l).1,(dw l).2++[x]):=by
 rw[zO]
 by_cases h:x.kind=0
 .rw [UX h,UW] <;> simp[dw,h]
 .rw [UW h,UX] <;> simp[dw,h]
theorem Qq(a:List Rc){x:Rc}(h:x.kind=0)(b:List Rc):dw (a++x::b)=dw (x::b):=by
 rw[zO,UW];rw[dw]
 split
 .simp [h]
 .rename_i h0;exact h0
theorem tdivN(a b:Nat):Int.tdiv (a:Int) (b:Int)=((a/b:Nat):Int):=rfl
theorem tmodN(a b:Nat):Int.tmod (a:Int) (b:Int)=((a%b:Nat):Int):=rfl
theorem w_un{u u1 Q Y:Nat}(h:Q=(u*4294967296+u1)/Y)(b:0<Y)(a:Y<18446744073709551616) :
  u64.wrap ((u64.wrap ((u64.wrap ((u:Int)*4294967296))+(u1:Int)))-(u64.wrap ((Q:Int)*(Y:Int))))=(((u*4294967296+u1)%Y:Nat):Int):=by
 have c:=WJ (u*4294967296+u1) Y;have d:=Wc (u*4294967296+u1) b;rw[<-h]at c;rw[mulNN];generalize Q*Y=p at *;generalize (u*4294967296+u1)%Y=m at *;rw[dd,dd,dd,dd];omega
theorem norm_y{y:Nat}(h0:0<y)(h:y<18446744073709551616):64-bitLen y<64/\y*2^(64-bitLen y)<18446744073709551616/\9223372036854775808<=y*2^(64-bitLen y):=by
 obtain⟨b,a⟩:=bitLen_spec y;have a:=a (by omega);have c:bitLen y<=64:=by
  unfold bitLen
  split
  .omega
  .rename_i h0;have:=(Nat.log2_lt h0).2 (show y<2^64 from h);omega
 have d:0<bitLen y:=by unfold bitLen;rw[nO];omega
 refine⟨by omega,?_,?_⟩
 .calc y*2^(64-bitLen y)<2^bitLen y*2^(64-bitLen y):=(Nat.mul_lt_mul_right (Wz _)).2 b
   _=18446744073709551616:=by rw[<-VZ,show bitLen y+(64-bitLen y)=64 by omega]
 .calc 9223372036854775808=2^(bitLen y-1)*2^(64-bitLen y):=by rw[<-VZ,show bitLen y-1+(64-bitLen y)=63 by omega]
   _<=y*2^(64-bitLen y):=VS _ a
theorem norm_u{hi lo y s:Nat}(hs:s<64)(c:hi<y)(a:lo<18446744073709551616)(h:y*2^s<18446744073709551616) :
  hi*2^s+lo/2^(64-s)<y*2^s/\aY .or .u64 (u64.wrap ((hi:Int)*2^s)) (Int.fdiv (lo:Int) (2^(64-s)))=((hi*2^s+lo/2^(64-s):Nat):Int):=by
 have e:lo/2^(64-s)<2^s:=by
  rw[W3 (Wz _),<-VZ,show s+(64-s)=64 by omega];exact a
 have d:hi*2^s+2^s<=y*2^s:=by
  rw[<-Nat.succ_mul];exact VS _ c
 refine⟨by omega,?_⟩;have e1:(hi:Int)*2^s=((hi*2^s:Nat):Int):=by rw[Wy];simp
 have b:hi*2^s<18446744073709551616:=Nat.lt_of_lt_of_le (Nat.lt_add_of_pos_right (Wz s)) (Vu d (Nat.le_of_lt h));rw[e1,rr,u64n b,or64 b (Nat.lt_of_le_of_lt (Nat.div_le_self _ _) a)];congr 1;rw[Nat.mul_comm hi,<-Ym e]
section
variable {F L:List aE}{H:aC}{K:KE}
theorem div_core{hi lo y s Y u v:Nat}(hs:s<64)(j1:Y<18446744073709551616)(h7:9223372036854775808<=Y)(hu:u<Y)(j3:v<18446744073709551616)(h8:hi≠0)
  (L:u64.wrap ((y:Int)*2^s)=(Y:Int)) (n:u64.wrap ((lo:Int)*2^s)=(v:Int))
  (O:aY .or .u64 (u64.wrap ((hi:Int)*2^s)) (Int.fdiv (lo:Int) (2^(64-s)))=(u:Int))
  (hz:bU Tryz.prog 364 #[.int .u64 (y:Nat)] H (aD (s:Nat)))
  (k:K (.tuple #[.int .u64 (((u*18446744073709551616+v)/Y:Nat):Int),.int .u64 ((((u*18446744073709551616+v)%Y)/2^s:Nat):Int)]) H) :
  lB.r5 (hi:Int) (lo:Int) (y:Int) K H:=by
  unfold lB.r5;refine⟨λd=>?_,λd=>?_⟩
  .exfalso;simp only[Vc]at d;omega
  refine⟨_,hz,?_⟩;have G:u64.wrap (s:Int)=(s:Int):=u64n (by omega);have em:min (Int.toNat (s:Int)) u64.bits=s:=by rw[Vi];exact Ww (by simp only[IntKind.bits];omega)
  have e:u64.wrap (64-(s:Int))=((64-s:Nat):Int):=by rw[dd];omega
  have t:min (Int.toNat ((64-s:Nat):Int)) u64.bits=64-s:=by rw[Vi];exact Ww (by simp only[IntKind.bits];omega)
  obtain⟨u1,R⟩:∃u1,v/4294967296=u1:=⟨_,rfl⟩;obtain⟨u0,P⟩:∃u0,v%4294967296=u0:=⟨_,rfl⟩;obtain⟨y1,h0⟩:∃y1,Y/4294967296=y1:=⟨_,rfl⟩;obtain⟨y0,h4⟩:∃y0,Y%4294967296=y0:=⟨_,rfl⟩;have i:y1*4294967296+y0=Y:=by omega
  have ev:u1*4294967296+u0=v:=by have ev:=WJ v 4294967296;rw[R,P]at ev;exact ev
  have b1:2147483648<=y1:=by omega
  have l0:y1<4294967296:=by omega
  have b0:y0<4294967296:=by omega
  have c1:u1<4294967296:=by omega
  have c0:u0<4294967296:=by omega
  have hj:=kn_join (u:=u) (u1:=u1) (u0:=u0) (y:=Y) (by omega);have e0:u*18446744073709551616+v=(u*4294967296+u1)*4294967296+u0:=by rw[<-ev,VJ,Nat.mul_assoc,VQ]
  rw[e0,hj.1]at k;rw[hj.2]at k;have Z:Int.fdiv (Y:Int) (2^(min (Int.toNat 32) (u64.bits)))=(y1:Int):=by rw[vM,h0]
  have M:Int.fdiv (v:Int) (2^(min (Int.toNat 32) (u64.bits)))=(u1:Int):=by rw[vM,R]
  have T:aY .and .u64 (Y:Int) 4294967295=(y0:Int):=by rw[tv (by omega),h4]
  have mv:aY .and .u64 (v:Int) 4294967295=(u0:Int):=by rw[tv (by omega),P]
  have cond:∀q r w1:Nat,r<4294967296->w1<4294967296->((decide (4294967296<=(q:Int))||decide (u64.wrap ((u64.wrap (4294967296*(r:Int)))+(w1:Int))<u64.wrap ((q:Int)*(y0:Int))))=true↔(4294967296<=q\/4294967296*r+w1<q*y0)):=by
   intro q r w1 A hw;have ea:u64.wrap ((u64.wrap (4294967296*(r:Int)))+(w1:Int))=((4294967296*r+w1:Nat):Int):=by rw[dd,dd];omega
   rw[ea,mulNN,u64m];simp only[Vr,Vc]
   by_cases hB:4294967296<=q
   .constructor
    .intro _;exact .inl hB
    .intro _;exact .inl (by omega)
   .have:q*y0<=4294967296*4294967295:=Nat.mul_le_mul (by omega) (by omega);rw[Wj (by omega)]
    constructor
    .rintro (h|h)
     .omega
     .exact .inr (by omega)
    .rintro (h|h)
     .omega
     .exact .inr (by omega)
  have I:∀q r:Nat,1<=q->r<4294967296->q<=4294967297->u64.wrap ((q:Int)-1)=((q-1:Nat):Int)/\u64.wrap ((r:Int)+(y1:Int))=((r+y1:Nat):Int):=by
   intro q r h1 h2 h3;exact⟨by rw[dd];omega,by rw[dd];omega⟩
  have V:∀U:Nat,U<Y->u64.wrap ((U/y1:Nat):Int)=((U/y1:Nat):Int)/\u64.wrap ((U:Int)-u64.wrap (((U/y1:Nat):Int)*(y1:Int)))=((U%y1:Nat):Int)/\U%y1<4294967296:=by
   intro U hU;have h1:=WJ U y1;have h2:=Nat.div_le_self U y1;have h3:=Wc U (show 0<y1 by omega);refine⟨u64n (by omega),?_,by omega⟩;rw[mulNN];generalize U/y1*y1=p at *;rw[dd,dd];omega
  obtain⟨w,b⟩:∃w,(u*4294967296+u1)/Y=w:=⟨_,rfl⟩;obtain⟨R1,D⟩:∃R1,(u*4294967296+u1)%Y=R1:=⟨_,rfl⟩;have x:R1<Y:=by rw[<-D];exact Wc _ (by omega)
  have w1:=w_un (u:=u) (u1:=u1) (Q:=w) (Y:=Y) b.symm (by omega) (by omega);rw[D]at w1;obtain⟨B,c⟩:∃B,(R1*4294967296+u0)/Y=B:=⟨_,rfl⟩;have w0:=w_un (u:=R1) (u1:=u0) (Q:=B) (Y:=Y) c.symm (by omega) (by omega);have h5:w<4294967296:=by rw[<-b];exact kn_lt hu c1
  have h6:B<4294967296:=by rw[<-c];exact kn_lt x c0
  rw[b,D,c]at k;have last:lB.r1 (hi:Int) lo y K (s:Int) (w:Int) (B:Int) H:=by
   unfold lB.r1;simp only[G,em,e,t,L,n,O,Z,M,T,mv,w1,w0];refine⟨by omega,?_⟩;have ea:u64.wrap ((u64.wrap ((w:Int)*4294967296))+(B:Int))=((w*4294967296+B:Nat):Int):=by rw[dd,dd];omega
   rw[ea,rr];exact k
  have S:lB.r3 (hi:Int) lo y K (s:Int) (w:Int) H:=by
   unfold lB.r3;simp only[G,em,e,t,L,n,O,Z,M,T,mv,w1,tdivN];obtain⟨i1,i2,i3⟩:=V R1 x;obtain⟨n1,n2,n3,n4⟩:=Es (y0:=y0) (u:=R1) (u1:=u0) b1 b0 (by omega) c0;rw[i,c]at n3;refine⟨by omega,λh9 N=>⟨λa q0 W=>W=H/\∃q r:Nat,q0=q/\a=r/\q*y1+r=R1/\r<4294967296/\B<=q/\q<=4294967297,λa _ _=>4294967296-a.toNat,?_,?_⟩⟩
   .rw [i1,i2];exact⟨rfl,_,_,rfl,rfl,n1,i3,n3,n4⟩
   rintro a q0 W ⟨rfl,q,r,rfl,rfl,C,A,F,E⟩;simp only[G,em,e,t,L,n,O,Z,M,T,mv];refine⟨λd=>?_,λd=>?_⟩
   .have d:=(cond q r u0 A c0).1 d;have hd:=kn_dec (y0:=y0) (u:=R1) (u1:=u0) b1 (by omega) c0 C d;rw[i,c]at hd;obtain⟨p,rfl⟩:∃p,q=p+1:=⟨q-1,by omega⟩;have m:p*y1+(r+y1)=R1:=by rw[Nat.succ_mul]at C;omega
    obtain⟨e1,e2⟩:=I (p+1) r (by omega) A E;rw[Yg]at e1 hd;rw[e1,e2];refine⟨λf=>?_,λf=>⟨⟨trivial,_,_,rfl,rfl,m,?_,hd.2,by omega⟩,?_⟩⟩
    .simp only[Vc]at f;have j:=Eu (y0:=y0) (u:=R1) (u1:=u0) b1 b0 m (by rw[i,c];exact hd.2) (by omega) (by omega);rw[i,c]at j;rw[j];exact N _ _ last
    .simp only[Ve]at f;omega
    .simp only[Vi];omega
   .have d:¬(4294967296<=q\/4294967296*r+u0<q*y0):=λhh=>by rw[(cond q r u0 A c0).2 hh]at d;cases d
    have j:=Et (y0:=y0) (u:=R1) (u1:=u0) b1 C (by rw[i,c];exact F) (by omega);rw[i,c]at j;rw[j];exact N _ _ last
  simp only[G,em,e,t,L,n,O,Z,M,T,mv,tdivN];obtain⟨i1,i2,i3⟩:=V u hu;obtain⟨n1,n2,n3,n4⟩:=Es (y0:=y0) (u:=u) (u1:=u1) b1 b0 (by omega) c1;rw[i,b]at n3;refine⟨by omega,by decide,by omega,by omega,by omega,by decide,by omega,λj2 J=>⟨λq1 a W=>W=H/\∃q r:Nat,q1=q/\a=r/\q*y1+r=u/\r<4294967296/\w<=q/\q<=4294967297,λ_ a _=>4294967296-a.toNat,?_,?_⟩⟩
  .rw [i1,i2];exact⟨rfl,_,_,rfl,rfl,n1,i3,n3,n4⟩
  rintro q1 a W ⟨rfl,q,r,rfl,rfl,C,A,F,E⟩;simp only[G,em,e,t,L,n,O,Z,M,T,mv];refine⟨λd=>?_,λd=>?_⟩
  .have d:=(cond q r u1 A c1).1 d;have hd:=kn_dec (y0:=y0) (u:=u) (u1:=u1) b1 (by omega) c1 C d;rw[i,b]at hd;obtain⟨p,rfl⟩:∃p,q=p+1:=⟨q-1,by omega⟩;have m:p*y1+(r+y1)=u:=by rw[Nat.succ_mul]at C;omega
   obtain⟨e1,e2⟩:=I (p+1) r (by omega) A E;rw[Yg]at e1 hd;rw[e1,e2];refine⟨λf=>?_,λf=>⟨⟨trivial,_,_,rfl,rfl,m,?_,hd.2,by omega⟩,?_⟩⟩
   .simp only[Vc]at f;have j:=Eu (y0:=y0) (u:=u) (u1:=u1) b1 b0 m (by rw[i,b];exact hd.2) (by omega) (by omega);rw[i,b]at j;rw[j];exact J _ _ S
   .simp only[Ve]at f;omega
   .simp only[Vi];omega
  .have d:¬(4294967296<=q\/4294967296*r+u1<q*y0):=λhh=>by rw[(cond q r u1 A c1).2 hh]at d;cases d
   have j:=Et (y0:=y0) (u:=u) (u1:=u1) b1 C (by rw[i,b];exact F) (by omega);rw[i,b]at j;rw[j];exact J _ _ S
theorem Qr{hi lo y:Nat}(t:hi<y)(e:lo<18446744073709551616)(a:y<18446744073709551616)
  (k:K (.tuple #[.int .u64 (((hi*18446744073709551616+lo)/y:Nat):Int),.int .u64 (((hi*18446744073709551616+lo)%y:Nat):Int)]) H) :
  CF 331 #[.int .u64 (hi:Nat),.int .u64 (lo:Nat),.int .u64 (y:Nat)] H K:=by
 refine NJ ?_;refine λu j=>⟨λc=>?_,λ_=>j _ ?_⟩
 .exfalso;simp only[Vc]at c;omega
 refine λm f=>⟨λc=>?_,λ_=>f _ ?_⟩
 .exfalso;simp only[Vc]at c;omega
 by_cases h0:hi=0
 .subst h0;unfold lB.r5;refine⟨λ_=>⟨by omega,by omega,?_⟩,λc=>?_⟩
  .rw [tdivN,tmodN,u64n (Nat.lt_of_le_of_lt (Nat.div_le_self _ _) e)];rw[W8,Vw]at k;exact k
  .exfalso;simp at c
 .obtain⟨hs,b,d⟩:=norm_y (y:=y) (by omega) a;obtain⟨h,n⟩:=norm_u hs t e b;have i:=norm_num (hi:=hi) (lo:=lo) (s:=64-bitLen y) (by omega) e;refine div_core (v:=lo*2^(64-bitLen y)%18446744073709551616) hs b d h (Wc _ (by decide)) h0 ?_ ?_ n (Pk a) ?_
  .rw [<-u64n b,Wy];simp
  .rw [<-u64m,Wy];simp
  .rw [i,Nat.mul_div_mul_right _ _ (Wz _),Nat.mul_mod_mul_right,Nat.mul_div_cancel _ (Wz _)];exact k
theorem If{a b c:Int}{up:Bool}(t:aF a)(hb:aF b)(n:aF c)(k:K (.tuple #[aD (oR a b c up).1,aD (oR a b c up).2]) H) :
  CF 286 #[aD a,aD b,aD c,.bool up] H K:=by
 refine NV ?_;unfold oR at k;have v:zabs a<18446744073709551616:=by unfold zabs;unfold aF at t;omega
 have x:zabs b<18446744073709551616:=by unfold zabs;unfold aF at hb;omega
 refine⟨λj=>?_,λj=>?_⟩
 .rw [UX (by simpa using j)]at k;exact k
 .have s:¬c<1:=by simpa using j
  rw[UW s]at k;obtain⟨cn,rfl⟩:∃cn:Nat,c=cn:=⟨c.toNat,by omega⟩;have i:cn<18446744073709551616:=by unfold aF at n;omega
  rw[u64n i];rw[Vi]at k;refine⟨_,Gf t,_,Gf hb,_,_,Pg v x,?_⟩;have w:zabs a*zabs b/18446744073709551616*18446744073709551616+zabs a*zabs b%18446744073709551616=zabs a*zabs b:=WJ _ _;have m:zabs a*zabs b%18446744073709551616<18446744073709551616:=Wc _ (by decide);generalize zabs a*zabs b/18446744073709551616=hi at *;generalize zabs a*zabs b%18446744073709551616=lo at *;generalize zabs a*zabs b=P at *;refine⟨λe=>?_,λe=>?_⟩
  .rw [UX (by simp only[Vc]at e;omega)]at k;exact k
  .have e:¬cn<=hi:=by simp only[Ve]at e;omega
   rw[UW e]at k;refine Qr (by omega) m i ⟨_,_,rfl,?_⟩;rw[w];dsimp only at k;refine⟨λd=>?_,λd=>λy u=>?_⟩
   .rw [UX (by simp only[Vc]at d;omega)]at k;exact k
   .have d:¬9223372036854775808<P/cn:=by simp only[Ve]at d;omega
    rw[UW d]at k;have e1:u64.wrap (((P/cn:Nat):Int)+1)=((P/cn+1:Nat):Int):=(show ∀q:Nat,¬9223372036854775808<q->u64.wrap ((q:Int)+1)=((q+1:Nat):Int) from λq h=>by rw[dd];omega) _ d
    have e2:decide (((P%cn:Nat):Int)=0)=decide (P%cn=0):=by
     rw[decide_eq_decide];omega
    rw[e1,e2];refine⟨λf=>u _ _ ?_,λf=>u _ _ ?_⟩
    .rw [UX f]at k;exact⟨_,_,Gh (Nat.lt_of_le_of_lt (Nat.succ_le_succ (Nat.le_of_not_lt d)) (by decide)),k⟩
    .rw [f,UW Bool.false_ne_true]at k;exact⟨_,_,Gh (Nat.lt_of_le_of_lt (Nat.le_of_not_lt d) (by decide)),k⟩
theorem Qs{rho:Int}:bU Tryz.prog 285 #[aD rho] H (.bool (decide (gu rho))):=by
 refine cM 285 28 ⟨congrArg Value.bool ?_,rfl⟩;rw[VH];simp only[Vd,Vc,gu]
theorem Ih{x rho:Int}(f:aF x)(k:K (.tuple #[aD (lowS x rho).1,aD (lowS x rho).2]) H):CF 233 #[aD x,aD rho] H K:=by
 refine cM 233 125110962460 ?_;unfold lowS at k;refine⟨_,λ_=>Qs,λb=>?_,λb=>?_⟩
 .rw [UX (by simp only[Vr,Vc,V1,Ve]at b;omega)]at k;exact k
 .have c:¬(x < -4611686018427387904\/4611686018427387904<x\/¬gu rho):=by
   simp only[Vp,Ve,VI,Vc]at b;rintro (h|h|h)
   .exact b.1.1 h
   .exact b.1.2 h
   .exact h b.2
  rw[UW c]at k;have d:gu rho:=by
   rcases Classical.em (gu rho) with h|h
   .exact h
   .exact UY (.inr (.inr h)) c
  have e:¬x < -4611686018427387904/\¬4611686018427387904<x:=⟨λh=>c (.inl h),λh=>c (.inr (.inl h))⟩
  unfold gu at d;refine⟨λa=>?_,λa=>?_⟩
  .have h0:0<x:=by simpa using a
   rw[UX h0]at k
   conv=>whnf
   rw[aJ (x:=x-1),aJ (x:=1000000+rho)];exact If (by unfold aF;omega) (by unfold aF;omega) (by unfold aF;omega) ⟨_,_,rfl,k⟩
  .have h0:¬0<x:=by simpa using a
   rw[UW h0]at k
   conv=>whnf
   rw[aJ (x:=1-x),aJ (x:=1000000-rho)];exact If (by unfold aF;omega) (by unfold aF;omega) (by unfold aF;omega) ⟨_,_,rfl,k⟩
theorem Qt{x rho:Int}(c:aF x)(k:K (.tuple #[aD (oS x rho).1,aD (oS x rho).2]) H):CF 234 #[aD x,aD rho] H K:=by
 refine cM 234 7452 ?_;unfold oS at k;refine⟨λa=>?_,λa=>?_⟩
 .rw [UX (by simpa using a)]at k;exact k
 .have b:¬(x < -4611686018427387904\/4611686018427387904<x):=by simpa using a
  rw[UW b]at k;have e:i64.wrap (0-x)=-x:=by rw[aJ];omega
  conv=>whnf
  rw[e];exact Ih (by unfold aF;omega) ⟨_,_,rfl,k⟩
end
structure Gd where
 width:Int
 policy:Int
 most:Int
deriving DecidableEq
abbrev tT(g:Gd):Value:=.agg #[.int .i64 g.width,.int .i64 g.policy,.int .i64 g.most]
def Gd.ok(g:Gd):Prop:=1<=g.width/\g.width<=1099511627776/\0<=g.policy/\g.policy<=3/\0<=g.most/\g.most<=4611686018427387903
instance (g:Gd):Decidable g.ok:=by unfold Gd.ok;infer_instance
def fM(g:Gd)(t:Int):Int:=
 if g.ok then (if Int.tmod t g.width<0 then i64.wrap (i64.wrap (Int.tdiv t g.width)-1) else i64.wrap (Int.tdiv t g.width)) else 0
def dN(g:Gd)(x:Gp):Int×Int×Int:=
 if g.ok then (if x.ok then (fM g x.lo,fM g x.hi,0) else (0,0,10)) else (0,0,21)
def mz(g:Gd)(x:Gp):Int×Int:=
 if (dN g x).2.2≠0 then (0,(dN g x).2.2) else
 if u64.wrap g.most<wl x then (0,17) else
 if g.policy=0 then ((dN g x).1,0) else
 if g.policy=1 then ((dN g x).2.1,0) else
 if g.policy=2 then (fM g (midS x),0) else
 if (dN g x).1≠(dN g x).2.1 then (0,17) else ((dN g x).1,0)
structure bP where
 asked:Int
 got:Int
 sent:Int
 came:Int
deriving DecidableEq
def bP.z:bP:=⟨0,0,0,0⟩
abbrev eV(s:bP):Os:=[.int .i64 s.asked,.int .i64 s.got,.int .i64 s.sent,.int .i64 s.came]
abbrev aggSm(s:bP):Value:=.agg #[.int .i64 s.asked,.int .i64 s.got,.int .i64 s.sent,.int .i64 s.came]
theorem ky(s:bP):(eV s).length=4:=rfl
theorem zP(s:bP):cR (eV s)=true:=rfl
abbrev gJ(t:Int):Prop:=0<=t/\t<=4611686018427387903
def bP.ok(s:bP):Prop:=gJ s.asked/\gJ s.got/\gJ s.sent/\gJ s.came/\s.asked<=s.came/\s.got<=s.sent
instance (s:bP):Decidable s.ok:=by unfold bP.ok;infer_instance
def bP.wf(s:bP):Prop:=aF s.asked/\aF s.got/\aF s.sent/\aF s.came
theorem bP.ok.wf{s:bP}(h:s.ok):s.wf:=by unfold bP.ok gJ at h;unfold bP.wf aF;omega
def iQ(s:bP)(stamp rho:Int):Gp×Int:=
 if ¬s.ok then (Gp.z,10) else
 if ¬gJ stamp\/¬gu rho then (Gp.z,11) else
 let low:=(lowS (stamp-s.got) rho).1
 let high:=(oS (stamp-s.sent) rho).1
 let lo:=if 0>i64.wrap (s.asked+low) then 0 else i64.wrap (s.asked+low)
 let h1:=if (jz s.came high).2≠0 then 4611686018427387903 else (jz s.came high).1
 let hi:=if 4611686018427387903<h1 then 4611686018427387903 else h1
 if hi<lo then (Gp.z,13) else (⟨lo,hi⟩,0)
structure Ck where
 rho:Int
 least:Int
 held:Bool
 streak:Int
 smps:List bP
deriving DecidableEq
def iR(rho stamp:Int)(s:bP):Gp:=if (iQ s stamp rho).2≠0 then ⟨1,0⟩ else (iQ s stamp rho).1
def oW(l:List Gp):Bool:=decide (0<l.length)&&decide ((kK l).2=0)
def kM(c:Ck)(s:bP):Ck×Int:=
 if ¬s.ok then (c,10) else
 let l:=if 8<c.smps.length+1 then (c.smps++[s]).drop 1 else c.smps++[s]
 let gs:=l.map (iR c.rho s.sent)
 if oW gs then
  let st:=if c.streak<9223372036854775807 then c.streak+1 else c.streak
  ({ c with streak:=st,held:=if c.least<=st then false else c.held,smps:=l },0)
 else ({ c with held:=true,streak:=0,smps:=if (iR c.rho s.sent s).ok then [s] else [] },21)
def nG(rho stamp:Int):List bP->List Gp×Int
 | []=>([],0)
 | s::r=>if (iQ s stamp rho).2≠0 then ([],(iQ s stamp rho).2) else ((iQ s stamp rho).1::(nG rho stamp r).1,(nG rho stamp r).2)
def ckAt(c:Ck)(stamp:Int):Gp×Int:=
 if c.smps=[] then (Gp.z,19) else
 if ¬gJ stamp then (Gp.z,11) else
 if (nG c.rho stamp c.smps).2≠0 then (Gp.z,(nG c.rho stamp c.smps).2) else kK (nG c.rho stamp c.smps).1
structure CkOk(c:Ck):Prop where
 len:c.smps.length<=8
 ok:∀s∈c.smps,s.ok
 st:0<=c.streak/\c.streak<=9223372036854775807
theorem ckAdd_ok{c:Ck}(h:CkOk c)(s:bP):CkOk (kM c s).1:=by
 unfold kM
 split
 .exact h
 .rename_i hs;have hs:s.ok:=Decidable.not_not.1 hs;have d:∀x∈(if 8<c.smps.length+1 then (c.smps++[s]).drop 1 else c.smps++[s]),x.ok:=by
   intro x a;have:x∈c.smps++[s]:=by
    split at a
    .exact Wh a
    .exact a
   rcases Vz.1 this with b|b
   .exact h.ok x b
   .rw [Vo]at b;rw[b];exact hs
  have e:(if 8<c.smps.length+1 then (c.smps++[s]).drop 1 else c.smps++[s]).length<=8:=by
   have:=h.len
   split
   .simp only[Vt,UZ,VN];omega
   .simp only[UZ,VN];omega
  dsimp only;generalize (if 8<c.smps.length+1 then (c.smps++[s]).drop 1 else c.smps++[s])=l at d e ⊢
  by_cases hag:oW (l.map (iR c.rho s.sent))=true
  .rw [UX hag];exact⟨e,d,by have:=h.st;dsimp only;split <;> omega⟩
  .rw [UW hag];refine⟨?_,?_,by dsimp only;omega⟩
   .dsimp only;split <;> simp
   .dsimp only
    split
    .intro x a;rw[Vo]at a;rw[a];exact hs
    .intro x a;cases a
section
variable {F L:List aE}{H:aC}{K:KE}
theorem rQ{g:Gp}(h:aA H F)(k:∀a,aA a F->K (.bool (decide g.ok)) a):CF 150 #[jO g] H K:=by
 refine cM 150 28 ?_;refine h.al λ_ _ h=>?_;refine⟨_,Ra1,?_⟩;refine⟨_,Ra1,?_⟩
 exact k _ h.tl
theorem Qu{a b:Gp}(h:aA H F)(k:∀c,aA c F->K (jO (meet2 a b)) c):CF 288 #[jO a,jO b] H K:=by
 refine cM 288 28 ?_;refine h.al λ_ _ h=>?_;refine h.al λ_ _ h=>?_;refine h.al λ_ _ h=>?_;refine⟨_,Ra3,?_⟩;refine⟨_,Ra3,?_⟩;refine⟨_,Ra3,?_⟩;refine⟨_,Ra3,?_⟩;refine St3 h λ_ h=>?_;refine⟨_,_,Rs3,?_⟩
 exact k _ h.tl.tl.tl
theorem Qv{s:Gp}{a:KQ}{c:Nat}{gs:List Gp}(h:aA H F)(w:∀H,aA H F->aP H a (flat jN gs))(C:gs.length<=1000000)
  (k:∀m,aA m F->K (.tuple #[jO (mt s gs).1,aD (mt s gs).2]) m) :
  CF 287 #[jO s,.slice a gs.length c,.func (.func 288) #[] #[]] H K:=by
 refine cN 287 0x1215612399251d44dc [[(12,sI)]] ?_;refine h.al λb _ h=>?_
 refine h.al λb1 _ h=>?_
 refine⟨λi m=>∃(j:Nat) (t:Gp),i=j/\j<=gs.length/\mt s gs=mt t (gs.drop j)/\aA m (cellsA b1 [aD 0,aD 0] 89::cellsA b (jN t) 89::F),λi _=>gs.length-i.toNat,⟨0,s,rfl,V3 _,rfl,h⟩,?_⟩
 rintro i B ⟨j,t,rfl,D,e,h⟩;refine⟨λn=>?_,λn=>?_⟩
 .have f:j<gs.length:=by simpa using n
  have v:=w _ h.tl.tl;rw[VP f,mt]at e;refine⟨⟨by omega,by omega⟩,_,_,v.some wk (by omega) f,_,_,v.els wk f,?_⟩;refine h.al λb3 _ h=>?_
  refine St3 h λ_ h=>?_;refine⟨_,_,Rs3,?_⟩
  refine rQ (g:=gs[j]) h λx h=>⟨_,rfl,λd=>?_,λd=>?_⟩
  .have:¬(gs[j]).ok:=by simpa using d
   rw[UW this]at e;refine St3 h λ_ h=>?_;refine⟨_,_,Rs3,?_⟩
   have:=k _ h.tl.tl.tl;rw[e]at this;exact this
  .have:(gs[j]).ok:=by simpa using d
   rw[UX this]at e;refine⟨_,_,Rs3,?_⟩;refine⟨_,_,Rs3,?_⟩;refine⟨by kernel_rfl,?_⟩;refine Qu (a:=t) (b:=gs[j]) h λA h=>⟨_,_,rfl,?_⟩
   refine St3 h λ_ h=>?_
   have y:i64.wrap ((j:Int)+1)=((j+1:Nat):Int):=by rw[aJ];omega
   conv=>whnf
   rw[y];exact⟨⟨j+1,_,rfl,f,e,h.tl⟩,by simp only[Vi];omega⟩
 .have u:gs.length<=j:=by simpa using n
  rw[Yb u,mt]at e;refine⟨_,_,Rs2,?_⟩;refine rQ (g:=t) h λx h=>⟨_,rfl,λd=>?_,λd=>?_⟩
  .have:¬t.ok:=by simpa using d
   rw[UW this]at e;refine St2 h λ_ h=>?_;refine⟨_,_,Rs2,?_⟩
   have:=k _ h.tl.tl;rw[e]at this;exact this
  .have:t.ok:=by simpa using d
   rw[UX this]at e
   repeat (first|refine St2 h λ_ h=>?_|refine⟨_,_,Rs2,?_⟩)
   have:=k _ h.tl.tl;rw[e]at this;exact this
theorem tU{a:KQ}{c:Nat}{gs:List Gp}(h:aA H F)(e:∀H,aA H F->aP H a (flat jN gs))(d:gs.length<=1000000)
  (k:∀b,aA b F->K (.tuple #[jO (kK gs).1,aD (kK gs).2]) b) :
  CF 236 #[.slice a gs.length c] H K:=by
 refine cM 236 284 ?_;refine h.al λ_ _ h=>?_;refine h.al λ_ _ h=>?_;refine St2 h λ_ h=>?_;refine⟨_,_,Rs2,?_⟩
 refine Qv (s:=⟨_,_⟩) h (λH h=>e H h.tl.tl) d λb h=>⟨_,_,_,rfl,?_⟩
 refine St2 h λ_ h=>?_;refine⟨_,_,Rs2,?_⟩
 exact k _ h.tl.tl
theorem Qw{a:KQ}{c:Nat}{gs:List Gp}(h:aA H F)(e:∀H,aA H F->aP H a (flat jN gs))(d:gs.length<=1000000)
  (k:∀b,aA b F->K (.bool (oW gs)) b) :
  CF 149 #[.slice a gs.length c] H K:=by
 refine cM 149 284 ?_;refine tU h e d λb h=>⟨_,_,_,rfl,?_⟩
 refine h.al λ_ _ h=>?_;refine St1 h λ_ h=>?_
 have:=k _ h.tl;unfold oW at this;rw[show decide (0<gs.length)=decide (0<(gs.length:Int)) by rw[decide_eq_decide];omega]at this;exact this
theorem Qx{g:Gp}(h:aA H F)(k:∀b,aA b F->K (.int .u64 (wl g)) b):CF 292 #[jO g] H K:=by
 refine cM 292 476 ?_;refine h.al λ_ _ h=>?_;refine⟨_,_,Rs1,?_⟩
 refine rQ (g:=g) h λb h=>⟨_,rfl,λa=>?_,λa=>?_⟩
 .have:¬g.ok:=by simpa using a
  unfold wl at k;rw[UW this]at k;exact k _ h.tl
 .have:g.ok:=by simpa using a
  unfold wl at k;rw[UX this]at k;refine⟨_,Ra1,?_⟩;refine⟨_,Ra1,?_⟩;exact k _ h.tl
theorem Mid_spec{g:Gp}(h:aA H F)(k:∀b,aA b F->K (aD (midS g)) b):CF 293 #[jO g] H K:=by
 refine cM 293 476 ?_;refine h.al λ_ _ h=>?_;refine⟨_,_,Rs1,?_⟩
 refine rQ (g:=g) h λb h=>⟨_,rfl,λa=>?_,λa=>?_⟩
 .have:¬g.ok:=by simpa using a
  unfold midS at k;rw[UW this]at k;exact k _ h.tl
 .have:g.ok:=by simpa using a
  unfold midS at k;rw[UX this]at k;refine⟨_,Ra1,?_⟩;refine⟨_,Ra1,?_⟩;refine⟨_,Ra1,?_⟩;refine⟨_,Ra1,?_⟩;refine⟨by decide,?_⟩;exact k _ h.tl
theorem zQ{g:Gd}(h:aA H F)(k:∀a,aA a F->K (.bool (decide g.ok)) a):CF 248 #[tT g] H K:=by
 refine cM 248 28 ?_
 repeat (first|refine h.al λ_ _ h=>?_|refine⟨_,Ra1,?_⟩|refine⟨_,λ_=>Ra1,?_⟩)
 have:=k _ h.tl;have e:decide g.ok=((((((decide (1<=g.width))&&(decide (g.width<=1099511627776)))&&(decide (0<=g.policy)))&&(decide (g.policy<=3)))&&(decide (0<=g.most)))&&(decide (g.most<=4611686018427387903))):=by
  rw[VH];simp only[Vd,Vc]
  constructor
  .rintro⟨h1,h2,h3,h4,h5,h6⟩;exact⟨⟨⟨⟨⟨h1,h2⟩,h3⟩,h4⟩,h5⟩,h6⟩
  .rintro⟨⟨⟨⟨⟨h1,h2⟩,h3⟩,h4⟩,h5⟩,h6⟩;exact⟨h1,h2,h3,h4,h5,h6⟩
 rw[e]at this;exact this
theorem Ii{g:Gd}(h:aA H F)(k:∀b,aA b F->K (.tuple #[tT (if g.ok then g else ⟨0,0,0⟩),aD (if g.ok then 0 else 11)]) b) :
  CF 180 #[aD g.width,aD g.policy,aD g.most] H K:=by
 refine cM 180 4572 ?_;refine h.al λ_ _ h=>?_;refine h.al λ_ _ h=>?_;refine St2 h λ_ h=>?_;refine⟨_,_,_,Rs2,?_⟩
 refine zQ (g:=g) h λb h=>⟨_,rfl,λa=>?_,λa=>?_⟩
 .have:¬g.ok:=by simpa using a
  rw[UW this,UW this]at k;refine St2 h λ_ h=>?_;refine⟨_,_,_,Rs2,?_⟩
  exact k _ h.tl.tl
 .have:g.ok:=by simpa using a
  rw[UX this,UX this]at k
  repeat (first|refine St2 h λ_ h=>?_|refine⟨_,_,_,Rs2,?_⟩)
  exact k _ h.tl.tl
theorem wu{g:Gd}{t:Int}(h:aA H F)(k:∀c,aA c F->K (aD (fM g t)) c):CF 160 #[tT g,aD t] H K:=by
 refine cN 160 7803597980 [[(5,sI)]] ?_;refine h.al λ_ _ h=>?_;refine⟨_,_,_,Rs1,?_⟩
 refine zQ (g:=g) h λc h=>⟨_,rfl,λb=>?_,λb=>?_⟩
 .have:¬g.ok:=by simpa using b
  unfold fM at k;rw[UW this]at k;exact k _ h.tl
 .have e:g.ok:=by simpa using b
  unfold fM at k;rw[UX e]at k;have h0:g.width≠0:=by unfold Gd.ok at e;omega
  refine⟨_,h.r 0,h0,_,h.r 0,h0,λf d=>⟨λa=>d _ _ ?_,λa=>d _ _ ?_⟩⟩
  .skip
   rw[UX (by simpa using a)]at k;exact k _ h.tl
  .skip
   rw[UW (by simpa using a)]at k;exact k _ h.tl
theorem Ij{g:Gd}{x:Gp}(h:aA H F)(k:∀b,aA b F->K (.tuple #[aD (dN g x).1,aD (dN g x).2.1,aD (dN g x).2.2]) b) :
  CF 240 #[tT g,jO x] H K:=by
 refine cM 240 7644 ?_;refine h.al λ_ _ h=>?_;refine h.al λ_ _ h=>?_;refine⟨_,_,_,Rs2,?_⟩
 unfold dN at k;refine zQ (g:=g) h λb h=>⟨_,rfl,λa=>?_,λa=>?_⟩
 .have:¬g.ok:=by simpa using a
  rw[UW this]at k;exact k _ h.tl.tl
 .have:g.ok:=by simpa using a
  rw[UX this]at k;refine⟨_,_,Rs2,?_⟩;refine rQ (g:=x) h λb h=>⟨_,rfl,λa=>?_,λa=>?_⟩
  .have:¬x.ok:=by simpa using a
   rw[UW this]at k;exact k _ h.tl.tl
  .have:x.ok:=by simpa using a
   rw[UX this]at k
   repeat (first|refine⟨_,Ra2,?_⟩|refine⟨_,_,_,Rs2,?_⟩)
   refine wu (g:=g) h λb h=>⟨_,rfl,h.r 0,h.q 1,?_⟩
   refine wu (g:=g) h λb h=>⟨_,rfl,?_⟩
   exact k _ h.tl.tl
theorem Qy{g:Gd}{x:Gp}(h:aA H F)(k:∀b,aA b F->K (.tuple #[aD (mz g x).1,aD (mz g x).2]) b) :
  CF 242 #[tT g,jO x] H K:=by
 refine cM 242 0x11dd21513c13cbdc ?_;refine h.al λ_ _ h=>?_;refine h.al λ_ _ h=>?_;refine⟨_,_,_,Rs2,?_⟩;refine⟨_,_,Rs2,?_⟩
 unfold mz at k;refine Ij (g:=g) (x:=x) h λb h=>⟨_,_,_,rfl,λa=>?_,λa=>?_⟩
 .rw [UX (by simpa using a)]at k;exact k _ h.tl.tl
 .rw [UW (by simpa using a)]at k
  repeat (first|refine⟨_,Ra2,?_⟩|refine⟨_,_,Rs2,?_⟩)
  refine Qx (g:=x) h λb h=>⟨_,rfl,h.r 1,λa=>?_,λa=>?_⟩
  .rw [UX (by simpa using a)]at k;exact k _ h.tl.tl
  .rw [UW (by simpa using a)]at k;refine⟨_,Ra2,?_⟩;refine⟨λa=>?_,λa=>?_⟩
   .rw [UX (by simpa using a)]at k;exact k _ h.tl.tl
   rw[UW (by simpa using a)]at k;refine⟨λa=>?_,λa=>?_⟩
   .rw [UX (by simpa using a)]at k;exact k _ h.tl.tl
   rw[UW (by simpa using a)]at k;refine⟨λa=>?_,λa=>?_⟩
   .rw [UX (by simpa using a)]at k;refine⟨_,_,_,Rs2,?_⟩;refine⟨_,_,Rs2,?_⟩;refine Mid_spec (g:=x) h λb h=>⟨_,rfl,h.q 1,?_⟩
    refine wu (g:=g) h λb h=>⟨_,rfl,?_⟩
    exact k _ h.tl.tl
   rw[UW (by simpa using a)]at k;refine⟨λa=>?_,λa=>?_⟩
   .rw [UX (by simpa using a)]at k;exact k _ h.tl.tl
   .rw [UW (by simpa using a)]at k;exact k _ h.tl.tl
end
def ckA(b:Nat)(c:Ck):aE:=exS λp:KQ×Nat=>cellsA b [.int .i64 c.rho,.int .i64 c.least,.bool c.held,.int .i64 c.streak,.slice p.1 c.smps.length p.2] 289*slA 58 4 p.1 c.smps.length p.2 (flat eV c.smps)
theorem gK{H:aC}{b:Nat}{c:Ck}{L:List aE}:aA H (ckA b c::L)↔∃a k,aA H (cellsA b [.int .i64 c.rho,.int .i64 c.least,.bool c.held,.int .i64 c.streak,.slice a c.smps.length k] 289::slA 58 4 a c.smps.length k (flat eV c.smps)::L):=by
 unfold ckA;rw[cJ]
 constructor
 .rintro⟨p,h⟩;exact⟨p.1,p.2,gp.1 h⟩
 .rintro⟨a,k,h⟩;exact⟨(a,k),gp.2 h⟩
theorem aP.subK{H:aC}{a:KQ}{cs:Os}{k c sz:Nat}(h:aP H a cs)(s:cs.length<=c*sz):aP H (bZ a k c sz) (cs.drop (k*sz)):=by
 intro j v d;have b:aT cs (k*sz+j)=Option.some v:=by
  rw[fL]at d ⊢;rw[List.getElem?_drop]at d;exact d
 obtain⟨i,f⟩:=h (k*sz+j) v b;have n:=nT b;have m:c≠k:=by rintro rfl;omega
 have e:bZ a k c sz=Option.some ⟨aV a,aS a+k*sz,none⟩:=by
  unfold bZ;rw[nO,i,V9,iN];rfl
 rw[e];refine⟨rfl,?_⟩;show aK H (aV a) (aS a+k*sz+j)=Option.some v;rw[VQ];exact f
theorem tV:SlT Tryz.prog 267 58 4 32:=iM (by kernel_rfl)
theorem sl239:SlT Tryz.prog 309 89 2 16:=iM (by kernel_rfl)
section
variable {F L:List aE}{H:aC}{K:KE}
theorem isTime_spec{t:Int}:bU Tryz.prog 228 #[aD t] H (.bool (decide (gJ t))):=by
 refine cM 228 28 ⟨congrArg Value.bool ?_,rfl⟩;rw[VH];simp only[Vd,Vc,gJ]
theorem Ik{t:Int}:bU Tryz.prog 232 #[aD t] H (.bool (decide (gu t))):=by
 refine cM 232 28 ⟨congrArg Value.bool ?_,rfl⟩;rw[VH];simp only[Vd,Vc,gu]
theorem wv{s:bP}(h:aA H F)(k:∀a,aA a F->K (.bool (decide s.ok)) a):CF 139 #[aggSm s] H K:=by
 refine cM 139 28 ?_;refine h.al λb _ h=>?_
 refine⟨_,h.r 0,_,isTime_spec,_,λ_=>h.r 0,_,λ_=>isTime_spec,_,λ_=>h.r 0,_,λ_=>isTime_spec,_,λ_=>h.r 0,_,λ_=>isTime_spec,_,λ_=>h.r 0,_,λ_=>h.r 0,_,λ_=>h.r 0,_,λ_=>h.r 0,?_⟩
 have:=k _ h.tl;have e:decide s.ok=(((((decide (gJ s.asked)&&decide (gJ s.got))&&decide (gJ s.sent))&&decide (gJ s.came))&&(decide (s.asked<=s.came)))&&(decide (s.got<=s.sent))):=by
  rw[VH];simp only[Vd,Vc]
  constructor
  .rintro⟨h1,h2,h3,h4,h5,h6⟩;exact⟨⟨⟨⟨⟨h1,h2⟩,h3⟩,h4⟩,h5⟩,h6⟩
  .rintro⟨⟨⟨⟨⟨h1,h2⟩,h3⟩,h4⟩,h5⟩,h6⟩;exact⟨h1,h2,h3,h4,h5,h6⟩
 rw[e]at this;exact this
theorem ww{s:bP}{stamp rho:Int}(h:aA H F)(k:∀b,aA b F->K (.tuple #[jO (iQ s stamp rho).1,aD (iQ s stamp rho).2]) b) :
  CF 148 #[aggSm s,aD stamp,aD rho] H K:=by
 refine Ox ?_;refine h.al λb0 _ h=>?_
 refine h.al λb1 _ h=>?_
 refine⟨_,_,_,_,h.q 1,?_⟩;unfold iQ at k;refine wv (s:=s) h λb h=>⟨_,rfl,λa=>?_,λa=>?_⟩
 .have:¬s.ok:=by simpa using a
  rw[UX this]at k;refine St2 h λ_ h=>?_;refine⟨_,_,Rs2,?_⟩
  exact k _ h.tl.tl
 .have hs:s.ok:=by simpa using a
  rw[UW (by simpa using hs)]at k;have c:=hs.wf;refine⟨_,isTime_spec,_,λ_=>Ik,λa=>?_,λa=>?_⟩
  .have:¬gJ stamp\/¬gu rho:=by
    simp only[Vr,V1,Ve]at a;exact a
   rw[UX this]at k;refine St2 h λ_ h=>?_;refine⟨_,_,Rs2,?_⟩
   exact k _ h.tl.tl
  .have e:¬(¬gJ stamp\/¬gu rho):=by
    simp only[Vp,VI,Vc]at a;rintro (h|h)
    .exact h a.1
    .exact h a.2
   rw[UW e]at k;have d:gJ stamp:=by
    rcases Classical.em (gJ stamp) with h|h
    .exact h
    .exact UY (.inl h) e
   dsimp only at k;have i:=hs;unfold bP.ok gJ at hs;unfold gJ at d;refine⟨_,Ra2,?_⟩;dsimp only;rw[aJ (x:=stamp-s.got)];refine Ih (by unfold aF;omega) ⟨_,_,rfl,?_⟩;refine⟨_,Ra2,?_⟩;dsimp only;rw[aJ (x:=stamp-s.sent)];refine Qt (by unfold aF;omega) ⟨_,_,rfl,?_⟩;refine⟨_,h.r 1,_,h.r 1,_,_,Ge c.2.2.2 (highS_wf _ _),?_⟩;have last:∀hi:Int,hi=(if (jz s.came (oS (stamp-s.sent) rho).1).2≠0 then 4611686018427387903 else (jz s.came (oS (stamp-s.sent) rho).1).1)->yU.r1 K b1 (lowS (stamp-s.got) rho).1 s.asked hi b:=by
    intro hi j;rw[<-j]at k;unfold yU.r1;refine⟨λa=>?_,λa=>?_⟩
    .rw [UX (by simpa using a)]at k;refine St2 h λ_ h=>?_;refine⟨_,_,Rs2,?_⟩
     exact k _ h.tl.tl
    .rw [UW (by simpa using a)]at k;refine St2 h λ_ h=>?_;refine⟨_,_,Rs2,?_⟩
     exact k _ h.tl.tl
   refine λm f=>⟨λa=>f _ _ (last _ ?_),λa=>f _ _ (last _ ?_)⟩
   .rw [UX (by simpa using a)]
   .rw [UW (by simpa using a)]
theorem Il{rho least:Int}(h:aA H F)(k1:¬(gu rho/\0<=least/\least<=100)->K (.tuple #[.pointer none,aD 11]) H)
  (k2:gu rho/\0<=least/\least<=100->∀b c,aA c (ckA b ⟨rho,least,false,0,[]⟩::F)->K (.tuple #[.pointer (some ⟨b,0,none⟩),aD 0]) c) :
  CF 182 #[aD rho,aD least] H K:=by
 refine cM 182 476 ?_;refine⟨_,Ik,λa=>k1 ?_,λa=>?_⟩
 .simp only[Vr,V1,Ve,Vc]at a;rintro⟨h1,h2,h3⟩
  rcases a with (h|h)|h
  .exact h h1
  .omega
  .omega
 .simp only[Vp,VI,Vc,Ve]at a;have h:=h.sl_nil 58 4;refine h.al λb _ h=>?_
  exact k2 ⟨a.1.1,by omega,by omega⟩ _ _ (gK.2 ⟨none,0,h⟩)
theorem tW{b:Nat}{c:Ck}(h:aA H (ckA b c::F)):bU Tryz.prog 69 #[.pointer (some ⟨b,0,none⟩)] H (.bool c.held):=by
 obtain⟨a,n,h⟩:=gK.1 h;exact cM 69 28 ⟨_,h.r 0,rfl,rfl⟩
theorem Qz{b:Nat}{c:Ck}(h:aA H (ckA b c::F)):bU Tryz.prog 121 #[.pointer (some ⟨b,0,none⟩)] H (aD c.streak):=by
 obtain⟨a,n,h⟩:=gK.1 h;exact cM 121 28 ⟨_,h.r 0,rfl,rfl⟩
theorem zS{a:KQ}{c:Nat}{l:List bP}(h:aA H F)(j:∀H,aA H F->aP H a (flat eV l))(w:l.length<=1000000)
  (k:∀e d f,aA f (slA 58 4 e l.length d (flat eV l)::F)->K (.slice e l.length d) f):CF 134 #[.slice a l.length c] H K:=by
 refine cM 134 476 ⟨λi=>?_,λi=>?_⟩
 .have:a=none:=by simpa using i
  subst this;have t:=nV (j H h);have:l=[]:=by
   have:=congrArg List.length t;rw[eZ ky]at this;exact Wn (by simp at this;omega)
  subst this;exact k none 0 H (h.sl_nil 58 4)
 .refine h.al λb _ h=>?_
  have u:=j _ h.tl;have v:=aA.sl_pt (cs:=[]) h 4 0 rfl;refine aA.append (m:=l.length) tV v 0 rfl u (eZ ky l) (l8 zP l) (by omega) (by omega) λe d f s=>⟨_,_,_,rfl,?_⟩
  have n:aA f (slA 58 4 e (0+l.length) d ([]++flat eV l)::F):=s;rw[Vw,VB]at n;have:=k e d f n;rw[<-Vw l.length]at this;exact this
theorem QF{a:KQ}{c:Nat}{l:List bP}{j:Nat}(v:j<=l.length)(h:aA H (slA 58 4 a l.length c (flat eV l)::F))
  (k:∀b,aA b (slA 58 4 a (l.length-j) c (flat eV (l.drop j))::F)->K (.slice a (l.length-j) c) b):CF 147 #[.slice a l.length c,aD 0,aD j] H K:=by
 have n:=h.sl_nc 0 rfl;refine cM 147 18682140 ?_;refine⟨⟨by omega,by omega,by omega,by omega⟩,λd=>?_,λd=>?_⟩
 .have:j=0:=by simp only[Vc]at d;omega
  subst this;exact k H h
 .have hj0:0<j:=by simp only[Ve]at d;omega
  refine⟨⟨by omega,by omega,by omega⟩,⟨by omega,by omega,by omega⟩,?_⟩;have f:=h.sl_rd 0 rfl;have hs:=f.some ky (by omega) (k:=0) (by omega);have e0:bZ a 0 c 4=a:=by
   unfold bZ;rw[nO,hs,V9,iN];simp
  have i:=f.subK (k:=j) (c:=c) (sz:=4) (by rw[eZ ky];omega);rw[te ky]at i;have e:=h.sl_take 0 rfl 0 (by omega);simp only[W8,W4]at e;show cA Tryz.prog (Builtin.append_ #[267,267] 267 #[.slice (bZ a 0 c 4) 0 c,.slice (bZ a j c 4) (l.length-j) (c-j)]) H _;rw[e0];refine aA.appendIn tV e 0 rfl i (by rw[eZ ky,Vt]) (l8 zP _) (by omega) λb s=>⟨_,_,_,rfl,⟨by omega,by omega,by omega⟩,?_⟩
  rw[Vw];have m:aA b (slA 58 4 a (0+(l.length-j)) c ([]++flat eV (l.drop j))::F):=s;rw[Vw,VB]at m;exact aA.clearS tV (by kernel_rfl) m 0 rfl (by omega) λ_ u t=>k _ t
theorem zT{b:Nat}{c:Ck}(h:aA H (ckA b c::F))(i:c.smps.length<=1000000)
  (k:∀e d f,aA f (slA 58 4 e c.smps.length d (flat eV c.smps)::ckA b c::F)->K (.slice e c.smps.length d) f):CF 120 #[.pointer (some ⟨b,0,none⟩)] H K:=by
 obtain⟨a,n,h⟩:=gK.1 h;refine cM 120 28 ⟨_,_,_,h.r 0,?_⟩;refine zS h (λH h=>h.sl_rd 1 rfl) i λe d f h=>⟨_,_,_,rfl,k _ _ _ ?_⟩
 have h:=h.o [1,2,0] 3;have h:=gK.2 ⟨_,_,h⟩;exact h.o [1,0] 2
theorem QH{b:Nat}{c:Ck}(h:aA H (ckA b c::F))(f:c.smps.length<=1000000)
  (k:∀e d,aA d (ckA e c::ckA b c::F)->K (.pointer (some ⟨e,0,none⟩)) d):CF 62 #[.pointer (some ⟨b,0,none⟩)] H K:=by
 obtain⟨a,n,h⟩:=gK.1 h;refine cM 62 4380 ?_;refine⟨_,_,_,_,_,_,_,h.q 0,?_⟩;refine h.al λ_ _ h=>?_;refine St3 h λ_ h=>?_
 refine⟨_,_,_,h.r 1,?_⟩;refine zS h (λH h=>h.sl_rd 2 rfl) f λj i d h=>⟨_,_,_,rfl,?_⟩
 refine St4 h λ_ h=>?_
 refine k _ _ ?_;have h:=h.o [1,0,2,3] 4;have h:=gK.2 ⟨_,_,h⟩;have h:=h.o [1,2,0] 3;have h:=gK.2 ⟨_,_,h⟩;exact h.o [1,0] 2
theorem QI{b:Nat}{c:Ck}{held:Bool}{streak:Int}{a0:KQ}{n0:Nat}{l:List bP}(h:aA H (ckA b c::F))(w:∀H,aA H F->aP H a0 (flat eV l))
  (k1:¬(l.length<=8/\0<=streak/\∀s∈l,s.ok)->∀e,aA e (ckA b c::F)->K (aD 10) e)
  (k2:(l.length<=8/\0<=streak/\∀s∈l,s.ok)->∀e,aA e (ckA b ⟨c.rho,c.least,held,streak,l⟩::F)->K (aD 0) e) :
  CF 261 #[.pointer (some ⟨b,0,none⟩),.bool held,aD streak,.slice a0 l.length n0] H K:=by
 refine cN 261 0x1d215612399251b41c [[(20,sI)]] ?_;refine⟨λf=>k1 ?_ _ h,λf=>?_⟩
 .simp only[Vr,Vc]at f;omega
 .have t:l.length<=8/\0<=streak:=by simp only[Vp,Ve]at f;omega
  refine⟨λi e=>∃j:Nat,i=j/\j<=l.length/\(∀s∈l.take j,s.ok)/\aA e (ckA b c::F),λi _=>l.length-i.toNat,⟨0,rfl,V3 _,λ_ hs=>by simp at hs,h⟩,?_⟩
  rintro i G ⟨j,rfl,E,k,h⟩;refine⟨λf=>?_,λf=>?_⟩
  .have d:j<l.length:=by simpa using f
   have x:=w _ h.tl;refine⟨⟨by omega,by omega⟩,_,_,x.some ky (by omega) d,_,_,_,_,x.els ky d,?_⟩;refine h.al λ_ _ h=>?_;refine St1 h λ_ h=>?_;refine⟨_,_,_,_,Rs1,?_⟩
   refine wv (s:=l[j]) h λD h=>⟨_,rfl,λm=>?_,λm=>?_⟩
   .have:¬(l[j]).ok:=by simpa using m
    exact k1 (λA=>this (A.2.2 _ (Vk d))) _ h.tl
   .have u:(l[j]).ok:=by simpa using m
    have y:i64.wrap ((j:Int)+1)=((j+1:Nat):Int):=by rw[aJ];omega
    conv=>whnf
    rw[y];refine⟨⟨j+1,rfl,d,λs hs=>?_,h.tl⟩,by simp only[Vi];omega⟩
    rw[List.take_add_one,List.getElem?_eq_getElem d]at hs
    rcases Vz.1 hs with hs|hs
    .exact k s hs
    .simp at hs;rw[hs];exact u
  .have v:l.length<=j:=by simpa using f
   rw[V2 v]at k;obtain⟨a,n,h⟩:=gK.1 h;refine zS h (λH h=>w H h.tl.tl) (by omega) λC B e h=>⟨_,_,_,rfl,?_⟩
   refine St2 h λ_ h=>?_;refine St2 h λ_ h=>?_;refine St2 h λ_ h=>?_
   refine k2 ⟨t.1,t.2,k⟩ _ ?_;have h:=h.o [1,0] 3;exact gK.2 ⟨_,_,h⟩
end
theorem dn{p:Prop}[Decidable p](h:(!decide p)=true):¬p:=by simpa using h
theorem dy{p:Prop}[Decidable p](h:(!decide p)=false):p:=by simpa using h
section
variable {F L:List aE}{H:aC}{K:KE}
theorem QJ{b:Nat}{c:Ck}{stamp:Int}(E:c.smps.length<=8)(h:aA H (ckA b c::F))
  (k:∀m,aA m (ckA b c::F)->K (.tuple #[jO (ckAt c stamp).1,aD (ckAt c stamp).2]) m) :
  CF 244 #[.pointer (some ⟨b,0,none⟩),aD stamp] H K:=by
 obtain⟨a,n,h⟩:=gK.1 h;refine cN 244 0x1dd121561239925128d44c [[(9,sA),(10,sI)],[(6,sS),(33,sI)]] ?_;unfold ckAt at k;refine h.al λb0 _ h=>?_
 refine⟨_,_,_,h.r 1,λd=>?_,λd=>?_⟩
 .have:c.smps=[]:=by simpa using d
  rw[UX this]at k;refine St1 h λ_ h=>?_;refine⟨_,_,Rs1,?_⟩
  exact k _ (gK.2 ⟨_,_,h.tl⟩)
 have x:c.smps≠[]:=by simpa using d
 rw[UW x]at k;refine⟨_,isTime_spec,λd=>?_,λd=>?_⟩
 .have:¬gJ stamp:=dn d;rw[UX this]at k;refine St1 h λ_ h=>?_;refine⟨_,_,Rs1,?_⟩
  exact k _ (gK.2 ⟨_,_,h.tl⟩)
 have B:gJ stamp:=dy d;rw[UW (not_not_intro B)]at k;refine⟨_,_,_,h.r 1,?_⟩;refine h.mk0 sl239 (by omega) (by omega) λt P h=>⟨_,_,_,rfl,_,_,_,h.r 2,?_⟩
 refine⟨λt C v i m=>∃(j:Nat) (gs:List Gp),i=j/\j<=c.smps.length/\C=gs.length/\gs.length=j/\
   nG c.rho stamp c.smps=(gs++(nG c.rho stamp (c.smps.drop j)).1,(nG c.rho stamp (c.smps.drop j)).2)/\
   aA m (slA 89 2 t gs.length v (flat jN gs)::cellsA b0 [aD 0,aD 0] 89::cellsA b [aD c.rho,aD c.least,.bool c.held,aD c.streak,.slice a c.smps.length n] 289::slA 58 4 a c.smps.length n (flat eV c.smps)::F),
  λ_ _ _ i _=>c.smps.length-i.toNat,⟨0,[],rfl,V3 _,rfl,rfl,rfl,h⟩,?_⟩
 rintro t C v i Q ⟨j,gs,rfl,O,rfl,y,e,h⟩;refine⟨λd=>?_,λd=>?_⟩
 .have f:j<c.smps.length:=by simpa using d
  have D:=h.sl_rd 3 rfl;rw[VP f,nG]at e;refine⟨⟨by omega,by omega⟩,_,_,D.some ky (by omega) f,_,_,_,_,D.els ky f,?_⟩;refine h.al λ_ _ h=>?_;refine St1 h λ_ h=>?_
  refine λL J=>?_
  have fin:∀gb A,aA A (cellsA gb (jN (iQ c.smps[j] stamp c.rho).1) 89::slA 89 2 t gs.length v (flat jN gs)::cellsA b0 [aD 0,aD 0] 89::cellsA b [aD c.rho,aD c.least,.bool c.held,aD c.streak,.slice a c.smps.length n] 289::slA 58 4 a c.smps.length n (flat eV c.smps)::F)->L gb 0 (iQ c.smps[j] stamp c.rho).2 A:=by
   intro gb A h;refine J _ _ _ _ ?_;refine⟨λd=>?_,λd=>?_⟩
   .have u:(iQ c.smps[j] stamp c.rho).2≠0:=by simpa using d
    rw[UX u]at e;rw[e,UX u]at k;refine St3 h λ_ h=>?_;refine⟨_,_,Rs3,?_⟩
    exact k _ (gK.2 ⟨_,_,h.tl.tl.tl⟩)
   .have u:¬(iQ c.smps[j] stamp c.rho).2≠0:=by simpa using d
    rw[UW u]at e;refine⟨_,_,h.q 0,?_⟩;rintro b3 _ rfl rfl;refine h.append1 sl239 1 rfl rfl rfl (by omega) (by omega) λN M m h=>⟨_,_,_,rfl,?_⟩
    have G:i64.wrap ((j:Int)+1)=((j+1:Nat):Int):=by rw[aJ];omega
    conv=>whnf
    rw[G];have h:=h.tl;refine⟨⟨j+1,gs++[(iQ c.smps[j] stamp c.rho).1],rfl,f,by simp,by simp[y],?_,?_⟩,by simp only[Vi];omega⟩
    .rw [e,Vj];rfl
    .rw [dT,nq,UZ];exact h
  refine⟨_,_,_,_,h.q 0,_,h.r 3,?_,?_⟩
  .refine ww (s:=c.smps[j]) h λm h=>⟨_,_,_,rfl,?_⟩
   refine h.al λ_ _ h=>?_;refine St1 h λ_ h=>?_
   exact fin _ _ (h.o [0] 2)
  .refine h.al λb5 _ h=>?_
   refine⟨h.r 4,h.q 1,?_⟩;refine ww (s:=c.smps[j]) h λm h=>⟨_,_,_,rfl,?_⟩
   refine St1 h λ_ h=>?_
   exact fin _ _ (h.o [0] 2)
 .have w:c.smps.length<=j:=by simpa using d
  rw[Yb w,nG,V4]at e;rw[e,UW (λI=>I rfl)]at k
  refine tU (gs:=gs) h (λH h=>h.sl_rd 0 rfl) (by omega) λm h=>⟨_,_,_,rfl,?_⟩
  refine St2 h λ_ h=>?_;refine⟨_,_,Rs2,?_⟩
  exact k _ (gK.2 ⟨_,_,h.tl.tl⟩)
theorem QK{a:KQ}{c n:Nat}{gs:List Gp}(f:gs.length=n)(h:aA H F)(e:∀H,aA H F->aP H a (flat jN gs))(d:n<=1000000)
  (k:∀b,aA b F->K (.bool (oW gs)) b) :
  CF 149 #[.slice a n c] H K:=by
 subst f;exact Qw h e d k
theorem QL{b:Nat}{c:Ck}{s:bP}(ok:CkOk c)(h:aA H (ckA b c::F))
  (k:∀u,aA u (ckA b (kM c s).1::F)->K (aD (kM c s).2) u) :
  CF 67 #[.pointer (some ⟨b,0,none⟩),aggSm s] H K:=by
 obtain⟨a,n,h⟩:=gK.1 h;have h0:=ok.len;have u8:=ok.st;refine O9 ?_;unfold kM at k;refine h.al λb0 _ h=>?_
 refine⟨_,_,_,_,h.q 0,?_⟩;refine wv (s:=s) h λu h=>⟨_,rfl,λd=>?_,λd=>?_⟩
 .have:¬s.ok:=by simpa using d
  rw[UX this]at k;exact k _ (gK.2 ⟨_,_,h.tl⟩)
 have hs:s.ok:=by simpa using d
 rw[UW (by simpa using hs)]at k;refine⟨_,_,_,h.r 1,_,_,_,_,h.q 0,?_⟩;rintro b1 _ rfl rfl;have B:=(h.push (.cells #[aD s.asked,aD s.got,aD s.sent,aD s.came] 58 (0,0))).rd 2 rfl 4;refine⟨B,?_⟩;refine h.append1 tV 2 rfl rfl rfl (by omega) (by omega) λa1 c1 H1 h=>⟨_,_,_,rfl,?_⟩
 have ef:flat eV c.smps++[aD s.asked,aD s.got,aD s.sent,aD s.came]=flat eV (c.smps++[s]):=by rw[dT,nq]
 rw[ef]at h;have l5:∀x∈(if 8<c.smps.length+1 then (c.smps++[s]).drop 1 else c.smps++[s]),x.ok:=by
  intro x T;have:x∈c.smps++[s]:=by
   split at T
   .exact Wh T
   .exact T
  rcases Vz.1 this with Q|Q
  .exact ok.ok x Q
  .rw [Vo]at Q;rw[Q];exact hs
 have rest:∀(l:List bP) (a2:KQ) (c2:Nat) (H5:aC),l.length<=8->l.getLast?=some s->(∀u,
    aA u (ckA b (if oW (l.map (iR c.rho s.sent)) then
     ({ c with streak:=if c.streak<9223372036854775807 then c.streak+1 else c.streak,held:=if c.least<=(if c.streak<9223372036854775807 then c.streak+1 else c.streak) then false else c.held,smps:=l },(0:Int))
     else ({ c with held:=true,streak:=0,smps:=if (iR c.rho s.sent s).ok then [s] else [] },21)).1::F)->
    K (aD (if oW (l.map (iR c.rho s.sent)) then
     ({ c with streak:=if c.streak<9223372036854775807 then c.streak+1 else c.streak,held:=if c.least<=(if c.streak<9223372036854775807 then c.streak+1 else c.streak) then false else c.held,smps:=l },(0:Int))
     else ({ c with held:=true,streak:=0,smps:=if (iR c.rho s.sent s).ok then [s] else [] },21)).2) u)->
   aA H5 (cellsA b0 [aD s.asked,aD s.got,aD s.sent,aD s.came] 58::cellsA b [aD c.rho,aD c.least,.bool c.held,aD c.streak,.slice a2 l.length c2] 289::slA 58 4 a2 l.length c2 (flat eV l)::F)->
   yW.r7 b 0 K b0 H5:=by
  intro l a2 c2 H5 h0 t k h;unfold yW.r7;refine⟨_,_,_,h.r 1,?_⟩;refine h.mk0 sl239 (by omega) (by omega) λI H6 h=>⟨_,_,_,rfl,_,_,_,h.r 2,?_⟩
  refine⟨λI gn M i u=>∃(j:Nat),i=j/\j<=l.length/\j=gn/\
    aA u (slA 89 2 I j M (flat jN ((l.take j).map (iR c.rho s.sent)))::cellsA b0 [aD s.asked,aD s.got,aD s.sent,aD s.came] 58::cellsA b [aD c.rho,aD c.least,.bool c.held,aD c.streak,.slice a2 l.length c2] 289::slA 58 4 a2 l.length c2 (flat eV l)::F),
   λ_ _ _ i _=>l.length-i.toNat,⟨0,rfl,V3 _,rfl,h⟩,?_⟩
  rintro I gn M i H7 ⟨j,rfl,hj,rfl,h⟩;refine⟨λd=>?_,λd=>?_⟩
  .have f:j<l.length:=by simpa using d
   have N:=h.sl_rd 3 rfl;refine⟨⟨by omega,by omega⟩,_,_,N.some ky (by omega) f,_,_,_,_,N.els ky f,?_⟩;refine h.al λ_ _ h=>?_;refine St1 h λ_ h=>?_
   refine λJn P=>?_
   have fin:∀gb D,aA D (cellsA gb (jN (iQ l[j] s.sent c.rho).1) 89::slA 89 2 I j M (flat jN ((l.take j).map (iR c.rho s.sent)))::cellsA b0 [aD s.asked,aD s.got,aD s.sent,aD s.came] 58::cellsA b [aD c.rho,aD c.least,.bool c.held,aD c.streak,.slice a2 l.length c2] 289::slA 58 4 a2 l.length c2 (flat eV l)::F)->Jn gb 0 (iQ l[j] s.sent c.rho).2 D:=by
    intro gb D h;refine P _ _ _ _ ?_;refine λZ S=>?_
    have A:∀C,aA C (cellsA gb (jN (iR c.rho s.sent l[j])) 89::slA 89 2 I j M (flat jN ((l.take j).map (iR c.rho s.sent)))::cellsA b0 [aD s.asked,aD s.got,aD s.sent,aD s.came] 58::cellsA b [aD c.rho,aD c.least,.bool c.held,aD c.streak,.slice a2 l.length c2] 289::slA 58 4 a2 l.length c2 (flat eV l)::F)->Z C:=by
     intro C h;refine S _ ?_;refine⟨_,_,h.q 0,?_⟩;rintro b4 _ rfl rfl;refine h.append1 sl239 1 rfl rfl rfl (by omega) (by omega) λa' c' u h=>⟨_,_,_,rfl,?_⟩
     have hw:i64.wrap ((j:Int)+1)=((j+1:Nat):Int):=by rw[aJ];omega
     rw[hw];have h:=h.tl;refine⟨⟨j+1,rfl,f,rfl,?_⟩,by simp only[Vi];omega⟩;rw[List.take_add_one,List.getElem?_eq_getElem f,Vv,dT];rw[Option.toList_some,List.map_singleton,nq];exact h
    refine⟨λd=>?_,λd=>?_⟩
    .have he:(iQ l[j] s.sent c.rho).2≠0:=by simpa using d
     have R:iR c.rho s.sent l[j]=⟨1,0⟩:=by unfold iR;rw[UX he]
     refine St1 h λ_ h=>?_
     refine A _ ?_;rw[R];exact h
    .have he:¬(iQ l[j] s.sent c.rho).2≠0:=by simpa using d
     have R:iR c.rho s.sent l[j]=(iQ l[j] s.sent c.rho).1:=by unfold iR;rw[UW he]
     refine A _ ?_;rw[R];exact h
   refine⟨_,_,_,_,h.q 0,_,h.r 2,_,h.r 3,?_,?_⟩
   .refine ww (s:=l[j]) h λu h=>⟨_,_,_,rfl,?_⟩
    refine h.al λ_ _ h=>?_;refine St1 h λ_ h=>?_
    exact fin _ _ (h.o [0] 2)
   .refine h.al λb5 _ h=>?_
    refine⟨h.r 4,h.r 3,h.q 1,?_⟩;refine ww (s:=l[j]) h λu h=>⟨_,_,_,rfl,?_⟩
    refine St1 h λ_ h=>?_
    exact fin _ _ (h.o [0] 2)
  .have h6:l.length<=j:=by simpa using d
   obtain rfl:j=l.length:=by omega
   rw[V2 (Vg _)]at h;have m:(l.map (iR c.rho s.sent)).length=l.length:=Vl _;have h7:0<l.length:=by
    cases l with
    | nil=>simp at t
    | cons x r=>simp
   have W:l[l.length-1]=s:=by
    rw[List.getLast?_eq_getElem?,List.getElem?_eq_getElem (by omega)]at t;exact Option.some.inj t
   refine QK m h (λH h=>h.sl_rd 0 rfl) (by omega) λr9 h=>⟨_,rfl,λG=>?_,λG=>?_⟩
   .rw [UX G]at k;refine⟨_,h.r 2,λY V=>?_⟩
    have w:∀(st:Int) E,st=(if c.streak<9223372036854775807 then c.streak+1 else c.streak)->aA E (slA 89 2 I l.length M (flat jN (l.map (iR c.rho s.sent)))::cellsA b0 [aD s.asked,aD s.got,aD s.sent,aD s.came] 58::cellsA b [aD c.rho,aD c.least,.bool c.held,aD st,.slice a2 l.length c2] 289::slA 58 4 a2 l.length c2 (flat eV l)::F)->Y E:=by
     intro st E U h;refine V _ ?_;rw[<-U]at k;refine⟨_,h.r 2,_,h.r 2,λj2 L=>⟨λd=>?_,λd=>?_⟩⟩
     .rw [UX (by simpa using d)]at k;refine h.st 2 rfl rfl λj3 h=>L _ ?_
      exact k _ (gK.2 ⟨_,_,h.tl.tl⟩)
     .rw [UW (by simpa using d)]at k;exact L _ (k _ (gK.2 ⟨_,_,h.tl.tl⟩))
    refine⟨λd=>?_,λd=>?_⟩
    .have f:c.streak<9223372036854775807:=by simpa using d
     refine⟨_,h.r 2,?_⟩;refine h.st 2 rfl rfl λr8 h=>w _ _ ?_ h
     rw[UX f,aJ]
    .have f:¬c.streak<9223372036854775807:=by simpa using d
     exact w _ _ (by rw[UW f]) h
   .rw [UW (by rw[G];decide)]at k;refine h.st 2 rfl rfl λr0 h=>?_
    refine h.st 2 rfl rfl λh2 h=>?_
    refine h.st 2 rfl rfl λh5 h=>?_
    have hw:i64.wrap ((l.length:Int)-1)=((l.length-1:Nat):Int):=by rw[aJ];omega
    rw[hw];have N:=h.sl_rd 0 rfl;have y:=N.els wk (k:=l.length-1) (by omega);rw[VV,W]at y;refine⟨⟨by omega,by omega⟩,_,_,N.some wk (by omega) (k:=l.length-1) (by omega),_,_,y,?_⟩;refine rQ (g:=iR c.rho s.sent s) h λh4 h=>⟨_,rfl,λl0 O=>⟨λd=>?_,λd=>?_⟩⟩
    .rw [UX (by simpa using d)]at k;refine⟨_,_,_,_,h.q 1,?_⟩;refine h.al λb8 _ h=>?_
     refine h.st 3 rfl rfl λj1 h=>O _ ?_
     have h:=h.o [0,3] 5;have h:=aA.sl_pt h 4 1 rfl;have h:=h.o [1,0] 2;exact k _ (gK.2 ⟨_,_,h⟩)
    .rw [UW (by simpa using d)]at k;refine O _ ?_;have h:=h.o [2] 4;have h:=(h.sl_nil 58 4).o [1,0] 2;exact k _ (gK.2 ⟨_,_,h⟩)
 refine h.st 1 rfl rfl λH2 h=>?_
 have v:(c.smps++[s]).getLast?=some s:=by simp
 refine⟨_,_,_,h.r 1,λJn P=>⟨λd=>?_,λd=>?_⟩⟩
 .have J:8<c.smps.length+1:=by have:=Va d;omega
  rw[UX J]at k;refine⟨_,_,_,h.r 1,?_⟩;have h:=h.o [2,0,1] 3;have m:c.smps.length+1=(c.smps++[s]).length:=by simp
  rw[m]at h ⊢;refine QF (j:=1) (by simp) h λh3 h=>⟨_,_,_,rfl,?_⟩
  refine h.st 2 rfl rfl λl6 h=>P _ ?_
  have h:=h.o [1,2,0] 3;have hd:(c.smps++[s]).length-1=((c.smps++[s]).drop 1).length:=by simp
  rw[hd]at h;refine rest _ _ _ _ (by simp;omega) ?_ k h;have h8:c.smps≠[]:=by rintro e;rw[e]at J;simp at J
  rw[List.drop_append_of_le_length (by omega),List.getLast?_append];simp
 .have J:¬8<c.smps.length+1:=by have:=Vb d;omega
  rw[UW J]at k;refine P _ ?_;have m:c.smps.length+1=(c.smps++[s]).length:=by simp
  rw[m]at h;exact rest _ _ _ _ (by simp;omega) v k h
end
end Go.Proofs.YtaaieblnikcndaaGreatDoor
