/-
  Lemmas for GateKept: part 4 of what it rests on. Conditions: none.
-/
import Derived.Test.YtaaieblnikcndaaGreatDoorGK3
set_option linter.unusedVariables false
set_option linter.unusedSimpArgs false
set_option maxRecDepth 100000
set_option maxHeartbeats 16000000
open Go.IntKind (i64 u64 i8 u8 i32 u32 i16 u16)
namespace Go.Proofs.YtaaieblnikcndaaGreatDoor
open Go
def le4(s:Int):List Int:=[s%256,s/256%256,s/65536%256,s/16777216%256]
def eK(bs:List Int):List Int:=bs++le4 (kS bs)
def dY(bs:List Int):Int×List Int:=
 if bs.length<4 then (15,[]) else if eK (bs.take (bs.length-4))=bs then (0,bs.take (bs.length-4)) else (14,[])
theorem PI(s:Int):aH (le4 s):=by
 intro x a;simp only[le4,V9,W1,or_false]at a
 rcases a with rfl|rfl|rfl|rfl <;> omega
theorem G0{bs:List Int}(h:aH bs):aH (eK bs):=tP h (PI _)
theorem rU(bs:List Int):(eK bs).length=bs.length+4:=by simp[eK,le4]
theorem G1(bs:List Int):dY (eK bs)=(0,bs):=by
 unfold dY;rw[rU,nO,Y6];have:(eK bs).take bs.length=bs:=by unfold eK;rw[List.take_left]
 rw[this,Vt rfl]
theorem zG{bs p:List Int}(h:dY bs=(0,p)):bs=eK p:=by
 unfold dY at h
 split at h
 .cases h
 .split at h
  .rename_i a
   cases h
   exact a.symm
  .cases h
theorem le4_val{s:Int}(h0:0<=s)(e:s<4294967296){a b c d:Int}(i:0<=a/\a<256)(hb:0<=b/\b<256)(f:0<=c/\c<256)(hd:0<=d/\d<256) :
  le4 s=[a,b,c,d]↔a+256*b+65536*c+16777216*d=s:=by
 unfold le4
 constructor
 .intro h;simp only[List.cons.injEq,and_true]at h;omega
 .intro h;simp only[List.cons.injEq,and_true];omega
theorem zH{a m p:Nat}(c:a<2^p)(h:a+m*2^p<4294967296):aY .or .u32 (a:Int) ((m*2^p:Nat):Int)=((a+m*2^p:Nat):Int):=by
 have b:a<4294967296:=by omega
 have d:m*2^p<4294967296:=by omega
 have e3:a ||| m*2^p=a+m*2^p:=by
  rw[Nat.mul_comm m,Nat.or_comm,<-YA c,WW]
 show u32.wrap ((BitVec.ofInt u32.bits (a:Int) ||| BitVec.ofInt u32.bits ((m*2^p:Nat):Int)).toNat:Int)=_;rw[BitVec.toNat_or,rT b,rT d,e3,u32w (by omega) (by omega)]
theorem sum_code{a b c d:Int}(k:0<=a/\a<256)(hb:0<=b/\b<256)(j:0<=c/\c<256)(hd:0<=d/\d<256) :
  aY .or .u32 (aY .or .u32 (aY .or .u32 (u32.wrap a) (u32.wrap ((u32.wrap b)*2^(min (Int.toNat 8) (u32.bits))))) (u32.wrap ((u32.wrap c)*2^(min (Int.toNat 16) (u32.bits))))) (u32.wrap ((u32.wrap d)*2^(min (Int.toNat 24) (u32.bits))))
   = a+256*b+65536*c+16777216*d:=by
 rw[u32w (x:=a) (by omega) (by omega),u32w (x:=b) (by omega) (by omega),u32w (x:=c) (by omega) (by omega),u32w (x:=d) (by omega) (by omega)];show aY .or .u32 (aY .or .u32 (aY .or .u32 a (u32.wrap (b*256))) (u32.wrap (c*65536))) (u32.wrap (d*16777216))=_;rw[u32w (x:=b*256) (by omega) (by omega),u32w (x:=c*65536) (by omega) (by omega),u32w (x:=d*16777216) (by omega) (by omega)];obtain⟨i,rfl⟩:=Y7 k.1;obtain⟨e,rfl⟩:=Y7 hb.1;obtain⟨f,rfl⟩:=Y7 j.1;obtain⟨h,rfl⟩:=Y7 hd.1;have e1:=zH (a:=i) (m:=e) (p:=8) (by omega) (by omega);have e2:=zH (a:=i+e*2^8) (m:=f) (p:=16) (by omega) (by omega);have e3:=zH (a:=i+e*2^8+f*2^16) (m:=h) (p:=24) (by omega) (by omega);rw[show (2:Nat)^8=256 by decide]at e1 e2 e3;rw[show (2:Nat)^16=65536 by decide]at e2 e3;rw[show (2:Nat)^24=16777216 by decide]at e3;have f1:((e*256:Nat):Int)=(e:Int)*256:=WN ..;have f2:((f*65536:Nat):Int)=(f:Int)*65536:=WN ..;have f3:((h*16777216:Nat):Int)=(h:Int)*16777216:=WN ..;rw[f1]at e1;rw[f2]at e2;rw[f3]at e3;rw[e1,e2,e3];omega
theorem last4{bs:List Int}(h:¬bs.length<4):∃a b c d,bs=bs.take (bs.length-4)++[a,b,c,d]/\bs.drop (bs.length-4)=[a,b,c,d]:=by
 have f:(bs.drop (bs.length-4)).length=4:=by rw[VH];omega
 obtain⟨a,b,c,d,e⟩:∃a b c d,bs.drop (bs.length-4)=[a,b,c,d]:=by
  match hx:bs.drop (bs.length-4),f with
  | [a,b,c,d],_=>exact⟨a,b,c,d,rfl⟩
 exact⟨a,b,c,d,by rw[<-e,Wl],e⟩
section
variable {F L:List aE}{H:aD}{K:KE}
theorem G2{s:Int}(h0:0<=s)(a:s<4294967296) :
  [U8 (u8.wrap s),U8 (u8.wrap (Int.fdiv s (2^(min (Int.toNat 8) (u32.bits))))),U8 (u8.wrap (Int.fdiv s (2^(min (Int.toNat 16) (u32.bits))))),U8 (u8.wrap (Int.fdiv s (2^(min (Int.toNat 24) (u32.bits)))))]=(le4 s).map U8:=by
 obtain⟨n,rfl⟩:=Y7 h0;show [U8 (u8.wrap (n:Int)),U8 (u8.wrap (Int.fdiv (n:Int) 256)),U8 (u8.wrap (Int.fdiv (n:Int) 65536)),U8 (u8.wrap (Int.fdiv (n:Int) 16777216))]=_;rw[WM _ (by decide),WM _ (by decide),WM _ (by decide)];rw[show (n:Int)/256=((n/256:Nat):Int) by omega,show (n:Int)/65536=((n/65536:Nat):Int) by omega,show (n:Int)/16777216=((n/16777216:Nat):Int) by omega];rw[oT,oT,oT,oT];unfold le4;simp only[VS,WZ,List.cons.injEq,Value.int.injEq,true_and,and_true];omega
theorem G3{a:KQ}{c:Nat}{bs:List Int}(h:aA H F)(D:∀H,aA H F->aP H a (bs.map U8))(hb:aH bs)(S:bs.length<=1099511627776)(P:bs.length<=c)
  (k1:∀M E p A,dY bs=(0,p)->aA A (slA 5 1 M p.length E (p.map U8)::F)->K (.tuple #[.slice M p.length E,.int .i64 0]) A)
  (k2:∀e A,e≠0->dY bs=(e,[])->aA A F->K (.tuple #[.slice none 0 0,.int .i64 e]) A) :
  CF 79 #[.slice a bs.length c] H K:=by
 refine OJ ?_;refine⟨λd=>?_,λd=>?_⟩
 .have L:bs.length<4:=by simp at d;omega
  exact k2 15 _ (by decide) (by unfold dY;rw[Vt L]) h
 .have i:¬bs.length<4:=by simp at d;omega
  have en:i64.wrap ((bs.length:Int)-4)=((bs.length-4:Nat):Int):=by rw[aK];omega
  rw[en,V4];have j:cq a 0 c 1=a:=sl_same (D _ h) (by intro d;have:=congrArg List.length d;simp at this;subst this;simp at i);rw[j];obtain⟨w,n,m,v,e1,e2⟩:=last4 i;obtain⟨p,C⟩:∃p,bs.take (bs.length-4)=p:=⟨_,rfl⟩;have I:p.length=bs.length-4:=by rw[<-C,VM];omega
  rw[C]at e1;have u:=(D _ h).subB (k:=bs.length-4) (c:=c) (by simpa using P);rw[<-List.map_drop,e2]at u;have q0:=u 0 _ rfl;have q1:=u 1 _ rfl;have q2:=u 2 _ rfl;have q3:=u 3 _ rfl;refine⟨⟨by omega,by omega,by omega⟩,⟨by omega,by omega,by omega⟩,⟨by omega,by omega⟩,_,_,q0.1,_,q0.2,⟨by omega,by omega⟩,_,_,q0.1,_,q1.2,by decide,⟨by omega,by omega⟩,_,_,q0.1,_,q2.2,by decide,⟨by omega,by omega⟩,_,_,q0.1,_,q3.2,by decide,?_⟩;rw[<-I];have t:∀H,aA H F->aP H a (p.map U8):=λH h=>by
   have:=(D H h).take (bs.length-4)
   rwa[<-List.map_take,C]at this
  refine h.al λb4 Q h=>?_
  have O:=zE (c:=1) (parts:=[⟨a,c,p⟩]) (h.ce_rd 0 rfl) (λy s=>by
   rw[V6]at s;subst s;exact t _ h.tl) (by simp) (λy s=>by rw[V6]at s;subst s;dsimp only;omega)
  simp only[VU,List.flatMap_nil,VT]at O;refine⟨_,O,?_⟩;have b:∀x∈[w,n,m,v],0<=x/\x<256:=λx d=>hb x (by rw[e1];exact WX _ d)
  have ba:=b w (by simp);have bb:=b n (by simp);have bc:=b m (by simp);have bd:=b v (by simp);rw[sum_code ba bb bc bd];obtain⟨s0,s1⟩:=zC p;have N:=le4_val s0 s1 ba bb bc bd;have B:dY bs=if eK p=bs then (0,p) else (14,[]):=by unfold dY;rw[Vs i,C]
  have f:eK p=bs↔le4 (kS p)=[w,n,m,v]:=by
   unfold eK
   constructor
   .intro e;rw[e1]at e;exact List.append_cancel_left e
   .intro e;rw[e];exact e1.symm
  refine⟨λd=>?_,λd=>?_⟩
  .have G:¬w+256*n+65536*m+16777216*v=kS p:=by simpa using d
   exact k2 14 _ (by decide) (by rw[B,Vs];rw[f,N];exact G) h.tl
  .have J:w+256*n+65536*m+16777216*v=kS p:=by simpa using d
   refine zj h.tl t (by omega) λM E R h=>⟨_,_,_,rfl,k1 _ _ _ _ ?_ h⟩
   rw[B,Vt];rw[f,N];exact J
theorem PJ{b o c:Nat}{parts:List Fy}(h:aA H F)(Z:∀H,aA H F->aP H (some ⟨b,o,none⟩) (parts.map dX))(hp:∀H,aA H F->∀y∈parts,aP H y.a (y.bs.map U8))(hA:∀y∈parts,y.a=none\/∃b o,y.a=some ⟨b,o,none⟩)
  (hb:∀y∈parts,aH y.bs) (n:2<=parts.length) (hc:parts.length<=c) (hn:parts.length<=1000) (hl:(parts.flatMap Fy.bs).length<=1099511627776) (h9:0<(parts.flatMap Fy.bs).length)
  (k:∀a' c' H',aA H' (slA 5 1 a' (eK (parts.flatMap Fy.bs)).length c' ((eK (parts.flatMap Fy.bs)).map U8)::F)->K (.slice a' (eK (parts.flatMap Fy.bs)).length c') H') :
  CF 179 #[.slice (some ⟨b,o,none⟩) parts.length c] H K:=by
 refine cM 179 4380 ?_;have h8:∀y∈parts,y.bs.length<=1099511627776:=λy I=>by
  refine VI ?_ hl;obtain⟨s,t,rfl⟩:=List.append_of_mem I;simp only[Ws,VU,Vv];omega
 have hq:=zE (c:=c) (Z _ h) (hp _ h) (by omega) h8;refine⟨_,hq,?_⟩;obtain⟨bs,j⟩:∃bs,parts.flatMap Fy.bs=bs:=⟨_,rfl⟩;rw[j]at hl h9 k hq ⊢;obtain⟨s0,s1⟩:=zC bs;have h7:aH bs:=by
  rw[<-j];intro x f;obtain⟨y,I,f⟩:=Ya.1 f;exact hb y I x f
 refine .mk λw hw=>?_
 subst hw;have U:∀l:List Fy,Lib.lens (l.map λy=>Lib.bytesOf y.bs)=(l.flatMap Fy.bs).length:=by
  intro l
  induction l with
  | nil=>rfl
  | cons y r ih=>
   simp only[Lib.lens,VS,WP,VU,Vv]at ih ⊢;rw[ih];simp[Lib.bytesOf]
 have E:∀l:List Fy,Lib.join (l.map λy=>Lib.bytesOf y.bs) []=Lib.bytesOf (l.flatMap Fy.bs):=by
  intro l;have:∀l:List Fy,(l.map λy=>Lib.bytesOf y.bs).flatten=Lib.bytesOf (l.flatMap Fy.bs):=by
   intro l
   induction l with
   | nil=>rfl
   | cons y r ih=>simp only[VS,List.flatten_cons,VU,ih];simp[Lib.bytesOf]
  cases l with
  | nil=>rfl
  | cons y r=>
   rw[VS,Lib.join_cons];unfold Lib.joinTail;simp only[VZ,List.map_id'];rw[this r];simp[Lib.bytesOf]
 have h6:Lib.PartsAt w ⟨b,o,none⟩ (parts.map dX) (parts.map λy=>Lib.bytesOf y.bs):=by
  refine⟨by simp,λi v Y=>?_,λi v l Y L=>?_⟩
  .rw [iP,cell?_cellAt];exact (Z _ h i v (by rw[fM];exact Y)).2
  .rw [List.getElem?_map,Option.map_eq_some_iff]at Y L;obtain⟨y,I,rfl⟩:=Y;obtain⟨y',T,rfl⟩:=L;rw[I]at T
   cases T
   have hm:y∈parts:=VY I;have B:=hp _ h y hm;refine⟨y.a,y.c,by simp[Lib.bytesOf],λj1=>?_,λa' D i x f=>?_⟩
   .rw [j1]at B;have:=oh B;simp at this;simp[Lib.bytesOf,this]
   .have J:i<y.bs.length:=by
     have:=(List.getElem?_eq_some_iff.1 f).1;simpa[Lib.bytesOf] using this
    have A:=B.at J;rw[D]at A
    rcases hA y hm with e|⟨b',o',e⟩
    .rw [D]at e;cases e
    .rw [D]at e
     cases e
     rw[iP,cell?_cellAt];simp only[aU,aS]at A;rw[A.2];simp only[Lib.bytesOf,List.getElem?_map,List.getElem?_eq_getElem J,VX,Option.some.injEq]at f;rw[<-f,qr (hb y hm)]
 have hs:Lib.HoldsBytes w (.slice none 0 0) []:=⟨none,0,rfl,λ_=>rfl,λa Z=>by cases Z⟩
 have G:=Any.bytes_Join_many Tryz.joinB b o parts.length c (parts.map dX) (parts.map λy=>Lib.bytesOf y.bs) (.slice none 0 0) [] w (by simp) n h6 hc hs (by omega) (by rw[U,j];simp;omega)
 refine jh G ?_;rintro e w' ⟨v',rfl,O,M⟩;refine⟨_,rfl,tz M,?_⟩;rw[E,j]at O;obtain⟨g,cap,u,rfl,l5,V,r9,r0,j3,W,N,h5⟩:=O;have P:(Lib.bytesOf bs).length=bs.length:=by simp[Lib.bytesOf]
 rw[P]at V W ⊢;have hz:u.take bs.length=bs:=by
  have l6:(u.take bs.length).length=bs.length:=by rw[VM];omega
  refine Wx l6 λi A n=>?_
  have e1:=congrArg (λl:List UInt8=>l[i]?) W
  simp only[Lib.bytesOf,List.getElem?_map,List.getElem?_eq_getElem A,List.getElem?_eq_getElem n,VX,Option.some.injEq]at e1;have b1:=qr (xs:=u.take bs.length) (λx f=>j3 x (Wo f)) i A
  have b2:=qr h7 i n;rw[<-b1,<-b2,e1]
 have S:∃(C:Array Value) (R:TypeId) (fr:Nat×Nat),w'.heap[g]?=some (.cells C R fr):=by
  have h0:=N 0 (by omega);unfold World.cell? at h0
  split at h0
  .rename_i C R fr hh;exact⟨C,R,fr,hh⟩
  .cases h0
 obtain⟨C,R,fr,S⟩:=S;have d:∀i,i<cap->C.toList[i]?=some (U8 (u.getD i 0)):=λi hi=>by
  have h0:=N i hi;rw[cell?_cellAt]at h0;unfold aL at h0;rw[S]at h0;simpa using h0
 have r8:cap<=C.toList.length:=by
  rcases Yp cap with h0|h0
  .omega
  .have:=(List.getElem?_eq_some_iff.1 (d (cap-1) (by omega))).1;omega
 have j2:C.toList=bs.map U8++C.toList.drop bs.length:=by
  rw[<-Wl bs.length C.toList];congr 1
  .refine WI λi=>?_
   rcases VO i bs.length with hi|hi
   .rw [List.getElem?_take_of_lt hi,d i (by omega),List.getElem?_map,List.getElem?_eq_getElem hi,VX];have:u.getD i 0=bs[i]:=by
     have A:i<(u.take bs.length).length:=by rw[hz];exact hi
     have n:(u.take bs.length)[i]=bs[i]:=by simp only[hz]
     rw[<-n,List.getElem_take];have h3:i<u.length:=by omega
     rw[List.getD,List.getElem?_eq_getElem h3];rfl
    rw[this]
   .rw [List.getElem?_eq_none (by rw[VM];omega),List.getElem?_eq_none (by simpa using hi)]
  .rw [Wl]
 have Q:aA w'.heap (slA 5 1 (some ⟨g,0,none⟩) bs.length cap (bs.map U8)::F):=by
  refine (h.new (rC M) l5 S).mono λp hp=>⟨by simp,.inr ⟨g,[],C.toList.drop bs.length,R,fr,rfl,V,by rw[VH];omega,λ_ i A n hh=>?_,?_⟩⟩
  .have:=h5 i (by simp at n;omega);unfold World.frozen? at this;rw[S]at this;simp only[Wc,V0]at this;omega
  .rw [VZ,<-j2];exact hp
 refine⟨_,_,_,rfl,by decide,by decide,by decide,?_⟩;have l0:=G2 s0 s1;refine Q.al λb1 H3 h=>?_
 refine aA.append (m:=4) (ws:=(le4 (kS bs)).map U8) rS h 1 rfl (h.ce_rd 0 (by rw[<-l0];rfl)) (by simp[le4]) (nE (λ_=>rfl) _) (by omega) (by omega) λa3 c3 H4 h4=>⟨_,_,_,rfl,?_⟩
 have:=k a3 c3 H4;unfold eK at this;rw[Vv,show (le4 (kS bs)).length=4 from rfl]at this;refine this ?_;rw[VJ];exact h4.tl
end
structure Rc where
 kind:Int
 data:List Int
 deriving DecidableEq
def gB(r:Rc):List Int:=eK (bR r.kind.toNat++r.data)
def bN(r:Rc):List Int:=bR (gB r).length++gB r
structure Rc.ok(r:Rc):Prop where
 k0:0<=r.kind
 k1:r.kind<=255
 len:r.data.length<=262144
 by':aH r.data
def kD(b:List Int):Option Rc:=if (dY b).1≠0 then none else match rdU 0 0 (dY b).2 with
 | .ok kind j=>if 255<kind\/262144<(dY b).2.length-j then none else some ⟨kind,(dY b).2.drop j⟩
 | _=>none
def iQ(b:List Int):Option (Rc×Nat):=match rdU 0 0 b with
 | .ok n k=>if b.length<k+n then none else (kD ((b.drop k).take n)).map λr=>(r,k+n)
 | _=>none
def nM:Nat->List Int->List Rc×Nat
 | 0,_=>([],0)
 | f+1,b=>match iQ b with
  | none=>([],0)
  | some (r,n)=>(r::(nM f (b.drop n)).1,n+(nM f (b.drop n)).2)
def eD(b:List Int):List Rc×Nat:=nM b.length b
theorem wB{b:List Int}(hb:aH b):aH (dY b).2:=by
 unfold dY
 split
 .intro x a;cases a
 .split
  .exact tQ _ hb
  .intro x a;cases a
theorem zI{u:Nat}(h:u<=255):(bR u).length<=2:=by
 by_cases h1:u<128
 .rw [lH h1];simp
 .rw [nI h1,lH (by omega)];simp
theorem G4{b:List Int}{r:Rc}(hb:aH b)(h:kD b=some r):b=gB r/\r.ok:=by
 unfold kD at h
 split at h
 .cases h
 .rename_i h0;have a:=wB hb;have h0:(dY b).1=0:=Classical.not_not.1 h0;obtain⟨p,d⟩:∃p,dY b=(0,p):=⟨(dY b).2,by rw[<-h0]⟩;rw[d]at a h;dsimp only at a h;have c:=zG d
  split at h
  .rename_i kind j i
   split at h
   .cases h
   .rename_i n
    cases h
    obtain⟨w,e,k,m,f,_,_,_⟩:=wj a i (by omega);simp only[Nat.mul_zero,Nat.pow_zero,Wr,VL]at e;subst e;rw[Nat.sub_zero]at f;refine⟨?_,⟨by dsimp only;omega,by dsimp only;omega,by simp only[VH];omega,oW _ a⟩⟩;unfold gB;dsimp only;rw[V4,f,Wl];exact c
  .cases h
theorem PK{r:Rc}(h:r.ok):kD (gB r)=some r:=by
 have h0:=h.k0;have b:=h.k1;have c:=h.len;unfold kD gB;rw[G1,Vs (by simp)];dsimp only;rw[wk r.data (by omega) (by omega) (λa=>Vu a (by omega))]
 simp only[Nat.mul_zero,Nat.pow_zero,Wr,VL];rw[Vs,Yb,Yq h0];rw[Vv];omega
theorem tY{r:Rc}(h:r.ok):(gB r).length<=262150/\5<=(gB r).length:=by
 have h0:=h.k0;have a:=h.k1;have b:=h.len;unfold gB;rw[rU,Vv];have:=zI (u:=r.kind.toNat) (by omega);have:=wi r.kind.toNat
 omega
theorem PM{r:Rc}(h:r.ok):aH (gB r):=G0 (tP (oS _) h.by')
theorem rV{r:Rc}(h:r.ok):aH (bN r):=tP (oS _) (PM h)
theorem zJ{u:Nat}(h:u<=262150):(bR u).length<=3:=by
 by_cases h1:u<128
 .rw [lH h1];simp
 .rw [nI h1]
  by_cases h2:u/128<128
  .rw [lH h2];simp
  .rw [nI h2,lH (by omega)];simp
theorem qy{r:Rc}(h:r.ok):(bN r).length<=262153/\6<=(bN r).length/\(bN r).length<=r.data.length+9:=by
 have a:=tY h;have f:=zJ a.1;have e:=wi (gB r).length;have b:=h.k1;have c:=zI (u:=r.kind.toNat) (by omega);have d:(gB r).length=(bR r.kind.toNat).length+r.data.length+4:=by unfold gB;rw[rU,Vv]
 unfold bN;rw[Vv];omega
theorem PN{b:List Int}(hb:aH b)(h:262150<b.length):kD b=none:=by
 cases hr:kD b with
 | none=>rfl
 | some r=>
  obtain⟨a,c⟩:=G4 hb hr;have:=tY c;rw[a]at h;omega
theorem zK{b:List Int}{r:Rc}{n:Nat}(hb:aH b)(h:iQ b=some (r,n)):r.ok/\n<=b.length/\b.take n=bN r/\0<n:=by
 unfold iQ at h
 split at h
 .rename_i m k i;obtain⟨w,c,t,v,d,_,_,_⟩:=wj hb i (by omega);simp only[Nat.mul_zero,Nat.pow_zero,Wr,VL]at c;subst c;rw[Nat.sub_zero]at d
  split at h
  .cases h
  .rename_i x;rw[Option.map_eq_some_iff]at h;obtain⟨u,f,j⟩:=h
   cases j
   obtain⟨e,s⟩:=G4 (tQ _ (oW _ hb)) f;refine⟨s,by omega,?_,by omega⟩;have a:(gB r).length=m:=by rw[<-e,VM,VH];omega
   unfold bN;rw[a,d,<-e,<-List.take_add]
 .cases h
theorem oneM_rec{r:Rc}(h:r.ok)(rest:List Int):iQ (bN r++rest)=some (r,(bN r).length):=by
 have b:=tY h;unfold iQ bN;rw[V5,wk (gB r++rest) (by omega) (by omega) (λa=>Vu a (by omega))]
 simp only[Nat.mul_zero,Nat.pow_zero,Wr,VL];rw[Vs (by simp only[Vv];omega),Yb,List.take_left,PK h];simp
theorem PS{r:Rc}(h:r.ok){k:Nat}(b:k<(bN r).length):iQ ((bN r).take k)=none:=by
 have c:=tY h;have e:=zJ c.1;unfold bN at b ⊢;rw[Vv]at b
 rcases VO k (bR (gB r).length).length with a|a
 .rw [Yj (by omega)];unfold iQ;rw[rdU_part a (by omega)]
 .rw [List.take_append,VR a];unfold iQ;rw[wk _ (by omega) (by omega) (λd=>Vu d (by omega))]
  simp only[Nat.mul_zero,Nat.pow_zero,Wr,VL];rw[Vt];simp only[Vv,VM];omega
theorem G5:∀{f:Nat} {b:List Int},aH b->b.length<=f->nM f b=eD b:=by
 have:∀{n f g:Nat} {b:List Int},aH b->b.length<=n->b.length<=f->b.length<=g->nM f b=nM g b:=by
  intro n
  induction n with
  | zero=>
   intro f g b hb a _ _;have:b=[]:=W6.1 (by omega);subst this
   cases f <;> cases g <;> rfl
  | succ n ih=>
   intro f g b hb a c d
   cases b with
   | nil=>cases f <;> cases g <;> rfl
   | cons x b=>
    cases f with
    | zero=>simp at c
    | succ f=>
     cases g with
     | zero=>simp at d
     | succ g=>
      simp only[nM]
      cases h:iQ (x::b) with
      | none=>rfl
      | some p=>
       obtain⟨r,m⟩:=p;have e:=(zK hb h).2.2.2;have hd:((x::b).drop m).length<=(x::b).length-1:=by rw[VH];omega
       simp only[V1]at a c d hd;have:=ih (f:=f) (g:=g) (b:=(x::b).drop m) (oW _ hb) (by omega) (by omega) (by omega);dsimp only;rw[this]
 intro f b hb h;exact this (n:=b.length) hb (V2 _) h (V2 _)
theorem zL{b:List Int}(h:iQ b=none):eD b=([],0):=by
 unfold eD
 cases b with
 | nil=>rfl
 | cons x b=>simp only[V1,nM,h]
theorem zM{b:List Int}{r:Rc}{n:Nat}(hb:aH b)(h:iQ b=some (r,n)):eD b=(r::(eD (b.drop n)).1,n+(eD (b.drop n)).2):=by
 have a:=(zK hb h).2.2.2;have e:eD b=nM (b.length+1) b:=(G5 hb (by omega)).symm;rw[e];simp only[nM,h];rw[G5 (oW _ hb) (by rw[VH];omega)]
theorem PT{r:Rc}(h:r.ok){rest:List Int}(a:aH rest):eD (bN r++rest)=(r::(eD rest).1,(bN r).length+(eD rest).2):=by
 rw[zM (tP (rV h) a) (oneM_rec h rest),Yb]
theorem PU{rs:List Rc}(h:∀r∈rs,r.ok):aH (rs.flatMap bN):=by
 intro x a;obtain⟨r,b,a⟩:=Ya.1 a;exact rV (h r b) x a
theorem zN:∀{rs:List Rc} {t:List Int},(∀r∈rs,r.ok)->aH t->iQ t=none->eD (rs.flatMap bN++t)=(rs,(rs.flatMap bN).length)
 | [],t,_,_,ht=>by simp[zL ht]
 | r::rs,t,h,hb,ht=>by
  have b:=h r VA;have a:∀x∈rs,x.ok:=λx c=>h x (VD _ c)
  rw[VU,V5,PT b (tP (PU a) hb),zN a hb ht];simp
theorem PW{rs:List Rc}(h:∀r∈rs,r.ok):eD (rs.flatMap bN)=(rs,(rs.flatMap bN).length):=by
 have:=zN (t:=[]) h (λx a=>by cases a) rfl
 rwa[VT]at this
theorem zO:∀{n:Nat} {b:List Int},b.length<=n->aH b->(∀r∈(eD b).1,r.ok)/\(eD b).2<=b.length/\(eD b).1.flatMap bN=b.take (eD b).2
 | n,b,hn,hb=>by
  cases h:iQ b with
  | none=>rw[zL h];exact⟨λr e=>(by cases e),VQ _,rfl⟩
  | some p=>
   obtain⟨r,m⟩:=p;obtain⟨c,i,d,f⟩:=zK hb h;rw[zM hb h]
   cases n with
   | zero=>omega
   | succ n=>
    obtain⟨i1,i2,i3⟩:=zO (n:=n) (b:=b.drop m) (by rw[VH];omega) (oW _ hb);rw[VH]at i2;refine⟨λx a=>?_,by dsimp only;omega,?_⟩
    .rcases V9.1 a with rfl|a
     .exact c
     .exact i1 x a
    .rw [VU,i3,<-d,List.take_add]
theorem G6{b:List Int}(hb:aH b) :
  ((∃e,e≠0/\aZ 262150 ⟨0,b⟩=([],⟨e,b⟩))/\iQ b=none)\/
  ∃k n,(aZ 262150 ⟨0,b⟩)=((b.drop k).take n,⟨0,b.drop (k+n)⟩)/\k+n<=b.length/\0<k/\iQ b=(kD ((b.drop k).take n)).map λr=>(r,k+n):=by
 unfold aZ iQ;simp only[ne_eq,not_true_eq_false,if_false]
 cases hr:rdU 0 0 b with
 | form=>exact .inl ⟨⟨10,by decide,rfl⟩,rfl⟩
 | ended=>exact .inl ⟨⟨15,by decide,rfl⟩,rfl⟩
 | ok n k=>
  have a:=qq hb hr;dsimp only
  by_cases h1:(max 262150 0:Int)<n
  .rw [Vt h1];refine .inl ⟨⟨17,by decide,rfl⟩,?_⟩
   split
   .rfl
   .rw [PN (tQ _ (oW _ hb)) (by rw[VM,VH];omega)];rfl
  .rw [Vs h1]
   by_cases h2:b.length<k+n
   .rw [Vt h2,Vt h2];exact .inl ⟨⟨15,by decide,rfl⟩,rfl⟩
   .rw [Vs h2,Vs h2];exact .inr ⟨k,n,rfl,by omega,a.1,rfl⟩
theorem PX{b:List Int}(hb:aH b)(h0:(dY b).1=0) :
  ((∃e,e≠0/\bY 255 ⟨0,(dY b).2⟩=(0,⟨e,(dY b).2⟩))/\kD b=none)\/
  (∃kind j:Nat,bY 255 ⟨0,(dY b).2⟩=((kind:Int),⟨0,(dY b).2.drop j⟩)/\j<=(dY b).2.length/\kD b=if 262144<(dY b).2.length-j then none else some ⟨kind,(dY b).2.drop j⟩):=by
 have a:=wB hb;unfold kD bY;obtain⟨p,d⟩:∃p,dY b=(0,p):=⟨(dY b).2,by rw[<-h0]⟩;rw[d]at a ⊢;dsimp only at a ⊢;simp only[ne_eq,not_true_eq_false,if_false]
 cases hr:rdU 0 0 p with
 | form=>exact .inl ⟨⟨10,by decide,rfl⟩,rfl⟩
 | ended=>exact .inl ⟨⟨15,by decide,rfl⟩,rfl⟩
 | ok n k=>
  have c:=qq a hr;dsimp only
  by_cases h1:(max 255 0:Int)<n
  .rw [Vt h1,Vt (Or.inl (by omega))];exact .inl ⟨⟨17,by decide,rfl⟩,rfl⟩
  .rw [Vs h1];refine .inr ⟨n,k,rfl,c.2.1,?_⟩
   by_cases h2:262144<p.length-k
   .rw [Vt (Or.inr h2),Vt h2]
   .rw [nO,Vs h2]
structure Ry where
 kind:Int
 y:Fy
def Ry.rc(r:Ry):Rc:=⟨r.kind,r.y.bs⟩
abbrev fW(r:Ry):Os:=[.int .i64 r.kind,dX r.y]
theorem pf(r:Ry):(fW r).length=2:=rfl
def rowsR(rs:List Ry):aE:=star (rs.map λr=>rowY r.y)
theorem G7(a b:List Ry):rowsR (a++b)=rowsR a*rowsR b:=by unfold rowsR;rw[VJ,tp]
theorem PY(r:Ry):rowsR [r]=rowY r.y:=by unfold rowsR;simp only[VS,WZ,star];rw[vF]
theorem zP:∀{rs:List Ry} {H:aD} {F:List aE},aA H (rowsR rs::F)->∀r∈rs,aP H r.y.a (r.y.bs.map U8)
 | [],_,_,_,r,b=>by cases b
 | x::rs,H,F,h,r,b=>by
  have c:aA H (rowY x.y::rowsR rs::F):=gy.1 h
  rcases V9.1 b with rfl|b
  .exact c.sl_rd 0 rfl
  .exact zP c.tl r b
theorem slb54:SlT Tryz.prog 127 234 2 32:=iO (by kernel_rfl)
section
variable {F L:List aE}{H:aD}{K:KE}
theorem PZ{a:KQ}{c:Nat}{bs:List Int}(h:aA H L)(n:∀H,aA H L->aP H a (bs.map U8))(w:bs.length<=1099511627776)
  (k:∀d e f,aA f (slA 5 1 d bs.length e (bs.map U8)::L)->K (.slice d bs.length e) f):CF 300 #[.slice a bs.length c] H K:=by
 refine cM 300 476 ⟨λi=>?_,λi=>?_⟩
 .have:a=none:=by simpa using i
  subst this;have t:=oh (n H h);have:bs=[]:=by simpa using t
  subst this;exact k none 0 H (h.sl_nil 5 1)
 .refine h.al λb x h=>?_
  have s:=n _ h.tl;have v:=aA.sl_pt (cs:=[]) h 1 0 rfl;refine aA.append (m:=bs.length) rS v 0 rfl s (by simp) (nE (λ_=>rfl) _) (by omega) (by omega) λd e f u=>⟨_,_,_,rfl,?_⟩
  have j:aA f (slA 5 1 d (0+bs.length) e ([]++bs.map U8)::L):=u;rw[VL,VZ]at j;have:=k d e f j;rw[<-VL bs.length]at this;exact this
theorem Qa{a:KQ}{c:Nat}{bs:List Int}(h:aA H F)(A:∀H,aA H F->aP H a (bs.map U8))(hb:aH bs)(I:bs.length<=1099511627776)(C:bs.length<=c)
  (k1:∀(r:Ry) n,kD bs=some r.rc->aA n (rowY r.y::F)->K (.tuple #[.agg #[.int .i64 r.kind,dX r.y],.bool true]) n)
  (k2:∀n,kD bs=none->aA n F->K (.tuple #[.agg #[.int .i64 0,.slice none 0 0],.bool false]) n) :
  CF 259 #[.slice a bs.length c] H K:=by
 refine Oz ?_;refine h.al λb M h=>?_
 refine G3 h (λH h=>A H h.tl) hb I C (λa1 c1 p G i h=>?_) λe G t i h=>?_
 .refine⟨_,_,_,_,rfl,(λu=>by cases u),λ_=>?_⟩
  have E:p.length<=bs.length:=by
   have:=congrArg List.length (zG i);rw[rU]at this;omega
  have v:aH p:=by have:=wB hb;rwa[i]at this
  have d:=PX hb (by rw[i]);rw[i]at d;dsimp only at d;refine rN h (λH h=>h.sl_rd 0 rfl) (by omega) λrb J h=>⟨_,rfl,?_⟩
  refine tO h v (by dsimp only;omega) (by unfold aF;omega) λO h=>⟨_,rfl,_,mA h,_,λ_=>oU h,λf=>?_,λf=>?_⟩
  .refine h.st 2 rfl rfl λD h=>⟨_,_,_,_,h.q 2,k2 _ ?_ h.tl.tl.tl⟩
   rcases d with ⟨_,L⟩|⟨kind,j,m,B,s⟩
   .exact L
   .rw [s];rw[m]at f;simp only[VH,decide_true,Bool.not_true,WQ,Vy]at f;rw[pO]
  .rcases d with ⟨⟨e,t,m⟩,_⟩|⟨kind,j,m,B,s⟩
   .rw [m]at f;simp[t]at f
   .rw [m]at f h ⊢;dsimp only at h ⊢;simp only[VH,decide_true,Bool.not_true,WQ,V0]at f;rw[nO]at s;refine⟨_,oU h,?_⟩;dsimp only;have x:i64.wrap ((p.length:Int)-((p.drop j).length:Int))=(j:Nat):=by
     rw[VH,aK];omega
    have w:=h.sl_nc 1 rfl;rw[x,V4];refine⟨⟨by omega,by omega,by omega⟩,?_⟩;rw[show p.length-j=(p.drop j).length by rw[VH]];refine PZ h (λH h=>by
     have:=(h.sl_rd 1 rfl).subB (k:=j) (c:=c1) (by simpa using w)
     rwa[<-List.map_drop]at this) (by rw[VH];omega) λa5 c5 D h=>⟨_,_,_,rfl,?_⟩
    refine h.st 3 rfl rfl λN h=>⟨_,_,_,_,h.q 3,?_⟩
    refine k1 ⟨kind,⟨a5,c5,p.drop j⟩⟩ _ s ?_;exact h.o [0] 4
 .refine⟨_,_,_,_,rfl,λ_=>?_,λu=>by simp[t]at u⟩
  refine h.st 0 rfl rfl λJ h=>⟨_,_,_,_,h.q 0,k2 _ ?_ h.tl⟩
  unfold kD;rw[i,Vt t]
end
section
variable {F L:List aE}{H:aD}{K:KE}
theorem Qb{a:KQ}{c:Nat}{bs:List Int}(h:aA H F)(Q:∀H,aA H F->aP H a (bs.map U8))(hb:aH bs)(Y:bs.length<=1099511627776)
  (k:∀(rs:List Ry) a' c' f,rs.map Ry.rc=(eD bs).1->aA f (slA 234 2 a' rs.length c' (flat fW rs)::rowsR rs::F)->K (.tuple #[.slice a' rs.length c',.int .i64 (eD bs).2]) f) :
  CF 194 #[.slice a bs.length c] H K:=by
 refine cN 194 0x11112a621399512139912139914c [[(4,sS),(5,sI)],[(4,sS),(5,sI)]] ?_;refine rN h Q Y λrb P h=>⟨_,rfl,λJn hJ=>?_⟩
 have fin:∀la lc (rs:List Ry) (w:Nat) s t f,iQ t=none->eD bs=(rs.map Ry.rc++(eD t).1,w+(eD t).2)->aA f (crdA rb s::slA 234 2 la rs.length lc (flat fW rs)::rowsR rs::F)->Jn la rs.length lc w f:=by
  intro la lc rs w s t f C i W;refine hJ _ _ _ _ _ ?_;rw[zL C,VT,W8]at i;have:=k rs la lc f (by rw[i]) W.tl
  rwa[i]at this
 refine⟨λla N lc b f=>∃(rs:List Ry) (w:Nat),N=rs.length/\b=w/\w<=bs.length/\rs.length<=w/\eD bs=(rs.map Ry.rc++(eD (bs.drop w)).1,w+(eD (bs.drop w)).2)/\
   aA f (crdA rb ⟨0,bs.drop w⟩::slA 234 2 la rs.length lc (flat fW rs)::rowsR rs::F),λ_ _ _ b _=>bs.length-b.toNat,⟨[],0,rfl,rfl,VQ _,VQ _,by simp,?_⟩,?_⟩
 .have M:aA P (rowsR []::crdA rb ⟨0,bs⟩::F):=zo.2 h;have E:=(M.sl_nil 234 2).o [2,0,1] 3;exact E
 rintro la N lc b H2 ⟨rs,w,rfl,rfl,hw,h0,i,h⟩;have d:aH (bs.drop w):=oW _ hb;refine⟨_,oU h,λj=>?_,λj=>?_⟩
 .refine nK h d (by simp only[VH];omega) (by unfold aF;omega) λH3 h=>⟨_,rfl,_,mA h,λj=>?_,λj=>?_⟩
  .rcases G6 d with ⟨⟨e,x,u⟩,C⟩|⟨kk,n,J,B,D,v⟩
   .rw [u]at h;exact fin _ _ _ _ _ _ _ C i h
   .rw [J]at j;simp at j
  .rcases G6 d with ⟨⟨e,x,u⟩,C⟩|⟨kk,n,J,B,D,v⟩
   .rw [u]at j;simp[x]at j
   .rw [J]at h ⊢;dsimp only at h ⊢;obtain⟨t,m⟩:∃t,((bs.drop w).drop kk).take n=t:=⟨_,rfl⟩;rw[m]at v ⊢;have A:aH t:=by rw[<-m];exact tQ _ (oW _ d)
    have Z:t.length<=bs.length:=by rw[<-m];simp only[VM,VH];omega
    rw[VH]at B;refine wo A h λa4 c4 H4 h=>⟨_,_,_,rfl,?_⟩
    have L:=h.sl_nc 0 rfl;refine Qa h (λH h=>h.sl_rd 0 rfl) A (by omega) L (λr T I h=>⟨_,_,_,_,_,rfl,?_⟩) λT I h=>⟨_,_,_,_,_,rfl,?_⟩
    .refine h.al λb6 V h=>?_
     refine h.st 0 rfl rfl λR h=>⟨(λG=>by cases G),λ_=>⟨_,_,_,_,h.q 0,?_⟩⟩
     rw[I,VX]at v;rw[Yk]at h;rintro _ _ rfl rfl;refine h.append1 slb54 4 rfl (by rfl) (by rfl) (by omega) (by omega) λa8 c8 S h=>⟨_,_,_,rfl,?_⟩
     have h:=h.o [3,4,5,1] 6;refine⟨_,oU h,?_⟩;have e1:i64.wrap ((bs.length:Int)-((bs.drop (w+(kk+n))).length:Int))=((w+(kk+n):Nat):Int):=by
      rw[VH,aK];omega
     dsimp only
     conv=>whnf
     rw[e1];refine⟨⟨rs++[r],w+(kk+n),by simp,rfl,by omega,by rw[Vv,Wi];omega,?_,?_⟩,by simp only[V4];omega⟩
     .rw [i,zM d v,Yk];simp[Wk]
     .rw [G7,PY,dS,nB,Vv,Wi];have M:=h.o [0,1,2,3] 4;have E:aA S (slA 234 2 a8 (rs.length+1) c8 (flat fW rs++fW r)::crdA rb ⟨0,bs.drop (w+(kk+n))⟩::rowsR rs::rowY r.y::F):=h.o [1,0,2,3] 4;have U:=E.o [2,3,1,0] 4;have O:=gy.2 U;exact O.o [1,2,0] 3
    .refine h.al λb6 V h=>?_
     refine h.st 0 rfl rfl λR h=>⟨λ_=>?_,(λG=>by cases G)⟩
     rw[I,Option.map_none]at v;exact fin _ _ _ _ _ _ _ v i (h.o [2,3,4] 5)
 .have hd:bs.drop w=[]:=by
   simp at j;exact List.drop_eq_nil_of_le (by omega)
  exact fin _ _ _ _ _ _ _ (by rw[hd];rfl) i h
end
def iz(kind:Int)(n:Nat):Int:=if kind<0\/255<kind then 11 else if 262144<n then 17 else 0
theorem wC{kind:Int}{bs:List Int}(hb:aH bs)(h:iz kind bs.length=0):(⟨kind,bs⟩:Rc).ok:=by
 unfold iz at h
 split at h
 .cases h
 .split at h
  .cases h
  .exact⟨by dsimp only;omega,by dsimp only;omega,by dsimp only;omega,hb⟩
theorem Qc{r:Rc}(h:r.ok):iz r.kind r.data.length=0:=by
 have:=h.k0;have:=h.k1;have:=h.len;unfold iz;rw[nO,nO]
section
variable {F L:List aE}{H:aD}{K:KE}
theorem tZ{e sz n c:Nat}{a:KQ}{cs:Os}(h:aA H (slA e sz a n c cs::F)):a=none\/∃b o,a=some ⟨b,o,none⟩:=by
 rcases (kz (F:=star F) h).2 with ⟨d,_⟩|⟨b,pre,post,f,fr,d,_⟩
 .exact .inl d
 .exact .inr ⟨_,_,d⟩
theorem Qd{kind:Int}{a:KQ}{c:Nat}{bs:List Int}(h:aA H F)(G:∀H,aA H F->aP H a (bs.map U8))(M:a=none\/∃b o,a=some ⟨b,o,none⟩)(hb:aH bs)(T:bs.length<=1099511627776)
  (k1:∀E C k,iz kind bs.length=0->aA k (slA 5 1 E (bN ⟨kind,bs⟩).length C ((bN ⟨kind,bs⟩).map U8)::F)->K (.tuple #[.slice E (bN ⟨kind,bs⟩).length C,.int .i64 0]) k)
  (k2:∀k,iz kind bs.length≠0->aA k F->K (.tuple #[.slice none 0 0,.int .i64 (iz kind bs.length)]) k) :
  CF 190 #[.agg #[.int .i64 kind,.slice a bs.length c]] H K:=by
 refine cM 190 122140 ?_;refine h.al λb N h=>⟨_,h.r 0,_,λ_=>h.r 0,λB=>?_,λB=>?_⟩
 .have n:kind<0\/255<kind:=by simpa using B
  have e:iz kind bs.length=11:=by unfold iz;rw[Vt n]
  have:=k2 _ (by rw[e];decide) h.tl
  rwa[e]at this
 .have n:¬(kind<0\/255<kind):=by simp at B;omega
  refine⟨_,_,_,h.r 0,λf=>?_,λf=>?_⟩
  .have A:262144<bs.length:=by simp at f;omega
   have e:iz kind bs.length=17:=by unfold iz;rw[Vs n,Vt A]
   have:=k2 _ (by rw[e];decide) h.tl
   rwa[e]at this
  .have t:¬262144<bs.length:=by simp at f;omega
   have e:iz kind bs.length=0:=by unfold iz;rw[Vs n,Vs t]
   have v:=wC hb e;have s:=tY v;obtain⟨u,D⟩:∃u:Nat,kind=u:=⟨kind.toNat,by omega⟩;refine⟨_,h.r 0,_,_,_,h.r 0,?_⟩;rw[u64w (x:=kind) (by omega) (by omega)];refine h.al λb1 S h=>⟨h.r 1,?_⟩
   refine zk (u:=u) h (λH h=>by rw[<-D];exact h.ce_rd 0 rfl) (by omega) λa3 c3 V h=>⟨_,_,_,rfl,h.r 2,?_⟩
   refine h.al λb2 U h=>?_
   have w:=tZ h.tl;have j:([⟨a3,c3,bR u⟩,⟨a,c,bs⟩]:List Fy).flatMap Fy.bs=bR u++bs:=by simp
   have O:=zI (u:=u) (by omega);have up:=wi u;refine PJ (parts:=[⟨a3,c3,bR u⟩,⟨a,c,bs⟩]) h (λH h=>h.ce_rd 0 rfl) (λH h y d=>?_) (λy d=>?_) (λy d=>?_) (V2 _) (V2 _) (Yg rfl) (by rw[j,Vv];omega) (by rw[j,Vv];omega) λa5 c5 Q h=>⟨_,_,_,rfl,?_⟩
   .simp only[V9,W1,or_false]at d
    rcases d with rfl|rfl
    .exact h.sl_rd 1 rfl
    .exact G _ h.tl.tl.tl.tl
   .simp only[V9,W1,or_false]at d
    rcases d with rfl|rfl
    .exact w
    .exact M
   .simp only[V9,W1,or_false]at d
    rcases d with rfl|rfl
    .exact oS _
    .exact hb
   .rw [j]at h ⊢;have I:eK (bR u++bs)=gB ⟨kind,bs⟩:=by unfold gB;dsimp only;rw[D,V4]
    rw[I]at h ⊢
    conv=>whnf
    rw[u64w (x:=(((gB ⟨kind,bs⟩).length:Nat):Int)) (by omega) (by omega)];refine h.al λb3 R h=>?_
    refine zk (u:=(gB ⟨kind,bs⟩).length) h (λH h=>h.ce_rd 0 rfl) (by omega) λa7 c7 P h=>⟨_,_,_,rfl,?_⟩
    have J:=zJ s.1;refine aA.append (m:=(gB ⟨kind,bs⟩).length) (ws:=(gB ⟨kind,bs⟩).map U8) rS h 0 rfl (h.sl_rd 2 rfl) (by simp) (nE (λ_=>rfl) _) (by omega) (by omega) λa8 c8 L h=>⟨_,_,_,rfl,?_⟩
    have i:=k1 a8 c8 L e;unfold bN at i;rw[Vv,VJ]at i;exact i (h.o [0] 7)
end
def fX(rows:DR):Prop:=∀r∈rows,(0<=r.1/\r.1<=2147483647)/\0<=r.2/\r.2<256
theorem fX.bytes{rows:DR}(h:fX rows)(f:Int):aH (bytesOf f rows):=by
 intro x a;unfold bytesOf at a;obtain⟨r,b,rfl⟩:=V3.1 a;exact (h r (Wv.1 b).1).2
theorem fX.app{rows:DR}(h:fX rows){f:Int}{bs:List Int}(d:0<=f/\f<=2147483647)(hb:aH bs):fX (rows++bs.map λb=>(f,b)):=by
 intro r a
 rcases VK.1 a with a|a
 .exact h r a
 .obtain⟨b,c,rfl⟩:=V3.1 a;exact⟨d,hb b c⟩
theorem fX.take{rows:DR}(h:fX rows)(n:Nat):fX (rows.take n):=λr a=>h r (Wo a)
theorem fX.filter{rows:DR}(h:fX rows)(p:Int×Int->Bool):fX (rows.filter p):=λr a=>h r (Wv.1 a).1
structure RL where
 most:Int
 seg:Int
 next:Nat
 syn:Nat
structure RL.ok(s:RL):Prop where
 seg:0<=s.seg/\s.seg<=2147483647
 most:64<=s.most/\s.most<=1048576
 next:s.next<=1099511627776
 syn:s.syn<=1099511627776
def reelA(rb db:Nat)(s:RL):aE:=cellsA rb [.pointer (some ⟨db,0,none⟩),.int .i64 s.most,.int .i64 s.seg,.int .i64 s.next,.int .i64 s.syn] 222
def pg(rows:DR)(s:RL)(n:Nat):Bool:=decide (0<(bytesOf s.seg rows).length)&&decide (s.most<(((bytesOf s.seg rows).length+n:Nat):Int))
def iA(rows:DR)(s:RL)(r:Rc):Int:=
 if iz r.kind r.data.length≠0 then iz r.kind r.data.length else if pg rows s (bN r).length=true/\s.seg=2147483647 then 20 else 0
def dp(rows:DR)(s:RL)(r:Rc):RL:=if iA rows s r≠0 then s else { s with seg:=if pg rows s (bN r).length then s.seg+1 else s.seg,next:=s.next+1 }
def fY(rows:DR)(s:RL)(r:Rc):DR:=if iA rows s r≠0 then rows else rows++(bN r).map λb=>((dp rows s r).seg,b)
def appN(rows:DR)(s:RL)(r:Rc):Int:=if iA rows s r≠0 then -1 else s.next
theorem zQ{rows:DR}{s:RL}{r:Rc}(hb:aH r.data)(h:iA rows s r=0):r.ok:=by
 unfold iA at h
 split at h
 .rename_i a;exact Vu h a
 .rename_i a;obtain⟨k,d⟩:=r;exact wC hb (Classical.not_not.1 a)
theorem appS_seg{rows:DR}{s:RL}{r:Rc}(h:s.ok):0<=(dp rows s r).seg/\(dp rows s r).seg<=2147483647:=by
 have:=h.seg;unfold dp
 split
 .exact this
 .rename_i a;unfold iA at a;dsimp only
  split
  .rename_i c
   split at a
   .rename_i d;exact Vu d a
   .split at a
    .exact Vu (by decide) a
    .rename_i b;have:s.seg≠2147483647:=λe=>b ⟨c,e⟩
     omega
  .exact this
section
variable {F L:List aE}{H:aD}{K:KE}{rb db pb:Nat}{rows:DR}{syn:Nat}{s:RL}
theorem G8{f:Int}(i:rows.length<=1099511627776)(h:aA H (diskX db rows syn::F))
  (k:∀a c e b,aA b (slA 5 1 a (bytesOf f rows).length c ((bytesOf f rows).map U8)::diskX db rows syn::F)->K (.tuple #[.slice a (bytesOf f rows).length c,.int .i64 e]) b) :
  CF 192 #[.pointer (some ⟨db,0,none⟩),.int .i64 f] H K:=by
 refine P4 i h (λd b h=>?_) λd a c b h=>?_
 .have:=k none 0 23 b;rw[d]at this;exact this (h.sl_nil 5 1)
 .exact k a c 0 b h
theorem Qe{a:KQ}{c:Nat}{parts:List Fy}(h:aA H F)(I:∀H,aA H F->aP H a (parts.map dX))(E:∀H,aA H F->∀y∈parts,aP H y.a (y.bs.map U8))(Q:parts.length<=1099511627776)(O:(parts.flatMap Fy.bs).length<=262144)
  (k:∀B w n,aA n (slA 5 1 B (parts.flatMap Fy.bs).length w ((parts.flatMap Fy.bs).map U8)::F)->K (.slice B (parts.flatMap Fy.bs).length w) n) :
  CF 191 #[.slice a parts.length c] H K:=by
 refine cN 191 0x1121a6123992512139944c [[(3,sS),(8,sI)],[(3,sS)]] ?_;intro P G;have d:∀j,((parts.take j).flatMap Fy.bs).length<=(parts.flatMap Fy.bs).length:=by
  intro j
  conv=>rhs;rw[<-Wl j parts,Ws,Vv]
  omega
 refine⟨λA on v i n=>∃j:Nat,i=j/\j<=parts.length/\on=((parts.take j).flatMap Fy.bs).length/\aA n (slA 5 1 A ((parts.take j).flatMap Fy.bs).length v (((parts.take j).flatMap Fy.bs).map U8)::F),λ_ _ _ i _=>parts.length-i.toNat,⟨0,rfl,VQ _,rfl,h.sl_nil 5 1⟩,?_⟩
 rintro A on v i N ⟨j,rfl,L,rfl,h⟩;have J:=d j;refine⟨λt=>?_,λt=>?_⟩
 .have b:j<parts.length:=by simpa using t
  have u:=(I _ h.tl).at b;have C:=E _ h.tl _ (V7 b);have e:=zD b;have f:=d (j+1);rw[e,Vv]at f;refine⟨⟨by omega,by omega⟩,_,_,u.1,_,_,_,u.2,λD=>?_,λ_=>?_⟩
  .have:=Vw D;omega
  .refine aA.append (m:=parts[j].bs.length) (ws:=parts[j].bs.map U8) rS h 0 rfl C (by simp) (nE (λ_=>rfl) _) (by omega) (by omega) λa8 c8 M h=>⟨_,_,_,rfl,?_⟩
   conv=>whnf
   rw[aK (x:=(j:Int)+1)];refine⟨⟨j+1,rfl,b,by rw[e,Vv],?_⟩,by simp only[V4];omega⟩;rw[e,Vv,VJ];exact h
 .have s:j=parts.length:=by simp at t;omega
  subst s;rw[VW]at h ⊢;refine G _ _ _ _ ?_;exact k _ _ _ h
theorem Qf(h:aA H (reelA rb db s::F)):bX Tryz.prog 93 #[.pointer (some ⟨rb,0,none⟩)] H (.int .i64 s.syn):=by
 unfold bX;refine cM 93 28 ?_;exact⟨_,h.r 0,rfl,rfl⟩
theorem G9(h:aA H (reelA rb db s::F)):bX Tryz.prog 97 #[.pointer (some ⟨rb,0,none⟩)] H (.int .i64 s.seg):=by
 unfold bX;refine cM 97 28 ?_;exact⟨_,h.r 0,rfl,rfl⟩
theorem GB(hs:0<=s.seg/\s.seg<=2147483647)(h:aA H (reelA rb db s::F))
  (k1:s.seg=2147483647->∀a,aA a (reelA rb db s::F)->K (.tuple #[.int .i64 (-1),.int .i64 20]) a)
  (k2:s.seg≠2147483647->∀a,aA a (reelA rb db { s with seg:=s.seg+1 }::F)->K (.tuple #[.int .i64 (s.seg+1),.int .i64 0]) a) :
  CF 95 #[.pointer (some ⟨rb,0,none⟩)] H K:=by
 refine cM 95 7452 ?_;refine⟨_,h.r 0,λb=>k1 (by simpa using b) _ h,λb=>⟨_,h.r 0,?_⟩⟩
 conv=>whnf
 rw[aK (x:=s.seg+1)];exact h.st 0 rfl rfl λa h=>⟨_,h.r 0,k2 (by simpa using b) _ h⟩
theorem GD(h:aA H (reelA rb db s::diskX db rows syn::F))(k:∀a,aA a (reelA rb db { s with syn:=s.next }::diskX db rows rows.length::F)->K (.tuple #[]) a) :
  CF 40 #[.pointer (some ⟨rb,0,none⟩)] H K:=by
 refine cM 40 20 ?_;refine⟨_,h.r 0,?_⟩;refine P3 (F:=reelA rb db s::F) (h.o [1,0] 2) λb h=>⟨rfl,_,h.r 1,?_⟩
 exact h.st 1 rfl rfl λa h=>k _ (h.o [1,0] 2)
theorem GE{a:KQ}{c:Nat}{parts:List Fy}{kind:Int}(hs:s.ok)(Y:rows.length<=549755813888)(h:aA H (reelA rb db s::diskX db rows syn::F))
  (G:∀H,aA H F->aP H a (parts.map dX)) (v:∀H,aA H F->∀y∈parts,aP H y.a (y.bs.map U8)) (hb:aH (parts.flatMap Fy.bs)) (U:parts.length<=1099511627776) (L:(parts.flatMap Fy.bs).length<=262144)
  (k:∀n,aA n (reelA rb db (dp rows s ⟨kind,parts.flatMap Fy.bs⟩)::diskX db (fY rows s ⟨kind,parts.flatMap Fy.bs⟩) syn::F)->
   K (.tuple #[.int .i64 (appN rows s ⟨kind,parts.flatMap Fy.bs⟩),.int .i64 (iA rows s ⟨kind,parts.flatMap Fy.bs⟩)]) n) :
  CF 96 #[.pointer (some ⟨rb,0,none⟩),.int .i64 kind,.slice a parts.length c] H K:=by
 refine OI ?_;have u:=hs.seg;have T:=hs.most;have Q:=hs.next;refine Qe h (λH h=>G H h.tl.tl) (λH h=>v H h.tl.tl) U L λa1 c1 V h=>⟨_,_,_,rfl,?_⟩
 obtain⟨d,hd⟩:∃d,parts.flatMap Fy.bs=d:=⟨_,rfl⟩;rw[hd]at hb L h k ⊢;refine Qd h (λH h=>h.sl_rd 0 rfl) (tZ h) hb (by omega) (λa2 c2 J j h=>⟨_,_,_,_,rfl,(λe=>by cases e),λ_=>?_⟩) λJ j h=>⟨_,_,_,_,rfl,λ_=>?_,λe=>by simp[j]at e⟩
 .have t:=qy (wC hb j);have A:=rV (wC hb j);dsimp only at t;obtain⟨r,M⟩:∃r:Rc,(⟨kind,d⟩:Rc)=r:=⟨_,rfl⟩;have B:iz r.kind r.data.length=0:=by rw[<-M];exact j
  rw[M]at h t A k ⊢;have R:=tV s.seg rows;refine⟨_,h.r 2,_,h.r 2,?_⟩;refine G8 (F:=slA 5 1 a2 (bN r).length c2 ((bN r).map U8)::slA 5 1 a1 d.length c1 (d.map U8)::reelA rb db s::F) (by omega) (h.o [3,0,1,2] 4) λa3 c3 e3 H3 h=>⟨_,_,_,_,rfl,λ_=>trivial,_,λ_=>h.r 4,λJn N=>?_⟩
  have O:i64.wrap (((bytesOf s.seg rows).length:Int)+((bN r).length:Int))=(((bytesOf s.seg rows).length+(bN r).length:Nat):Int):=by rw[aK];omega
  have S:(decide ((0:Int)<((bytesOf s.seg rows).length:Int))&&decide (s.most<(((bytesOf s.seg rows).length+(bN r).length:Nat):Int)))=pg rows s (bN r).length:=by
   unfold pg;congr 1;exact decide_eq_decide.2 (by omega)
  rw[O,S];have f:∀g n,0<=g/\g<=2147483647->iA rows s r=0->dp rows s r={ s with seg:=g,next:=s.next+1 }->aA n (reelA rb db { s with seg:=g }::diskX db rows syn::slA 5 1 a2 (bN r).length c2 ((bN r).map U8)::F)->zd.r1 rb 0 K a2 (bN r).length c2 n:=by
   intro g n Z e0 I h;unfold zd.r1;refine⟨_,h.r 0,_,h.r 0,?_⟩;refine h.al λb D h=>⟨h.r 1,h.r 1,?_⟩
   have C:([⟨a2,c2,bN r⟩]:List Fy).flatMap Fy.bs=bN r:=by simp
   refine P8 (F:=cellsA b [.slice a2 (bN r).length c2] 43::reelA rb db { s with seg:=g }::slA 5 1 a2 (bN r).length c2 ((bN r).map U8)::F) (pc:=1) (parts:=[⟨a2,c2,bN r⟩]) (by rw[C];omega) (by simp) (λH h=>⟨h.ce_rd 0 rfl,λp v=>by
    rw[V6]at v;subst v;exact h.sl_rd 2 rfl⟩) (h.o [2,0,1,3] 4) (λe=>Vu e (by dsimp only;omega)) λ_ W h=>⟨_,rfl,(λe=>by cases e),λ_=>⟨_,h.r 2,?_⟩⟩
   conv=>whnf
   rw[aK (x:=(s.next:Int)+1)];refine h.st 2 rfl rfl λP h=>⟨_,h.r 2,?_⟩
   have i:=k P;rw[show appN rows s r=s.next by unfold appN;rw[Vs (by rw[e0];decide)],e0,show fY rows s r=rows++(bN r).map (λb=>(g,b)) by unfold fY;rw[Vs (by rw[e0];decide),I],I]at i
   have en:i64.wrap (((s.next:Int)+1)-1)=s.next:=by rw[aK];omega
   conv=>whnf
   rw[en];refine i ?_;have G:jk g [(⟨a2,c2,bN r⟩:Fy)]=(bN r).map (λb=>(g,b)):=by simp[jk]
   have h:=h.o [2,0] 4;rw[<-G];exact h
  have e0:iA rows s r=if pg rows s (bN r).length=true/\s.seg=2147483647 then 20 else 0:=by unfold iA;rw[Vs (by rw[B];decide)]
  refine⟨λw=>?_,λw=>?_⟩
  .refine GB (F:=slA 5 1 a3 (bytesOf s.seg rows).length c3 ((bytesOf s.seg rows).map U8)::diskX db rows syn::slA 5 1 a2 (bN r).length c2 ((bN r).map U8)::slA 5 1 a1 d.length c1 (d.map U8)::F) u (h.o [4,0,1,2,3] 5) (λhm D h=>⟨_,_,rfl,λ_=>?_,(λe=>by cases e)⟩) λhm D h=>⟨_,_,rfl,(λe=>by cases e),λ_=>N _ ?_⟩
   .rw [Vt ⟨w,hm⟩]at e0;have i:=k D;unfold appN dp fY at i;rw[e0,Vt (by decide),Vt (by decide),Vt (by decide)]at i;exact i (h.o [0,2] 5)
   .rw [Vs (λE=>hm E.2)]at e0
    exact f (s.seg+1) _ (by omega) e0 (by unfold dp;rw[Vs (by rw[e0];decide),Vt w]) (h.o [0,2,3] 5)
  .have m:pg rows s (bN r).length=false:=w;rw[Vs (λE=>by rw[E.1]at m;cases m)]at e0
   exact N _ (f s.seg _ u e0 (by unfold dp;rw[Vs (by rw[e0];decide),m];rfl) (h.o [4,1,2] 5))
 .have e0:iA rows s ⟨kind,d⟩=iz kind d.length:=by unfold iA;dsimp only;rw[Vt j]
  have i:=k J;unfold appN dp fY at i;rw[e0,Vt j,Vt j,Vt j]at i;exact i (h.o [1,2] 3)
end
def dj(rows:DR):List Rc:=(bB rows).flatMap λf=>(eD (bytesOf f rows)).1
def iR(rows:DR):Int:=match (bB rows)[(bB rows).length-1]? with
 | none=>0
 | some f=>f+1
def fk(most:Int)(rows:DR):Int:=if most<64\/1048576<most then 11 else if 2147483647<iR rows then 20 else 0
def iB(below:Int)(rows:DR):DR:=rows.filter λr=>decide (below<=r.1)
theorem GL{b:List Int}(hb:aH b):(eD b).1.length<=b.length:=by
 obtain⟨c,i,d⟩:=zO (V2 _) hb;have e:=congrArg List.length d;rw[VM]at e;have:∀a:List Rc,(∀r∈a,r.ok)->a.length<=(a.flatMap bN).length:=by
  intro a
  induction a with
  | nil=>intro _;simp
  | cons r a ih=>
   intro h;have e1:=qy (h r VA);have e2:=ih λx f=>h x (VD _ f)
   rw[VU,Vv,V1];omega
 have:=this _ c;omega
theorem Qg(rows:DR):(bB rows).Nodup:=(oX rows).imp λh=>by omega
theorem zS{rows:DR}(h:fX rows):(dj rows).length<=rows.length:=by
 have a:=zr rows (bB rows) (Qg rows) λr b=>j4.2 (V3.2 ⟨r,b,rfl⟩)
 rw[<-a];unfold dj;generalize bB rows=l
 induction l with
 | nil=>simp
 | cons f l ih=>
  rw[VU,Vv,VS,WP];have:=GL (h.bytes f);omega
theorem GM{α β:Type}(f:α->List β)(l:List α)(j:Nat):((l.take j).flatMap f).length<=(l.flatMap f).length:=by
 conv=>rhs;rw[<-Wl j l,Ws,Vv]
 omega
theorem Qh{α β:Type}(f:α->List β){l:List α}{j:Nat}(h:j<l.length):(l.take (j+1)).flatMap f=(l.take j).flatMap f++f l[j]:=by
 rw[Wf h,Ws];simp
theorem ua{rows:DR}{n:Nat}(h:n+1=(bB rows).length):∃f,(bB rows)[n]?=some f/\iR rows=f+1/\f∈bB rows:=by
 have a:n<(bB rows).length:=by omega
 refine⟨_,List.getElem?_eq_getElem a,?_,V7 a⟩;unfold iR;rw[<-h,Y6,List.getElem?_eq_getElem a]
theorem wD{rows:DR}(h:(bB rows).length=0):iR rows=0:=by
 unfold iR;rw[W6.1 h];rfl
theorem fX.file{rows:DR}(h:fX rows){f:Int}(a:f∈bB rows):0<=f/\f<=2147483647:=by
 obtain⟨r,b,rfl⟩:=V3.1 (j4.1 a);exact (h r b).1
theorem GN{rows:DR}(h:fX rows):0<=iR rows/\iR rows<=2147483648:=by
 cases hn:(bB rows).length with
 | zero=>rw[wD hn];omega
 | succ n=>
  obtain⟨f,b,c,a⟩:=ua hn.symm;have:=h.file a;omega
def jV(below:Int)(rows:DR)(j:Nat):DR:=rows.filter λr=>!(decide (r.1∈(bB rows).take j)&&decide (r.1<below))
theorem Qi(below:Int)(rows:DR):jV below rows 0=rows:=by
 unfold jV;simp
theorem Qj(below:Int)(rows:DR):jV below rows (bB rows).length=iB below rows:=by
 unfold jV iB;refine Yr λr a=>?_
 rw[VW,VF (j4.2 (V3.2 ⟨r,a,rfl⟩)),Yc,<-decide_not];exact decide_eq_decide.2 (by omega)
theorem Qk{below:Int}{rows:DR}{j:Nat}(h:j<(bB rows).length) :
  jV below rows (j+1)=if (bB rows)[j]<below then (jV below rows j).filter (λr=>decide (r.1≠(bB rows)[j])) else jV below rows j:=by
 have hm:∀x,decide (x∈(bB rows).take (j+1))=(decide (x∈(bB rows).take j)||decide (x=(bB rows)[j])):=by
  intro x;rw[<-Bool.decide_or];refine decide_eq_decide.2 ?_;rw[Wf h,VK,V6]
 split
 .rename_i a;unfold jV;rw[List.filter_filter];refine Yr λr c=>?_
  rw[hm]
  by_cases e:r.1=(bB rows)[j]
  .rw [VF e,show decide (r.1≠(bB rows)[j])=false from Wj λd=>d e,show decide (r.1<below)=true from VF (by rw[e];exact a)]
   simp
  .rw [Wj e,show decide (r.1≠(bB rows)[j])=true from VF e,Bool.or_false,Yc]
 .rename_i b;unfold jV;refine Yr λr c=>?_
  rw[hm]
  by_cases e:r.1=(bB rows)[j]
  .rw [show decide (r.1<below)=false from Wj (by rw[e];exact b),Bool.and_false,Bool.and_false]
  .rw [Wj e,Bool.or_false]
section
variable {F L:List aE}{H:aD}{K:KE}{rb db pb:Nat}{rows:DR}{syn:Nat}{s:RL}
theorem Ql{below:Int}(v:rows.length<=1099511627776)(hs:syn<=rows.length)(h:aA H (reelA rb db s::diskX db rows syn::F))
  (k1:syn<rows.length->∀b,aA b (reelA rb db s::diskX db rows syn::F)->K (.int .i64 21) b)
  (k2:¬syn<rows.length->∀b,aA b (reelA rb db s::diskX db (iB below rows) (iB below rows).length::F)->K (.int .i64 0) b) :
  CF 94 #[.pointer (some ⟨rb,0,none⟩),.int .i64 below] H K:=by
 refine cN 94 0x1d21561239925117494c [[],[(19,sI)]] ?_;refine⟨_,h.r 0,?_⟩;refine Gs (F:=reelA rb db s::F) v (h.o [1,0] 2) λE h=>⟨_,rfl,λc=>?_,λc=>?_⟩
 .have:=Vw c;exact k1 (by omega) _ (h.o [1,0] 2)
 .have c:=Vx c;have m:syn=rows.length:=by omega
  refine⟨_,h.r 1,?_⟩;refine Gv v h λn u I h=>⟨_,_,_,rfl,?_⟩
  have A:=Gy rows;refine⟨λi b=>∃j:Nat,i=j/\j<=(bB rows).length/\aA b (slA 3 1 n (bB rows).length u ((bB rows).map aC)::diskX db (jV below rows j) (jV below rows j).length::reelA rb db s::F),λi _=>(bB rows).length-i.toNat,⟨0,rfl,VQ _,?_⟩,?_⟩
  .rw [Qi,<-m];exact h
  rintro i J ⟨j,rfl,G,h⟩;refine⟨λc=>?_,λc=>?_⟩
  .have f:j<(bB rows).length:=by simpa using c
   have k:=(h.sl_rd 0 rfl).at f;refine⟨⟨by omega,by omega⟩,_,_,k.1,_,k.2,λD C=>?_⟩
   have a:=Qk (below:=below) f;have next:∀b,aA b (slA 3 1 n (bB rows).length u ((bB rows).map aC)::diskX db (jV below rows (j+1)) (jV below rows (j+1)).length::reelA rb db s::F)->D b:=by
    intro b h;refine C _ ?_
    conv=>whnf
    rw[aK (x:=(j:Int)+1)];exact⟨⟨j+1,rfl,f,h⟩,by simp only[V4];omega⟩
   refine⟨λd=>⟨_,h.r 2,?_⟩,λd=>?_⟩
   .have d:(bB rows)[j]<below:=Vw d;rw[Vt d]at a;refine P5 (F:=slA 3 1 n (bB rows).length u ((bB rows).map aC)::reelA rb db s::F) (h.o [1,0,2] 3) (λw B h=>⟨_,rfl,next _ ?_⟩) (λ_ y=>Vu y (Nat.lt_irrefl _)) λw _ B h=>⟨_,rfl,next _ ?_⟩
    .have e:(jV below rows j).filter (λr=>decide (r.1≠(bB rows)[j]))=jV below rows j:=by
      refine Yn.2 λr k=>?_
      have:¬r.1=(bB rows)[j]:=λe=>by
       have:=Gk.2 (V3.2 ⟨r,k,e⟩);exact this w
      simp[this]
     rw[a,e];exact h.o [1,0,2] 3
    .rw [a];exact h.o [1,0,2] 3
   .have d:¬(bB rows)[j]<below:=Vx d;rw[Vs d]at a;refine next _ ?_;rw[a];exact h
  .have t:j=(bB rows).length:=by simp at c;omega
   subst t;rw[Qj]at h;exact k2 (by omega) _ (h.o [2,1] 3)
end
section
variable {F L:List aE}{H:aD}{K:KE}{rb db pb:Nat}{rows:DR}{syn:Nat}{s:RL}{most:Int}
abbrev opS(most:Int)(rows:DR):RL:=⟨most,iR rows,(dj rows).length,(dj rows).length⟩
def qz(rows:DR)(j:Nat):List Rc:=((bB rows).take j).flatMap λf=>(eD (bytesOf f rows)).1
theorem GU(h:fX rows)(j:Nat):(qz rows j).length<=rows.length:=VI (GM _ _ _) (zS h)
theorem Qm{j:Nat}(h:j<(bB rows).length):qz rows (j+1)=qz rows j++(eD (bytesOf (bB rows)[j] rows)).1:=Qh _ h
theorem allJ_all:qz rows (bB rows).length=dj rows:=by unfold qz dj;rw[VW]
theorem Qn{a b:List Ry}(h:aA H (rowsR a::rowsR b::F)):aA H (rowsR (a++b)::F):=by rw[G7];exact gy.2 h
theorem GW(r:Ry):cT (fW r)=true:=rfl
theorem Qo(ok:fX rows)(N:rows.length<=1099511627776)(h:aA H (diskX db rows syn::F))
  (k1:fk most rows=0->∀(rs:List Ry) a c rb k,rs.map Ry.rc=dj rows->aA k (reelA rb db (opS most rows)::slA 234 2 a rs.length c (flat fW rs)::rowsR rs::diskX db rows syn::F)->
   K (.tuple #[.pointer (some ⟨rb,0,none⟩),.slice a rs.length c,.int .i64 0]) k)
  (k2:fk most rows≠0->∀k,aA k (diskX db rows syn::F)->K (.tuple #[.pointer none,.slice none 0 0,.int .i64 (fk most rows)]) k) :
  CF 99 #[.pointer (some ⟨db,0,none⟩),.int .i64 most] H K:=by
 refine cN 99 0x1d1121749d12156123992511144c [[(9,sS),(38,sI)],[(8,sI)]] ?_;refine⟨λd=>?_,λd=>?_⟩
 .have hm:most<64\/1048576<most:=by simpa using d
  have e:fk most rows=11:=by unfold fk;rw[Vt hm]
  have:=k2 (by rw[e];decide) _ h
  rwa[e]at this
 have hm:¬(most<64\/1048576<most):=by simp at d;omega
 have Y:=GN ok;refine Gv N h λB C H1 h=>⟨_,_,_,rfl,λZ V=>?_⟩
 have T:=Gy rows;have rest:∀k,aA k (slA 3 1 B (bB rows).length C ((bB rows).map aC)::diskX db rows syn::F)->Z (iR rows) k:=by
  intro k h;refine V _ _ ?_;refine⟨λd=>?_,λd=>?_⟩
  .have b:2147483647<iR rows:=Vw d;have e:fk most rows=20:=by unfold fk;rw[Vs hm,Vt b]
   have:=k2 (by rw[e];decide) _ h.tl
   rwa[e]at this
  .have E:¬2147483647<iR rows:=Vx d;have e:fk most rows=0:=by unfold fk;rw[Vs hm,Vs E]
   refine⟨λla J lc i k=>∃(j:Nat) (rs:List Ry),i=j/\j<=(bB rows).length/\J=rs.length/\rs.map Ry.rc=qz rows j/\
    aA k (slA 234 2 la rs.length lc (flat fW rs)::rowsR rs::slA 3 1 B (bB rows).length C ((bB rows).map aC)::diskX db rows syn::F),λ_ _ _ i _=>(bB rows).length-i.toNat,⟨0,[],rfl,VQ _,rfl,rfl,?_⟩,?_⟩
   .have v:aA k (rowsR []::slA 3 1 B (bB rows).length C ((bB rows).map aC)::diskX db rows syn::F):=zo.2 h;exact v.sl_nil 234 2
   rintro la J lc i H2 ⟨j,rs,rfl,hj,rfl,s,h⟩;have P:rs.length<=rows.length:=by
    have:=congrArg List.length s;rw[V8]at this;rw[this];exact GU ok j
   refine⟨λd=>?_,λd=>?_⟩
   .have b:j<(bB rows).length:=by simpa using d
    have u:=(h.sl_rd 2 rfl).at b;refine⟨⟨by omega,by omega⟩,_,_,u.1,_,u.2,?_⟩;have Q:=tV (bB rows)[j] rows;refine G8 (F:=slA 234 2 la rs.length lc (flat fW rs)::rowsR rs::slA 3 1 B (bB rows).length C ((bB rows).map aC)::F) N (h.o [3,0,1,2] 4) λa3 c3 e3 H3 h=>⟨_,_,_,_,rfl,?_⟩
    refine Qb h (λH h=>h.sl_rd 0 rfl) (ok.bytes _) (by omega) λw a4 c4 H4 D h=>⟨_,_,_,_,rfl,?_⟩
    have O:=GL (ok.bytes (bB rows)[j]);have t:(rs++w).map Ry.rc=qz rows (j+1):=by rw[Qm b,VJ,s,D]
    have I:rs.length+w.length<=rows.length:=by
     have:=congrArg List.length t;rw[V8,Vv]at this;rw[this];exact GU ok (j+1)
    refine aA.append (m:=w.length) (ws:=flat fW w) slb54 h 4 rfl (h.sl_rd 0 rfl) (fh pf _) (lC GW _) (by omega) (by omega) λa8 c8 H8 h=>⟨_,_,_,rfl,?_⟩
    conv=>whnf
    rw[aK (x:=(j:Int)+1)];refine⟨⟨j+1,rs++w,rfl,b,by rw[Vv],t,?_⟩,by simp only[V4];omega⟩;have v:=Qn (h.o [5,1,4,6,3] 7);rw[dS,Vv];exact v.o [1,0,2,3] 4
   .have G:j=(bB rows).length:=by simp at d;omega
    subst G;rw[allJ_all]at s;refine h.al λb1 S h=>?_
    have A:=k1 e rs la lc b1 S s;have y:rs.length=(dj rows).length:=by rw[<-s,V8]
    unfold reelA at A;dsimp only at A;rw[<-y]at A;exact A (h.o [0,1,2,4] 5)
 refine⟨λd=>?_,λd=>?_⟩
 .have M:0<(bB rows).length:=by have:=Vw d;omega
  obtain⟨n,hn⟩:∃n,n+1=(bB rows).length:=⟨(bB rows).length-1,by omega⟩;obtain⟨f,L,v,R⟩:=ua hn;have hf:=ok.file R;have en:i64.wrap (((bB rows).length:Int)-1)=(n:Nat):=by rw[aK];omega
  have b:n<(bB rows).length:=by omega
  have u:=(h.sl_rd 0 rfl).at b
  conv=>whnf
  rw[en];have W:(bB rows)[n]=f:=by rw[List.getElem?_eq_getElem b]at L;exact Option.some.inj L
  rw[W]at u;refine⟨⟨by omega,by omega⟩,_,_,u.1,_,u.2,?_⟩
  conv=>whnf
  rw[aK (x:=f+1),<-v];exact rest _ h
 .have U:(bB rows).length=0:=by have:=Vx d;omega
  have:=rest _ h
  rwa[wD U]at this
end
theorem wE:fk 64 []=0/\dj []=[]/\iR []=0:=by
 have a:bB []=[]:=by
  cases h:bB [] with
  | nil=>rfl
  | cons f r=>
   have:f∈bB []:=by rw[h];exact VA
   rw[j4]at this
   cases this
 have hs:iR []=0:=wD (by rw[a];rfl);refine⟨?_,?_,hs⟩
 .unfold fk;rw[hs];rfl
 .unfold dj;rw[a];rfl
section
variable {F L:List aE}{H:aD}{K:KE}
theorem GZ:∀{rs:List Ry} {H:aD} {F:List aE},aA H (rowsR rs::F)->∀r∈rs,r.y.a=none\/∃b o,r.y.a=some ⟨b,o,none⟩
 | [],_,_,_,r,c=>by cases c
 | x::rs,H,F,h,r,c=>by
  have d:aA H (rowY x.y::rowsR rs::F):=gy.1 h
  rcases V9.1 c with rfl|c
  .exact tZ d
  .exact GZ d.tl r c
end
structure TI(most:Int)(rows:DR)(syn:Nat)(s:RL)(j:Nat):Prop where
 rok:fX rows
 files:∀r∈rows,r.1<=s.seg
 syn:syn<=rows.length
 seg0:0<=s.seg
 seg:s.seg<=j
 len:rows.length<=300000*j
 next:s.next<=300000*j
 ssyn:s.syn<=300000*j
 hm:s.most=most
 range:64<=most/\most<=1048576
theorem TI.ok{most:Int}{rows:DR}{syn:Nat}{s:RL}{j:Nat}(h:TI most rows syn s j)(d:j<=1000):s.ok:=by
 have b:=h.seg0;have f:=h.seg;have c:=h.next;have e:=h.ssyn;have a:=h.hm;have i:=h.range;exact⟨by omega,by omega,by omega,by omega⟩
theorem TI.mono{most:Int}{rows:DR}{syn:Nat}{s:RL}{j:Nat}(h:TI most rows syn s j):TI most rows syn s (j+1):=
 ⟨h.rok,h.files,h.syn,h.seg0,by have:=h.seg;omega,by have:=h.len;omega,by have:=h.next;omega,by have:=h.ssyn;omega,h.hm,h.range⟩
theorem Ia{rows:DR}{s:RL}{r:Rc}:s.seg<=(dp rows s r).seg/\(dp rows s r).seg<=s.seg+1/\(dp rows s r).next<=s.next+1/\(dp rows s r).syn=s.syn/\(dp rows s r).most=s.most:=by
 unfold dp
 split
 .exact⟨by omega,by omega,by omega,rfl,rfl⟩
 .dsimp only
  split <;> exact⟨by omega,by omega,by omega,rfl,rfl⟩
theorem TI.append{most:Int}{rows:DR}{syn:Nat}{s:RL}{j:Nat}(h:TI most rows syn s j)(d:j<=1000){r:Rc}(hb:aH r.data)(n:r.data.length<=262144) :
  TI most (fY rows s r) syn (dp rows s r) (j+1):=by
 have hs:=Ia (rows:=rows) (s:=s) (r:=r);have f:=appS_seg (rows:=rows) (r:=r) (h.ok d);have u:=h.seg0;have t:=h.seg;have v:=h.next;have w:=h.ssyn;have m:=h.len;have k:=h.files;have y:=h.syn
 by_cases he:iA rows s r=0
 .have c:=zQ hb he;have i:=qy c;have e:fY rows s r=rows++(bN r).map λb=>((dp rows s r).seg,b):=by unfold fY;rw[Vs (by rw[he];decide)]
  rw[e];refine⟨h.rok.app f (rV c),λx a=>?_,by rw[Vv];omega,by omega,by omega,by rw[Vv,V8];omega,by omega,by omega,by rw[hs.2.2.2.2];exact h.hm,h.range⟩
  rcases VK.1 a with a|a
  .have:=k x a;omega
  .obtain⟨b,_,rfl⟩:=V3.1 a;exact VV _
 .have e:fY rows s r=rows:=by unfold fY;rw[Vt he]
  have e2:dp rows s r=s:=by unfold dp;rw[Vt he]
  rw[e,e2];exact h.mono
theorem TI.sync{most:Int}{rows:DR}{syn:Nat}{s:RL}{j:Nat}(h:TI most rows syn s j):TI most rows rows.length { s with syn:=s.next } (j+1):=
 ⟨h.rok,h.files,V2 _,h.seg0,by have:=h.seg;dsimp only;omega,by have:=h.len;omega,by have:=h.next;dsimp only;omega,by have:=h.next;dsimp only;omega,h.hm,h.range⟩
theorem TI.drop{most:Int}{rows:DR}{syn:Nat}{s:RL}{j:Nat}(h:TI most rows syn s j)(below:Int):TI most (iB below rows) (iB below rows).length s (j+1):=by
 have c:(iB below rows).length<=rows.length:=Ys _ _;have b:=h.len;exact⟨h.rok.filter _,λr a=>h.files r (Wv.1 a).1,V2 _,h.seg0,by have:=h.seg;omega,by omega,by have:=h.next;omega,by have:=h.ssyn;omega,h.hm,h.range⟩
theorem segOf_le{rows:DR}{g:Int}(h0:0<=g)(h:∀r∈rows,r.1<=g):iR rows<=g+1:=by
 cases hn:(bB rows).length with
 | zero=>rw[wD hn];omega
 | succ n=>
  obtain⟨f,c,d,a⟩:=ua hn.symm;obtain⟨r,b,rfl⟩:=V3.1 (j4.1 a);have:=h r b;omega
theorem Qp{rows:DR}(e:fX rows):∀r∈rows,r.1<=iR rows:=by
 intro r c;have m:r.1∈bB rows:=j4.2 (V3.2 ⟨r,c,rfl⟩);obtain⟨i,hi,j⟩:=Wn m;obtain⟨n,d⟩:∃n,n+1=(bB rows).length:=⟨(bB rows).length-1,by omega⟩;obtain⟨f,b,k,s⟩:=ua d;have a:n<(bB rows).length:=by omega
 rw[List.getElem?_eq_getElem a]at b;have b:=Option.some.inj b;rw[k,<-j,<-b]
 rcases VO i n with h|h
 .have:=Yl.1 (oX rows) i n hi a h;omega
 .have:i=n:=by omega
  subst this;omega
theorem TI.crash{most:Int}{rows:DR}{syn:Nat}{s:RL}{j:Nat}(h:TI most rows syn s j)(i:j<=1000)(keep:Int) :
  TI most (eW rows syn keep) (eW rows syn keep).length ⟨most,iR (eW rows syn keep),(dj (eW rows syn keep)).length,(dj (eW rows syn keep)).length⟩ (j+1)/\fk most (eW rows syn keep)=0:=by
 have f:=PE rows syn keep;have c:=h.len;have k:=h.seg;have a:fX (eW rows syn keep):=h.rok.take _;have hs:=segOf_le (rows:=eW rows syn keep) h.seg0 λr b=>h.files r (Wo b)
 have e:=zS a;have b:=GN a;refine⟨⟨a,Qp a,V2 _,b.1,by dsimp only;omega,by omega,by dsimp only;omega,by dsimp only;omega,rfl,h.range⟩,?_⟩;have d:=h.range;unfold fk;rw[nO,nO]
theorem ti0{most:Int}(h:fk most []=0):TI most [] 0 (opS most []) 0:=by
 obtain⟨_,c,b⟩:=wE;have a:64<=most/\most<=1048576:=by
  unfold fk at h
  split at h
  .cases h
  .omega
 unfold opS;rw[c,b];exact⟨λr a=>(by cases a),λr a=>(by cases a),V2 _,VV _,VV _,V2 _,V2 _,V2 _,rfl,a⟩
abbrev LG:=List (Int×Rc)
def fG(L:LG):DR:=L.flatMap λx=>(bN x.2).map λb=>(x.1,b)
theorem Ib(A B:LG):fG (A++B)=fG A++fG B:=Ws
theorem Qq(x:Int×Rc):fG [x]=(bN x.2).map λb=>(x.1,b):=by simp[fG]
theorem ph(x:Int×Rc)(L:LG):fG (x::L)=((bN x.2).map λb=>(x.1,b))++fG L:=rfl
theorem Ic(f:Int):∀L:LG,bytesOf f (fG L)=((L.filter λx=>decide (x.1=f)).map Prod.snd).flatMap bN
 | []=>rfl
 | x::L=>by
  rw[ph,qw,Ic f L,Wa]
  by_cases e:x.1=f
  .rw [e,zp,Vt (VF rfl)];rfl
  .rw [zq (λh=>e h.symm),Vs (by simpa using e),VZ]
structure LG.ok(L:LG):Prop where
 recs:∀x∈L,x.2.ok
 up:L.Pairwise λx y=>x.1<=y.1
theorem Ie{f:Int}:∀{L:LG},(L.Pairwise λx y=>x.1<=y.1)->(∀x∈L,f<=x.1)->L=L.filter (λx=>decide (x.1=f))++L.filter λx=>decide (x.1≠f)
 | [],_,_=>rfl
 | x::L,h,hf=>by
  rw[Wt]at h
  by_cases e:x.1=f
  .have d:=Ie h.2 λy a=>hf y (VD _ a)
   rw[Wa,Vt (VF e),Wa,Vs (by simpa using e),W0,<-d]
  .have c:f<x.1:=by have:=hf x VA;omega
   have b:∀y∈x::L,¬y.1=f:=λy a=>by
    rcases V9.1 a with rfl|a
    .exact e
    .have:=h.1 y a;omega
   rw[WE.2 λy a=>by simpa using b y a,VZ,Yn.2 λy a=>by simpa using b y a]
theorem If:∀{fs:List Int} {L:LG},fs.Pairwise (·< ·)->(L.Pairwise λx y=>x.1<=y.1)->(∀x∈L,x.1∈fs)->fs.flatMap (λf=>L.filter λx=>decide (x.1=f))=L
 | [],[],_,_,_=>rfl
 | [],x::L,_,_,h=>by have:=h x VA;cases this
 | f::fs,L,hr,hs,h=>by
  rw[Wt]at hr;have n:∀x∈L,f<=x.1:=λx b=>by
   rcases V9.1 (h x b) with e|e
   .omega
   .have:=hr.1 _ e;omega
  have k:=Ie hs n;have d:=If (fs:=fs) (L:=L.filter λx=>decide (x.1≠f)) hr.2 (hs.filter _) λx b=>by
   obtain⟨m,i⟩:=Wv.1 b;have i:x.1≠f:=Vw i
   rcases V9.1 (h x m) with e|e
   .exact Vu e i
   .exact e
  have e:fs.flatMap (λa=>L.filter λx=>decide (x.1=a))=fs.flatMap λa=>(L.filter λx=>decide (x.1≠f)).filter λx=>decide (x.1=a):=by
   have:∀l:List Int,(∀y∈l,f<y)->l.flatMap (λa=>L.filter λx=>decide (x.1=a))=l.flatMap λa=>(L.filter λx=>decide (x.1≠f)).filter λx=>decide (x.1=a):=by
    intro l
    induction l with
    | nil=>intro _;rfl
    | cons y l d=>
     intro c;rw[VU,VU,d λz j=>c z (VD _ j)]
     congr 1;rw[List.filter_filter];refine Yr λx b=>?_
     have:=c y VA
     by_cases ex:x.1=y
     .rw [VF ex,Yc];exact (VF (by omega)).symm
     .rw [Wj ex,Bool.false_and]
   exact this fs λy c=>hr.1 y c
  rw[VU,e,d];exact k.symm
theorem Qr{L:LG}(d:∀x∈L,x.2.ok){x:Int×Rc}(a:x∈L):x.1∈(fG L).map Prod.fst:=by
 have c:=qy (d x a);obtain⟨b,hb⟩:∃b,b∈bN x.2:=by
  cases h:bN x.2 with
  | nil=>rw[h]at c;simp at c
  | cons b r=>exact⟨b,VA⟩
 exact V3.2 ⟨(x.1,b),Ya.2 ⟨x,a,V3.2 ⟨b,hb,rfl⟩⟩,rfl⟩
theorem Ih{L:LG}(c:L.ok){g:Int}{t:List Int}(i:aH t)(j:iQ t=none):dj (fG L++t.map λb=>(g,b))=L.map Prod.snd:=by
 have hb:∀f,(eD (bytesOf f (fG L++t.map λb=>(g,b)))).1=(L.filter λx=>decide (x.1=f)).map Prod.snd:=by
  intro f;rw[qw,Ic];have a:∀r∈(L.filter λx=>decide (x.1=f)).map Prod.snd,r.ok:=λr h=>by
   obtain⟨x,d,rfl⟩:=V3.1 h;exact c.recs x (Wv.1 d).1
  by_cases e:f=g
  .subst e;rw[zp,zN a i j]
  .rw [zq e,VT,PW a]
 unfold dj;have e1:(λf=>(eD (bytesOf f (fG L++t.map λb=>(g,b)))).1)=λf=>(L.filter λx=>decide (x.1=f)).map Prod.snd:=funext hb
 rw[e1];have e2:=If (oX (fG L++t.map λb=>(g,b))) c.up λx d=>by
  rw[j4,VJ];exact WJ _ (Qr c.recs d)
 have e3:=congrArg (List.map Prod.snd) e2;rw[List.map_flatMap]at e3;exact e3
theorem Ii:∀(L:LG) (n:Nat),∃p g t,(fG L).take n=fG (L.take p)++(t.map λb=>(g,b))/\p<=L.length/\
  (t=[]\/∃r:Rc,(∃x∈L,r=x.2)/\∃k,k<(bN r).length/\t=(bN r).take k)/\∀m,m<=L.length->(fG (L.take m)).length<=n->(∀x∈L,0<(bN x.2).length)->m<=p
 | [],n=>⟨0,0,[],by simp[fG],VQ _,.inl rfl,λm hm _ _=>hm⟩
 | x::L,n=>by
  rcases VO n (bN x.2).length with h|h
  .refine⟨0,x.1,(bN x.2).take n,?_,VQ _,.inr ⟨x.2,⟨x,VA,rfl⟩,n,h,rfl⟩,λm hm a e=>?_⟩
   .rw [ph,Yj (by rw[V8];omega),List.map_take];rfl
   .cases m with
    | zero=>exact V2 _
    | succ m=>
     rw[WA,ph,Vv,V8]at a;omega
  .obtain⟨p,g,t,j,u,c,s⟩:=Ii L (n-(bN x.2).length);refine⟨p+1,g,t,?_,by rw[V1];omega,?_,λm hm a e=>?_⟩
   .rw [ph,List.take_append,VR (by rw[V8];omega),V8,j,WA,ph,V5]
   .rcases c with c|⟨r,⟨y,d,i⟩,f⟩
    .exact .inl c
    .exact .inr ⟨r,⟨y,VD _ d,i⟩,f⟩
   .cases m with
    | zero=>omega
    | succ m=>
     rw[WA,ph,Vv,V8]at a;have:=s m (by simp at hm;omega) (by omega) λy d=>e y (VD _ d)
     omega
theorem Ij(below:Int)(L:LG):iB below (fG L)=fG (L.filter λx=>decide (below<=x.1)):=by
 unfold iB
 induction L with
 | nil=>rfl
 | cons x L ih=>
  rw[ph,List.filter_append,ih,Wa]
  by_cases e:below<=x.1
  .rw [Vt (VF e),ph,Yn.2];intro y a;obtain⟨b,_,rfl⟩:=V3.1 a;exact VF e
  .rw [Vs (by simpa using e),WE.2,VZ];intro y a;obtain⟨b,_,rfl⟩:=V3.1 a;simpa using e
theorem aP.subS{H:aD}{a:KQ}{cs:Os}{k c sz:Nat}(h:aP H a cs)(s:cs.length<=c*sz):aP H (cq a k c sz) (cs.drop (k*sz)):=by
 intro j v f;have b:aT cs (k*sz+j)=Option.some v:=by
  rw[fM]at f ⊢
  rwa[List.getElem?_drop]at f
 have m:=od b;obtain⟨i,n⟩:=h _ _ b;have d:c≠k:=λe=>by subst e;omega
 have e:cq a k c sz=Option.some ⟨aU a,aS a+k*sz,none⟩:=by
  unfold cq;rw[Vs d,i,VX,iP];rfl
 rw[e];refine⟨rfl,?_⟩;show aL H (aU a) (aS a+k*sz+j)=_;rw[Wk];exact n
section
variable {H0:aD}{ca:KQ}{cc:Nat}{most:Int}
theorem openE_in{rows:DR}(h:64<=most/\most<=1048576)(hs:iR rows<=2147483647):fk most rows=0:=by
 unfold fk;rw[nO,nO]
theorem Qs{rows:DR}(ok:fX rows){rs:List Ry}(h:rs.map Ry.rc=dj rows):rs.length<=rows.length/\∀r∈rs,r.y.bs.length<=1099511627776:=by
 refine⟨?_,λr a=>?_⟩
 .rw [<-V8 (f:=Ry.rc),h];exact zS ok
 .have hm:r.rc∈dj rows:=by rw[<-h];exact V3.2 ⟨r,a,rfl⟩
  obtain⟨f,b,hm⟩:=Ya.1 hm;have:=((zO (V2 _) (ok.bytes f)).1 _ hm).len;unfold Ry.rc at this;dsimp only at this;omega
theorem files_lt{rows:DR}:∀x∈rows,x.1<iR rows:=by
 intro r c;have k:r.1∈bB rows:=j4.2 (V3.2 ⟨r,c,rfl⟩);obtain⟨i,hi,e⟩:=Wn k;obtain⟨n,d⟩:∃n,n+1=(bB rows).length:=⟨(bB rows).length-1,by omega⟩;obtain⟨f,b,j,m⟩:=ua d;have a:n<(bB rows).length:=by omega
 rw[List.getElem?_eq_getElem a]at b;have b:=Option.some.inj b;rw[j,<-e,<-b]
 rcases VO i n with h|h
 .have:=Yl.1 (oX rows) i n hi a h;omega
 .have:i=n:=by omega
  subst this;omega
end
def dw:List Rc->Option (List Int)×List Rc
 | []=>(none,[])
 | r::l=>if (dw l).1=none then (if r.kind=0 then (some r.data,l) else (none,r::l)) else dw l
theorem zT:∀{l:List Rc},(∀r∈l,r.kind≠0)->dw l=(none,l)
 | [],_=>rfl
 | r::l,h=>by
  have a:=zT λx b=>h x (VD _ b)
  rw[dw,a,Vt rfl,Vs (h r VA)]
theorem Ik{r:Rc}{l:List Rc}(b:r.kind=0)(h:∀x∈l,x.kind≠0):∀a:List Rc,dw (a++r::l)=(some r.data,l)
 | []=>by rw[VZ,dw,zT h,Vt rfl,Vt b]
 | x::a=>by
  have c:=Ik b h a;rw[W0,dw,c,Vs (by simp)]
def bookA(bb rb:Nat)(saved:Bool)(num seg:Int):aE:=cellsA bb [.pointer (some ⟨rb,0,none⟩),.bool saved,.int .i64 num,.int .i64 seg] 113
structure oq(rs:List Ry)(fy:Fy)(has:Bool)(qs:List Ry):Prop where
 sub:∀q∈qs,q∈rs
 st:fy=Fy.z\/∃r∈rs,fy=r.y
 tell:dw (rs.map Ry.rc)=(if has then some fy.bs else none,qs.map Ry.rc)
 no:has=false->fy=Fy.z
theorem oq.none{rs:List Ry}(h:∀r∈rs,r.kind≠0):oq rs Fy.z false rs:=by
 refine⟨λq c=>c,.inl rfl,?_,λ_=>rfl⟩
 rw[zT]
 .rfl
 .intro r a;obtain⟨x,b,rfl⟩:=V3.1 a;exact h x b
theorem oq.at{rs:List Ry}{i:Nat}{r:Ry}(hi:rs[i]?=some r)(h0:r.kind=0)(h:∀x∈rs.drop (i+1),x.kind≠0):oq rs r.y true (rs.drop (i+1)):=by
 obtain⟨a,c⟩:=List.getElem?_eq_some_iff.1 hi;refine⟨λq b=>W3 b,.inr ⟨r,VY hi,rfl⟩,?_,λd=>by cases d⟩
 have e:rs=rs.take i++r::rs.drop (i+1):=by rw[<-c,<-Wm a,Wl]
 conv=>lhs;rw[e]
 rw[VJ,VS,Ik (r:=r.rc) h0]
 .rfl
 .intro x f;obtain⟨y,j,rfl⟩:=V3.1 f;exact h y j
theorem Qt{rows:DR}{s:RL}(d:∀x∈rows,x.1<s.seg){r:Rc}(e:r.ok) :
  iA rows s r=0/\dp rows s r={ s with next:=s.next+1 }/\fY rows s r=(rows++(bN r).map λb=>(s.seg,b))/\appN rows s r=s.next:=by
 have f:bytesOf s.seg rows=[]:=by
  unfold bytesOf;rw[WE.2 λy h=>by have:=d y h;simp;omega]
  rfl
 have c:pg rows s (bN r).length=false:=by
  unfold pg;rw[f];rfl
 have a:iA rows s r=0:=by
  unfold iA;rw[Qc e,Vs (by decide),c];rfl
 have hs:dp rows s r={ s with next:=s.next+1 }:=by unfold dp;rw[Vs (by rw[a];decide),c];rfl
 refine⟨a,hs,?_,?_⟩
 .unfold fY;rw[Vs (by rw[a];decide),hs]
 .unfold appN;rw[Vs (by rw[a];decide)]
section
variable {F L:List aE}{H:aD}{K:KE}{rb db bb:Nat}{rows:DR}{syn:Nat}{s:RL}{most:Int}
theorem Qu{a:KQ}{n c:Nat}(h:aA H F)(k:∀c0 d,aA d (cellsA c0 [.slice a n c] 127::F)->K (.func (.func 195) #[] #[.pointer (some ⟨c0,0,none⟩)]) d):CF 100 #[.slice a n c] H K:=by
 refine cM 100 28 ?_;exact h.al λb _ h=>k b _ h
theorem Qv{l c0:Nat}{pa:KQ}{pc:Nat}{rs:List Ry}(C:rs.length<=1099511627776)(A:Nat->aE)(s:aE)
  (h:aA H (A rs.length::cellsA c0 [.slice pa rs.length pc] 127::slA 234 2 pa rs.length pc (flat fW rs)::F))
  (B:∀j (c:j<rs.length) (G:List aE) (d:aD) (f:KE),aA d (A (j+1)::G)->(∀b,aA b (A j::G)->f (.bool true) b)->(∀b,aA b (s::G)->f (.bool false) b)->
   fJ Tryz.prog l [.int .i64 j,.agg #[.int .i64 rs[j].kind,dX rs[j].y]] d f)
  (k:∀a,aA a (A 0::cellsA c0 [.slice pa rs.length pc] 127::slA 234 2 pa rs.length pc (flat fW rs)::F)->K (.tuple #[]) a)
  (w:∀a,aA a (s::cellsA c0 [.slice pa rs.length pc] 127::slA 234 2 pa rs.length pc (flat fW rs)::F)->K (.tuple #[]) a) :
  CF 195 #[.func (.yield l) #[] #[],.pointer (some ⟨c0,0,none⟩)] H K:=by
 refine cN 195 96300973186693524 [[(3,sI)]] ?_;have u:i64.wrap ((rs.length:Int)-1)=(rs.length:Int)-1:=aK;refine⟨_,_,_,h.r 1,λi a=>∃j:Nat,i=(j:Int)-1/\j<=rs.length/\aA a (A j::cellsA c0 [.slice pa rs.length pc] 127::slA 234 2 pa rs.length pc (flat fW rs)::F),λi _=>(i+1).toNat,⟨rs.length,u,V2 _,h⟩,?_⟩
 rintro i d ⟨j,rfl,c,h⟩;refine⟨λm=>?_,λm=>?_⟩
 .obtain⟨q,rfl⟩:∃q,j=q+1:=⟨j-1,by have:=Vw m;omega⟩;have eq:((q+1:Nat):Int)-1=(q:Int):=by omega
  rw[eq];have t:=h.sl_rd 2 rfl;refine⟨_,_,_,h.rd 1 rfl _,⟨by omega,by omega⟩,_,_,t.some pf (by omega) c,_,_,_,_,t.els pf c,?_⟩;refine B q c _ d _ h (λv n=>⟨true,rfl,λe=>(by cases e),λ_=>?_⟩) λv n=>⟨false,rfl,λ_=>w _ n,λe=>(by cases e)⟩
  conv=>whnf
  rw[aK (x:=(q:Int)-1)];exact⟨⟨q,rfl,by omega,n⟩,by simp only;omega⟩
 .obtain rfl:j=0:=by have:=Vx m;omega
  exact k _ h
theorem Il{a:KQ}{c:Nat}{d:List Ry}(h:aA H L)(s:∀H,aA H L->aP H a (flat fW d))(x:d.length<=1099511627776)
  (k:∀e f i,aA i (slA 234 2 e d.length f (flat fW d)::L)->K (.slice e d.length f) i):CF 101 #[.slice a d.length c] H K:=by
 refine cM 101 476 ⟨λj=>?_,λj=>?_⟩
 .have:a=none:=by simpa using j
  subst this;have u:=oh (s H h);have:d=[]:=by
   cases d with
   | nil=>rfl
   | cons q r=>simp[lB]at u
  subst this;exact k none 0 H (h.sl_nil 234 2)
 .refine h.al λb y h=>?_
  have t:=s _ h.tl;have w:=aA.sl_pt (cs:=[]) h 2 0 rfl;refine aA.append (m:=d.length) slb54 w 0 rfl t (fh pf _) (lC GW _) (by omega) (by omega) λe f i v=>⟨_,_,_,rfl,?_⟩
  have n:aA i (slA 234 2 e (0+d.length) f ([]++flat fW d)::L):=v;rw[VL,VZ]at n;have:=k e f i n;rw[<-VL d.length]at this;exact this
def boA(b1 b2 b3 l:Nat)(R:Loop)(a:KQ)(c:Nat)(rs:List Ry)(j:Nat):aE:=
 star [pur (∀r∈rs.drop j,r.kind≠0),cellsA b1 [.slice a rs.length c] 127,cellsA b2 [.slice none 0 0,.bool false,.slice none 0 0] 129,cellsA b3 [.slice a rs.length c] 127,pt l (.loop R)]
def boX(b1 b2 b3 l:Nat)(R:Loop)(a:KQ)(c:Nat)(rs:List Ry):aE:=
 exS λp:Nat×Ry=>star [pur (rs[p.1]?=some p.2/\p.2.kind=0/\∀r∈rs.drop (p.1+1),r.kind≠0),cellsA b1 [.slice a rs.length c] 127,cellsA b2 [dX p.2.y,.bool true,.slice none 0 0] 129,
  cellsA b3 [.slice (cq a (p.1+1) c 2) (rs.length-(p.1+1)) (c-(p.1+1))] 127,pt l (.loop { R with state:=.done,pending:=some (.exit 0) })]
theorem Qw{b1 b2 b3 j c:Nat}{a:KQ}{rs:List Ry}{e i:aD}{R:Loop}{G:List aE}{k:KE}(C:rs.length<=1099511627776)(A:rs.length<=c)(m:j<rs.length)
  (h:aA i (boA b1 b2 b3 (e.size+1) R a c rs (j+1)::G)) (u:∀d,aA d (boA b1 b2 b3 (e.size+1) R a c rs j::G)->k (.bool true) d) (v:∀d,aA d (boX b1 b2 b3 (e.size+1) R a c rs::G)->k (.bool false) d) :
  zg.y1 b1 b2 b3 e R [.int .i64 j,.agg #[.int .i64 rs[j].kind,dX rs[j].y]] i k:=by
 obtain⟨n,h⟩:=aA.consP h.open;have h:aA i (cellsA b1 [.slice a rs.length c] 127::cellsA b2 [.slice none 0 0,.bool false,.slice none 0 0] 129::cellsA b3 [.slice a rs.length c] 127::pt (e.size+1) (.loop R)::G):=h;have t:rs.drop j=rs[j]::rs.drop (j+1):=Wm m;unfold zg.y1;refine⟨_,_,_,_,_,rfl,h.getO 3 rfl,?_⟩;refine h.al λb4 _ h=>h.st 0 rfl rfl λ_ h=>⟨h.getO 4 rfl,h.stl 4 rfl λB h=>⟨_,h.r 0,λb=>?_,λb=>?_⟩⟩
 .have h0:rs[j].kind=0:=Vw b;refine⟨_,_,_,h.r 0,?_⟩;refine h.st 2 rfl rfl λ_ h=>h.st 2 rfl rfl λ_ h=>⟨_,_,_,h.r 1,?_⟩
  rw[aK (x:=(j:Int)+1)];have s:((j:Int)+1).toNat=j+1:=by omega
  rw[s];refine⟨⟨by omega,by omega,by omega⟩,?_⟩;refine h.st 3 rfl rfl λw h=>⟨h.getO 4 rfl,v _ ?_⟩
  have h:=h.setO 4 rfl (.loop { R with state:=.done,pending:=some (.exit 0) });exact cK.2 ⟨(j,rs[j]),aA.shut [_,_,_,_,_] (aA.pur (h.o [1,2,3,4] 5) ⟨List.getElem?_eq_getElem m,h0,n⟩)⟩
 .have h0:rs[j].kind≠0:=Vx b;refine⟨h.getO 4 rfl,u _ ?_⟩;have h:=h.setO 4 rfl (.loop R);refine aA.shut [_,_,_,_,_] (aA.pur (h.o [1,2,3,4] 5) λr f=>?_)
  rw[t]at f
  rcases V9.1 f with rfl|f
  .exact h0
  .exact n r f
theorem Qx(ok:fX rows)(V:rows.length<=1099511627776)(h:aA H (diskX db rows syn::F))
  (k1:fk most rows=0->∀(rs t:List Ry) (O:Fy) (has:Bool) a c bb rb s,rs.map Ry.rc=dj rows->oq rs O has t->
   aA s (bookA bb rb false 0 0::reelA rb db (opS most rows)::slA 234 2 a t.length c (flat fW t)::rowsR rs::diskX db rows syn::F)->
   K (.tuple #[.pointer (some ⟨bb,0,none⟩),.agg #[dX O,.bool has,.slice a t.length c],.int .i64 0]) s)
  (k2:fk most rows≠0->∀s,aA s (diskX db rows syn::F)->K (.tuple #[.pointer none,.agg #[.slice none 0 0,.bool false,.slice none 0 0],.int .i64 (fk most rows)]) s) :
  CF 45 #[.pointer (some ⟨db,0,none⟩),.int .i64 most] H K:=by
 refine OR ?_;refine h.al λb P h=>?_
 refine Qo (F:=cellsA b [.slice none 0 0,.bool false,.slice none 0 0] 129::F) ok V (h.o [1,0] 2) (λm rs a1 c1 rb W e h=>⟨_,_,_,_,_,rfl,?_⟩) λm W h=>⟨_,_,_,_,_,rfl,?_⟩
 .obtain⟨N,L⟩:=Qs ok e;have n:=h.sl_nc 1 rfl;refine h.al λb1 H3 h=>h.st 0 rfl rfl λZ h=>⟨(λC=>by cases C),λ_=>?_⟩
  refine h.al λb2 T h=>⟨_,_,_,h.r 1,?_⟩
  refine h.al λb3 H6 h=>h.st 0 rfl rfl λH7 h=>⟨_,_,_,h.r 2,?_⟩
  refine Qu h λc0 d h=>⟨_,_,rfl,rfl,λR x E U=>?_⟩
  have h:=h.rng R;have h0:aA ((d.push (.deferred (some []))).push (.loop R)) (boA b1 b2 b3 (d.size+1) R a1 c1 rs rs.length::cellsA c0 [.slice a1 rs.length c1] 127::slA 234 2 a1 rs.length c1 (flat fW rs)::pt d.size (.deferred (some []))::reelA rb db (opS most rows)::rowsR rs::diskX db rows syn::cellsA b [.slice none 0 0,.bool false,.slice none 0 0] 129::F):=by
   refine aA.shut [_,_,_,_,_] (aA.pur ?_ ?_)
   .exact h.o [5,4,3,0,2,7,1,6,8,9,10] 11
   .rw [Wu];intro r Y;cases Y
  refine Qv (by omega) (λj=>boA b1 b2 b3 (d.size+1) R a1 c1 rs j) (boX b1 b2 b3 (d.size+1) R a1 c1 rs) h0 (λj Q G P K1 S kt kx=>U _ _ _ (Qw (by omega) n Q S kt kx)) (λv h=>?_) λv h=>?_
  .obtain⟨u,h⟩:=aA.consP h.open;have h:aA v (cellsA b1 [.slice a1 rs.length c1] 127::cellsA b2 [.slice none 0 0,.bool false,.slice none 0 0] 129::cellsA b3 [.slice a1 rs.length c1] 127::pt (d.size+1) (.loop R)::cellsA c0 [.slice a1 rs.length c1] 127::slA 234 2 a1 rs.length c1 (flat fW rs)::pt d.size (.deferred (some []))::reelA rb db (opS most rows)::rowsR rs::diskX db rows syn::cellsA b [.slice none 0 0,.bool false,.slice none 0 0] 129::F):=h;rw[List.drop_zero]at u;refine⟨.ready,none,by decide,by rw[nD x E];exact h.getO 3 rfl,h.stl 3 rfl λI h=>Or.inl ⟨rfl,_,_,_,h.r 2,?_⟩⟩
   refine Il h (λH h=>h.sl_rd 5 rfl) (by omega) λa5 c5 w h=>⟨_,_,_,rfl,?_⟩
   refine h.st 2 rfl rfl λD h=>⟨_,_,_,_,_,_,_,h.q 2,?_⟩
   refine h.al λb5 B h=>⟨h.q 3,?_⟩
   refine h.st 12 rfl rfl λA h=>⟨h.getO 8 rfl,?_⟩
   have h:=h.setO 8 rfl (.deferred none);refine⟨_,_,_,_,_,_,_,h.q 12,?_⟩;exact k1 m rs rs Fy.z false a5 c5 b5 rb _ e (oq.none u) (h.o [0,9,1,10,11] 13)
  .obtain⟨p,h⟩:=cK.1 h;obtain⟨u,h⟩:=aA.consP h.open;obtain⟨i,r⟩:=p;obtain⟨hi,f,M⟩:=u;dsimp only at hi f M;have h:aA v (cellsA b1 [.slice a1 rs.length c1] 127::cellsA b2 [dX r.y,.bool true,.slice none 0 0] 129::cellsA b3 [.slice (cq a1 (i+1) c1 2) (rs.length-(i+1)) (c1-(i+1))] 127::pt (d.size+1) (.loop { R with state:=.done,pending:=some (.exit 0) })::cellsA c0 [.slice a1 rs.length c1] 127::slA 234 2 a1 rs.length c1 (flat fW rs)::pt d.size (.deferred (some []))::reelA rb db (opS most rows)::rowsR rs::diskX db rows syn::cellsA b [.slice none 0 0,.bool false,.slice none 0 0] 129::F):=h;refine⟨.done,some (.exit 0),by decide,h.getO 3 rfl,h.stl 3 rfl λI h=>Or.inr ⟨rfl,_,_,_,h.r 2,?_⟩⟩
   have J:rs.length-(i+1)=(rs.drop (i+1)).length:=by rw[VH]
   rw[J];refine Il h (λH h=>by
    have:=aP.subS (k:=i+1) (c:=c1) (sz:=2) (h.sl_rd 5 rfl) (by rw[fh pf];exact Wq _ n)
    rwa[tt pf]at this) (by rw[VH];omega) λa5 c5 w h=>⟨_,_,_,rfl,?_⟩
   refine h.st 2 rfl rfl λD h=>⟨_,_,_,_,_,_,_,h.q 2,?_⟩
   refine h.al λb5 B h=>⟨h.q 3,?_⟩
   refine h.st 12 rfl rfl λA h=>⟨h.getO 8 rfl,?_⟩
   have h:=h.setO 8 rfl (.deferred none);refine⟨_,_,_,_,_,_,_,h.q 12,?_⟩;exact k1 m rs (rs.drop (i+1)) r.y true a5 c5 b5 rb _ e (oq.at hi f M) (h.o [0,9,1,10,11] 13)
 .refine h.al λb1 H3 h=>h.st 0 rfl rfl λZ h=>⟨λ_=>?_,λC=>by simp[m]at C⟩
  refine h.st 2 rfl rfl λT h=>⟨_,_,_,_,_,_,_,h.q 2,?_⟩
  exact k2 m _ (h.o [1] 3)
theorem Qy{a:KQ}{n c:Nat}{kind:Int}{saved:Bool}{num seg:Int}(h:aA H (bookA bb rb saved num seg::F))
  (k1:kind<=0->K (.tuple #[.int .i64 (-1),.int .i64 11]) H)
  (k2:¬kind<=0->CF 96 #[.pointer (some ⟨rb,0,none⟩),.int .i64 kind,.slice a n c] H λu d=>∃r r1:Int,u=.tuple #[.int .i64 r,.int .i64 r1]/\K (.tuple #[.int .i64 r,.int .i64 r1]) d) :
  CF 109 #[.pointer (some ⟨bb,0,none⟩),.int .i64 kind,.slice a n c] H K:=by
 refine cM 109 476 ?_;exact⟨λb=>k1 (Vw b),λb=>⟨_,h.r 0,k2 (Vx b)⟩⟩
theorem Qz{a:KQ}{c:Nat}{parts:List Fy}{saved:Bool}{num seg:Int}(hs:s.ok)(M:s.seg<2147483647)(n:∀r∈rows,r.1<=s.seg)(S:rows.length<=549755813888)
  (h:aA H (bookA bb rb saved num seg::reelA rb db s::diskX db rows syn::F))
  (O:∀H,aA H F->aP H a (parts.map dX)) (T:∀H,aA H F->∀y∈parts,aP H y.a (y.bs.map U8)) (hb:aH (parts.flatMap Fy.bs)) (U:parts.length<=1099511627776) (N:(parts.flatMap Fy.bs).length<=262144)
  (k:∀B,aA B (bookA bb rb true s.next (s.seg+1)::reelA rb db { s with seg:=s.seg+1,next:=s.next+1 }::diskX db (rows++(bN ⟨0,parts.flatMap Fy.bs⟩).map λb=>(s.seg+1,b)) syn::F)->
   K (.tuple #[.int .i64 s.next,.int .i64 0]) B) :
  CF 42 #[.pointer (some ⟨bb,0,none⟩),.slice a parts.length c] H K:=by
 refine cN 42 0x112156123992511b421b1d1c [[(6,sI),(15,sI)]] ?_;have D:=hs.seg;have E:=hs.next;have f:∀j,((parts.take j).flatMap Fy.bs).length<=(parts.flatMap Fy.bs).length:=λj=>GM _ _ _
 refine⟨λsize i B=>∃j:Nat,i=j/\j<=parts.length/\size=(((parts.take j).flatMap Fy.bs).length:Nat)/\B=H,λ_ i _=>parts.length-i.toNat,⟨0,rfl,VQ _,rfl,rfl⟩,?_⟩
 rintro size i B ⟨j,rfl,V,rfl,rfl⟩;refine⟨λC=>?_,λC=>?_⟩
 .have u:j<parts.length:=by simpa using C
  have J:=(O _ h.tl.tl.tl).at u;have v:=zD u;have G:=f (j+1);rw[v,Vv]at G;have P:i64.wrap ((((parts.take j).flatMap Fy.bs).length:Int)+(parts[j].bs.length:Int))=(((parts.take (j+1)).flatMap Fy.bs).length:Nat):=by
   rw[v,Vv,aK];omega
  refine⟨⟨by omega,by omega⟩,_,_,J.1,_,_,_,J.2,?_⟩;dsimp only
  conv=>whnf
  rw[P];refine⟨λR=>?_,λ_=>?_⟩
  .have:=Vw R;have:=f (j+1);omega
  .conv=>whnf
   rw[aK (x:=(j:Int)+1)];exact⟨⟨j+1,rfl,u,rfl,rfl⟩,by simp only[V4];omega⟩
 .refine⟨_,h.r 0,?_⟩;refine GB (F:=bookA bb rb saved num seg::diskX db rows syn::F) D (h.o [1,0,2] 3) (λn=>Vu n (by omega)) λ_ Q h=>⟨_,_,rfl,(λn=>by cases n),λ_=>⟨_,h.r 1,?_⟩⟩
  have I:({ s with seg:=s.seg+1 }:RL).ok:=⟨by dsimp only;omega,hs.most,E,hs.syn⟩;have w:(⟨0,parts.flatMap Fy.bs⟩:Rc).ok:=⟨VV 0,by show (0:Int)<=255;decide,N,hb⟩;have e:=Qt (rows:=rows) (s:={ s with seg:=s.seg+1 }) (λx C=>by have:=n x C;dsimp only;omega) w
  have L:=GE (F:=bookA bb rb saved num seg::F) (a:=a) (c:=c) (kind:=0) (parts:=parts) (rb:=rb) (db:=db) (syn:=syn) (H:=Q) (K:=λu1 d=>∃r2 r3:Int,u1=(.tuple #[(.int .i64 r2),(.int .i64 r3)])/\
   (((!decide (r3=0)))=true->K (.tuple #[(.int .i64 (-1)),(.int .i64 r3)]) d)/\
   (((!decide (r3=0)))=false->
   ∃v2:KQ,aL d bb 0=some (.pointer v2)/\
   ∃r4:Int,bX Tryz.prog 97 #[(.pointer v2)] d (.int .i64 r4)/\
   eU d bb (0+1) [(.bool true)]/\
   ∀m:aD,m=fK d bb (0+1) [(.bool true)]->
   eU m bb (0+2) [(.int .i64 r2)]/\
   ∀t:aD,t=fK m bb (0+2) [(.int .i64 r2)]->
   eU t bb (0+3) [(.int .i64 r4)]/\
   ∀A:aD,A=fK t bb (0+3) [(.int .i64 r4)]->
   K (.tuple #[(.int .i64 r2),(.int .i64 0)]) A)) I S (h.o [0,2,1] 3) (λH h=>O H h.tl) (λH h=>T H h.tl) hb U N
  rw[e.1,e.2.1,e.2.2.1,e.2.2.2]at L;refine L λY h=>⟨_,_,rfl,(λn=>by cases n),λ_=>⟨_,h.r 2,_,G9 h,?_⟩⟩
  refine h.st 2 rfl rfl λH3 h=>h.st 2 rfl rfl λZ h=>h.st 2 rfl rfl λW h=>k _ ?_
  exact h.o [2,0,1] 3
theorem QI{saved:Bool}{num seg:Int}(j:rows.length<=1099511627776)(hs:syn<=rows.length)(h:aA H (bookA bb rb saved num seg::reelA rb db s::diskX db rows syn::F))
  (k0:saved=false->K (.int .i64 19) H)
  (k1:saved=true->(s.syn:Int)<=num->K (.int .i64 21) H)
  (k2:saved=true->¬(s.syn:Int)<=num->syn<rows.length->∀c,aA c (bookA bb rb saved num seg::reelA rb db s::diskX db rows syn::F)->K (.int .i64 21) c)
  (k3:saved=true->¬(s.syn:Int)<=num->¬syn<rows.length->∀c,aA c (bookA bb rb saved num seg::reelA rb db s::diskX db (iB seg rows) (iB seg rows).length::F)->K (.int .i64 0) c) :
  CF 41 #[.pointer (some ⟨bb,0,none⟩)] H K:=by
 refine cM 41 7644 ?_;refine⟨_,h.r 0,λd=>k0 (by simpa using d),λd=>?_⟩
 have b:saved=true:=by simpa using d
 refine⟨_,h.r 0,_,Qf (h.o [1,0,2] 3),_,h.r 0,λa=>k1 b (Vw a),λa=>⟨_,h.r 0,_,h.r 0,?_⟩⟩
 have f:=Vx a;refine Ql (F:=bookA bb rb saved num seg::F) j hs (h.o [1,2,0] 3) (λe i h=>⟨_,rfl,k2 b f e _ (h.o [2,0,1] 3)⟩) λe i h=>⟨_,rfl,k3 b f e _ (h.o [2,0,1] 3)⟩
end
theorem oq.rd{rs d:List Ry}{b:Fy}{has:Bool}(h:oq rs b has d){H:aD}{F:List aE}(hs:aA H (rowsR rs::F)):aP H b.a (b.bs.map U8):=by
 rcases h.st with rfl|⟨r,c,rfl⟩
 .exact iv _ _
 .exact zP hs r c
theorem TI.save{most:Int}{rows:DR}{syn:Nat}{s:RL}{j:Nat}(h:TI most rows syn s j)(i:j<=1000){r:Rc}(c:r.ok)(f:r.data.length<=262144) :
  TI most (rows++(bN r).map λb=>(s.seg+1,b)) syn { s with seg:=s.seg+1,next:=s.next+1 } (j+1):=by
 have m:=h.seg0;have k:=h.seg;have n:=h.next;have t:=h.ssyn;have e:=h.len;have u:=h.syn;have d:=qy c;refine⟨h.rok.app ⟨by omega,by omega⟩ (rV c),λx a=>?_,by rw[Vv];omega,by dsimp only;omega,by dsimp only;omega,by rw[Vv,V8];omega,by dsimp only;omega,by dsimp only;omega,h.hm,h.range⟩
 rcases VK.1 a with a|a
 .have:=h.files x a;dsimp only;omega
 .obtain⟨b,_,rfl⟩:=V3.1 a;exact VV _
theorem QJ{R X:DR}(h:∀r∈R,∀x∈X,r.1<x.1):bB (R++X)=bB R++bB X:=by
 refine zw (oX _) ?_ λx=>?_
 .rw [List.pairwise_append];refine⟨oX R,oX X,λa c b hb=>?_⟩
  obtain⟨r,d,rfl⟩:=V3.1 (j4.1 c);obtain⟨y,e,rfl⟩:=V3.1 (j4.1 hb);exact h r d y e
 .rw [j4,VJ,VK,VK,j4,j4]
theorem Im{f:Int}{X:DR}(h:∀x∈X,x.1≠f):bytesOf f X=[]:=by
 unfold bytesOf;rw[WE.2 λy a=>by simpa using h y a]
 rfl
theorem In{α β:Type}{l:List α}{f g:α->List β}(h:∀x∈l,f x=g x):l.flatMap f=l.flatMap g:=by
 rw[List.flatMap_def,List.flatMap_def,WB h]
theorem QL{R X:DR}(h:∀r∈R,∀x∈X,r.1<x.1):dj (R++X)=dj R++dj X:=by
 unfold dj;rw[QJ h,Ws];congr 1
 .refine In λf b=>?_
  obtain⟨r,a,rfl⟩:=V3.1 (j4.1 b);rw[qw,Im (X:=X) λx c=>by have:=h r a x c;omega,VT]
 .refine In λf b=>?_
  obtain⟨x,c,rfl⟩:=V3.1 (j4.1 b);rw[qw,Im (X:=R) λr a=>by have:=h r a x c;omega,VZ]
structure jl(rows:DR)(syn:Nat)(s:RL)(R:DR)(L:LG)(n0:Int)(k:Nat):Prop where
 rows':rows=R++fG L
 ok:L.ok
 low:∀r∈R,r.1<s.seg
 lowL:∀r∈R,∀x∈L,r.1<x.1
 seg:∀x∈L,x.1<=s.seg
 next:s.next=n0+L.length
 kle:k<=L.length
 ssyn:s.syn=n0+k
 syn:syn=R.length+(fG (L.take k)).length
theorem jl.push{rows:DR}{syn:Nat}{s:RL}{R:DR}{L:LG}{n0:Int}{k:Nat}(h:jl rows syn s R L n0 k){g:Int}(f:s.seg<=g){r:Rc}(d:r.ok) :
  jl (rows++(bN r).map λb=>(g,b)) syn { s with seg:=g,next:=s.next+1 } R (L++[(g,r)]) n0 k:=by
 refine⟨by rw[Ib,Qq,h.rows',V5],⟨λx c=>?_,?_⟩,λr d=>by have:=h.low r d;dsimp only;omega,λr d x c=>?_,λx c=>?_,?_,by rw[Vv];have:=h.kle;omega,h.ssyn,
  by rw[Yj h.kle];exact h.syn⟩
 .rcases VK.1 c with c|c
  .exact h.ok.recs x c
  .rw [V6]at c;subst c;exact d
 .rw [List.pairwise_append];refine⟨h.ok.up,List.pairwise_singleton _ _,λa e b hb=>?_⟩
  rw[V6]at hb;subst hb;have:=h.seg a e;dsimp only;omega
 .rcases VK.1 c with c|c
  .exact h.lowL r d x c
  .rw [V6]at c;subst c;have:=h.low r d;dsimp only;omega
 .rcases VK.1 c with c|c
  .have:=h.seg x c;dsimp only;omega
  .rw [V6]at c;subst c;exact VV _
 .rw [Vv];have:=h.next;dsimp only;simp only[V1,VN];omega
theorem jl.append{rows:DR}{syn:Nat}{s:RL}{R:DR}{L:LG}{n0:Int}{k:Nat}(h:jl rows syn s R L n0 k){r:Rc}(hb:aH r.data)(a:iA rows s r=0) :
  jl (fY rows s r) syn (dp rows s r) R (L++[((dp rows s r).seg,r)]) n0 k:=by
 have hs:=Ia (rows:=rows) (s:=s) (r:=r);have e1:fY rows s r=rows++(bN r).map λb=>((dp rows s r).seg,b):=by unfold fY;rw[Vs (by rw[a];decide)]
 have e2:dp rows s r={ s with seg:=(dp rows s r).seg,next:=s.next+1 }:=by unfold dp;rw[Vs (by rw[a];decide)]
 have:=h.push hs.1 (zQ hb a);rw[<-e1,<-e2]at this;exact this
theorem jl.sync{rows:DR}{syn:Nat}{s:RL}{R:DR}{L:LG}{n0:Int}{k:Nat}(h:jl rows syn s R L n0 k):jl rows rows.length { s with syn:=s.next } R L n0 L.length:=
 ⟨h.rows',h.ok,h.low,h.lowL,h.seg,h.next,V2 _,h.next,by rw[VW,h.rows',Vv]⟩
theorem jl.trim{rows:DR}{s:RL}{R:DR}{A B:LG}{seg:Int}{d:List Int}{n0:Int}{k:Nat}(h:jl rows rows.length s R (A++(seg,⟨0,d⟩)::B) n0 k)(hs:s.syn=s.next)(i:∀x∈A,x.1<seg) :
  jl (iB seg rows) (iB seg rows).length s [] ((seg,⟨0,d⟩)::B) (n0+A.length) (B.length+1):=by
 have c:=h.ok.up;rw[List.pairwise_append]at c;obtain⟨u1,u2,u3⟩:=c;have f:∀x∈(seg,(⟨0,d⟩:Rc))::B,seg<=x.1:=λx a=>by
  rcases V9.1 a with rfl|a
  .exact VV _
  .exact (Wt.1 u2).1 x a
 have e:iB seg rows=fG ((seg,⟨0,d⟩)::B):=by
  rw[h.rows',Ib];unfold iB;rw[List.filter_append,List.filter_append,WE.2 λr b=>?_,VZ]
  .have a1:=Ij seg A;have a2:=Ij seg ((seg,⟨0,d⟩)::B);unfold iB at a1 a2;rw[a1,a2,WE.2 λx a=>by have:=i x a;simp;omega,Yn.2 λx a=>VF (f x a)]
   rfl
  .have:=h.lowL r b (seg,⟨0,d⟩) (by simp);simp;omega
 have j:=h.next;rw[Vv,V1]at j;refine⟨by rw[e];rfl,⟨λx a=>h.ok.recs x (WX _ a),u2⟩,λr b=>Vu b (by simp),λr b=>Vu b (by simp),λx a=>h.seg x (WX _ a),?_,V2 _,?_,?_⟩
 .rw [V1];omega
 .omega
 .rw [e,VR (by rw[V1];omega)];simp
theorem jl.cut{rows:DR}{syn:Nat}{s:RL}{R:DR}{L:LG}{n0:Int}{k:Nat}(h:jl rows syn s R L n0 k)(keep:Int):∃p,k<=p/\p<=L.length/\dj (eW rows syn keep)=dj R++(L.take p).map Prod.snd:=by
 unfold eW;obtain⟨n,B⟩:∃n,syn+(min (max keep 0) ((rows.length:Int)-syn)).toNat=n:=⟨_,rfl⟩;rw[B];have f:=h.syn;obtain⟨p,g,t,w,v,A,C⟩:=Ii L (n-R.length);have e:∀x∈L,0<(bN x.2).length:=λx a=>by have:=qy (h.ok.recs x a);omega
 have i:=C k h.kle (by omega) e;have d:LG.ok (L.take p):=⟨λx a=>h.ok.recs x (Wo a),h.ok.up.take⟩
 refine⟨p,i,v,?_⟩;have c:∀r∈R,∀x∈(fG L).take (n-R.length),r.1<x.1:=λr u x a=>by
  obtain⟨y,D,a⟩:=Ya.1 (Wo a);obtain⟨b,_,rfl⟩:=V3.1 a;exact h.lowL r u y D
 rw[h.rows',List.take_append,VR (by omega),QL c,w];congr 1
 rcases A with rfl|⟨r,⟨x,a,rfl⟩,j,m,rfl⟩
 .exact Ih d (g:=g) (t:=[]) (λx a=>by cases a) rfl
 .exact Ih d (tQ _ (rV (h.ok.recs x a))) (PS (h.ok.recs x a) m)
theorem QM{rows:DR}(most:Int):jl rows rows.length (opS most rows) rows [] (dj rows).length 0:=by
 unfold opS;exact⟨by simp[fG],⟨λx a=>Vu a (by simp),List.Pairwise.nil⟩,files_lt,λr b x a=>Vu a (by simp),λx a=>Vu a (by simp),by simp,V2 _,by simp,by simp[fG]⟩
theorem tellM_no:∀{l:List Rc},(dw l).1=none->dw l=(none,l)
 | [],_=>rfl
 | r::l,h=>by
  rw[dw]at h ⊢
  split at h
  .rename_i h0;rw[Vt h0]
   split at h
   .cases h
   .rename_i a;rw[Vs a]
  .rename_i h0;exact Vu h h0
theorem zU:∀(a b:List Rc),dw (a++b)=if (dw b).1=none then ((dw a).1,(dw a).2++b) else dw b
 | [],b=>by
  by_cases e:(dw b).1=none
  .rw [Vt e,VZ,tellM_no e];rfl
  .rw [Vs e,VZ]
 | r::a,b=>by
  rw[W0,dw,zU a b]
  by_cases e:(dw b).1=none
  .simp only[Vt e];rw[dw]
   by_cases h:(dw a).1=none
   .rw [Vt h,Vt h]
    split <;> rfl
   .rw [Vs h,Vs h]
  .simp only[Vs e]
theorem Io(l:List Rc)(x:Rc):dw (l++[x])=if x.kind=0 then (some x.data,[]) else ((dw l).1,(dw l).2++[x]):=by
 rw[zU]
 by_cases h:x.kind=0
 .rw [Vt h,Vs] <;> simp[dw,h]
 .rw [Vs h,Vt] <;> simp[dw,h]
theorem QN(a:List Rc){x:Rc}(h:x.kind=0)(b:List Rc):dw (a++x::b)=dw (x::b):=by
 rw[zU,Vs];rw[dw]
 split
 .simp [h]
 .rename_i h0;exact h0
theorem tdivN(a b:Nat):Int.tdiv (a:Int) (b:Int)=((a/b:Nat):Int):=rfl
theorem tmodN(a b:Nat):Int.tmod (a:Int) (b:Int)=((a%b:Nat):Int):=rfl
theorem w_un{u u1 Q Y:Nat}(h:Q=(u*4294967296+u1)/Y)(b:0<Y)(c:Y<18446744073709551616) :
  u64.wrap ((u64.wrap ((u64.wrap ((u:Int)*4294967296))+(u1:Int)))-(u64.wrap ((Q:Int)*(Y:Int))))=(((u*4294967296+u1)%Y:Nat):Int):=by
 have a:=Yi (u*4294967296+u1) Y;have d:=Wz (u*4294967296+u1) b;rw[<-h]at a;rw[mulNN];generalize Q*Y=p at *;generalize (u*4294967296+u1)%Y=m at *;rw[de,de,de,de];omega
theorem norm_y{y:Nat}(h0:0<y)(h:y<18446744073709551616):64-bitLen y<64/\y*2^(64-bitLen y)<18446744073709551616/\9223372036854775808<=y*2^(64-bitLen y):=by
 obtain⟨b,a⟩:=bitLen_spec y;have a:=a (by omega);have c:bitLen y<=64:=by
  unfold bitLen
  split
  .omega
  .rename_i h0;have:=(Nat.log2_lt h0).2 (show y<2^64 from h);omega
 have d:0<bitLen y:=by unfold bitLen;rw[nO];omega
 refine⟨by omega,?_,?_⟩
 .calc y*2^(64-bitLen y)<2^bitLen y*2^(64-bitLen y):=(Nat.mul_lt_mul_right (WO _)).2 b
   _=18446744073709551616:=by rw[<-Ww,show bitLen y+(64-bitLen y)=64 by omega]
 .calc 9223372036854775808=2^(bitLen y-1)*2^(64-bitLen y):=by rw[<-Ww,show bitLen y-1+(64-bitLen y)=63 by omega]
   _<=y*2^(64-bitLen y):=Wq _ a
theorem norm_u{hi lo y s:Nat}(hs:s<64)(e:hi<y)(b:lo<18446744073709551616)(h:y*2^s<18446744073709551616) :
  hi*2^s+lo/2^(64-s)<y*2^s/\aY .or .u64 (u64.wrap ((hi:Int)*2^s)) (Int.fdiv (lo:Int) (2^(64-s)))=((hi*2^s+lo/2^(64-s):Nat):Int):=by
 have c:lo/2^(64-s)<2^s:=by
  rw[WT (WO _),<-Ww,show s+(64-s)=64 by omega];exact b
 have d:hi*2^s+2^s<=y*2^s:=by
  rw[<-Nat.succ_mul];exact Wq _ e
 refine⟨by omega,?_⟩;have e1:(hi:Int)*2^s=((hi*2^s:Nat):Int):=by rw[WN];simp
 have a:hi*2^s<18446744073709551616:=Nat.lt_of_lt_of_le (Nat.lt_add_of_pos_right (WO s)) (VI d (Nat.le_of_lt h));rw[e1,rD,u64n a,or64 a (Nat.lt_of_le_of_lt (Nat.div_le_self _ _) b)];congr 1;rw[Nat.mul_comm hi,<-YA c]
section
variable {F L:List aE}{H:aD}{K:KE}
theorem div_core{hi lo y s Y u v:Nat}(hs:s<64)(l0:Y<18446744073709551616)(j2:9223372036854775808<=Y)(hu:u<Y)(h7:v<18446744073709551616)(h9:hi≠0)
  (L:u64.wrap ((y:Int)*2^s)=(Y:Int)) (t:u64.wrap ((lo:Int)*2^s)=(v:Int))
  (T:aY .or .u64 (u64.wrap ((hi:Int)*2^s)) (Int.fdiv (lo:Int) (2^(64-s)))=(u:Int))
  (hz:bX Tryz.prog 364 #[.int .u64 (y:Nat)] H (aC (s:Nat)))
  (k:K (.tuple #[.int .u64 (((u*18446744073709551616+v)/Y:Nat):Int),.int .u64 ((((u*18446744073709551616+v)%Y)/2^s:Nat):Int)]) H) :
  lF.r5 (hi:Int) (lo:Int) (y:Int) K H:=by
  unfold lF.r5;refine⟨λd=>?_,λd=>?_⟩
  .exfalso;simp only[Vy]at d;omega
  refine⟨_,hz,?_⟩;have M:u64.wrap (s:Int)=(s:Int):=u64n (by omega);have em:min (Int.toNat (s:Int)) u64.bits=s:=by rw[V4];exact WL (by simp only[IntKind.bits];omega)
  have e:u64.wrap (64-(s:Int))=((64-s:Nat):Int):=by rw[de];omega
  have m:min (Int.toNat ((64-s:Nat):Int)) u64.bits=64-s:=by rw[V4];exact WL (by simp only[IntKind.bits];omega)
  obtain⟨u1,G⟩:∃u1,v/4294967296=u1:=⟨_,rfl⟩;obtain⟨u0,P⟩:∃u0,v%4294967296=u0:=⟨_,rfl⟩;obtain⟨y1,h0⟩:∃y1,Y/4294967296=y1:=⟨_,rfl⟩;obtain⟨y0,h4⟩:∃y0,Y%4294967296=y0:=⟨_,rfl⟩;have i:y1*4294967296+y0=Y:=by omega
  have ev:u1*4294967296+u0=v:=by have ev:=Yi v 4294967296;rw[G,P]at ev;exact ev
  have b1:2147483648<=y1:=by omega
  have j3:y1<4294967296:=by omega
  have b0:y0<4294967296:=by omega
  have c1:u1<4294967296:=by omega
  have c0:u0<4294967296:=by omega
  have hj:=kn_join (u:=u) (u1:=u1) (u0:=u0) (y:=Y) (by omega);have e0:u*18446744073709551616+v=(u*4294967296+u1)*4294967296+u0:=by rw[<-ev,We,Nat.mul_assoc,Wk]
  rw[e0,hj.1]at k;rw[hj.2]at k;have V:Int.fdiv (Y:Int) (2^(min (Int.toNat 32) (u64.bits)))=(y1:Int):=by rw[vW,h0]
  have fv:Int.fdiv (v:Int) (2^(min (Int.toNat 32) (u64.bits)))=(u1:Int):=by rw[vW,G]
  have I:aY .and .u64 (Y:Int) 4294967295=(y0:Int):=by rw[tE (by omega),h4]
  have J:aY .and .u64 (v:Int) 4294967295=(u0:Int):=by rw[tE (by omega),P]
  have cond:∀q r w1:Nat,r<4294967296->w1<4294967296->((decide (4294967296<=(q:Int))||decide (u64.wrap ((u64.wrap (4294967296*(r:Int)))+(w1:Int))<u64.wrap ((q:Int)*(y0:Int))))=true↔(4294967296<=q\/4294967296*r+w1<q*y0)):=by
   intro q r w1 A hw;have ea:u64.wrap ((u64.wrap (4294967296*(r:Int)))+(w1:Int))=((4294967296*r+w1:Nat):Int):=by rw[de,de];omega
   rw[ea,mulNN,u64m];simp only[VE,Vy]
   by_cases hB:4294967296<=q
   .constructor
    .intro _;exact .inl hB
    .intro _;exact .inl (by omega)
   .have:q*y0<=4294967296*4294967295:=Nat.mul_le_mul (by omega) (by omega);rw[W5 (by omega)]
    constructor
    .rintro (h|h)
     .omega
     .exact .inr (by omega)
    .rintro (h|h)
     .omega
     .exact .inr (by omega)
  have S:∀q r:Nat,1<=q->r<4294967296->q<=4294967297->u64.wrap ((q:Int)-1)=((q-1:Nat):Int)/\u64.wrap ((r:Int)+(y1:Int))=((r+y1:Nat):Int):=by
   intro q r h1 h2 h3;exact⟨by rw[de];omega,by rw[de];omega⟩
  have N:∀U:Nat,U<Y->u64.wrap ((U/y1:Nat):Int)=((U/y1:Nat):Int)/\u64.wrap ((U:Int)-u64.wrap (((U/y1:Nat):Int)*(y1:Int)))=((U%y1:Nat):Int)/\U%y1<4294967296:=by
   intro U hU;have h1:=Yi U y1;have h2:=Nat.div_le_self U y1;have h3:=Wz U (show 0<y1 by omega);refine⟨u64n (by omega),?_,by omega⟩;rw[mulNN];generalize U/y1*y1=p at *;rw[de,de];omega
  obtain⟨w,b⟩:∃w,(u*4294967296+u1)/Y=w:=⟨_,rfl⟩;obtain⟨R1,D⟩:∃R1,(u*4294967296+u1)%Y=R1:=⟨_,rfl⟩;have x:R1<Y:=by rw[<-D];exact Wz _ (by omega)
  have w1:=w_un (u:=u) (u1:=u1) (Q:=w) (Y:=Y) b.symm (by omega) (by omega);rw[D]at w1;obtain⟨B,c⟩:∃B,(R1*4294967296+u0)/Y=B:=⟨_,rfl⟩;have w0:=w_un (u:=R1) (u1:=u0) (Q:=B) (Y:=Y) c.symm (by omega) (by omega);have h6:w<4294967296:=by rw[<-b];exact kn_lt hu c1
  have h5:B<4294967296:=by rw[<-c];exact kn_lt x c0
  rw[b,D,c]at k;have last:lF.r1 (hi:Int) lo y K (s:Int) (w:Int) (B:Int) H:=by
   unfold lF.r1;simp only[M,em,e,m,L,t,T,V,fv,I,J,w1,w0];refine⟨by omega,?_⟩;have ea:u64.wrap ((u64.wrap ((w:Int)*4294967296))+(B:Int))=((w*4294967296+B:Nat):Int):=by rw[de,de];omega
   rw[ea,rD];exact k
  have Z:lF.r3 (hi:Int) lo y K (s:Int) (w:Int) H:=by
   unfold lF.r3;simp only[M,em,e,m,L,t,T,V,fv,I,J,w1,tdivN];obtain⟨i1,i2,i3⟩:=N R1 x;obtain⟨n1,n2,n3,n4⟩:=EB (y0:=y0) (u:=R1) (u1:=u0) b1 b0 (by omega) c0;rw[i,c]at n3;refine⟨by omega,λh8 R=>⟨λa q0 O=>O=H/\∃q r:Nat,q0=q/\a=r/\q*y1+r=R1/\r<4294967296/\B<=q/\q<=4294967297,λa _ _=>4294967296-a.toNat,?_,?_⟩⟩
   .rw [i1,i2];exact⟨rfl,_,_,rfl,rfl,n1,i3,n3,n4⟩
   rintro a q0 O ⟨rfl,q,r,rfl,rfl,F,A,E,C⟩;simp only[M,em,e,m,L,t,T,V,fv,I,J];refine⟨λd=>?_,λd=>?_⟩
   .have d:=(cond q r u0 A c0).1 d;have hd:=kn_dec (y0:=y0) (u:=R1) (u1:=u0) b1 (by omega) c0 F d;rw[i,c]at hd;obtain⟨p,rfl⟩:∃p,q=p+1:=⟨q-1,by omega⟩;have j:p*y1+(r+y1)=R1:=by rw[Nat.succ_mul]at F;omega
    obtain⟨e1,e2⟩:=S (p+1) r (by omega) A C;rw[Y6]at e1 hd;rw[e1,e2];refine⟨λf=>?_,λf=>⟨⟨trivial,_,_,rfl,rfl,j,?_,hd.2,by omega⟩,?_⟩⟩
    .simp only[Vy]at f;have n:=EE (y0:=y0) (u:=R1) (u1:=u0) b1 b0 j (by rw[i,c];exact hd.2) (by omega) (by omega);rw[i,c]at n;rw[n];exact R _ _ last
    .simp only[V0]at f;omega
    .simp only[V4];omega
   .have d:¬(4294967296<=q\/4294967296*r+u0<q*y0):=λhh=>by rw[(cond q r u0 A c0).2 hh]at d;cases d
    have n:=EC (y0:=y0) (u:=R1) (u1:=u0) b1 F (by rw[i,c];exact E) (by omega);rw[i,c]at n;rw[n];exact R _ _ last
  simp only[M,em,e,m,L,t,T,V,fv,I,J,tdivN];obtain⟨i1,i2,i3⟩:=N u hu;obtain⟨n1,n2,n3,n4⟩:=EB (y0:=y0) (u:=u) (u1:=u1) b1 b0 (by omega) c1;rw[i,b]at n3;refine⟨by omega,by decide,by omega,by omega,by omega,by decide,by omega,λj1 W=>⟨λq1 a O=>O=H/\∃q r:Nat,q1=q/\a=r/\q*y1+r=u/\r<4294967296/\w<=q/\q<=4294967297,λ_ a _=>4294967296-a.toNat,?_,?_⟩⟩
  .rw [i1,i2];exact⟨rfl,_,_,rfl,rfl,n1,i3,n3,n4⟩
  rintro q1 a O ⟨rfl,q,r,rfl,rfl,F,A,E,C⟩;simp only[M,em,e,m,L,t,T,V,fv,I,J];refine⟨λd=>?_,λd=>?_⟩
  .have d:=(cond q r u1 A c1).1 d;have hd:=kn_dec (y0:=y0) (u:=u) (u1:=u1) b1 (by omega) c1 F d;rw[i,b]at hd;obtain⟨p,rfl⟩:∃p,q=p+1:=⟨q-1,by omega⟩;have j:p*y1+(r+y1)=u:=by rw[Nat.succ_mul]at F;omega
   obtain⟨e1,e2⟩:=S (p+1) r (by omega) A C;rw[Y6]at e1 hd;rw[e1,e2];refine⟨λf=>?_,λf=>⟨⟨trivial,_,_,rfl,rfl,j,?_,hd.2,by omega⟩,?_⟩⟩
   .simp only[Vy]at f;have n:=EE (y0:=y0) (u:=u) (u1:=u1) b1 b0 j (by rw[i,b];exact hd.2) (by omega) (by omega);rw[i,b]at n;rw[n];exact W _ _ Z
   .simp only[V0]at f;omega
   .simp only[V4];omega
  .have d:¬(4294967296<=q\/4294967296*r+u1<q*y0):=λhh=>by rw[(cond q r u1 A c1).2 hh]at d;cases d
   have n:=EC (y0:=y0) (u:=u) (u1:=u1) b1 F (by rw[i,b];exact E) (by omega);rw[i,b]at n;rw[n];exact W _ _ Z
theorem QO{hi lo y:Nat}(t:hi<y)(e:lo<18446744073709551616)(a:y<18446744073709551616)
  (k:K (.tuple #[.int .u64 (((hi*18446744073709551616+lo)/y:Nat):Int),.int .u64 (((hi*18446744073709551616+lo)%y:Nat):Int)]) H) :
  CF 331 #[.int .u64 (hi:Nat),.int .u64 (lo:Nat),.int .u64 (y:Nat)] H K:=by
 refine Ob ?_;refine λu j=>⟨λc=>?_,λ_=>j _ ?_⟩
 .exfalso;simp only[Vy]at c;omega
 refine λi d=>⟨λc=>?_,λ_=>d _ ?_⟩
 .exfalso;simp only[Vy]at c;omega
 by_cases h0:hi=0
 .subst h0;unfold lF.r5;refine⟨λ_=>⟨by omega,by omega,?_⟩,λc=>?_⟩
  .rw [tdivN,tmodN,u64n (Nat.lt_of_le_of_lt (Nat.div_le_self _ _) e)];rw[WY,VL]at k;exact k
  .exfalso;simp at c
 .obtain⟨hs,b,f⟩:=norm_y (y:=y) (by omega) a;obtain⟨h,m⟩:=norm_u hs t e b;have n:=norm_num (hi:=hi) (lo:=lo) (s:=64-bitLen y) (by omega) e;refine div_core (v:=lo*2^(64-bitLen y)%18446744073709551616) hs b f h (Wz _ (by decide)) h0 ?_ ?_ m (P0 a) ?_
  .rw [<-u64n b,WN];simp
  .rw [<-u64m,WN];simp
  .rw [n,Nat.mul_div_mul_right _ _ (WO _),Nat.mul_mod_mul_right,Nat.mul_div_cancel _ (WO _)];exact k
theorem Ip{a b c:Int}{up:Bool}(u:aF a)(hb:aF b)(j:aF c)(k:K (.tuple #[aC (oZ a b c up).1,aC (oZ a b c up).2]) H) :
  CF 286 #[aC a,aC b,aC c,.bool up] H K:=by
 refine Ol ?_;unfold oZ at k;have w:zabs a<18446744073709551616:=by unfold zabs;unfold aF at u;omega
 have x:zabs b<18446744073709551616:=by unfold zabs;unfold aF at hb;omega
 refine⟨λn=>?_,λn=>?_⟩
 .rw [Vt (by simpa using n)]at k;exact k
 .have m:¬c<1:=by simpa using n
  rw[Vs m]at k;obtain⟨cn,rfl⟩:∃cn:Nat,c=cn:=⟨c.toNat,by omega⟩;have i:cn<18446744073709551616:=by unfold aF at j;omega
  rw[u64n i];rw[V4]at k;refine⟨_,Gn u,_,Gn hb,_,_,Px w x,?_⟩;have v:zabs a*zabs b/18446744073709551616*18446744073709551616+zabs a*zabs b%18446744073709551616=zabs a*zabs b:=Yi _ _;have s:zabs a*zabs b%18446744073709551616<18446744073709551616:=Wz _ (by decide);generalize zabs a*zabs b/18446744073709551616=hi at *;generalize zabs a*zabs b%18446744073709551616=lo at *;generalize zabs a*zabs b=P at *;refine⟨λe=>?_,λe=>?_⟩
  .rw [Vt (by simp only[Vy]at e;omega)]at k;exact k
  .have e:¬cn<=hi:=by simp only[V0]at e;omega
   rw[Vs e]at k;refine QO (by omega) s i ⟨_,_,rfl,?_⟩;rw[v];dsimp only at k;refine⟨λd=>?_,λd=>λy t=>?_⟩
   .rw [Vt (by simp only[Vy]at d;omega)]at k;exact k
   .have d:¬9223372036854775808<P/cn:=by simp only[V0]at d;omega
    rw[Vs d]at k;have e1:u64.wrap (((P/cn:Nat):Int)+1)=((P/cn+1:Nat):Int):=(show ∀q:Nat,¬9223372036854775808<q->u64.wrap ((q:Int)+1)=((q+1:Nat):Int) from λq h=>by rw[de];omega) _ d
    have e2:decide (((P%cn:Nat):Int)=0)=decide (P%cn=0):=by
     rw[decide_eq_decide];omega
    rw[e1,e2];refine⟨λf=>t _ _ ?_,λf=>t _ _ ?_⟩
    .rw [Vt f]at k;exact⟨_,_,Gq (Nat.lt_of_le_of_lt (Nat.succ_le_succ (Nat.le_of_not_lt d)) (by decide)),k⟩
    .rw [f,Vs Bool.false_ne_true]at k;exact⟨_,_,Gq (Nat.lt_of_le_of_lt (Nat.le_of_not_lt d) (by decide)),k⟩
theorem QP{rho:Int}:bX Tryz.prog 285 #[aC rho] H (.bool (decide (gA rho))):=by
 refine cM 285 28 ⟨congrArg Value.bool ?_,rfl⟩;rw[Wb];simp only[Vz,Vy,gA]
theorem Iq{x rho:Int}(f:aF x)(k:K (.tuple #[aC (lowS x rho).1,aC (lowS x rho).2]) H):CF 233 #[aC x,aC rho] H K:=by
 refine cM 233 125110962460 ?_;unfold lowS at k;refine⟨_,λ_=>QP,λb=>?_,λb=>?_⟩
 .rw [Vt (by simp only[VE,Vy,VP,V0]at b;omega)]at k;exact k
 .have c:¬(x < -4611686018427387904\/4611686018427387904<x\/¬gA rho):=by
   simp only[VB,V0,Wd,Vy]at b;rintro (h|h|h)
   .exact b.1.1 h
   .exact b.1.2 h
   .exact h b.2
  rw[Vs c]at k;have d:gA rho:=by
   rcases Classical.em (gA rho) with h|h
   .exact h
   .exact Vu (.inr (.inr h)) c
  have e:¬x < -4611686018427387904/\¬4611686018427387904<x:=⟨λh=>c (.inl h),λh=>c (.inr (.inl h))⟩
  unfold gA at d;refine⟨λa=>?_,λa=>?_⟩
  .have h0:0<x:=by simpa using a
   rw[Vt h0]at k
   conv=>whnf
   rw[aK (x:=x-1),aK (x:=1000000+rho)];exact Ip (by unfold aF;omega) (by unfold aF;omega) (by unfold aF;omega) ⟨_,_,rfl,k⟩
  .have h0:¬0<x:=by simpa using a
   rw[Vs h0]at k
   conv=>whnf
   rw[aK (x:=1-x),aK (x:=1000000-rho)];exact Ip (by unfold aF;omega) (by unfold aF;omega) (by unfold aF;omega) ⟨_,_,rfl,k⟩
theorem QR{x rho:Int}(c:aF x)(k:K (.tuple #[aC (pe x rho).1,aC (pe x rho).2]) H):CF 234 #[aC x,aC rho] H K:=by
 refine cM 234 7452 ?_;unfold pe at k;refine⟨λa=>?_,λa=>?_⟩
 .rw [Vt (by simpa using a)]at k;exact k
 .have b:¬(x < -4611686018427387904\/4611686018427387904<x):=by simpa using a
  rw[Vs b]at k;have e:i64.wrap (0-x)=-x:=by rw[aK];omega
  conv=>whnf
  rw[e];exact Iq (by unfold aF;omega) ⟨_,_,rfl,k⟩
end
structure Gd where
 width:Int
 policy:Int
 most:Int
deriving DecidableEq
abbrev ub(g:Gd):Value:=.agg #[.int .i64 g.width,.int .i64 g.policy,.int .i64 g.most]
def Gd.ok(g:Gd):Prop:=1<=g.width/\g.width<=1099511627776/\0<=g.policy/\g.policy<=3/\0<=g.most/\g.most<=4611686018427387903
instance (g:Gd):Decidable g.ok:=by unfold Gd.ok;infer_instance
def fO(g:Gd)(t:Int):Int:=
 if g.ok then (if Int.tmod t g.width<0 then i64.wrap (i64.wrap (Int.tdiv t g.width)-1) else i64.wrap (Int.tdiv t g.width)) else 0
def dM(g:Gd)(x:Gp):Int×Int×Int:=
 if g.ok then (if x.ok then (fO g x.lo,fO g x.hi,0) else (0,0,10)) else (0,0,21)
def mF(g:Gd)(x:Gp):Int×Int:=
 if (dM g x).2.2≠0 then (0,(dM g x).2.2) else
 if u64.wrap g.most<wx x then (0,17) else
 if g.policy=0 then ((dM g x).1,0) else
 if g.policy=1 then ((dM g x).2.1,0) else
 if g.policy=2 then (fO g (midS x),0) else
 if (dM g x).1≠(dM g x).2.1 then (0,17) else ((dM g x).1,0)
structure bQ where
 asked:Int
 got:Int
 sent:Int
 came:Int
deriving DecidableEq
def bQ.z:bQ:=⟨0,0,0,0⟩
abbrev eX(s:bQ):Os:=[.int .i64 s.asked,.int .i64 s.got,.int .i64 s.sent,.int .i64 s.came]
abbrev aggSm(s:bQ):Value:=.agg #[.int .i64 s.asked,.int .i64 s.got,.int .i64 s.sent,.int .i64 s.came]
theorem kE(s:bQ):(eX s).length=4:=rfl
theorem zV(s:bQ):cT (eX s)=true:=rfl
abbrev gM(t:Int):Prop:=0<=t/\t<=4611686018427387903
def bQ.ok(s:bQ):Prop:=gM s.asked/\gM s.got/\gM s.sent/\gM s.came/\s.asked<=s.came/\s.got<=s.sent
instance (s:bQ):Decidable s.ok:=by unfold bQ.ok;infer_instance
def bQ.wf(s:bQ):Prop:=aF s.asked/\aF s.got/\aF s.sent/\aF s.came
theorem bQ.ok.wf{s:bQ}(h:s.ok):s.wf:=by unfold bQ.ok gM at h;unfold bQ.wf aF;omega
def iS(s:bQ)(stamp rho:Int):Gp×Int:=
 if ¬s.ok then (Gp.z,10) else
 if ¬gM stamp\/¬gA rho then (Gp.z,11) else
 let low:=(lowS (stamp-s.got) rho).1
 let high:=(pe (stamp-s.sent) rho).1
 let lo:=if 0>i64.wrap (s.asked+low) then 0 else i64.wrap (s.asked+low)
 let h1:=if (j5 s.came high).2≠0 then 4611686018427387903 else (j5 s.came high).1
 let hi:=if 4611686018427387903<h1 then 4611686018427387903 else h1
 if hi<lo then (Gp.z,13) else (⟨lo,hi⟩,0)
structure Ck where
 rho:Int
 least:Int
 held:Bool
 streak:Int
 smps:List bQ
deriving DecidableEq
def iT(rho stamp:Int)(s:bQ):Gp:=if (iS s stamp rho).2≠0 then ⟨1,0⟩ else (iS s stamp rho).1
def pi(l:List Gp):Bool:=decide (0<l.length)&&decide ((kR l).2=0)
def kT(c:Ck)(s:bQ):Ck×Int:=
 if ¬s.ok then (c,10) else
 let l:=if 8<c.smps.length+1 then (c.smps++[s]).drop 1 else c.smps++[s]
 let gs:=l.map (iT c.rho s.sent)
 if pi gs then
  let st:=if c.streak<9223372036854775807 then c.streak+1 else c.streak
  ({ c with streak:=st,held:=if c.least<=st then false else c.held,smps:=l },0)
 else ({ c with held:=true,streak:=0,smps:=if (iT c.rho s.sent s).ok then [s] else [] },21)
def nN(rho stamp:Int):List bQ->List Gp×Int
 | []=>([],0)
 | s::r=>if (iS s stamp rho).2≠0 then ([],(iS s stamp rho).2) else ((iS s stamp rho).1::(nN rho stamp r).1,(nN rho stamp r).2)
def ckAt(c:Ck)(stamp:Int):Gp×Int:=
 if c.smps=[] then (Gp.z,19) else
 if ¬gM stamp then (Gp.z,11) else
 if (nN c.rho stamp c.smps).2≠0 then (Gp.z,(nN c.rho stamp c.smps).2) else kR (nN c.rho stamp c.smps).1
structure CkOk(c:Ck):Prop where
 len:c.smps.length<=8
 ok:∀s∈c.smps,s.ok
 st:0<=c.streak/\c.streak<=9223372036854775807
theorem ckAdd_ok{c:Ck}(h:CkOk c)(s:bQ):CkOk (kT c s).1:=by
 unfold kT
 split
 .exact h
 .rename_i hs;have hs:s.ok:=Decidable.not_not.1 hs;have d:∀x∈(if 8<c.smps.length+1 then (c.smps++[s]).drop 1 else c.smps++[s]),x.ok:=by
   intro x a;have:x∈c.smps++[s]:=by
    split at a
    .exact W3 a
    .exact a
   rcases VK.1 this with b|b
   .exact h.ok x b
   .rw [V6]at b;rw[b];exact hs
  have e:(if 8<c.smps.length+1 then (c.smps++[s]).drop 1 else c.smps++[s]).length<=8:=by
   have:=h.len
   split
   .simp only[VH,Vv,Wi];omega
   .simp only[Vv,Wi];omega
  dsimp only;generalize (if 8<c.smps.length+1 then (c.smps++[s]).drop 1 else c.smps++[s])=l at d e ⊢
  by_cases hag:pi (l.map (iT c.rho s.sent))=true
  .rw [Vt hag];exact⟨e,d,by have:=h.st;dsimp only;split <;> omega⟩
  .rw [Vs hag];refine⟨?_,?_,by dsimp only;omega⟩
   .dsimp only;split <;> simp
   .dsimp only
    split
    .intro x a;rw[V6]at a;rw[a];exact hs
    .intro x a;cases a
section
variable {F L:List aE}{H:aD}{K:KE}
theorem rW{g:Gp}(h:aA H F)(k:∀a,aA a F->K (.bool (decide g.ok)) a):CF 150 #[jT g] H K:=by
 refine cM 150 28 ?_;refine h.al λ_ _ h=>?_;refine⟨_,Ra1,?_⟩;refine⟨_,Ra1,?_⟩
 exact k _ h.tl
theorem QS{a b:Gp}(h:aA H F)(k:∀c,aA c F->K (jT (meet2 a b)) c):CF 288 #[jT a,jT b] H K:=by
 refine cM 288 28 ?_;refine h.al λ_ _ h=>?_;refine h.al λ_ _ h=>?_;refine h.al λ_ _ h=>?_;refine⟨_,Ra3,?_⟩;refine⟨_,Ra3,?_⟩;refine⟨_,Ra3,?_⟩;refine⟨_,Ra3,?_⟩;refine St3 h λ_ h=>?_;refine⟨_,_,Rs3,?_⟩
 exact k _ h.tl.tl.tl
theorem QU{s:Gp}{a:KQ}{c:Nat}{gs:List Gp}(h:aA H F)(y:∀H,aA H F->aP H a (flat jS gs))(A:gs.length<=1000000)
  (k:∀m,aA m F->K (.tuple #[jT (mD s gs).1,aC (mD s gs).2]) m) :
  CF 287 #[jT s,.slice a gs.length c,.func (.func 288) #[] #[]] H K:=by
 refine cN 287 0x1215612399251d44dc [[(12,sI)]] ?_;refine h.al λb _ h=>?_
 refine h.al λb1 _ h=>?_
 refine⟨λi m=>∃(j:Nat) (t:Gp),i=j/\j<=gs.length/\mD s gs=mD t (gs.drop j)/\aA m (cellsA b1 [aC 0,aC 0] 89::cellsA b (jS t) 89::F),λi _=>gs.length-i.toNat,⟨0,s,rfl,VQ _,rfl,h⟩,?_⟩
 rintro i B ⟨j,t,rfl,C,e,h⟩;refine⟨λn=>?_,λn=>?_⟩
 .have f:j<gs.length:=by simpa using n
  have v:=y _ h.tl.tl;rw[Wm f,mD]at e;refine⟨⟨by omega,by omega⟩,_,_,v.some ww (by omega) f,_,_,v.els ww f,?_⟩;refine h.al λb3 _ h=>?_
  refine St3 h λ_ h=>?_;refine⟨_,_,Rs3,?_⟩
  refine rW (g:=gs[j]) h λx h=>⟨_,rfl,λd=>?_,λd=>?_⟩
  .have:¬(gs[j]).ok:=by simpa using d
   rw[Vs this]at e;refine St3 h λ_ h=>?_;refine⟨_,_,Rs3,?_⟩
   have:=k _ h.tl.tl.tl;rw[e]at this;exact this
  .have:(gs[j]).ok:=by simpa using d
   rw[Vt this]at e;refine⟨_,_,Rs3,?_⟩;refine⟨_,_,Rs3,?_⟩;refine⟨by kernel_rfl,?_⟩;refine QS (a:=t) (b:=gs[j]) h λD h=>⟨_,_,rfl,?_⟩
   refine St3 h λ_ h=>?_
   have w:i64.wrap ((j:Int)+1)=((j+1:Nat):Int):=by rw[aK];omega
   conv=>whnf
   rw[w];exact⟨⟨j+1,_,rfl,f,e,h.tl⟩,by simp only[V4];omega⟩
 .have u:gs.length<=j:=by simpa using n
  rw[Yz u,mD]at e;refine⟨_,_,Rs2,?_⟩;refine rW (g:=t) h λx h=>⟨_,rfl,λd=>?_,λd=>?_⟩
  .have:¬t.ok:=by simpa using d
   rw[Vs this]at e;refine St2 h λ_ h=>?_;refine⟨_,_,Rs2,?_⟩
   have:=k _ h.tl.tl;rw[e]at this;exact this
  .have:t.ok:=by simpa using d
   rw[Vt this]at e
   repeat (first|refine St2 h λ_ h=>?_|refine⟨_,_,Rs2,?_⟩)
   have:=k _ h.tl.tl;rw[e]at this;exact this
theorem uc{a:KQ}{c:Nat}{gs:List Gp}(h:aA H F)(e:∀H,aA H F->aP H a (flat jS gs))(d:gs.length<=1000000)
  (k:∀b,aA b F->K (.tuple #[jT (kR gs).1,aC (kR gs).2]) b) :
  CF 236 #[.slice a gs.length c] H K:=by
 refine cM 236 284 ?_;refine h.al λ_ _ h=>?_;refine h.al λ_ _ h=>?_;refine St2 h λ_ h=>?_;refine⟨_,_,Rs2,?_⟩
 refine QU (s:=⟨_,_⟩) h (λH h=>e H h.tl.tl) d λb h=>⟨_,_,_,rfl,?_⟩
 refine St2 h λ_ h=>?_;refine⟨_,_,Rs2,?_⟩
 exact k _ h.tl.tl
theorem QV{a:KQ}{c:Nat}{gs:List Gp}(h:aA H F)(e:∀H,aA H F->aP H a (flat jS gs))(d:gs.length<=1000000)
  (k:∀b,aA b F->K (.bool (pi gs)) b) :
  CF 149 #[.slice a gs.length c] H K:=by
 refine cM 149 284 ?_;refine uc h e d λb h=>⟨_,_,_,rfl,?_⟩
 refine h.al λ_ _ h=>?_;refine St1 h λ_ h=>?_
 have:=k _ h.tl;unfold pi at this;rw[show decide (0<gs.length)=decide (0<(gs.length:Int)) by rw[decide_eq_decide];omega]at this;exact this
theorem QW{g:Gp}(h:aA H F)(k:∀b,aA b F->K (.int .u64 (wx g)) b):CF 292 #[jT g] H K:=by
 refine cM 292 476 ?_;refine h.al λ_ _ h=>?_;refine⟨_,_,Rs1,?_⟩
 refine rW (g:=g) h λb h=>⟨_,rfl,λa=>?_,λa=>?_⟩
 .have:¬g.ok:=by simpa using a
  unfold wx at k;rw[Vs this]at k;exact k _ h.tl
 .have:g.ok:=by simpa using a
  unfold wx at k;rw[Vt this]at k;refine⟨_,Ra1,?_⟩;refine⟨_,Ra1,?_⟩;exact k _ h.tl
theorem Mid_spec{g:Gp}(h:aA H F)(k:∀b,aA b F->K (aC (midS g)) b):CF 293 #[jT g] H K:=by
 refine cM 293 476 ?_;refine h.al λ_ _ h=>?_;refine⟨_,_,Rs1,?_⟩
 refine rW (g:=g) h λb h=>⟨_,rfl,λa=>?_,λa=>?_⟩
 .have:¬g.ok:=by simpa using a
  unfold midS at k;rw[Vs this]at k;exact k _ h.tl
 .have:g.ok:=by simpa using a
  unfold midS at k;rw[Vt this]at k;refine⟨_,Ra1,?_⟩;refine⟨_,Ra1,?_⟩;refine⟨_,Ra1,?_⟩;refine⟨_,Ra1,?_⟩;refine⟨by decide,?_⟩;exact k _ h.tl
theorem zW{g:Gd}(h:aA H F)(k:∀a,aA a F->K (.bool (decide g.ok)) a):CF 248 #[ub g] H K:=by
 refine cM 248 28 ?_
 repeat (first|refine h.al λ_ _ h=>?_|refine⟨_,Ra1,?_⟩|refine⟨_,λ_=>Ra1,?_⟩)
 have:=k _ h.tl;have e:decide g.ok=((((((decide (1<=g.width))&&(decide (g.width<=1099511627776)))&&(decide (0<=g.policy)))&&(decide (g.policy<=3)))&&(decide (0<=g.most)))&&(decide (g.most<=4611686018427387903))):=by
  rw[Wb];simp only[Vz,Vy]
  constructor
  .rintro⟨h1,h2,h3,h4,h5,h6⟩;exact⟨⟨⟨⟨⟨h1,h2⟩,h3⟩,h4⟩,h5⟩,h6⟩
  .rintro⟨⟨⟨⟨⟨h1,h2⟩,h3⟩,h4⟩,h5⟩,h6⟩;exact⟨h1,h2,h3,h4,h5,h6⟩
 rw[e]at this;exact this
theorem Ir{g:Gd}(h:aA H F)(k:∀b,aA b F->K (.tuple #[ub (if g.ok then g else ⟨0,0,0⟩),aC (if g.ok then 0 else 11)]) b) :
  CF 180 #[aC g.width,aC g.policy,aC g.most] H K:=by
 refine cM 180 4572 ?_;refine h.al λ_ _ h=>?_;refine h.al λ_ _ h=>?_;refine St2 h λ_ h=>?_;refine⟨_,_,_,Rs2,?_⟩
 refine zW (g:=g) h λb h=>⟨_,rfl,λa=>?_,λa=>?_⟩
 .have:¬g.ok:=by simpa using a
  rw[Vs this,Vs this]at k;refine St2 h λ_ h=>?_;refine⟨_,_,_,Rs2,?_⟩
  exact k _ h.tl.tl
 .have:g.ok:=by simpa using a
  rw[Vt this,Vt this]at k
  repeat (first|refine St2 h λ_ h=>?_|refine⟨_,_,_,Rs2,?_⟩)
  exact k _ h.tl.tl
theorem wF{g:Gd}{t:Int}(h:aA H F)(k:∀c,aA c F->K (aC (fO g t)) c):CF 160 #[ub g,aC t] H K:=by
 refine cN 160 7803597980 [[(5,sI)]] ?_;refine h.al λ_ _ h=>?_;refine⟨_,_,_,Rs1,?_⟩
 refine zW (g:=g) h λc h=>⟨_,rfl,λb=>?_,λb=>?_⟩
 .have:¬g.ok:=by simpa using b
  unfold fO at k;rw[Vs this]at k;exact k _ h.tl
 .have d:g.ok:=by simpa using b
  unfold fO at k;rw[Vt d]at k;have h0:g.width≠0:=by unfold Gd.ok at d;omega
  refine⟨_,h.r 0,h0,_,h.r 0,h0,λf e=>⟨λa=>e _ _ ?_,λa=>e _ _ ?_⟩⟩
  .skip
   rw[Vt (by simpa using a)]at k;exact k _ h.tl
  .skip
   rw[Vs (by simpa using a)]at k;exact k _ h.tl
theorem Is{g:Gd}{x:Gp}(h:aA H F)(k:∀b,aA b F->K (.tuple #[aC (dM g x).1,aC (dM g x).2.1,aC (dM g x).2.2]) b) :
  CF 240 #[ub g,jT x] H K:=by
 refine cM 240 7644 ?_;refine h.al λ_ _ h=>?_;refine h.al λ_ _ h=>?_;refine⟨_,_,_,Rs2,?_⟩
 unfold dM at k;refine zW (g:=g) h λb h=>⟨_,rfl,λa=>?_,λa=>?_⟩
 .have:¬g.ok:=by simpa using a
  rw[Vs this]at k;exact k _ h.tl.tl
 .have:g.ok:=by simpa using a
  rw[Vt this]at k;refine⟨_,_,Rs2,?_⟩;refine rW (g:=x) h λb h=>⟨_,rfl,λa=>?_,λa=>?_⟩
  .have:¬x.ok:=by simpa using a
   rw[Vs this]at k;exact k _ h.tl.tl
  .have:x.ok:=by simpa using a
   rw[Vt this]at k
   repeat (first|refine⟨_,Ra2,?_⟩|refine⟨_,_,_,Rs2,?_⟩)
   refine wF (g:=g) h λb h=>⟨_,rfl,h.r 0,h.q 1,?_⟩
   refine wF (g:=g) h λb h=>⟨_,rfl,?_⟩
   exact k _ h.tl.tl
theorem QY{g:Gd}{x:Gp}(h:aA H F)(k:∀b,aA b F->K (.tuple #[aC (mF g x).1,aC (mF g x).2]) b) :
  CF 242 #[ub g,jT x] H K:=by
 refine cM 242 0x11dd21513c13cbdc ?_;refine h.al λ_ _ h=>?_;refine h.al λ_ _ h=>?_;refine⟨_,_,_,Rs2,?_⟩;refine⟨_,_,Rs2,?_⟩
 unfold mF at k;refine Is (g:=g) (x:=x) h λb h=>⟨_,_,_,rfl,λa=>?_,λa=>?_⟩
 .rw [Vt (by simpa using a)]at k;exact k _ h.tl.tl
 .rw [Vs (by simpa using a)]at k
  repeat (first|refine⟨_,Ra2,?_⟩|refine⟨_,_,Rs2,?_⟩)
  refine QW (g:=x) h λb h=>⟨_,rfl,h.r 1,λa=>?_,λa=>?_⟩
  .rw [Vt (by simpa using a)]at k;exact k _ h.tl.tl
  .rw [Vs (by simpa using a)]at k;refine⟨_,Ra2,?_⟩;refine⟨λa=>?_,λa=>?_⟩
   .rw [Vt (by simpa using a)]at k;exact k _ h.tl.tl
   rw[Vs (by simpa using a)]at k;refine⟨λa=>?_,λa=>?_⟩
   .rw [Vt (by simpa using a)]at k;exact k _ h.tl.tl
   rw[Vs (by simpa using a)]at k;refine⟨λa=>?_,λa=>?_⟩
   .rw [Vt (by simpa using a)]at k;refine⟨_,_,_,Rs2,?_⟩;refine⟨_,_,Rs2,?_⟩;refine Mid_spec (g:=x) h λb h=>⟨_,rfl,h.q 1,?_⟩
    refine wF (g:=g) h λb h=>⟨_,rfl,?_⟩
    exact k _ h.tl.tl
   rw[Vs (by simpa using a)]at k;refine⟨λa=>?_,λa=>?_⟩
   .rw [Vt (by simpa using a)]at k;exact k _ h.tl.tl
   .rw [Vs (by simpa using a)]at k;exact k _ h.tl.tl
end
def ckA(b:Nat)(c:Ck):aE:=exS λp:KQ×Nat=>cellsA b [.int .i64 c.rho,.int .i64 c.least,.bool c.held,.int .i64 c.streak,.slice p.1 c.smps.length p.2] 289*slA 58 4 p.1 c.smps.length p.2 (flat eX c.smps)
theorem gN{H:aD}{b:Nat}{c:Ck}{L:List aE}:aA H (ckA b c::L)↔∃a k,aA H (cellsA b [.int .i64 c.rho,.int .i64 c.least,.bool c.held,.int .i64 c.streak,.slice a c.smps.length k] 289::slA 58 4 a c.smps.length k (flat eX c.smps)::L):=by
 unfold ckA;rw[cK]
 constructor
 .rintro⟨p,h⟩;exact⟨p.1,p.2,gy.1 h⟩
 .rintro⟨a,k,h⟩;exact⟨(a,k),gy.2 h⟩
theorem aP.subK{H:aD}{a:KQ}{cs:Os}{k c sz:Nat}(h:aP H a cs)(s:cs.length<=c*sz):aP H (cq a k c sz) (cs.drop (k*sz)):=by
 intro j v d;have b:aT cs (k*sz+j)=Option.some v:=by
  rw[fM]at d ⊢;rw[List.getElem?_drop]at d;exact d
 obtain⟨f,n⟩:=h (k*sz+j) v b;have i:=od b;have m:c≠k:=by rintro rfl;omega
 have e:cq a k c sz=Option.some ⟨aU a,aS a+k*sz,none⟩:=by
  unfold cq;rw[nO,f,VX,iP];rfl
 rw[e];refine⟨rfl,?_⟩;show aL H (aU a) (aS a+k*sz+j)=Option.some v;rw[Wk];exact n
theorem ud:SlT Tryz.prog 267 58 4 32:=iO (by kernel_rfl)
theorem sl239:SlT Tryz.prog 309 89 2 16:=iO (by kernel_rfl)
section
variable {F L:List aE}{H:aD}{K:KE}
theorem isTime_spec{t:Int}:bX Tryz.prog 228 #[aC t] H (.bool (decide (gM t))):=by
 refine cM 228 28 ⟨congrArg Value.bool ?_,rfl⟩;rw[Wb];simp only[Vz,Vy,gM]
theorem It{t:Int}:bX Tryz.prog 232 #[aC t] H (.bool (decide (gA t))):=by
 refine cM 232 28 ⟨congrArg Value.bool ?_,rfl⟩;rw[Wb];simp only[Vz,Vy,gA]
theorem wG{s:bQ}(h:aA H F)(k:∀a,aA a F->K (.bool (decide s.ok)) a):CF 139 #[aggSm s] H K:=by
 refine cM 139 28 ?_;refine h.al λb _ h=>?_
 refine⟨_,h.r 0,_,isTime_spec,_,λ_=>h.r 0,_,λ_=>isTime_spec,_,λ_=>h.r 0,_,λ_=>isTime_spec,_,λ_=>h.r 0,_,λ_=>isTime_spec,_,λ_=>h.r 0,_,λ_=>h.r 0,_,λ_=>h.r 0,_,λ_=>h.r 0,?_⟩
 have:=k _ h.tl;have e:decide s.ok=(((((decide (gM s.asked)&&decide (gM s.got))&&decide (gM s.sent))&&decide (gM s.came))&&(decide (s.asked<=s.came)))&&(decide (s.got<=s.sent))):=by
  rw[Wb];simp only[Vz,Vy]
  constructor
  .rintro⟨h1,h2,h3,h4,h5,h6⟩;exact⟨⟨⟨⟨⟨h1,h2⟩,h3⟩,h4⟩,h5⟩,h6⟩
  .rintro⟨⟨⟨⟨⟨h1,h2⟩,h3⟩,h4⟩,h5⟩,h6⟩;exact⟨h1,h2,h3,h4,h5,h6⟩
 rw[e]at this;exact this
theorem wH{s:bQ}{stamp rho:Int}(h:aA H F)(k:∀b,aA b F->K (.tuple #[jT (iS s stamp rho).1,aC (iS s stamp rho).2]) b) :
  CF 148 #[aggSm s,aC stamp,aC rho] H K:=by
 refine OF ?_;refine h.al λb0 _ h=>?_
 refine h.al λb1 _ h=>?_
 refine⟨_,_,_,_,h.q 1,?_⟩;unfold iS at k;refine wG (s:=s) h λb h=>⟨_,rfl,λa=>?_,λa=>?_⟩
 .have:¬s.ok:=by simpa using a
  rw[Vt this]at k;refine St2 h λ_ h=>?_;refine⟨_,_,Rs2,?_⟩
  exact k _ h.tl.tl
 .have hs:s.ok:=by simpa using a
  rw[Vs (by simpa using hs)]at k;have c:=hs.wf;refine⟨_,isTime_spec,_,λ_=>It,λa=>?_,λa=>?_⟩
  .have:¬gM stamp\/¬gA rho:=by
    simp only[VE,VP,V0]at a;exact a
   rw[Vt this]at k;refine St2 h λ_ h=>?_;refine⟨_,_,Rs2,?_⟩
   exact k _ h.tl.tl
  .have e:¬(¬gM stamp\/¬gA rho):=by
    simp only[VB,Wd,Vy]at a;rintro (h|h)
    .exact h a.1
    .exact h a.2
   rw[Vs e]at k;have d:gM stamp:=by
    rcases Classical.em (gM stamp) with h|h
    .exact h
    .exact Vu (.inl h) e
   dsimp only at k;have i:=hs;unfold bQ.ok gM at hs;unfold gM at d;refine⟨_,Ra2,?_⟩;dsimp only;rw[aK (x:=stamp-s.got)];refine Iq (by unfold aF;omega) ⟨_,_,rfl,?_⟩;refine⟨_,Ra2,?_⟩;dsimp only;rw[aK (x:=stamp-s.sent)];refine QR (by unfold aF;omega) ⟨_,_,rfl,?_⟩;refine⟨_,h.r 1,_,h.r 1,_,_,Gm c.2.2.2 (highS_wf _ _),?_⟩;have last:∀hi:Int,hi=(if (j5 s.came (pe (stamp-s.sent) rho).1).2≠0 then 4611686018427387903 else (j5 s.came (pe (stamp-s.sent) rho).1).1)->zc.r1 K b1 (lowS (stamp-s.got) rho).1 s.asked hi b:=by
    intro hi j;rw[<-j]at k;unfold zc.r1;refine⟨λa=>?_,λa=>?_⟩
    .rw [Vt (by simpa using a)]at k;refine St2 h λ_ h=>?_;refine⟨_,_,Rs2,?_⟩
     exact k _ h.tl.tl
    .rw [Vs (by simpa using a)]at k;refine St2 h λ_ h=>?_;refine⟨_,_,Rs2,?_⟩
     exact k _ h.tl.tl
   refine λm f=>⟨λa=>f _ _ (last _ ?_),λa=>f _ _ (last _ ?_)⟩
   .rw [Vt (by simpa using a)]
   .rw [Vs (by simpa using a)]
theorem Iu{rho least:Int}(h:aA H F)(k1:¬(gA rho/\0<=least/\least<=100)->K (.tuple #[.pointer none,aC 11]) H)
  (k2:gA rho/\0<=least/\least<=100->∀b c,aA c (ckA b ⟨rho,least,false,0,[]⟩::F)->K (.tuple #[.pointer (some ⟨b,0,none⟩),aC 0]) c) :
  CF 182 #[aC rho,aC least] H K:=by
 refine cM 182 476 ?_;refine⟨_,It,λa=>k1 ?_,λa=>?_⟩
 .simp only[VE,VP,V0,Vy]at a;rintro⟨h1,h2,h3⟩
  rcases a with (h|h)|h
  .exact h h1
  .omega
  .omega
 .simp only[VB,Wd,Vy,V0]at a;have h:=h.sl_nil 58 4;refine h.al λb _ h=>?_
  exact k2 ⟨a.1.1,by omega,by omega⟩ _ _ (gN.2 ⟨none,0,h⟩)
theorem ue{b:Nat}{c:Ck}(h:aA H (ckA b c::F)):bX Tryz.prog 69 #[.pointer (some ⟨b,0,none⟩)] H (.bool c.held):=by
 obtain⟨a,n,h⟩:=gN.1 h;exact cM 69 28 ⟨_,h.r 0,rfl,rfl⟩
theorem QZ{b:Nat}{c:Ck}(h:aA H (ckA b c::F)):bX Tryz.prog 121 #[.pointer (some ⟨b,0,none⟩)] H (aC c.streak):=by
 obtain⟨a,n,h⟩:=gN.1 h;exact cM 121 28 ⟨_,h.r 0,rfl,rfl⟩
theorem zX{a:KQ}{c:Nat}{l:List bQ}(h:aA H F)(n:∀H,aA H F->aP H a (flat eX l))(w:l.length<=1000000)
  (k:∀d e f,aA f (slA 58 4 d l.length e (flat eX l)::F)->K (.slice d l.length e) f):CF 134 #[.slice a l.length c] H K:=by
 refine cM 134 476 ⟨λi=>?_,λi=>?_⟩
 .have:a=none:=by simpa using i
  subst this;have t:=oh (n H h);have:l=[]:=by
   have:=congrArg List.length t;rw[fh kE]at this;exact W9 (by simp at this;omega)
  subst this;exact k none 0 H (h.sl_nil 58 4)
 .refine h.al λb _ h=>?_
  have s:=n _ h.tl;have v:=aA.sl_pt (cs:=[]) h 4 0 rfl;refine aA.append (m:=l.length) ud v 0 rfl s (fh kE l) (lC zV l) (by omega) (by omega) λd e f u=>⟨_,_,_,rfl,?_⟩
  have j:aA f (slA 58 4 d (0+l.length) e ([]++flat eX l)::F):=u;rw[VL,VZ]at j;have:=k d e f j;rw[<-VL l.length]at this;exact this
theorem Ra{a:KQ}{c:Nat}{l:List bQ}{j:Nat}(u:j<=l.length)(h:aA H (slA 58 4 a l.length c (flat eX l)::F))
  (k:∀b,aA b (slA 58 4 a (l.length-j) c (flat eX (l.drop j))::F)->K (.slice a (l.length-j) c) b):CF 147 #[.slice a l.length c,aC 0,aC j] H K:=by
 have s:=h.sl_nc 0 rfl;refine cM 147 18682140 ?_;refine⟨⟨by omega,by omega,by omega,by omega⟩,λd=>?_,λd=>?_⟩
 .have:j=0:=by simp only[Vy]at d;omega
  subst this;exact k H h
 .have hj0:0<j:=by simp only[V0]at d;omega
  refine⟨⟨by omega,by omega,by omega⟩,⟨by omega,by omega,by omega⟩,?_⟩;have f:=h.sl_rd 0 rfl;have hs:=f.some kE (by omega) (k:=0) (by omega);have e0:cq a 0 c 4=a:=by
   unfold cq;rw[nO,hs,VX,iP];simp
  have e:=f.subK (k:=j) (c:=c) (sz:=4) (by rw[fh kE];omega);rw[tt kE]at e;have i:=h.sl_take 0 rfl 0 (by omega);simp only[WY,WU]at i;show cB Tryz.prog (Builtin.append_ #[267,267] 267 #[.slice (cq a 0 c 4) 0 c,.slice (cq a j c 4) (l.length-j) (c-j)]) H _;rw[e0];refine aA.appendIn ud i 0 rfl e (by rw[fh kE,VH]) (lC zV _) (by omega) λb n=>⟨_,_,_,rfl,⟨by omega,by omega,by omega⟩,?_⟩
  rw[VL];have m:aA b (slA 58 4 a (0+(l.length-j)) c ([]++flat eX (l.drop j))::F):=n;rw[VL,VZ]at m;exact aA.clearS ud (by kernel_rfl) m 0 rfl (by omega) λ_ v t=>k _ t
theorem zY{b:Nat}{c:Ck}(h:aA H (ckA b c::F))(i:c.smps.length<=1000000)
  (k:∀d e f,aA f (slA 58 4 d c.smps.length e (flat eX c.smps)::ckA b c::F)->K (.slice d c.smps.length e) f):CF 120 #[.pointer (some ⟨b,0,none⟩)] H K:=by
 obtain⟨a,n,h⟩:=gN.1 h;refine cM 120 28 ⟨_,_,_,h.r 0,?_⟩;refine zX h (λH h=>h.sl_rd 1 rfl) i λd e f h=>⟨_,_,_,rfl,k _ _ _ ?_⟩
 have h:=h.o [1,2,0] 3;have h:=gN.2 ⟨_,_,h⟩;exact h.o [1,0] 2
theorem Rb{b:Nat}{c:Ck}(h:aA H (ckA b c::F))(f:c.smps.length<=1000000)
  (k:∀e d,aA d (ckA e c::ckA b c::F)->K (.pointer (some ⟨e,0,none⟩)) d):CF 62 #[.pointer (some ⟨b,0,none⟩)] H K:=by
 obtain⟨a,n,h⟩:=gN.1 h;refine cM 62 4380 ?_;refine⟨_,_,_,_,_,_,_,h.q 0,?_⟩;refine h.al λ_ _ h=>?_;refine St3 h λ_ h=>?_
 refine⟨_,_,_,h.r 1,?_⟩;refine zX h (λH h=>h.sl_rd 2 rfl) f λi j d h=>⟨_,_,_,rfl,?_⟩
 refine St4 h λ_ h=>?_
 refine k _ _ ?_;have h:=h.o [1,0,2,3] 4;have h:=gN.2 ⟨_,_,h⟩;have h:=h.o [1,2,0] 3;have h:=gN.2 ⟨_,_,h⟩;exact h.o [1,0] 2
theorem Re{b:Nat}{c:Ck}{held:Bool}{streak:Int}{a0:KQ}{n0:Nat}{l:List bQ}(h:aA H (ckA b c::F))(x:∀H,aA H F->aP H a0 (flat eX l))
  (k1:¬(l.length<=8/\0<=streak/\∀s∈l,s.ok)->∀e,aA e (ckA b c::F)->K (aC 10) e)
  (k2:(l.length<=8/\0<=streak/\∀s∈l,s.ok)->∀e,aA e (ckA b ⟨c.rho,c.least,held,streak,l⟩::F)->K (aC 0) e) :
  CF 261 #[.pointer (some ⟨b,0,none⟩),.bool held,aC streak,.slice a0 l.length n0] H K:=by
 refine cN 261 0x1d215612399251b41c [[(20,sI)]] ?_;refine⟨λf=>k1 ?_ _ h,λf=>?_⟩
 .simp only[VE,Vy]at f;omega
 .have t:l.length<=8/\0<=streak:=by simp only[VB,V0]at f;omega
  refine⟨λi e=>∃j:Nat,i=j/\j<=l.length/\(∀s∈l.take j,s.ok)/\aA e (ckA b c::F),λi _=>l.length-i.toNat,⟨0,rfl,VQ _,λ_ hs=>by simp at hs,h⟩,?_⟩
  rintro i B ⟨j,rfl,C,k,h⟩;refine⟨λf=>?_,λf=>?_⟩
  .have d:j<l.length:=by simpa using f
   have w:=x _ h.tl;refine⟨⟨by omega,by omega⟩,_,_,w.some kE (by omega) d,_,_,_,_,w.els kE d,?_⟩;refine h.al λ_ _ h=>?_;refine St1 h λ_ h=>?_;refine⟨_,_,_,_,Rs1,?_⟩
   refine wG (s:=l[j]) h λE h=>⟨_,rfl,λm=>?_,λm=>?_⟩
   .have:¬(l[j]).ok:=by simpa using m
    exact k1 (λA=>this (A.2.2 _ (V7 d))) _ h.tl
   .have u:(l[j]).ok:=by simpa using m
    have y:i64.wrap ((j:Int)+1)=((j+1:Nat):Int):=by rw[aK];omega
    conv=>whnf
    rw[y];refine⟨⟨j+1,rfl,d,λs hs=>?_,h.tl⟩,by simp only[V4];omega⟩
    rw[List.take_add_one,List.getElem?_eq_getElem d]at hs
    rcases VK.1 hs with hs|hs
    .exact k s hs
    .simp at hs;rw[hs];exact u
  .have v:l.length<=j:=by simpa using f
   rw[VR v]at k;obtain⟨a,n,h⟩:=gN.1 h;refine zX h (λH h=>x H h.tl.tl) (by omega) λG D e h=>⟨_,_,_,rfl,?_⟩
   refine St2 h λ_ h=>?_;refine St2 h λ_ h=>?_;refine St2 h λ_ h=>?_
   refine k2 ⟨t.1,t.2,k⟩ _ ?_;have h:=h.o [1,0] 3;exact gN.2 ⟨_,_,h⟩
end
theorem dn{p:Prop}[Decidable p](h:(!decide p)=true):¬p:=by simpa using h
theorem dy{p:Prop}[Decidable p](h:(!decide p)=false):p:=by simpa using h
section
variable {F L:List aE}{H:aD}{K:KE}
theorem Rf{b:Nat}{c:Ck}{stamp:Int}(G:c.smps.length<=8)(h:aA H (ckA b c::F))
  (k:∀m,aA m (ckA b c::F)->K (.tuple #[jT (ckAt c stamp).1,aC (ckAt c stamp).2]) m) :
  CF 244 #[.pointer (some ⟨b,0,none⟩),aC stamp] H K:=by
 obtain⟨a,n,h⟩:=gN.1 h;refine cN 244 0x1dd121561239925128d44c [[(9,sA),(10,sI)],[(6,sS),(33,sI)]] ?_;unfold ckAt at k;refine h.al λb0 _ h=>?_
 refine⟨_,_,_,h.r 1,λd=>?_,λd=>?_⟩
 .have:c.smps=[]:=by simpa using d
  rw[Vt this]at k;refine St1 h λ_ h=>?_;refine⟨_,_,Rs1,?_⟩
  exact k _ (gN.2 ⟨_,_,h.tl⟩)
 have A:c.smps≠[]:=by simpa using d
 rw[Vs A]at k;refine⟨_,isTime_spec,λd=>?_,λd=>?_⟩
 .have:¬gM stamp:=dn d;rw[Vt this]at k;refine St1 h λ_ h=>?_;refine⟨_,_,Rs1,?_⟩
  exact k _ (gN.2 ⟨_,_,h.tl⟩)
 have w:gM stamp:=dy d;rw[Vs (not_not_intro w)]at k;refine⟨_,_,_,h.r 1,?_⟩;refine h.mk0 sl239 (by omega) (by omega) λt P h=>⟨_,_,_,rfl,_,_,_,h.r 2,?_⟩
 refine⟨λt D v i m=>∃(j:Nat) (gs:List Gp),i=j/\j<=c.smps.length/\D=gs.length/\gs.length=j/\
   nN c.rho stamp c.smps=(gs++(nN c.rho stamp (c.smps.drop j)).1,(nN c.rho stamp (c.smps.drop j)).2)/\
   aA m (slA 89 2 t gs.length v (flat jS gs)::cellsA b0 [aC 0,aC 0] 89::cellsA b [aC c.rho,aC c.least,.bool c.held,aC c.streak,.slice a c.smps.length n] 289::slA 58 4 a c.smps.length n (flat eX c.smps)::F),
  λ_ _ _ i _=>c.smps.length-i.toNat,⟨0,[],rfl,VQ _,rfl,rfl,rfl,h⟩,?_⟩
 rintro t D v i O ⟨j,gs,rfl,M,rfl,B,e,h⟩;refine⟨λd=>?_,λd=>?_⟩
 .have f:j<c.smps.length:=by simpa using d
  have C:=h.sl_rd 3 rfl;rw[Wm f,nN]at e;refine⟨⟨by omega,by omega⟩,_,_,C.some kE (by omega) f,_,_,_,_,C.els kE f,?_⟩;refine h.al λ_ _ h=>?_;refine St1 h λ_ h=>?_
  refine λL J=>?_
  have fin:∀gb x,aA x (cellsA gb (jS (iS c.smps[j] stamp c.rho).1) 89::slA 89 2 t gs.length v (flat jS gs)::cellsA b0 [aC 0,aC 0] 89::cellsA b [aC c.rho,aC c.least,.bool c.held,aC c.streak,.slice a c.smps.length n] 289::slA 58 4 a c.smps.length n (flat eX c.smps)::F)->L gb 0 (iS c.smps[j] stamp c.rho).2 x:=by
   intro gb x h;refine J _ _ _ _ ?_;refine⟨λd=>?_,λd=>?_⟩
   .have u:(iS c.smps[j] stamp c.rho).2≠0:=by simpa using d
    rw[Vt u]at e;rw[e,Vt u]at k;refine St3 h λ_ h=>?_;refine⟨_,_,Rs3,?_⟩
    exact k _ (gN.2 ⟨_,_,h.tl.tl.tl⟩)
   .have u:¬(iS c.smps[j] stamp c.rho).2≠0:=by simpa using d
    rw[Vs u]at e;refine⟨_,_,h.q 0,?_⟩;rintro b3 _ rfl rfl;refine h.append1 sl239 1 rfl rfl rfl (by omega) (by omega) λQ N m h=>⟨_,_,_,rfl,?_⟩
    have E:i64.wrap ((j:Int)+1)=((j+1:Nat):Int):=by rw[aK];omega
    conv=>whnf
    rw[E];have h:=h.tl;refine⟨⟨j+1,gs++[(iS c.smps[j] stamp c.rho).1],rfl,f,by simp,by simp[B],?_,?_⟩,by simp only[V4];omega⟩
    .rw [e,V5];rfl
    .rw [dS,nB,Vv];exact h
  refine⟨_,_,_,_,h.q 0,_,h.r 3,?_,?_⟩
  .refine wH (s:=c.smps[j]) h λm h=>⟨_,_,_,rfl,?_⟩
   refine h.al λ_ _ h=>?_;refine St1 h λ_ h=>?_
   exact fin _ _ (h.o [0] 2)
  .refine h.al λb5 _ h=>?_
   refine⟨h.r 4,h.q 1,?_⟩;refine wH (s:=c.smps[j]) h λm h=>⟨_,_,_,rfl,?_⟩
   refine St1 h λ_ h=>?_
   exact fin _ _ (h.o [0] 2)
 .have y:c.smps.length<=j:=by simpa using d
  rw[Yz y,nN,VT]at e;rw[e,Vs (λI=>I rfl)]at k
  refine uc (gs:=gs) h (λH h=>h.sl_rd 0 rfl) (by omega) λm h=>⟨_,_,_,rfl,?_⟩
  refine St2 h λ_ h=>?_;refine⟨_,_,Rs2,?_⟩
  exact k _ (gN.2 ⟨_,_,h.tl.tl⟩)
theorem Rg{a:KQ}{c n:Nat}{gs:List Gp}(f:gs.length=n)(h:aA H F)(e:∀H,aA H F->aP H a (flat jS gs))(d:n<=1000000)
  (k:∀b,aA b F->K (.bool (pi gs)) b) :
  CF 149 #[.slice a n c] H K:=by
 subst f;exact QV h e d k
theorem Rh{b:Nat}{c:Ck}{s:bQ}(ok:CkOk c)(h:aA H (ckA b c::F))
  (k:∀u,aA u (ckA b (kT c s).1::F)->K (aC (kT c s).2) u) :
  CF 67 #[.pointer (some ⟨b,0,none⟩),aggSm s] H K:=by
 obtain⟨a,n,h⟩:=gN.1 h;have h0:=ok.len;have j1:=ok.st;refine OO ?_;unfold kT at k;refine h.al λb0 _ h=>?_
 refine⟨_,_,_,_,h.q 0,?_⟩;refine wG (s:=s) h λu h=>⟨_,rfl,λd=>?_,λd=>?_⟩
 .have:¬s.ok:=by simpa using d
  rw[Vt this]at k;exact k _ (gN.2 ⟨_,_,h.tl⟩)
 have hs:s.ok:=by simpa using d
 rw[Vs (by simpa using hs)]at k;refine⟨_,_,_,h.r 1,_,_,_,_,h.q 0,?_⟩;rintro b1 _ rfl rfl;have D:=(h.push (.cells #[aC s.asked,aC s.got,aC s.sent,aC s.came] 58 (0,0))).rd 2 rfl 4;refine⟨D,?_⟩;refine h.append1 ud 2 rfl rfl rfl (by omega) (by omega) λa1 c1 H1 h=>⟨_,_,_,rfl,?_⟩
 have ef:flat eX c.smps++[aC s.asked,aC s.got,aC s.sent,aC s.came]=flat eX (c.smps++[s]):=by rw[dS,nB]
 rw[ef]at h;have r8:∀x∈(if 8<c.smps.length+1 then (c.smps++[s]).drop 1 else c.smps++[s]),x.ok:=by
  intro x U;have:x∈c.smps++[s]:=by
   split at U
   .exact W3 U
   .exact U
  rcases VK.1 this with P|P
  .exact ok.ok x P
  .rw [V6]at P;rw[P];exact hs
 have rest:∀(l:List bQ) (a2:KQ) (c2:Nat) (S:aD),l.length<=8->l.getLast?=some s->(∀u,
    aA u (ckA b (if pi (l.map (iT c.rho s.sent)) then
     ({ c with streak:=if c.streak<9223372036854775807 then c.streak+1 else c.streak,held:=if c.least<=(if c.streak<9223372036854775807 then c.streak+1 else c.streak) then false else c.held,smps:=l },(0:Int))
     else ({ c with held:=true,streak:=0,smps:=if (iT c.rho s.sent s).ok then [s] else [] },21)).1::F)->
    K (aC (if pi (l.map (iT c.rho s.sent)) then
     ({ c with streak:=if c.streak<9223372036854775807 then c.streak+1 else c.streak,held:=if c.least<=(if c.streak<9223372036854775807 then c.streak+1 else c.streak) then false else c.held,smps:=l },(0:Int))
     else ({ c with held:=true,streak:=0,smps:=if (iT c.rho s.sent s).ok then [s] else [] },21)).2) u)->
   aA S (cellsA b0 [aC s.asked,aC s.got,aC s.sent,aC s.came] 58::cellsA b [aC c.rho,aC c.least,.bool c.held,aC c.streak,.slice a2 l.length c2] 289::slA 58 4 a2 l.length c2 (flat eX l)::F)->
   ze.r7 b 0 K b0 S:=by
  intro l a2 c2 S h0 t k h;unfold ze.r7;refine⟨_,_,_,h.r 1,?_⟩;refine h.mk0 sl239 (by omega) (by omega) λI H6 h=>⟨_,_,_,rfl,_,_,_,h.r 2,?_⟩
  refine⟨λI gn J i u=>∃(j:Nat),i=j/\j<=l.length/\j=gn/\
    aA u (slA 89 2 I j J (flat jS ((l.take j).map (iT c.rho s.sent)))::cellsA b0 [aC s.asked,aC s.got,aC s.sent,aC s.came] 58::cellsA b [aC c.rho,aC c.least,.bool c.held,aC c.streak,.slice a2 l.length c2] 289::slA 58 4 a2 l.length c2 (flat eX l)::F),
   λ_ _ _ i _=>l.length-i.toNat,⟨0,rfl,VQ _,rfl,h⟩,?_⟩
  rintro I gn J i H7 ⟨j,rfl,hj,rfl,h⟩;refine⟨λd=>?_,λd=>?_⟩
  .have f:j<l.length:=by simpa using d
   have L:=h.sl_rd 3 rfl;refine⟨⟨by omega,by omega⟩,_,_,L.some kE (by omega) f,_,_,_,_,L.els kE f,?_⟩;refine h.al λ_ _ h=>?_;refine St1 h λ_ h=>?_
   refine λJn Q=>?_
   have fin:∀gb E,aA E (cellsA gb (jS (iS l[j] s.sent c.rho).1) 89::slA 89 2 I j J (flat jS ((l.take j).map (iT c.rho s.sent)))::cellsA b0 [aC s.asked,aC s.got,aC s.sent,aC s.came] 58::cellsA b [aC c.rho,aC c.least,.bool c.held,aC c.streak,.slice a2 l.length c2] 289::slA 58 4 a2 l.length c2 (flat eX l)::F)->Jn gb 0 (iS l[j] s.sent c.rho).2 E:=by
    intro gb E h;refine Q _ _ _ _ ?_;refine λh3 h4=>?_
    have w:∀C,aA C (cellsA gb (jS (iT c.rho s.sent l[j])) 89::slA 89 2 I j J (flat jS ((l.take j).map (iT c.rho s.sent)))::cellsA b0 [aC s.asked,aC s.got,aC s.sent,aC s.came] 58::cellsA b [aC c.rho,aC c.least,.bool c.held,aC c.streak,.slice a2 l.length c2] 289::slA 58 4 a2 l.length c2 (flat eX l)::F)->h3 C:=by
     intro C h;refine h4 _ ?_;refine⟨_,_,h.q 0,?_⟩;rintro b4 _ rfl rfl;refine h.append1 sl239 1 rfl rfl rfl (by omega) (by omega) λa' c' u h=>⟨_,_,_,rfl,?_⟩
     have V:i64.wrap ((j:Int)+1)=((j+1:Nat):Int):=by rw[aK];omega
     rw[V];have h:=h.tl;refine⟨⟨j+1,rfl,f,rfl,?_⟩,by simp only[V4];omega⟩;rw[List.take_add_one,List.getElem?_eq_getElem f,VJ,dS];rw[Option.toList_some,List.map_singleton,nB];exact h
    refine⟨λd=>?_,λd=>?_⟩
    .have T:(iS l[j] s.sent c.rho).2≠0:=by simpa using d
     have Y:iT c.rho s.sent l[j]=⟨1,0⟩:=by unfold iT;rw[Vt T]
     refine St1 h λ_ h=>?_
     refine w _ ?_;rw[Y];exact h
    .have T:¬(iS l[j] s.sent c.rho).2≠0:=by simpa using d
     have Y:iT c.rho s.sent l[j]=(iS l[j] s.sent c.rho).1:=by unfold iT;rw[Vs T]
     refine w _ ?_;rw[Y];exact h
   refine⟨_,_,_,_,h.q 0,_,h.r 2,_,h.r 3,?_,?_⟩
   .refine wH (s:=l[j]) h λu h=>⟨_,_,_,rfl,?_⟩
    refine h.al λ_ _ h=>?_;refine St1 h λ_ h=>?_
    exact fin _ _ (h.o [0] 2)
   .refine h.al λb5 _ h=>?_
    refine⟨h.r 4,h.r 3,h.q 1,?_⟩;refine wH (s:=l[j]) h λu h=>⟨_,_,_,rfl,?_⟩
    refine St1 h λ_ h=>?_
    exact fin _ _ (h.o [0] 2)
  .have r9:l.length<=j:=by simpa using d
   obtain rfl:j=l.length:=by omega
   rw[VR (V2 _)]at h;have m:(l.map (iT c.rho s.sent)).length=l.length:=V8 _;have y3:0<l.length:=by
    cases l with
    | nil=>simp at t
    | cons x r=>simp
   have h2:l[l.length-1]=s:=by
    rw[List.getLast?_eq_getElem?,List.getElem?_eq_getElem (by omega)]at t;exact Option.some.inj t
   refine Rg m h (λH h=>h.sl_rd 0 rfl) (by omega) λh6 h=>⟨_,rfl,λG=>?_,λG=>?_⟩
   .rw [Vt G]at k;refine⟨_,h.r 2,λW Z=>?_⟩
    have y:∀(st:Int) B,st=(if c.streak<9223372036854775807 then c.streak+1 else c.streak)->aA B (slA 89 2 I l.length J (flat jS (l.map (iT c.rho s.sent)))::cellsA b0 [aC s.asked,aC s.got,aC s.sent,aC s.came] 58::cellsA b [aC c.rho,aC c.least,.bool c.held,aC st,.slice a2 l.length c2] 289::slA 58 4 a2 l.length c2 (flat eX l)::F)->W B:=by
     intro st B R h;refine Z _ ?_;rw[<-R]at k;refine⟨_,h.r 2,_,h.r 2,λy2 M=>⟨λd=>?_,λd=>?_⟩⟩
     .rw [Vt (by simpa using d)]at k;refine h.st 2 rfl rfl λr0 h=>M _ ?_
      exact k _ (gN.2 ⟨_,_,h.tl.tl⟩)
     .rw [Vs (by simpa using d)]at k;exact M _ (k _ (gN.2 ⟨_,_,h.tl.tl⟩))
    refine⟨λd=>?_,λd=>?_⟩
    .have f:c.streak<9223372036854775807:=by simpa using d
     refine⟨_,h.r 2,?_⟩;refine h.st 2 rfl rfl λl6 h=>y _ _ ?_ h
     rw[Vt f,aK]
    .have f:¬c.streak<9223372036854775807:=by simpa using d
     exact y _ _ (by rw[Vs f]) h
   .rw [Vs (by rw[G];decide)]at k;refine h.st 2 rfl rfl λl5 h=>?_
    refine h.st 2 rfl rfl λl0 h=>?_
    refine h.st 2 rfl rfl λj2 h=>?_
    have V:i64.wrap ((l.length:Int)-1)=((l.length-1:Nat):Int):=by rw[aK];omega
    rw[V];have L:=h.sl_rd 0 rfl;have A:=L.els ww (k:=l.length-1) (by omega);rw[Wp,h2]at A;refine⟨⟨by omega,by omega⟩,_,_,L.some ww (by omega) (k:=l.length-1) (by omega),_,_,A,?_⟩;refine rW (g:=iT c.rho s.sent s) h λh7 h=>⟨_,rfl,λj3 N=>⟨λd=>?_,λd=>?_⟩⟩
    .rw [Vt (by simpa using d)]at k;refine⟨_,_,_,_,h.q 1,?_⟩;refine h.al λb8 _ h=>?_
     refine h.st 3 rfl rfl λH32 h=>N _ ?_
     have h:=h.o [0,3] 5;have h:=aA.sl_pt h 4 1 rfl;have h:=h.o [1,0] 2;exact k _ (gN.2 ⟨_,_,h⟩)
    .rw [Vs (by simpa using d)]at k;refine N _ ?_;have h:=h.o [2] 4;have h:=(h.sl_nil 58 4).o [1,0] 2;exact k _ (gN.2 ⟨_,_,h⟩)
 refine h.st 1 rfl rfl λH2 h=>?_
 have v:(c.smps++[s]).getLast?=some s:=by simp
 refine⟨_,_,_,h.r 1,λJn Q=>⟨λd=>?_,λd=>?_⟩⟩
 .have O:8<c.smps.length+1:=by have:=Vw d;omega
  rw[Vt O]at k;refine⟨_,_,_,h.r 1,?_⟩;have h:=h.o [2,0,1] 3;have m:c.smps.length+1=(c.smps++[s]).length:=by simp
  rw[m]at h ⊢;refine Ra (j:=1) (by simp) h λh5 h=>⟨_,_,_,rfl,?_⟩
  refine h.st 2 rfl rfl λu8 h=>Q _ ?_
  have h:=h.o [1,2,0] 3;have hd:(c.smps++[s]).length-1=((c.smps++[s]).drop 1).length:=by simp
  rw[hd]at h;refine rest _ _ _ _ (by simp;omega) ?_ k h;have h8:c.smps≠[]:=by rintro e;rw[e]at O;simp at O
  rw[List.drop_append_of_le_length (by omega),List.getLast?_append];simp
 .have O:¬8<c.smps.length+1:=by have:=Vx d;omega
  rw[Vs O]at k;refine Q _ ?_;have m:c.smps.length+1=(c.smps++[s]).length:=by simp
  rw[m]at h;exact rest _ _ _ _ (by simp;omega) v k h
end
end Go.Proofs.YtaaieblnikcndaaGreatDoor
