/-
  Lemmas for GateAnew: part 4 of what it rests on. Conditions: none.
-/
import Derived.Test.YtaaieblnikcndaaGreatDoorGN3
set_option linter.unusedVariables false
set_option linter.unusedSimpArgs false
set_option maxRecDepth 100000
set_option maxHeartbeats 16000000
open Go.IntKind (i64 u64 i8 u8 i32 u32 i16 u16)
namespace Go.Proofs.YtaaieblnikcndaaGreatDoor
open Go
def le4(s:Int):List Int:=[s%256,s/256%256,s/65536%256,s/16777216%256]
def eL(bs:List Int):List Int:=bs++le4 (kT bs)
def dW(bs:List Int):Int×List Int:=
 if bs.length<4 then (15,[]) else if eL (bs.take (bs.length-4))=bs then (0,bs.take (bs.length-4)) else (14,[])
theorem PU(s:Int):aH (le4 s):=by
 intro x a;simp only[le4,VJ,W8,or_false]at a
 rcases a with rfl|rfl|rfl|rfl <;> omega
theorem G7{bs:List Int}(h:aH bs):aH (eL bs):=tQ h (PU _)
theorem rY(bs:List Int):(eL bs).length=bs.length+4:=by simp[eL,le4]
theorem G8(bs:List Int):dW (eL bs)=(0,bs):=by
 unfold dW;rw[rY,nO,YC];have:(eL bs).take bs.length=bs:=by unfold eL;rw[List.take_left]
 rw[this,V1 rfl]
theorem zL{bs p:List Int}(h:dW bs=(0,p)):bs=eL p:=by
 unfold dW at h
 split at h
 .cases h
 .split at h
  .rename_i a
   cases h
   exact a.symm
  .cases h
theorem le4_val{s:Int}(h0:0<=s)(f:s<4294967296){a b c d:Int}(i:0<=a/\a<256)(hb:0<=b/\b<256)(e:0<=c/\c<256)(hd:0<=d/\d<256) :
  le4 s=[a,b,c,d]↔a+256*b+65536*c+16777216*d=s:=by
 unfold le4
 constructor
 .intro h;simp only[List.cons.injEq,and_true]at h;omega
 .intro h;simp only[List.cons.injEq,and_true];omega
theorem zM{a m p:Nat}(d:a<2^p)(h:a+m*2^p<4294967296):aX .or .u32 (a:Int) ((m*2^p:Nat):Int)=((a+m*2^p:Nat):Int):=by
 have c:a<4294967296:=by omega
 have b:m*2^p<4294967296:=by omega
 have e3:a ||| m*2^p=a+m*2^p:=by
  rw[Nat.mul_comm m,Nat.or_comm,<-YG d,Ye]
 show u32.wrap ((BitVec.ofInt u32.bits (a:Int) ||| BitVec.ofInt u32.bits ((m*2^p:Nat):Int)).toNat:Int)=_;rw[BitVec.toNat_or,rX c,rX b,e3,u32w (by omega) (by omega)]
theorem sum_code{a b c d:Int}(j:0<=a/\a<256)(hb:0<=b/\b<256)(k:0<=c/\c<256)(hd:0<=d/\d<256) :
  aX .or .u32 (aX .or .u32 (aX .or .u32 (u32.wrap a) (u32.wrap ((u32.wrap b)*2^(min (Int.toNat 8) (u32.bits))))) (u32.wrap ((u32.wrap c)*2^(min (Int.toNat 16) (u32.bits))))) (u32.wrap ((u32.wrap d)*2^(min (Int.toNat 24) (u32.bits))))
   = a+256*b+65536*c+16777216*d:=by
 rw[u32w (x:=a) (by omega) (by omega),u32w (x:=b) (by omega) (by omega),u32w (x:=c) (by omega) (by omega),u32w (x:=d) (by omega) (by omega)];show aX .or .u32 (aX .or .u32 (aX .or .u32 a (u32.wrap (b*256))) (u32.wrap (c*65536))) (u32.wrap (d*16777216))=_;rw[u32w (x:=b*256) (by omega) (by omega),u32w (x:=c*65536) (by omega) (by omega),u32w (x:=d*16777216) (by omega) (by omega)];obtain⟨i,rfl⟩:=YD j.1;obtain⟨e,rfl⟩:=YD hb.1;obtain⟨f,rfl⟩:=YD k.1;obtain⟨h,rfl⟩:=YD hd.1;have e1:=zM (a:=i) (m:=e) (p:=8) (by omega) (by omega);have e2:=zM (a:=i+e*2^8) (m:=f) (p:=16) (by omega) (by omega);have e3:=zM (a:=i+e*2^8+f*2^16) (m:=h) (p:=24) (by omega) (by omega);rw[show (2:Nat)^8=256 by decide]at e1 e2 e3;rw[show (2:Nat)^16=65536 by decide]at e2 e3;rw[show (2:Nat)^24=16777216 by decide]at e3;have f1:((e*256:Nat):Int)=(e:Int)*256:=WU ..;have f2:((f*65536:Nat):Int)=(f:Int)*65536:=WU ..;have f3:((h*16777216:Nat):Int)=(h:Int)*16777216:=WU ..;rw[f1]at e1;rw[f2]at e2;rw[f3]at e3;rw[e1,e2,e3];omega
theorem last4{bs:List Int}(h:¬bs.length<4):∃a b c d,bs=bs.take (bs.length-4)++[a,b,c,d]/\bs.drop (bs.length-4)=[a,b,c,d]:=by
 have f:(bs.drop (bs.length-4)).length=4:=by rw[VP];omega
 obtain⟨a,b,c,d,e⟩:∃a b c d,bs.drop (bs.length-4)=[a,b,c,d]:=by
  match hx:bs.drop (bs.length-4),f with
  | [a,b,c,d],_=>exact⟨a,b,c,d,rfl⟩
 exact⟨a,b,c,d,by rw[<-e,Wt],e⟩
section
variable {F L:List aE}{H:aD}{K:KE}
theorem G9{s:Int}(h0:0<=s)(a:s<4294967296) :
  [U8 (u8.wrap s),U8 (u8.wrap (Int.fdiv s (2^(min (Int.toNat 8) (u32.bits))))),U8 (u8.wrap (Int.fdiv s (2^(min (Int.toNat 16) (u32.bits))))),U8 (u8.wrap (Int.fdiv s (2^(min (Int.toNat 24) (u32.bits)))))]=(le4 s).map U8:=by
 obtain⟨n,rfl⟩:=YD h0;show [U8 (u8.wrap (n:Int)),U8 (u8.wrap (Int.fdiv (n:Int) 256)),U8 (u8.wrap (Int.fdiv (n:Int) 65536)),U8 (u8.wrap (Int.fdiv (n:Int) 16777216))]=_;rw[WT _ (by decide),WT _ (by decide),WT _ (by decide)];rw[show (n:Int)/256=((n/256:Nat):Int) by omega,show (n:Int)/65536=((n/65536:Nat):Int) by omega,show (n:Int)/16777216=((n/16777216:Nat):Int) by omega];rw[oV,oV,oV,oV];unfold le4;simp only[Wa,Yh,List.cons.injEq,Value.int.injEq,true_and,and_true];omega
theorem GB{a:KQ}{c:Nat}{bs:List Int}(h:aA H F)(D:∀H,aA H F->aP H a (bs.map U8))(hb:aH bs)(S:bs.length<=1099511627776)(P:bs.length<=c)
  (k1:∀J L p s,dW bs=(0,p)->aA s (slA 5 1 J p.length L (p.map U8)::F)->K (.tuple #[.slice J p.length L,.int .i64 0]) s)
  (k2:∀e s,e≠0->dW bs=(e,[])->aA s F->K (.tuple #[.slice none 0 0,.int .i64 e]) s) :
  CF 79 #[.slice a bs.length c] H K:=by
 refine OQ ?_;refine⟨λd=>?_,λd=>?_⟩
 .have G:bs.length<4:=by simp at d;omega
  exact k2 15 _ (by decide) (by unfold dW;rw[V1 G]) h
 .have i:¬bs.length<4:=by simp at d;omega
  have en:i64.wrap ((bs.length:Int)-4)=((bs.length-4:Nat):Int):=by rw[aK];omega
  rw[en,VD];have j:cq a 0 c 1=a:=sl_same (D _ h) (by intro d;have:=congrArg List.length d;simp at this;subst this;simp at i);rw[j];obtain⟨u,A,v,n,e1,e2⟩:=last4 i;obtain⟨p,C⟩:∃p,bs.take (bs.length-4)=p:=⟨_,rfl⟩;have M:p.length=bs.length-4:=by rw[<-C,VU];omega
  rw[C]at e1;have w:=(D _ h).subB (k:=bs.length-4) (c:=c) (by simpa using P);rw[<-List.map_drop,e2]at w;have q0:=w 0 _ rfl;have q1:=w 1 _ rfl;have q2:=w 2 _ rfl;have q3:=w 3 _ rfl;refine⟨⟨by omega,by omega,by omega⟩,⟨by omega,by omega,by omega⟩,⟨by omega,by omega⟩,_,_,q0.1,_,q0.2,⟨by omega,by omega⟩,_,_,q0.1,_,q1.2,by decide,⟨by omega,by omega⟩,_,_,q0.1,_,q2.2,by decide,⟨by omega,by omega⟩,_,_,q0.1,_,q3.2,by decide,?_⟩;rw[<-M];have t:∀H,aA H F->aP H a (p.map U8):=λH h=>by
   have:=(D H h).take (bs.length-4)
   rwa[<-List.map_take,C]at this
  refine h.al λb4 R h=>?_
  have N:=zK (c:=1) (parts:=[⟨a,c,p⟩]) (h.ce_rd 0 rfl) (λy B=>by
   rw[VE]at B;subst B;exact t _ h.tl) (by simp) (λy B=>by rw[VE]at B;subst B;dsimp only;omega)
  simp only[Wb,List.flatMap_nil,Wc]at N;refine⟨_,N,?_⟩;have b:∀x∈[u,A,v,n],0<=x/\x<256:=λx d=>hb x (by rw[e1];exact Yf _ d)
  have ba:=b u (by simp);have bb:=b A (by simp);have bc:=b v (by simp);have bd:=b n (by simp);rw[sum_code ba bb bc bd];obtain⟨s0,s1⟩:=zI p;have O:=le4_val s0 s1 ba bb bc bd;have m:dW bs=if eL p=bs then (0,p) else (14,[]):=by unfold dW;rw[V0 i,C]
  have f:eL p=bs↔le4 (kT p)=[u,A,v,n]:=by
   unfold eL
   constructor
   .intro e;rw[e1]at e;exact List.append_cancel_left e
   .intro e;rw[e];exact e1.symm
  refine⟨λd=>?_,λd=>?_⟩
  .have E:¬u+256*A+65536*v+16777216*n=kT p:=by simpa using d
   exact k2 14 _ (by decide) (by rw[m,V0];rw[f,O];exact E) h.tl
  .have I:u+256*A+65536*v+16777216*n=kT p:=by simpa using d
   refine zo h.tl t (by omega) λJ L Q h=>⟨_,_,_,rfl,k1 _ _ _ _ ?_ h⟩
   rw[m,V1];rw[f,O];exact I
theorem PW{b o c:Nat}{parts:List Fy}(h:aA H F)(Y:∀H,aA H F->aP H (some ⟨b,o,none⟩) (parts.map dV))(Z:∀H,aA H F->∀y∈parts,aP H y.a (y.bs.map U8))(hA:∀y∈parts,y.a=none\/∃b o,y.a=some ⟨b,o,none⟩)
  (hb:∀y∈parts,aH y.bs) (A:2<=parts.length) (hc:parts.length<=c) (hn:parts.length<=1000) (hl:(parts.flatMap Fy.bs).length<=1099511627776) (h7:0<(parts.flatMap Fy.bs).length)
  (k:∀a' c' H',aA H' (slA 5 1 a' (eL (parts.flatMap Fy.bs)).length c' ((eL (parts.flatMap Fy.bs)).map U8)::F)->K (.slice a' (eL (parts.flatMap Fy.bs)).length c') H') :
  CF 179 #[.slice (some ⟨b,o,none⟩) parts.length c] H K:=by
 refine cM 179 4380 ?_;have l5:∀y∈parts,y.bs.length<=1099511627776:=λy I=>by
  refine VO ?_ hl;obtain⟨s,t,rfl⟩:=List.append_of_mem I;simp only[W4,Wb,V3];omega
 have hq:=zK (c:=c) (Y _ h) (Z _ h) (by omega) l5;refine⟨_,hq,?_⟩;obtain⟨bs,f⟩:∃bs,parts.flatMap Fy.bs=bs:=⟨_,rfl⟩;rw[f]at hl h7 k hq ⊢;obtain⟨s0,s1⟩:=zI bs;have h5:aH bs:=by
  rw[<-f];intro x j;obtain⟨y,I,j⟩:=Yi.1 j;exact hb y I x j
 refine .mk λw hw=>?_
 subst hw;have Q:∀l:List Fy,Lib.lens (l.map λy=>Lib.bytesOf y.bs)=(l.flatMap Fy.bs).length:=by
  intro l
  induction l with
  | nil=>rfl
  | cons y r ih=>
   simp only[Lib.lens,Wa,WW,Wb,V3]at ih ⊢;rw[ih];simp[Lib.bytesOf]
 have E:∀l:List Fy,Lib.join (l.map λy=>Lib.bytesOf y.bs) []=Lib.bytesOf (l.flatMap Fy.bs):=by
  intro l;have:∀l:List Fy,(l.map λy=>Lib.bytesOf y.bs).flatten=Lib.bytesOf (l.flatMap Fy.bs):=by
   intro l
   induction l with
   | nil=>rfl
   | cons y r ih=>simp only[Wa,List.flatten_cons,Wb,ih];simp[Lib.bytesOf]
  cases l with
  | nil=>rfl
  | cons y r=>
   rw[Wa,Lib.join_cons];unfold Lib.joinTail;simp only[Wh,List.map_id'];rw[this r];simp[Lib.bytesOf]
 have j2:Lib.PartsAt w ⟨b,o,none⟩ (parts.map dV) (parts.map λy=>Lib.bytesOf y.bs):=by
  refine⟨by simp,λi v hv=>?_,λi v l hv O=>?_⟩
  .rw [iQ,cell?_cellAt];exact (Y _ h i v (by rw[fO];exact hv)).2
  .rw [List.getElem?_map,Option.map_eq_some_iff]at hv O;obtain⟨y,I,rfl⟩:=hv;obtain⟨y',N,rfl⟩:=O;rw[I]at N
   cases N
   have hm:y∈parts:=Wg I;have D:=Z _ h y hm;refine⟨y.a,y.c,by simp[Lib.bytesOf],λh6=>?_,λa' B i x j=>?_⟩
   .rw [h6]at D;have:=oh D;simp at this;simp[Lib.bytesOf,this]
   .have M:i<y.bs.length:=by
     have:=(List.getElem?_eq_some_iff.1 j).1;simpa[Lib.bytesOf] using this
    have n:=D.at M;rw[B]at n
    rcases hA y hm with e|⟨b',o',e⟩
    .rw [B]at e;cases e
    .rw [B]at e
     cases e
     rw[iQ,cell?_cellAt];simp only[aU,aS]at n;rw[n.2];simp only[Lib.bytesOf,List.getElem?_map,List.getElem?_eq_getElem M,We,Option.some.injEq]at j;rw[<-j,qr (hb y hm)]
 have hs:Lib.HoldsBytes w (.slice none 0 0) []:=⟨none,0,rfl,λ_=>rfl,λa Y=>by cases Y⟩
 have G:=Any.bytes_Join_many Tryz.joinB b o parts.length c (parts.map dV) (parts.map λy=>Lib.bytesOf y.bs) (.slice none 0 0) [] w (by simp) A j2 hc hs (by omega) (by rw[Q,f];simp;omega)
 refine jj G ?_;rintro e w' ⟨v',rfl,R,U⟩;refine⟨_,rfl,tA U,?_⟩;rw[E,f]at R;obtain⟨g,cap,u,rfl,j3,T,r0,r9,l0,J,P,l6⟩:=R;have W:(Lib.bytesOf bs).length=bs.length:=by simp[Lib.bytesOf]
 rw[W]at T J ⊢;have hz:u.take bs.length=bs:=by
  have h9:(u.take bs.length).length=bs.length:=by rw[VU];omega
  refine W3 h9 λi n A=>?_
  have e1:=congrArg (λl:List UInt8=>l[i]?) J
  simp only[Lib.bytesOf,List.getElem?_map,List.getElem?_eq_getElem n,List.getElem?_eq_getElem A,We,Option.some.injEq]at e1;have b1:=qr (xs:=u.take bs.length) (λx j=>l0 x (Ww j)) i n
  have b2:=qr h5 i A;rw[<-b1,<-b2,e1]
 have S:∃(C:Array Value) (V:TypeId) (fr:Nat×Nat),w'.heap[g]?=some (.cells C V fr):=by
  have h0:=P 0 (by omega);unfold World.cell? at h0
  split at h0
  .rename_i C V fr hh;exact⟨C,V,fr,hh⟩
  .cases h0
 obtain⟨C,V,fr,S⟩:=S;have d:∀i,i<cap->C.toList[i]?=some (U8 (u.getD i 0)):=λi hi=>by
  have h0:=P i hi;rw[cell?_cellAt]at h0;unfold aL at h0;rw[S]at h0;simpa using h0
 have r8:cap<=C.toList.length:=by
  rcases Yx cap with h0|h0
  .omega
  .have:=(List.getElem?_eq_some_iff.1 (d (cap-1) (by omega))).1;omega
 have j1:C.toList=bs.map U8++C.toList.drop bs.length:=by
  rw[<-Wt bs.length C.toList];congr 1
  .refine WO λi=>?_
   rcases VV i bs.length with hi|hi
   .rw [List.getElem?_take_of_lt hi,d i (by omega),List.getElem?_map,List.getElem?_eq_getElem hi,We];have:u.getD i 0=bs[i]:=by
     have n:i<(u.take bs.length).length:=by rw[hz];exact hi
     have A:(u.take bs.length)[i]=bs[i]:=by simp only[hz]
     rw[<-A,List.getElem_take];have h3:i<u.length:=by omega
     rw[List.getD,List.getElem?_eq_getElem h3];rfl
    rw[this]
   .rw [List.getElem?_eq_none (by rw[VU];omega),List.getElem?_eq_none (by simpa using hi)]
  .rw [Wt]
 have L:aA w'.heap (slA 5 1 (some ⟨g,0,none⟩) bs.length cap (bs.map U8)::F):=by
  refine (h.new (rF U) j3 S).mono λp Z=>⟨by simp,.inr ⟨g,[],C.toList.drop bs.length,V,fr,rfl,T,by rw[VP];omega,λ_ i n A hh=>?_,?_⟩⟩
  .have:=l6 i (by simp at A;omega);unfold World.frozen? at this;rw[S]at this;simp only[Wl,V8]at this;omega
  .rw [Wh,<-j1];exact Z
 refine⟨_,_,_,rfl,by decide,by decide,by decide,?_⟩;have h8:=G9 s0 s1;refine L.al λb1 H3 h=>?_
 refine aA.append (m:=4) (ws:=(le4 (kT bs)).map U8) rW h 1 rfl (h.ce_rd 0 (by rw[<-h8];rfl)) (by simp[le4]) (nD (λ_=>rfl) _) (by omega) (by omega) λa3 c3 H4 h4=>⟨_,_,_,rfl,?_⟩
 have:=k a3 c3 H4;unfold eL at this;rw[V3,show (le4 (kT bs)).length=4 from rfl]at this;refine this ?_;rw[VT];exact h4.tl
end
structure Rc where
 kind:Int
 data:List Int
 deriving DecidableEq
def gz(r:Rc):List Int:=eL (bR r.kind.toNat++r.data)
def bN(r:Rc):List Int:=bR (gz r).length++gz r
structure Rc.ok(r:Rc):Prop where
 k0:0<=r.kind
 k1:r.kind<=255
 len:r.data.length<=262144
 by':aH r.data
def kE(b:List Int):Option Rc:=if (dW b).1≠0 then none else match rdU 0 0 (dW b).2 with
 | .ok kind j=>if 255<kind\/262144<(dW b).2.length-j then none else some ⟨kind,(dW b).2.drop j⟩
 | _=>none
def iS(b:List Int):Option (Rc×Nat):=match rdU 0 0 b with
 | .ok n k=>if b.length<k+n then none else (kE ((b.drop k).take n)).map λr=>(r,k+n)
 | _=>none
def nL:Nat->List Int->List Rc×Nat
 | 0,_=>([],0)
 | f+1,b=>match iS b with
  | none=>([],0)
  | some (r,n)=>(r::(nL f (b.drop n)).1,n+(nL f (b.drop n)).2)
def eD(b:List Int):List Rc×Nat:=nL b.length b
theorem wB{b:List Int}(hb:aH b):aH (dW b).2:=by
 unfold dW
 split
 .intro x a;cases a
 .split
  .exact tR _ hb
  .intro x a;cases a
theorem zN{u:Nat}(h:u<=255):(bR u).length<=2:=by
 by_cases h1:u<128
 .rw [lH h1];simp
 .rw [nH h1,lH (by omega)];simp
theorem GD{b:List Int}{r:Rc}(hb:aH b)(h:kE b=some r):b=gz r/\r.ok:=by
 unfold kE at h
 split at h
 .cases h
 .rename_i h0;have a:=wB hb;have h0:(dW b).1=0:=Classical.not_not.1 h0;obtain⟨p,f⟩:∃p,dW b=(0,p):=⟨(dW b).2,by rw[<-h0]⟩;rw[f]at a h;dsimp only at a h;have c:=zL f
  split at h
  .rename_i kind j i
   split at h
   .cases h
   .rename_i k
    cases h
    obtain⟨w,d,n,m,e,_,_,_⟩:=wj a i (by omega);simp only[Nat.mul_zero,Nat.pow_zero,Wz,VQ]at d;subst d;rw[Nat.sub_zero]at e;refine⟨?_,⟨by dsimp only;omega,by dsimp only;omega,by simp only[VP];omega,oY _ a⟩⟩;unfold gz;dsimp only;rw[VD,e,Wt];exact c
  .cases h
theorem PX{r:Rc}(h:r.ok):kE (gz r)=some r:=by
 have h0:=h.k0;have b:=h.k1;have c:=h.len;unfold kE gz;rw[G8,V0 (by simp)];dsimp only;rw[wk r.data (by omega) (by omega) (λa=>V2 a (by omega))]
 simp only[Nat.mul_zero,Nat.pow_zero,Wz,VQ];rw[V0,Yj,Yy h0];rw[V3];omega
theorem tZ{r:Rc}(h:r.ok):(gz r).length<=262150/\5<=(gz r).length:=by
 have h0:=h.k0;have a:=h.k1;have b:=h.len;unfold gz;rw[rY,V3];have:=zN (u:=r.kind.toNat) (by omega);have:=wi r.kind.toNat
 omega
theorem PY{r:Rc}(h:r.ok):aH (gz r):=G7 (tQ (oU _) h.by')
theorem rZ{r:Rc}(h:r.ok):aH (bN r):=tQ (oU _) (PY h)
theorem zO{u:Nat}(h:u<=262150):(bR u).length<=3:=by
 by_cases h1:u<128
 .rw [lH h1];simp
 .rw [nH h1]
  by_cases h2:u/128<128
  .rw [lH h2];simp
  .rw [nH h2,lH (by omega)];simp
theorem qy{r:Rc}(h:r.ok):(bN r).length<=262153/\6<=(bN r).length/\(bN r).length<=r.data.length+9:=by
 have a:=tZ h;have d:=zO a.1;have f:=wi (gz r).length;have e:=h.k1;have b:=zN (u:=r.kind.toNat) (by omega);have c:(gz r).length=(bR r.kind.toNat).length+r.data.length+4:=by unfold gz;rw[rY,V3]
 unfold bN;rw[V3];omega
theorem PZ{b:List Int}(hb:aH b)(h:262150<b.length):kE b=none:=by
 cases hr:kE b with
 | none=>rfl
 | some r=>
  obtain⟨a,c⟩:=GD hb hr;have:=tZ c;rw[a]at h;omega
theorem zP{b:List Int}{r:Rc}{n:Nat}(hb:aH b)(h:iS b=some (r,n)):r.ok/\n<=b.length/\b.take n=bN r/\0<n:=by
 unfold iS at h
 split at h
 .rename_i m k i;obtain⟨w,c,x,v,d,_,_,_⟩:=wj hb i (by omega);simp only[Nat.mul_zero,Nat.pow_zero,Wz,VQ]at c;subst c;rw[Nat.sub_zero]at d
  split at h
  .cases h
  .rename_i t;rw[Option.map_eq_some_iff]at h;obtain⟨u,f,s⟩:=h
   cases s
   obtain⟨e,j⟩:=GD (tR _ (oY _ hb)) f;refine⟨j,by omega,?_,by omega⟩;have a:(gz r).length=m:=by rw[<-e,VU,VP];omega
   unfold bN;rw[a,d,<-e,<-List.take_add]
 .cases h
theorem oneM_rec{r:Rc}(h:r.ok)(rest:List Int):iS (bN r++rest)=some (r,(bN r).length):=by
 have b:=tZ h;unfold iS bN;rw[VI,wk (gz r++rest) (by omega) (by omega) (λa=>V2 a (by omega))]
 simp only[Nat.mul_zero,Nat.pow_zero,Wz,VQ];rw[V0 (by simp only[V3];omega),Yj,List.take_left,PX h];simp
theorem Qa{r:Rc}(h:r.ok){k:Nat}(b:k<(bN r).length):iS ((bN r).take k)=none:=by
 have c:=tZ h;have e:=zO c.1;unfold bN at b ⊢;rw[V3]at b
 rcases VV k (bR (gz r).length).length with a|a
 .rw [Yr (by omega)];unfold iS;rw[rdU_part a (by omega)]
 .rw [List.take_append,VZ a];unfold iS;rw[wk _ (by omega) (by omega) (λd=>V2 d (by omega))]
  simp only[Nat.mul_zero,Nat.pow_zero,Wz,VQ];rw[V1];simp only[V3,VU];omega
theorem GE:∀{f:Nat} {b:List Int},aH b->b.length<=f->nL f b=eD b:=by
 have:∀{n f g:Nat} {b:List Int},aH b->b.length<=n->b.length<=f->b.length<=g->nL f b=nL g b:=by
  intro n
  induction n with
  | zero=>
   intro f g b hb a _ _;have:b=[]:=WH.1 (by omega);subst this
   cases f <;> cases g <;> rfl
  | succ n ih=>
   intro f g b hb a c d
   cases b with
   | nil=>cases f <;> cases g <;> rfl
   | cons x b=>
    cases f with
    | zero=>simp at c
    | succ f=>
     cases g with
     | zero=>simp at d
     | succ g=>
      simp only[nL]
      cases h:iS (x::b) with
      | none=>rfl
      | some p=>
       obtain⟨r,m⟩:=p;have e:=(zP hb h).2.2.2;have hd:((x::b).drop m).length<=(x::b).length-1:=by rw[VP];omega
       simp only[V9]at a c d hd;have:=ih (f:=f) (g:=g) (b:=(x::b).drop m) (oY _ hb) (by omega) (by omega) (by omega);dsimp only;rw[this]
 intro f b hb h;exact this (n:=b.length) hb (VA _) h (VA _)
theorem zQ{b:List Int}(h:iS b=none):eD b=([],0):=by
 unfold eD
 cases b with
 | nil=>rfl
 | cons x b=>simp only[V9,nL,h]
theorem zS{b:List Int}{r:Rc}{n:Nat}(hb:aH b)(h:iS b=some (r,n)):eD b=(r::(eD (b.drop n)).1,n+(eD (b.drop n)).2):=by
 have a:=(zP hb h).2.2.2;have e:eD b=nL (b.length+1) b:=(GE hb (by omega)).symm;rw[e];simp only[nL,h];rw[GE (oY _ hb) (by rw[VP];omega)]
theorem Qb{r:Rc}(h:r.ok){rest:List Int}(a:aH rest):eD (bN r++rest)=(r::(eD rest).1,(bN r).length+(eD rest).2):=by
 rw[zS (tQ (rZ h) a) (oneM_rec h rest),Yj]
theorem Qc{rs:List Rc}(h:∀r∈rs,r.ok):aH (rs.flatMap bN):=by
 intro x a;obtain⟨r,b,a⟩:=Yi.1 a;exact rZ (h r b) x a
theorem zT:∀{rs:List Rc} {t:List Int},(∀r∈rs,r.ok)->aH t->iS t=none->eD (rs.flatMap bN++t)=(rs,(rs.flatMap bN).length)
 | [],t,_,_,ht=>by simp[zQ ht]
 | r::rs,t,h,hb,ht=>by
  have b:=h r VM;have a:∀x∈rs,x.ok:=λx c=>h x (VL _ c)
  rw[Wb,VI,Qb b (tQ (Qc a) hb),zT a hb ht];simp
theorem Qd{rs:List Rc}(h:∀r∈rs,r.ok):eD (rs.flatMap bN)=(rs,(rs.flatMap bN).length):=by
 have:=zT (t:=[]) h (λx a=>by cases a) rfl
 rwa[Wc]at this
theorem zU:∀{n:Nat} {b:List Int},b.length<=n->aH b->(∀r∈(eD b).1,r.ok)/\(eD b).2<=b.length/\(eD b).1.flatMap bN=b.take (eD b).2
 | n,b,hn,hb=>by
  cases h:iS b with
  | none=>rw[zQ h];exact⟨λr c=>(by cases c),VX _,rfl⟩
  | some p=>
   obtain⟨r,m⟩:=p;obtain⟨e,f,d,i⟩:=zP hb h;rw[zS hb h]
   cases n with
   | zero=>omega
   | succ n=>
    obtain⟨i1,i2,i3⟩:=zU (n:=n) (b:=b.drop m) (by rw[VP];omega) (oY _ hb);rw[VP]at i2;refine⟨λx a=>?_,by dsimp only;omega,?_⟩
    .rcases VJ.1 a with rfl|a
     .exact e
     .exact i1 x a
    .rw [Wb,i3,<-d,List.take_add]
theorem GL{b:List Int}(hb:aH b) :
  ((∃e,e≠0/\aY 262150 ⟨0,b⟩=([],⟨e,b⟩))/\iS b=none)\/
  ∃k n,(aY 262150 ⟨0,b⟩)=((b.drop k).take n,⟨0,b.drop (k+n)⟩)/\k+n<=b.length/\0<k/\iS b=(kE ((b.drop k).take n)).map λr=>(r,k+n):=by
 unfold aY iS;simp only[ne_eq,not_true_eq_false,if_false]
 cases hr:rdU 0 0 b with
 | form=>exact .inl ⟨⟨10,by decide,rfl⟩,rfl⟩
 | ended=>exact .inl ⟨⟨15,by decide,rfl⟩,rfl⟩
 | ok n k=>
  have a:=qq hb hr;dsimp only
  by_cases h1:(max 262150 0:Int)<n
  .rw [V1 h1];refine .inl ⟨⟨17,by decide,rfl⟩,?_⟩
   split
   .rfl
   .rw [PZ (tR _ (oY _ hb)) (by rw[VU,VP];omega)];rfl
  .rw [V0 h1]
   by_cases h2:b.length<k+n
   .rw [V1 h2,V1 h2];exact .inl ⟨⟨15,by decide,rfl⟩,rfl⟩
   .rw [V0 h2,V0 h2];exact .inr ⟨k,n,rfl,by omega,a.1,rfl⟩
theorem Qe{b:List Int}(hb:aH b)(h0:(dW b).1=0) :
  ((∃e,e≠0/\bY 255 ⟨0,(dW b).2⟩=(0,⟨e,(dW b).2⟩))/\kE b=none)\/
  (∃kind j:Nat,bY 255 ⟨0,(dW b).2⟩=((kind:Int),⟨0,(dW b).2.drop j⟩)/\j<=(dW b).2.length/\kE b=if 262144<(dW b).2.length-j then none else some ⟨kind,(dW b).2.drop j⟩):=by
 have a:=wB hb;unfold kE bY;obtain⟨p,d⟩:∃p,dW b=(0,p):=⟨(dW b).2,by rw[<-h0]⟩;rw[d]at a ⊢;dsimp only at a ⊢;simp only[ne_eq,not_true_eq_false,if_false]
 cases hr:rdU 0 0 p with
 | form=>exact .inl ⟨⟨10,by decide,rfl⟩,rfl⟩
 | ended=>exact .inl ⟨⟨15,by decide,rfl⟩,rfl⟩
 | ok n k=>
  have c:=qq a hr;dsimp only
  by_cases h1:(max 255 0:Int)<n
  .rw [V1 h1,V1 (Or.inl (by omega))];exact .inl ⟨⟨17,by decide,rfl⟩,rfl⟩
  .rw [V0 h1];refine .inr ⟨n,k,rfl,c.2.1,?_⟩
   by_cases h2:262144<p.length-k
   .rw [V1 (Or.inr h2),V1 h2]
   .rw [nO,V0 h2]
structure Ry where
 kind:Int
 y:Fy
def Ry.rc(r:Ry):Rc:=⟨r.kind,r.y.bs⟩
abbrev fY(r:Ry):Os:=[.int .i64 r.kind,dV r.y]
theorem ph(r:Ry):(fY r).length=2:=rfl
def rowsR(rs:List Ry):aE:=star (rs.map λr=>rowY r.y)
theorem GM(a b:List Ry):rowsR (a++b)=rowsR a*rowsR b:=by unfold rowsR;rw[VT,tq]
theorem Qf(r:Ry):rowsR [r]=rowY r.y:=by unfold rowsR;simp only[Wa,Yh,star];rw[vG]
theorem zV:∀{rs:List Ry} {H:aD} {F:List aE},aA H (rowsR rs::F)->∀r∈rs,aP H r.y.a (r.y.bs.map U8)
 | [],_,_,_,r,b=>by cases b
 | x::rs,H,F,h,r,b=>by
  have c:aA H (rowY x.y::rowsR rs::F):=gu.1 h
  rcases VJ.1 b with rfl|b
  .exact c.sl_rd 0 rfl
  .exact zV c.tl r b
theorem slb54:SlT Tryz.prog 127 234 2 32:=iP (by kernel_rfl)
section
variable {F L:List aE}{H:aD}{K:KE}
theorem Qg{a:KQ}{c:Nat}{bs:List Int}(h:aA H L)(i:∀H,aA H L->aP H a (bs.map U8))(x:bs.length<=1099511627776)
  (k:∀e f d,aA d (slA 5 1 e bs.length f (bs.map U8)::L)->K (.slice e bs.length f) d):CF 300 #[.slice a bs.length c] H K:=by
 refine cM 300 476 ⟨λn=>?_,λn=>?_⟩
 .have:a=none:=by simpa using n
  subst this;have u:=oh (i H h);have:bs=[]:=by simpa using u
  subst this;exact k none 0 H (h.sl_nil 5 1)
 .refine h.al λb w h=>?_
  have t:=i _ h.tl;have s:=aA.sl_pt (cs:=[]) h 1 0 rfl;refine aA.append (m:=bs.length) rW s 0 rfl t (by simp) (nD (λ_=>rfl) _) (by omega) (by omega) λe f d v=>⟨_,_,_,rfl,?_⟩
  have j:aA d (slA 5 1 e (0+bs.length) f ([]++bs.map U8)::L):=v;rw[VQ,Wh]at j;have:=k e f d j;rw[<-VQ bs.length]at this;exact this
theorem Qh{a:KQ}{c:Nat}{bs:List Int}(h:aA H F)(B:∀H,aA H F->aP H a (bs.map U8))(hb:aH bs)(I:bs.length<=1099511627776)(L:bs.length<=c)
  (k1:∀(r:Ry) m,kE bs=some r.rc->aA m (rowY r.y::F)->K (.tuple #[.agg #[.int .i64 r.kind,dV r.y],.bool true]) m)
  (k2:∀m,kE bs=none->aA m F->K (.tuple #[.agg #[.int .i64 0,.slice none 0 0],.bool false]) m) :
  CF 259 #[.slice a bs.length c] H K:=by
 refine O8 ?_;refine h.al λb N h=>?_
 refine GB h (λH h=>B H h.tl) hb I L (λa1 c1 p C i h=>?_) λe C t i h=>?_
 .refine⟨_,_,_,_,rfl,(λu=>by cases u),λ_=>?_⟩
  have J:p.length<=bs.length:=by
   have:=congrArg List.length (zL i);rw[rY]at this;omega
  have v:aH p:=by have:=wB hb;rwa[i]at this
  have d:=Qe hb (by rw[i]);rw[i]at d;dsimp only at d;refine rR h (λH h=>h.sl_rd 0 rfl) (by omega) λrb D h=>⟨_,rfl,?_⟩
  refine tP h v (by dsimp only;omega) (by unfold aF;omega) λM h=>⟨_,rfl,_,mA h,_,λ_=>oW h,λf=>?_,λf=>?_⟩
  .refine h.st 2 rfl rfl λx h=>⟨_,_,_,_,h.q 2,k2 _ ?_ h.tl.tl.tl⟩
   rcases d with ⟨_,A⟩|⟨kind,j,n,E,s⟩
   .exact A
   .rw [s];rw[n]at f;simp only[VP,decide_true,Bool.not_true,WY,V6]at f;rw[pO]
  .rcases d with ⟨⟨e,t,n⟩,_⟩|⟨kind,j,n,E,s⟩
   .rw [n]at f;simp[t]at f
   .rw [n]at f h ⊢;dsimp only at h ⊢;simp only[VP,decide_true,Bool.not_true,WY,V8]at f;rw[nO]at s;refine⟨_,oW h,?_⟩;dsimp only;have G:i64.wrap ((p.length:Int)-((p.drop j).length:Int))=(j:Nat):=by
     rw[VP,aK];omega
    have w:=h.sl_nc 1 rfl;rw[G,VD];refine⟨⟨by omega,by omega,by omega⟩,?_⟩;rw[show p.length-j=(p.drop j).length by rw[VP]];refine Qg h (λH h=>by
     have:=(h.sl_rd 1 rfl).subB (k:=j) (c:=c1) (by simpa using w)
     rwa[<-List.map_drop]at this) (by rw[VP];omega) λa5 c5 x h=>⟨_,_,_,rfl,?_⟩
    refine h.st 3 rfl rfl λO h=>⟨_,_,_,_,h.q 3,?_⟩
    refine k1 ⟨kind,⟨a5,c5,p.drop j⟩⟩ _ s ?_;exact h.o [0] 4
 .refine⟨_,_,_,_,rfl,λ_=>?_,λu=>by simp[t]at u⟩
  refine h.st 0 rfl rfl λD h=>⟨_,_,_,_,h.q 0,k2 _ ?_ h.tl⟩
  unfold kE;rw[i,V1 t]
end
section
variable {F L:List aE}{H:aD}{K:KE}
theorem Qi{a:KQ}{c:Nat}{bs:List Int}(h:aA H F)(Q:∀H,aA H F->aP H a (bs.map U8))(hb:aH bs)(Z:bs.length<=1099511627776)
  (k:∀(rs:List Ry) a' c' f,rs.map Ry.rc=(eD bs).1->aA f (slA 234 2 a' rs.length c' (flat fY rs)::rowsR rs::F)->K (.tuple #[.slice a' rs.length c',.int .i64 (eD bs).2]) f) :
  CF 194 #[.slice a bs.length c] H K:=by
 refine cN 194 0x11112a621399512139912139914c [[(4,sS),(5,sI)],[(4,sS),(5,sI)]] ?_;refine rR h Q Z λrb W h=>⟨_,rfl,λO R=>?_⟩
 have fin:∀la lc (rs:List Ry) (w:Nat) s t f,iS t=none->eD bs=(rs.map Ry.rc++(eD t).1,w+(eD t).2)->aA f (crdA rb s::slA 234 2 la rs.length lc (flat fY rs)::rowsR rs::F)->O la rs.length lc w f:=by
  intro la lc rs w s t f C i h';refine R _ _ _ _ _ ?_;rw[zQ C,Wc,WJ]at i;have:=k rs la lc f (by rw[i]) h'.tl
  rwa[i]at this
 refine⟨λla M lc b f=>∃(rs:List Ry) (w:Nat),M=rs.length/\b=w/\w<=bs.length/\rs.length<=w/\eD bs=(rs.map Ry.rc++(eD (bs.drop w)).1,w+(eD (bs.drop w)).2)/\
   aA f (crdA rb ⟨0,bs.drop w⟩::slA 234 2 la rs.length lc (flat fY rs)::rowsR rs::F),λ_ _ _ b _=>bs.length-b.toNat,⟨[],0,rfl,rfl,VX _,VX _,by simp,?_⟩,?_⟩
 .have N:aA W (rowsR []::crdA rb ⟨0,bs⟩::F):=zv.2 h;have J:=(N.sl_nil 234 2).o [2,0,1] 3;exact J
 rintro la M lc b H2 ⟨rs,w,rfl,rfl,hw,U,i,h⟩;have d:aH (bs.drop w):=oY _ hb;refine⟨_,oW h,λj=>?_,λj=>?_⟩
 .refine nJ h d (by simp only[VP];omega) (by unfold aF;omega) λH3 h=>⟨_,rfl,_,mA h,λj=>?_,λj=>?_⟩
  .rcases GL d with ⟨⟨e,x,m⟩,C⟩|⟨kk,n,L,B,E,v⟩
   .rw [m]at h;exact fin _ _ _ _ _ _ _ C i h
   .rw [L]at j;simp at j
  .rcases GL d with ⟨⟨e,x,m⟩,C⟩|⟨kk,n,L,B,E,v⟩
   .rw [m]at j;simp[x]at j
   .rw [L]at h ⊢;dsimp only at h ⊢;obtain⟨t,u⟩:∃t,((bs.drop w).drop kk).take n=t:=⟨_,rfl⟩;rw[u]at v ⊢;have A:aH t:=by rw[<-u];exact tR _ (oY _ d)
    have h0:t.length<=bs.length:=by rw[<-u];simp only[VU,VP];omega
    rw[VP]at B;refine wo A h λa4 c4 H4 h=>⟨_,_,_,rfl,?_⟩
    have G:=h.sl_nc 0 rfl;refine Qh h (λH h=>h.sl_rd 0 rfl) A (by omega) G (λr P I h=>⟨_,_,_,_,_,rfl,?_⟩) λP I h=>⟨_,_,_,_,_,rfl,?_⟩
    .refine h.al λb6 Y h=>?_
     refine h.st 0 rfl rfl λS h=>⟨(λD=>by cases D),λ_=>⟨_,_,_,_,h.q 0,?_⟩⟩
     rw[I,We]at v;rw[Ys]at h;rintro _ _ rfl rfl;refine h.append1 slb54 4 rfl (by rfl) (by rfl) (by omega) (by omega) λa8 c8 V h=>⟨_,_,_,rfl,?_⟩
     have h:=h.o [3,4,5,1] 6;refine⟨_,oW h,?_⟩;have e1:i64.wrap ((bs.length:Int)-((bs.drop (w+(kk+n))).length:Int))=((w+(kk+n):Nat):Int):=by
      rw[VP,aK];omega
     dsimp only
     conv=>whnf
     rw[e1];refine⟨⟨rs++[r],w+(kk+n),by simp,rfl,by omega,by rw[V3,Wo];omega,?_,?_⟩,by simp only[VD];omega⟩
     .rw [i,zS d v,Ys];simp[Ws]
     .rw [GM,Qf,dR,ny,V3,Wo];have N:=h.o [0,1,2,3] 4;have J:aA V (slA 234 2 a8 (rs.length+1) c8 (flat fY rs++fY r)::crdA rb ⟨0,bs.drop (w+(kk+n))⟩::rowsR rs::rowY r.y::F):=h.o [1,0,2,3] 4;have T:=J.o [2,3,1,0] 4;have h5:=gu.2 T;exact h5.o [1,2,0] 3
    .refine h.al λb6 Y h=>?_
     refine h.st 0 rfl rfl λS h=>⟨λ_=>?_,(λD=>by cases D)⟩
     rw[I,Option.map_none]at v;exact fin _ _ _ _ _ _ _ v i (h.o [2,3,4] 5)
 .have hd:bs.drop w=[]:=by
   simp at j;exact List.drop_eq_nil_of_le (by omega)
  exact fin _ _ _ _ _ _ _ (by rw[hd];rfl) i h
end
def iz(kind:Int)(n:Nat):Int:=if kind<0\/255<kind then 11 else if 262144<n then 17 else 0
theorem wC{kind:Int}{bs:List Int}(hb:aH bs)(h:iz kind bs.length=0):(⟨kind,bs⟩:Rc).ok:=by
 unfold iz at h
 split at h
 .cases h
 .split at h
  .cases h
  .exact⟨by dsimp only;omega,by dsimp only;omega,by dsimp only;omega,hb⟩
theorem Qj{r:Rc}(h:r.ok):iz r.kind r.data.length=0:=by
 have:=h.k0;have:=h.k1;have:=h.len;unfold iz;rw[nO,nO]
section
variable {F L:List aE}{H:aD}{K:KE}
theorem ua{e sz n c:Nat}{a:KQ}{cs:Os}(h:aA H (slA e sz a n c cs::F)):a=none\/∃b o,a=some ⟨b,o,none⟩:=by
 rcases (kz (F:=star F) h).2 with ⟨d,_⟩|⟨b,pre,post,f,fr,d,_⟩
 .exact .inl d
 .exact .inr ⟨_,_,d⟩
theorem Qk{kind:Int}{a:KQ}{c:Nat}{bs:List Int}(h:aA H F)(G:∀H,aA H F->aP H a (bs.map U8))(L:a=none\/∃b o,a=some ⟨b,o,none⟩)(hb:aH bs)(U:bs.length<=1099511627776)
  (k1:∀C D k,iz kind bs.length=0->aA k (slA 5 1 C (bN ⟨kind,bs⟩).length D ((bN ⟨kind,bs⟩).map U8)::F)->K (.tuple #[.slice C (bN ⟨kind,bs⟩).length D,.int .i64 0]) k)
  (k2:∀k,iz kind bs.length≠0->aA k F->K (.tuple #[.slice none 0 0,.int .i64 (iz kind bs.length)]) k) :
  CF 190 #[.agg #[.int .i64 kind,.slice a bs.length c]] H K:=by
 refine cM 190 122140 ?_;refine h.al λb S h=>⟨_,h.r 0,_,λ_=>h.r 0,λB=>?_,λB=>?_⟩
 .have n:kind<0\/255<kind:=by simpa using B
  have e:iz kind bs.length=11:=by unfold iz;rw[V1 n]
  have:=k2 _ (by rw[e];decide) h.tl
  rwa[e]at this
 .have n:¬(kind<0\/255<kind):=by simp at B;omega
  refine⟨_,_,_,h.r 0,λi=>?_,λi=>?_⟩
  .have s:262144<bs.length:=by simp at i;omega
   have e:iz kind bs.length=17:=by unfold iz;rw[V0 n,V1 s]
   have:=k2 _ (by rw[e];decide) h.tl
   rwa[e]at this
  .have t:¬262144<bs.length:=by simp at i;omega
   have e:iz kind bs.length=0:=by unfold iz;rw[V0 n,V0 t]
   have w:=wC hb e;have v:=tZ w;obtain⟨u,E⟩:∃u:Nat,kind=u:=⟨kind.toNat,by omega⟩;refine⟨_,h.r 0,_,_,_,h.r 0,?_⟩;rw[u64w (x:=kind) (by omega) (by omega)];refine h.al λb1 P h=>⟨h.r 1,?_⟩
   refine zp (u:=u) h (λH h=>by rw[<-E];exact h.ce_rd 0 rfl) (by omega) λa3 c3 Q h=>⟨_,_,_,rfl,h.r 2,?_⟩
   refine h.al λb2 R h=>?_
   have A:=ua h.tl;have j:([⟨a3,c3,bR u⟩,⟨a,c,bs⟩]:List Fy).flatMap Fy.bs=bR u++bs:=by simp
   have V:=zN (u:=u) (by omega);have up:=wi u;refine PW (parts:=[⟨a3,c3,bR u⟩,⟨a,c,bs⟩]) h (λH h=>h.ce_rd 0 rfl) (λH h y d=>?_) (λy d=>?_) (λy d=>?_) (VA _) (VA _) (Yo rfl) (by rw[j,V3];omega) (by rw[j,V3];omega) λa5 c5 N h=>⟨_,_,_,rfl,?_⟩
   .simp only[VJ,W8,or_false]at d
    rcases d with rfl|rfl
    .exact h.sl_rd 1 rfl
    .exact G _ h.tl.tl.tl.tl
   .simp only[VJ,W8,or_false]at d
    rcases d with rfl|rfl
    .exact A
    .exact L
   .simp only[VJ,W8,or_false]at d
    rcases d with rfl|rfl
    .exact oU _
    .exact hb
   .rw [j]at h ⊢;have M:eL (bR u++bs)=gz ⟨kind,bs⟩:=by unfold gz;dsimp only;rw[E,VD]
    rw[M]at h ⊢
    conv=>whnf
    rw[u64w (x:=(((gz ⟨kind,bs⟩).length:Nat):Int)) (by omega) (by omega)];refine h.al λb3 T h=>?_
    refine zp (u:=(gz ⟨kind,bs⟩).length) h (λH h=>h.ce_rd 0 rfl) (by omega) λa7 c7 O h=>⟨_,_,_,rfl,?_⟩
    have I:=zO v.1;refine aA.append (m:=(gz ⟨kind,bs⟩).length) (ws:=(gz ⟨kind,bs⟩).map U8) rW h 0 rfl (h.sl_rd 2 rfl) (by simp) (nD (λ_=>rfl) _) (by omega) (by omega) λa8 c8 J h=>⟨_,_,_,rfl,?_⟩
    have f:=k1 a8 c8 J e;unfold bN at f;rw[V3,VT]at f;exact f (h.o [0] 7)
end
def fZ(rows:DR):Prop:=∀r∈rows,(0<=r.1/\r.1<=2147483647)/\0<=r.2/\r.2<256
theorem fZ.bytes{rows:DR}(h:fZ rows)(f:Int):aH (bytesOf f rows):=by
 intro x a;unfold bytesOf at a;obtain⟨r,b,rfl⟩:=VB.1 a;exact (h r (WA.1 b).1).2
theorem fZ.app{rows:DR}(h:fZ rows){f:Int}{bs:List Int}(d:0<=f/\f<=2147483647)(hb:aH bs):fZ (rows++bs.map λb=>(f,b)):=by
 intro r a
 rcases VR.1 a with a|a
 .exact h r a
 .obtain⟨b,c,rfl⟩:=VB.1 a;exact⟨d,hb b c⟩
theorem fZ.take{rows:DR}(h:fZ rows)(n:Nat):fZ (rows.take n):=λr a=>h r (Ww a)
theorem fZ.filter{rows:DR}(h:fZ rows)(p:Int×Int->Bool):fZ (rows.filter p):=λr a=>h r (WA.1 a).1
structure RL where
 most:Int
 seg:Int
 next:Nat
 syn:Nat
structure RL.ok(s:RL):Prop where
 seg:0<=s.seg/\s.seg<=2147483647
 most:64<=s.most/\s.most<=1048576
 next:s.next<=1099511627776
 syn:s.syn<=1099511627776
def reelA(rb db:Nat)(s:RL):aE:=cellsA rb [.pointer (some ⟨db,0,none⟩),.int .i64 s.most,.int .i64 s.seg,.int .i64 s.next,.int .i64 s.syn] 222
def pi(rows:DR)(s:RL)(n:Nat):Bool:=decide (0<(bytesOf s.seg rows).length)&&decide (s.most<(((bytesOf s.seg rows).length+n:Nat):Int))
def iA(rows:DR)(s:RL)(r:Rc):Int:=
 if iz r.kind r.data.length≠0 then iz r.kind r.data.length else if pi rows s (bN r).length=true/\s.seg=2147483647 then 20 else 0
def du(rows:DR)(s:RL)(r:Rc):RL:=if iA rows s r≠0 then s else { s with seg:=if pi rows s (bN r).length then s.seg+1 else s.seg,next:=s.next+1 }
def gA(rows:DR)(s:RL)(r:Rc):DR:=if iA rows s r≠0 then rows else rows++(bN r).map λb=>((du rows s r).seg,b)
def appN(rows:DR)(s:RL)(r:Rc):Int:=if iA rows s r≠0 then -1 else s.next
theorem zW{rows:DR}{s:RL}{r:Rc}(hb:aH r.data)(h:iA rows s r=0):r.ok:=by
 unfold iA at h
 split at h
 .rename_i a;exact V2 h a
 .rename_i a;obtain⟨k,d⟩:=r;exact wC hb (Classical.not_not.1 a)
theorem appS_seg{rows:DR}{s:RL}{r:Rc}(h:s.ok):0<=(du rows s r).seg/\(du rows s r).seg<=2147483647:=by
 have:=h.seg;unfold du
 split
 .exact this
 .rename_i a;unfold iA at a;dsimp only
  split
  .rename_i c
   split at a
   .rename_i b;exact V2 b a
   .split at a
    .exact V2 (by decide) a
    .rename_i d;have:s.seg≠2147483647:=λe=>d ⟨c,e⟩
     omega
  .exact this
section
variable {F L:List aE}{H:aD}{K:KE}{rb db pb:Nat}{rows:DR}{syn:Nat}{s:RL}
theorem GN{f:Int}(i:rows.length<=1099511627776)(h:aA H (diskX db rows syn::F))
  (k:∀a c e b,aA b (slA 5 1 a (bytesOf f rows).length c ((bytesOf f rows).map U8)::diskX db rows syn::F)->K (.tuple #[.slice a (bytesOf f rows).length c,.int .i64 e]) b) :
  CF 192 #[.pointer (some ⟨db,0,none⟩),.int .i64 f] H K:=by
 refine PC i h (λd b h=>?_) λd a c b h=>?_
 .have:=k none 0 23 b;rw[d]at this;exact this (h.sl_nil 5 1)
 .exact k a c 0 b h
theorem Ql{a:KQ}{c:Nat}{parts:List Fy}(h:aA H F)(G:∀H,aA H F->aP H a (parts.map dV))(I:∀H,aA H F->∀y∈parts,aP H y.a (y.bs.map U8))(M:parts.length<=1099511627776)(Q:(parts.flatMap Fy.bs).length<=262144)
  (k:∀v w n,aA n (slA 5 1 v (parts.flatMap Fy.bs).length w ((parts.flatMap Fy.bs).map U8)::F)->K (.slice v (parts.flatMap Fy.bs).length w) n) :
  CF 191 #[.slice a parts.length c] H K:=by
 refine cN 191 0x1121a6123992512139944c [[(3,sS),(8,sI)],[(3,sS)]] ?_;intro L C;have d:∀j,((parts.take j).flatMap Fy.bs).length<=(parts.flatMap Fy.bs).length:=by
  intro j
  conv=>rhs;rw[<-Wt j parts,W4,V3]
  omega
 refine⟨λB on A i n=>∃j:Nat,i=j/\j<=parts.length/\on=((parts.take j).flatMap Fy.bs).length/\aA n (slA 5 1 B ((parts.take j).flatMap Fy.bs).length A (((parts.take j).flatMap Fy.bs).map U8)::F),λ_ _ _ i _=>parts.length-i.toNat,⟨0,rfl,VX _,rfl,h.sl_nil 5 1⟩,?_⟩
 rintro B on A i N ⟨j,rfl,P,rfl,h⟩;have D:=d j;refine⟨λt=>?_,λt=>?_⟩
 .have b:j<parts.length:=by simpa using t
  have u:=(G _ h.tl).at b;have E:=I _ h.tl _ (VF b);have e:=zJ b;have f:=d (j+1);rw[e,V3]at f;refine⟨⟨by omega,by omega⟩,_,_,u.1,_,_,_,u.2,λJ=>?_,λ_=>?_⟩
  .have:=V4 J;omega
  .refine aA.append (m:=parts[j].bs.length) (ws:=parts[j].bs.map U8) rW h 0 rfl E (by simp) (nD (λ_=>rfl) _) (by omega) (by omega) λa8 c8 O h=>⟨_,_,_,rfl,?_⟩
   conv=>whnf
   rw[aK (x:=(j:Int)+1)];refine⟨⟨j+1,rfl,b,by rw[e,V3],?_⟩,by simp only[VD];omega⟩;rw[e,V3,VT];exact h
 .have s:j=parts.length:=by simp at t;omega
  subst s;rw[Wf]at h ⊢;refine C _ _ _ _ ?_;exact k _ _ _ h
theorem Qm(h:aA H (reelA rb db s::F)):bV Tryz.prog 93 #[.pointer (some ⟨rb,0,none⟩)] H (.int .i64 s.syn):=by
 unfold bV;refine cM 93 28 ?_;exact⟨_,h.r 0,rfl,rfl⟩
theorem GU(h:aA H (reelA rb db s::F)):bV Tryz.prog 97 #[.pointer (some ⟨rb,0,none⟩)] H (.int .i64 s.seg):=by
 unfold bV;refine cM 97 28 ?_;exact⟨_,h.r 0,rfl,rfl⟩
theorem GW(hs:0<=s.seg/\s.seg<=2147483647)(h:aA H (reelA rb db s::F))
  (k1:s.seg=2147483647->∀a,aA a (reelA rb db s::F)->K (.tuple #[.int .i64 (-1),.int .i64 20]) a)
  (k2:s.seg≠2147483647->∀a,aA a (reelA rb db { s with seg:=s.seg+1 }::F)->K (.tuple #[.int .i64 (s.seg+1),.int .i64 0]) a) :
  CF 95 #[.pointer (some ⟨rb,0,none⟩)] H K:=by
 refine cM 95 7452 ?_;refine⟨_,h.r 0,λb=>k1 (by simpa using b) _ h,λb=>⟨_,h.r 0,?_⟩⟩
 conv=>whnf
 rw[aK (x:=s.seg+1)];exact h.st 0 rfl rfl λa h=>⟨_,h.r 0,k2 (by simpa using b) _ h⟩
theorem GZ(h:aA H (reelA rb db s::diskX db rows syn::F))(k:∀a,aA a (reelA rb db { s with syn:=s.next }::diskX db rows rows.length::F)->K (.tuple #[]) a) :
  CF 40 #[.pointer (some ⟨rb,0,none⟩)] H K:=by
 refine cM 40 20 ?_;refine⟨_,h.r 0,?_⟩;refine PB (F:=reelA rb db s::F) (h.o [1,0] 2) λb h=>⟨rfl,_,h.r 1,?_⟩
 exact h.st 1 rfl rfl λa h=>k _ (h.o [1,0] 2)
theorem Ia{a:KQ}{c:Nat}{parts:List Fy}{kind:Int}(hs:s.ok)(hB:rows.length<=549755813888)(h:aA H (reelA rb db s::diskX db rows syn::F))
  (E:∀H,aA H F->aP H a (parts.map dV)) (v:∀H,aA H F->∀y∈parts,aP H y.a (y.bs.map U8)) (hb:aH (parts.flatMap Fy.bs)) (O:parts.length<=1099511627776) (M:(parts.flatMap Fy.bs).length<=262144)
  (k:∀n,aA n (reelA rb db (du rows s ⟨kind,parts.flatMap Fy.bs⟩)::diskX db (gA rows s ⟨kind,parts.flatMap Fy.bs⟩) syn::F)->
   K (.tuple #[.int .i64 (appN rows s ⟨kind,parts.flatMap Fy.bs⟩),.int .i64 (iA rows s ⟨kind,parts.flatMap Fy.bs⟩)]) n) :
  CF 96 #[.pointer (some ⟨rb,0,none⟩),.int .i64 kind,.slice a parts.length c] H K:=by
 refine OP ?_;have u:=hs.seg;have Q:=hs.most;have U:=hs.next;refine Ql h (λH h=>E H h.tl.tl) (λH h=>v H h.tl.tl) O M λa1 c1 H1 h=>⟨_,_,_,rfl,?_⟩
 obtain⟨d,hd⟩:∃d,parts.flatMap Fy.bs=d:=⟨_,rfl⟩;rw[hd]at hb M h k ⊢;refine Qk h (λH h=>h.sl_rd 0 rfl) (ua h) hb (by omega) (λa2 c2 L j h=>⟨_,_,_,_,rfl,(λf=>by cases f),λ_=>?_⟩) λL j h=>⟨_,_,_,_,rfl,λ_=>?_,λf=>by simp[j]at f⟩
 .have t:=qy (wC hb j);have G:=rZ (wC hb j);dsimp only at t;obtain⟨r,N⟩:∃r:Rc,(⟨kind,d⟩:Rc)=r:=⟨_,rfl⟩;have A:iz r.kind r.data.length=0:=by rw[<-N];exact j
  rw[N]at h t G k ⊢;have S:=tW s.seg rows;refine⟨_,h.r 2,_,h.r 2,?_⟩;refine GN (F:=slA 5 1 a2 (bN r).length c2 ((bN r).map U8)::slA 5 1 a1 d.length c1 (d.map U8)::reelA rb db s::F) (by omega) (h.o [3,0,1,2] 4) λa3 c3 e3 Z h=>⟨_,_,_,_,rfl,λ_=>trivial,_,λ_=>h.r 4,λV J=>?_⟩
  have P:i64.wrap (((bytesOf s.seg rows).length:Int)+((bN r).length:Int))=(((bytesOf s.seg rows).length+(bN r).length:Nat):Int):=by rw[aK];omega
  have T:(decide ((0:Int)<((bytesOf s.seg rows).length:Int))&&decide (s.most<(((bytesOf s.seg rows).length+(bN r).length:Nat):Int)))=pi rows s (bN r).length:=by
   unfold pi;congr 1;exact decide_eq_decide.2 (by omega)
  rw[P,T];have e:∀g n,0<=g/\g<=2147483647->iA rows s r=0->du rows s r={ s with seg:=g,next:=s.next+1 }->aA n (reelA rb db { s with seg:=g }::diskX db rows syn::slA 5 1 a2 (bN r).length c2 ((bN r).map U8)::F)->zi.r1 rb 0 K a2 (bN r).length c2 n:=by
   intro g n Y e0 I h;unfold zi.r1;refine⟨_,h.r 0,_,h.r 0,?_⟩;refine h.al λb B h=>⟨h.r 1,h.r 1,?_⟩
   have C:([⟨a2,c2,bN r⟩]:List Fy).flatMap Fy.bs=bN r:=by simp
   refine PG (F:=cellsA b [.slice a2 (bN r).length c2] 43::reelA rb db { s with seg:=g }::slA 5 1 a2 (bN r).length c2 ((bN r).map U8)::F) (pc:=1) (parts:=[⟨a2,c2,bN r⟩]) (by rw[C];omega) (by simp) (λH h=>⟨h.ce_rd 0 rfl,λp v=>by
    rw[VE]at v;subst v;exact h.sl_rd 2 rfl⟩) (h.o [2,0,1,3] 4) (λf=>V2 f (by dsimp only;omega)) λ_ W h=>⟨_,rfl,(λf=>by cases f),λ_=>⟨_,h.r 2,?_⟩⟩
   conv=>whnf
   rw[aK (x:=(s.next:Int)+1)];refine h.st 2 rfl rfl λR h=>⟨_,h.r 2,?_⟩
   have i:=k R;rw[show appN rows s r=s.next by unfold appN;rw[V0 (by rw[e0];decide)],e0,show gA rows s r=rows++(bN r).map (λb=>(g,b)) by unfold gA;rw[V0 (by rw[e0];decide),I],I]at i
   have en:i64.wrap (((s.next:Int)+1)-1)=s.next:=by rw[aK];omega
   conv=>whnf
   rw[en];refine i ?_;have E:jl g [(⟨a2,c2,bN r⟩:Fy)]=(bN r).map (λb=>(g,b)):=by simp[jl]
   have h:=h.o [2,0] 4;rw[<-E];exact h
  have e0:iA rows s r=if pi rows s (bN r).length=true/\s.seg=2147483647 then 20 else 0:=by unfold iA;rw[V0 (by rw[A];decide)]
  refine⟨λw=>?_,λw=>?_⟩
  .refine GW (F:=slA 5 1 a3 (bytesOf s.seg rows).length c3 ((bytesOf s.seg rows).map U8)::diskX db rows syn::slA 5 1 a2 (bN r).length c2 ((bN r).map U8)::slA 5 1 a1 d.length c1 (d.map U8)::F) u (h.o [4,0,1,2,3] 5) (λhm B h=>⟨_,_,rfl,λ_=>?_,(λf=>by cases f)⟩) λhm B h=>⟨_,_,rfl,(λf=>by cases f),λ_=>J _ ?_⟩
   .rw [V1 ⟨w,hm⟩]at e0;have i:=k B;unfold appN du gA at i;rw[e0,V1 (by decide),V1 (by decide),V1 (by decide)]at i;exact i (h.o [0,2] 5)
   .rw [V0 (λD=>hm D.2)]at e0
    exact e (s.seg+1) _ (by omega) e0 (by unfold du;rw[V0 (by rw[e0];decide),V1 w]) (h.o [0,2,3] 5)
  .have m:pi rows s (bN r).length=false:=w;rw[V0 (λD=>by rw[D.1]at m;cases m)]at e0
   exact J _ (e s.seg _ u e0 (by unfold du;rw[V0 (by rw[e0];decide),m];rfl) (h.o [4,1,2] 5))
 .have e0:iA rows s ⟨kind,d⟩=iz kind d.length:=by unfold iA;dsimp only;rw[V1 j]
  have i:=k L;unfold appN du gA at i;rw[e0,V1 j,V1 j,V1 j]at i;exact i (h.o [1,2] 3)
end
def di(rows:DR):List Rc:=(bB rows).flatMap λf=>(eD (bytesOf f rows)).1
def iT(rows:DR):Int:=match (bB rows)[(bB rows).length-1]? with
 | none=>0
 | some f=>f+1
def eX(most:Int)(rows:DR):Int:=if most<64\/1048576<most then 11 else if 2147483647<iT rows then 20 else 0
def iB(below:Int)(rows:DR):DR:=rows.filter λr=>decide (below<=r.1)
theorem Ib{b:List Int}(hb:aH b):(eD b).1.length<=b.length:=by
 obtain⟨e,i,c⟩:=zU (VA _) hb;have f:=congrArg List.length c;rw[VU]at f;have:∀a:List Rc,(∀r∈a,r.ok)->a.length<=(a.flatMap bN).length:=by
  intro a
  induction a with
  | nil=>intro _;simp
  | cons r a ih=>
   intro h;have e1:=qy (h r VM);have e2:=ih λx d=>h x (VL _ d)
   rw[Wb,V3,V9];omega
 have:=this _ e;omega
theorem Qn(rows:DR):(bB rows).Nodup:=(oZ rows).imp λh=>by omega
theorem zX{rows:DR}(h:fZ rows):(di rows).length<=rows.length:=by
 have a:=zA rows (bB rows) (Qn rows) λr b=>jz.2 (VB.2 ⟨r,b,rfl⟩)
 rw[<-a];unfold di;generalize bB rows=l
 induction l with
 | nil=>simp
 | cons f l ih=>
  rw[Wb,V3,Wa,WW];have:=Ib (h.bytes f);omega
theorem Ic{α β:Type}(f:α->List β)(l:List α)(j:Nat):((l.take j).flatMap f).length<=(l.flatMap f).length:=by
 conv=>rhs;rw[<-Wt j l,W4,V3]
 omega
theorem Qo{α β:Type}(f:α->List β){l:List α}{j:Nat}(h:j<l.length):(l.take (j+1)).flatMap f=(l.take j).flatMap f++f l[j]:=by
 rw[Wj h,W4];simp
theorem ub{rows:DR}{n:Nat}(h:n+1=(bB rows).length):∃f,(bB rows)[n]?=some f/\iT rows=f+1/\f∈bB rows:=by
 have a:n<(bB rows).length:=by omega
 refine⟨_,List.getElem?_eq_getElem a,?_,VF a⟩;unfold iT;rw[<-h,YC,List.getElem?_eq_getElem a]
theorem wD{rows:DR}(h:(bB rows).length=0):iT rows=0:=by
 unfold iT;rw[WH.1 h];rfl
theorem fZ.file{rows:DR}(h:fZ rows){f:Int}(a:f∈bB rows):0<=f/\f<=2147483647:=by
 obtain⟨r,b,rfl⟩:=VB.1 (jz.1 a);exact (h r b).1
theorem Ie{rows:DR}(h:fZ rows):0<=iT rows/\iT rows<=2147483648:=by
 cases hn:(bB rows).length with
 | zero=>rw[wD hn];omega
 | succ n=>
  obtain⟨f,b,c,a⟩:=ub hn.symm;have:=h.file a;omega
def jU(below:Int)(rows:DR)(j:Nat):DR:=rows.filter λr=>!(decide (r.1∈(bB rows).take j)&&decide (r.1<below))
theorem Qp(below:Int)(rows:DR):jU below rows 0=rows:=by
 unfold jU;simp
theorem Qq(below:Int)(rows:DR):jU below rows (bB rows).length=iB below rows:=by
 unfold jU iB;refine Yz λr a=>?_
 rw[Wf,VS (jz.2 (VB.2 ⟨r,a,rfl⟩)),Yk,<-decide_not];exact decide_eq_decide.2 (by omega)
theorem Qr{below:Int}{rows:DR}{j:Nat}(h:j<(bB rows).length) :
  jU below rows (j+1)=if (bB rows)[j]<below then (jU below rows j).filter (λr=>decide (r.1≠(bB rows)[j])) else jU below rows j:=by
 have hm:∀x,decide (x∈(bB rows).take (j+1))=(decide (x∈(bB rows).take j)||decide (x=(bB rows)[j])):=by
  intro x;rw[<-Bool.decide_or];refine decide_eq_decide.2 ?_;rw[Wj h,VR,VE]
 split
 .rename_i a;unfold jU;rw[List.filter_filter];refine Yz λr d=>?_
  rw[hm]
  by_cases e:r.1=(bB rows)[j]
  .rw [VS e,show decide (r.1≠(bB rows)[j])=false from Wp λc=>c e,show decide (r.1<below)=true from VS (by rw[e];exact a)]
   simp
  .rw [Wp e,show decide (r.1≠(bB rows)[j])=true from VS e,Bool.or_false,Yk]
 .rename_i b;unfold jU;refine Yz λr d=>?_
  rw[hm]
  by_cases e:r.1=(bB rows)[j]
  .rw [show decide (r.1<below)=false from Wp (by rw[e];exact b),Bool.and_false,Bool.and_false]
  .rw [Wp e,Bool.or_false]
section
variable {F L:List aE}{H:aD}{K:KE}{rb db pb:Nat}{rows:DR}{syn:Nat}{s:RL}
theorem Qs{below:Int}(w:rows.length<=1099511627776)(hs:syn<=rows.length)(h:aA H (reelA rb db s::diskX db rows syn::F))
  (k1:syn<rows.length->∀b,aA b (reelA rb db s::diskX db rows syn::F)->K (.int .i64 21) b)
  (k2:¬syn<rows.length->∀b,aA b (reelA rb db s::diskX db (iB below rows) (iB below rows).length::F)->K (.int .i64 0) b) :
  CF 94 #[.pointer (some ⟨rb,0,none⟩),.int .i64 below] H K:=by
 refine cN 94 0x1d21561239925117494c [[],[(19,sI)]] ?_;refine⟨_,h.r 0,?_⟩;refine Gz (F:=reelA rb db s::F) w (h.o [1,0] 2) λI h=>⟨_,rfl,λc=>?_,λc=>?_⟩
 .have:=V4 c;exact k1 (by omega) _ (h.o [1,0] 2)
 .have c:=V5 c;have n:syn=rows.length:=by omega
  refine⟨_,h.r 1,?_⟩;refine G2 w h λm u E h=>⟨_,_,_,rfl,?_⟩
  have D:=G5 rows;refine⟨λi b=>∃j:Nat,i=j/\j<=(bB rows).length/\aA b (slA 3 1 m (bB rows).length u ((bB rows).map aC)::diskX db (jU below rows j) (jU below rows j).length::reelA rb db s::F),λi _=>(bB rows).length-i.toNat,⟨0,rfl,VX _,?_⟩,?_⟩
  .rw [Qp,<-n];exact h
  rintro i G ⟨j,rfl,J,h⟩;refine⟨λc=>?_,λc=>?_⟩
  .have d:j<(bB rows).length:=by simpa using c
   have k:=(h.sl_rd 0 rfl).at d;refine⟨⟨by omega,by omega⟩,_,_,k.1,_,k.2,λy A=>?_⟩
   have a:=Qr (below:=below) d;have next:∀b,aA b (slA 3 1 m (bB rows).length u ((bB rows).map aC)::diskX db (jU below rows (j+1)) (jU below rows (j+1)).length::reelA rb db s::F)->y b:=by
    intro b h;refine A _ ?_
    conv=>whnf
    rw[aK (x:=(j:Int)+1)];exact⟨⟨j+1,rfl,d,h⟩,by simp only[VD];omega⟩
   refine⟨λf=>⟨_,h.r 2,?_⟩,λf=>?_⟩
   .have f:(bB rows)[j]<below:=V4 f;rw[V1 f]at a;refine PD (F:=slA 3 1 m (bB rows).length u ((bB rows).map aC)::reelA rb db s::F) (h.o [1,0,2] 3) (λv C h=>⟨_,rfl,next _ ?_⟩) (λ_ B=>V2 B (Nat.lt_irrefl _)) λv _ C h=>⟨_,rfl,next _ ?_⟩
    .have e:(jU below rows j).filter (λr=>decide (r.1≠(bB rows)[j]))=jU below rows j:=by
      refine Yv.2 λr k=>?_
      have:¬r.1=(bB rows)[j]:=λe=>by
       have:=Gt.2 (VB.2 ⟨r,k,e⟩);exact this v
      simp[this]
     rw[a,e];exact h.o [1,0,2] 3
    .rw [a];exact h.o [1,0,2] 3
   .have f:¬(bB rows)[j]<below:=V5 f;rw[V0 f]at a;refine next _ ?_;rw[a];exact h
  .have t:j=(bB rows).length:=by simp at c;omega
   subst t;rw[Qq]at h;exact k2 (by omega) _ (h.o [2,1] 3)
end
section
variable {F L:List aE}{H:aD}{K:KE}{rb db pb:Nat}{rows:DR}{syn:Nat}{s:RL}{most:Int}
abbrev opS(most:Int)(rows:DR):RL:=⟨most,iT rows,(di rows).length,(di rows).length⟩
def qz(rows:DR)(j:Nat):List Rc:=((bB rows).take j).flatMap λf=>(eD (bytesOf f rows)).1
theorem If(h:fZ rows)(j:Nat):(qz rows j).length<=rows.length:=VO (Ic _ _ _) (zX h)
theorem Qt{j:Nat}(h:j<(bB rows).length):qz rows (j+1)=qz rows j++(eD (bytesOf (bB rows)[j] rows)).1:=Qo _ h
theorem allJ_all:qz rows (bB rows).length=di rows:=by unfold qz di;rw[Wf]
theorem Qu{a b:List Ry}(h:aA H (rowsR a::rowsR b::F)):aA H (rowsR (a++b)::F):=by rw[GM];exact gu.2 h
theorem Ih(r:Ry):cT (fY r)=true:=rfl
theorem Qv(ok:fZ rows)(M:rows.length<=1099511627776)(h:aA H (diskX db rows syn::F))
  (k1:eX most rows=0->∀(rs:List Ry) a c rb k,rs.map Ry.rc=di rows->aA k (reelA rb db (opS most rows)::slA 234 2 a rs.length c (flat fY rs)::rowsR rs::diskX db rows syn::F)->
   K (.tuple #[.pointer (some ⟨rb,0,none⟩),.slice a rs.length c,.int .i64 0]) k)
  (k2:eX most rows≠0->∀k,aA k (diskX db rows syn::F)->K (.tuple #[.pointer none,.slice none 0 0,.int .i64 (eX most rows)]) k) :
  CF 99 #[.pointer (some ⟨db,0,none⟩),.int .i64 most] H K:=by
 refine cN 99 0x1d1121749d12156123992511144c [[(9,sS),(38,sI)],[(8,sI)]] ?_;refine⟨λd=>?_,λd=>?_⟩
 .have hm:most<64\/1048576<most:=by simpa using d
  have e:eX most rows=11:=by unfold eX;rw[V1 hm]
  have:=k2 (by rw[e];decide) _ h
  rwa[e]at this
 have hm:¬(most<64\/1048576<most):=by simp at d;omega
 have Q:=Ie ok;refine G2 M h λA C H1 h=>⟨_,_,_,rfl,λO R=>?_⟩
 have W:=G5 rows;have rest:∀k,aA k (slA 3 1 A (bB rows).length C ((bB rows).map aC)::diskX db rows syn::F)->O (iT rows) k:=by
  intro k h;refine R _ _ ?_;refine⟨λd=>?_,λd=>?_⟩
  .have b:2147483647<iT rows:=V4 d;have e:eX most rows=20:=by unfold eX;rw[V0 hm,V1 b]
   have:=k2 (by rw[e];decide) _ h.tl
   rwa[e]at this
  .have G:¬2147483647<iT rows:=V5 d;have e:eX most rows=0:=by unfold eX;rw[V0 hm,V0 G]
   refine⟨λla J lc i k=>∃(j:Nat) (rs:List Ry),i=j/\j<=(bB rows).length/\J=rs.length/\rs.map Ry.rc=qz rows j/\
    aA k (slA 234 2 la rs.length lc (flat fY rs)::rowsR rs::slA 3 1 A (bB rows).length C ((bB rows).map aC)::diskX db rows syn::F),λ_ _ _ i _=>(bB rows).length-i.toNat,⟨0,[],rfl,VX _,rfl,rfl,?_⟩,?_⟩
   .have w:aA k (rowsR []::slA 3 1 A (bB rows).length C ((bB rows).map aC)::diskX db rows syn::F):=zv.2 h;exact w.sl_nil 234 2
   rintro la J lc i H2 ⟨j,rs,rfl,hj,rfl,s,h⟩;have S:rs.length<=rows.length:=by
    have:=congrArg List.length s;rw[VH]at this;rw[this];exact If ok j
   refine⟨λd=>?_,λd=>?_⟩
   .have b:j<(bB rows).length:=by simpa using d
    have u:=(h.sl_rd 2 rfl).at b;refine⟨⟨by omega,by omega⟩,_,_,u.1,_,u.2,?_⟩;have Y:=tW (bB rows)[j] rows;refine GN (F:=slA 234 2 la rs.length lc (flat fY rs)::rowsR rs::slA 3 1 A (bB rows).length C ((bB rows).map aC)::F) M (h.o [3,0,1,2] 4) λa3 c3 e3 H3 h=>⟨_,_,_,_,rfl,?_⟩
    refine Qi h (λH h=>h.sl_rd 0 rfl) (ok.bytes _) (by omega) λv a4 c4 H4 D h=>⟨_,_,_,_,rfl,?_⟩
    have Z:=Ib (ok.bytes (bB rows)[j]);have t:(rs++v).map Ry.rc=qz rows (j+1):=by rw[Qt b,VT,s,D]
    have I:rs.length+v.length<=rows.length:=by
     have:=congrArg List.length t;rw[VH,V3]at this;rw[this];exact If ok (j+1)
    refine aA.append (m:=v.length) (ws:=flat fY v) slb54 h 4 rfl (h.sl_rd 0 rfl) (fi ph _) (lC Ih _) (by omega) (by omega) λa8 c8 H8 h=>⟨_,_,_,rfl,?_⟩
    conv=>whnf
    rw[aK (x:=(j:Int)+1)];refine⟨⟨j+1,rs++v,rfl,b,by rw[V3],t,?_⟩,by simp only[VD];omega⟩;have w:=Qu (h.o [5,1,4,6,3] 7);rw[dR,V3];exact w.o [1,0,2,3] 4
   .have E:j=(bB rows).length:=by simp at d;omega
    subst E;rw[allJ_all]at s;refine h.al λb1 V h=>?_
    have B:=k1 e rs la lc b1 V s;have y:rs.length=(di rows).length:=by rw[<-s,VH]
    unfold reelA at B;dsimp only at B;rw[<-y]at B;exact B (h.o [0,1,2,4] 5)
 refine⟨λd=>?_,λd=>?_⟩
 .have N:0<(bB rows).length:=by have:=V4 d;omega
  obtain⟨n,P⟩:∃n,n+1=(bB rows).length:=⟨(bB rows).length-1,by omega⟩;obtain⟨f,L,w,h3⟩:=ub P;have hf:=ok.file h3;have en:i64.wrap (((bB rows).length:Int)-1)=(n:Nat):=by rw[aK];omega
  have b:n<(bB rows).length:=by omega
  have u:=(h.sl_rd 0 rfl).at b
  conv=>whnf
  rw[en];have T:(bB rows)[n]=f:=by rw[List.getElem?_eq_getElem b]at L;exact Option.some.inj L
  rw[T]at u;refine⟨⟨by omega,by omega⟩,_,_,u.1,_,u.2,?_⟩
  conv=>whnf
  rw[aK (x:=f+1),<-w];exact rest _ h
 .have U:(bB rows).length=0:=by have:=V5 d;omega
  have:=rest _ h
  rwa[wD U]at this
end
theorem wE:eX 64 []=0/\di []=[]/\iT []=0:=by
 have a:bB []=[]:=by
  cases h:bB [] with
  | nil=>rfl
  | cons f r=>
   have:f∈bB []:=by rw[h];exact VM
   rw[jz]at this
   cases this
 have hs:iT []=0:=wD (by rw[a];rfl);refine⟨?_,?_,hs⟩
 .unfold eX;rw[hs];rfl
 .unfold di;rw[a];rfl
section
variable {F L:List aE}{H:aD}{K:KE}
theorem Ii:∀{rs:List Ry} {H:aD} {F:List aE},aA H (rowsR rs::F)->∀r∈rs,r.y.a=none\/∃b o,r.y.a=some ⟨b,o,none⟩
 | [],_,_,_,r,c=>by cases c
 | x::rs,H,F,h,r,c=>by
  have d:aA H (rowY x.y::rowsR rs::F):=gu.1 h
  rcases VJ.1 c with rfl|c
  .exact ua d
  .exact Ii d.tl r c
end
structure TI(most:Int)(rows:DR)(syn:Nat)(s:RL)(j:Nat):Prop where
 rok:fZ rows
 files:∀r∈rows,r.1<=s.seg
 syn:syn<=rows.length
 seg0:0<=s.seg
 seg:s.seg<=j
 len:rows.length<=300000*j
 next:s.next<=300000*j
 ssyn:s.syn<=300000*j
 hm:s.most=most
 range:64<=most/\most<=1048576
theorem TI.ok{most:Int}{rows:DR}{syn:Nat}{s:RL}{j:Nat}(h:TI most rows syn s j)(d:j<=1000):s.ok:=by
 have c:=h.seg0;have b:=h.seg;have i:=h.next;have f:=h.ssyn;have a:=h.hm;have e:=h.range;exact⟨by omega,by omega,by omega,by omega⟩
theorem TI.mono{most:Int}{rows:DR}{syn:Nat}{s:RL}{j:Nat}(h:TI most rows syn s j):TI most rows syn s (j+1):=
 ⟨h.rok,h.files,h.syn,h.seg0,by have:=h.seg;omega,by have:=h.len;omega,by have:=h.next;omega,by have:=h.ssyn;omega,h.hm,h.range⟩
theorem Ij{rows:DR}{s:RL}{r:Rc}:s.seg<=(du rows s r).seg/\(du rows s r).seg<=s.seg+1/\(du rows s r).next<=s.next+1/\(du rows s r).syn=s.syn/\(du rows s r).most=s.most:=by
 unfold du
 split
 .exact⟨by omega,by omega,by omega,rfl,rfl⟩
 .dsimp only
  split <;> exact⟨by omega,by omega,by omega,rfl,rfl⟩
theorem TI.append{most:Int}{rows:DR}{syn:Nat}{s:RL}{j:Nat}(h:TI most rows syn s j)(i:j<=1000){r:Rc}(hb:aH r.data)(y:r.data.length<=262144) :
  TI most (gA rows s r) syn (du rows s r) (j+1):=by
 have hs:=Ij (rows:=rows) (s:=s) (r:=r);have f:=appS_seg (rows:=rows) (r:=r) (h.ok i);have n:=h.seg0;have w:=h.seg;have u:=h.next;have t:=h.ssyn;have m:=h.len;have k:=h.files;have v:=h.syn
 by_cases he:iA rows s r=0
 .have a:=zW hb he;have d:=qy a;have e:gA rows s r=rows++(bN r).map λb=>((du rows s r).seg,b):=by unfold gA;rw[V0 (by rw[he];decide)]
  rw[e];refine⟨h.rok.app f (rZ a),λx c=>?_,by rw[V3];omega,by omega,by omega,by rw[V3,VH];omega,by omega,by omega,by rw[hs.2.2.2.2];exact h.hm,h.range⟩
  rcases VR.1 c with c|c
  .have:=k x c;omega
  .obtain⟨b,_,rfl⟩:=VB.1 c;exact Wd _
 .have e:gA rows s r=rows:=by unfold gA;rw[V1 he]
  have e2:du rows s r=s:=by unfold du;rw[V1 he]
  rw[e,e2];exact h.mono
theorem TI.sync{most:Int}{rows:DR}{syn:Nat}{s:RL}{j:Nat}(h:TI most rows syn s j):TI most rows rows.length { s with syn:=s.next } (j+1):=
 ⟨h.rok,h.files,VA _,h.seg0,by have:=h.seg;dsimp only;omega,by have:=h.len;omega,by have:=h.next;dsimp only;omega,by have:=h.next;dsimp only;omega,h.hm,h.range⟩
theorem TI.drop{most:Int}{rows:DR}{syn:Nat}{s:RL}{j:Nat}(h:TI most rows syn s j)(below:Int):TI most (iB below rows) (iB below rows).length s (j+1):=by
 have c:(iB below rows).length<=rows.length:=Y0 _ _;have b:=h.len;exact⟨h.rok.filter _,λr a=>h.files r (WA.1 a).1,VA _,h.seg0,by have:=h.seg;omega,by omega,by have:=h.next;omega,by have:=h.ssyn;omega,h.hm,h.range⟩
theorem segOf_le{rows:DR}{g:Int}(h0:0<=g)(h:∀r∈rows,r.1<=g):iT rows<=g+1:=by
 cases hn:(bB rows).length with
 | zero=>rw[wD hn];omega
 | succ n=>
  obtain⟨f,d,c,b⟩:=ub hn.symm;obtain⟨r,a,rfl⟩:=VB.1 (jz.1 b);have:=h r a;omega
theorem Qw{rows:DR}(c:fZ rows):∀r∈rows,r.1<=iT rows:=by
 intro r m;have e:r.1∈bB rows:=jz.2 (VB.2 ⟨r,m,rfl⟩);obtain⟨i,hi,k⟩:=Wu e;obtain⟨n,d⟩:∃n,n+1=(bB rows).length:=⟨(bB rows).length-1,by omega⟩;obtain⟨f,b,j,s⟩:=ub d;have a:n<(bB rows).length:=by omega
 rw[List.getElem?_eq_getElem a]at b;have b:=Option.some.inj b;rw[j,<-k,<-b]
 rcases VV i n with h|h
 .have:=Yt.1 (oZ rows) i n hi a h;omega
 .have:i=n:=by omega
  subst this;omega
theorem TI.crash{most:Int}{rows:DR}{syn:Nat}{s:RL}{j:Nat}(h:TI most rows syn s j)(i:j<=1000)(keep:Int) :
  TI most (dG rows syn keep) (dG rows syn keep).length ⟨most,iT (dG rows syn keep),(di (dG rows syn keep)).length,(di (dG rows syn keep)).length⟩ (j+1)/\eX most (dG rows syn keep)=0:=by
 have k:=PN rows syn keep;have c:=h.len;have d:=h.seg;have a:fZ (dG rows syn keep):=h.rok.take _;have hs:=segOf_le (rows:=dG rows syn keep) h.seg0 λr b=>h.files r (Ww b)
 have e:=zX a;have b:=Ie a;refine⟨⟨a,Qw a,VA _,b.1,by dsimp only;omega,by omega,by dsimp only;omega,by dsimp only;omega,rfl,h.range⟩,?_⟩;have f:=h.range;unfold eX;rw[nO,nO]
theorem ti0{most:Int}(h:eX most []=0):TI most [] 0 (opS most []) 0:=by
 obtain⟨_,c,b⟩:=wE;have a:64<=most/\most<=1048576:=by
  unfold eX at h
  split at h
  .cases h
  .omega
 unfold opS;rw[c,b];exact⟨λr a=>(by cases a),λr a=>(by cases a),VA _,Wd _,Wd _,VA _,VA _,VA _,rfl,a⟩
abbrev LG:=List (Int×Rc)
def fH(L:LG):DR:=L.flatMap λx=>(bN x.2).map λb=>(x.1,b)
theorem Ik(A B:LG):fH (A++B)=fH A++fH B:=W4
theorem Qx(x:Int×Rc):fH [x]=(bN x.2).map λb=>(x.1,b):=by simp[fH]
theorem pj(x:Int×Rc)(L:LG):fH (x::L)=((bN x.2).map λb=>(x.1,b))++fH L:=rfl
theorem Il(f:Int):∀L:LG,bytesOf f (fH L)=((L.filter λx=>decide (x.1=f)).map Prod.snd).flatMap bN
 | []=>rfl
 | x::L=>by
  rw[pj,qw,Il f L,Wk]
  by_cases e:x.1=f
  .rw [e,zw,V1 (VS rfl)];rfl
  .rw [zz (λh=>e h.symm),V0 (by simpa using e),Wh]
structure LG.ok(L:LG):Prop where
 recs:∀x∈L,x.2.ok
 up:L.Pairwise λx y=>x.1<=y.1
theorem Im{f:Int}:∀{L:LG},(L.Pairwise λx y=>x.1<=y.1)->(∀x∈L,f<=x.1)->L=L.filter (λx=>decide (x.1=f))++L.filter λx=>decide (x.1≠f)
 | [],_,_=>rfl
 | x::L,h,hf=>by
  rw[W0]at h
  by_cases e:x.1=f
  .have d:=Im h.2 λy a=>hf y (VL _ a)
   rw[Wk,V1 (VS e),Wk,V0 (by simpa using e),W7,<-d]
  .have c:f<x.1:=by have:=hf x VM;omega
   have b:∀y∈x::L,¬y.1=f:=λy a=>by
    rcases VJ.1 a with rfl|a
    .exact e
    .have:=h.1 y a;omega
   rw[WM.2 λy a=>by simpa using b y a,Wh,Yv.2 λy a=>by simpa using b y a]
theorem In:∀{fs:List Int} {L:LG},fs.Pairwise (·< ·)->(L.Pairwise λx y=>x.1<=y.1)->(∀x∈L,x.1∈fs)->fs.flatMap (λf=>L.filter λx=>decide (x.1=f))=L
 | [],[],_,_,_=>rfl
 | [],x::L,_,_,h=>by have:=h x VM;cases this
 | f::fs,L,hr,hs,h=>by
  rw[W0]at hr;have m:∀x∈L,f<=x.1:=λx c=>by
   rcases VJ.1 (h x c) with e|e
   .omega
   .have:=hr.1 _ e;omega
  have n:=Im hs m;have i:=In (fs:=fs) (L:=L.filter λx=>decide (x.1≠f)) hr.2 (hs.filter _) λx c=>by
   obtain⟨j,d⟩:=WA.1 c;have d:x.1≠f:=V4 d
   rcases VJ.1 (h x j) with e|e
   .exact V2 e d
   .exact e
  have e:fs.flatMap (λa=>L.filter λx=>decide (x.1=a))=fs.flatMap λa=>(L.filter λx=>decide (x.1≠f)).filter λx=>decide (x.1=a):=by
   have:∀l:List Int,(∀y∈l,f<y)->l.flatMap (λa=>L.filter λx=>decide (x.1=a))=l.flatMap λa=>(L.filter λx=>decide (x.1≠f)).filter λx=>decide (x.1=a):=by
    intro l
    induction l with
    | nil=>intro _;rfl
    | cons y l i=>
     intro b;rw[Wb,Wb,i λz k=>b z (VL _ k)]
     congr 1;rw[List.filter_filter];refine Yz λx c=>?_
     have:=b y VM
     by_cases ex:x.1=y
     .rw [VS ex,Yk];exact (VS (by omega)).symm
     .rw [Wp ex,Bool.false_and]
   exact this fs λy b=>hr.1 y b
  rw[Wb,e,i];exact n.symm
theorem Qy{L:LG}(d:∀x∈L,x.2.ok){x:Int×Rc}(c:x∈L):x.1∈(fH L).map Prod.fst:=by
 have a:=qy (d x c);obtain⟨b,hb⟩:∃b,b∈bN x.2:=by
  cases h:bN x.2 with
  | nil=>rw[h]at a;simp at a
  | cons b r=>exact⟨b,VM⟩
 exact VB.2 ⟨(x.1,b),Yi.2 ⟨x,c,VB.2 ⟨b,hb,rfl⟩⟩,rfl⟩
theorem Io{L:LG}(c:L.ok){g:Int}{t:List Int}(i:aH t)(h:iS t=none):di (fH L++t.map λb=>(g,b))=L.map Prod.snd:=by
 have hb:∀f,(eD (bytesOf f (fH L++t.map λb=>(g,b)))).1=(L.filter λx=>decide (x.1=f)).map Prod.snd:=by
  intro f;rw[qw,Il];have a:∀r∈(L.filter λx=>decide (x.1=f)).map Prod.snd,r.ok:=λr j=>by
   obtain⟨x,d,rfl⟩:=VB.1 j;exact c.recs x (WA.1 d).1
  by_cases e:f=g
  .subst e;rw[zw,zT a i h]
  .rw [zz e,Wc,Qd a]
 unfold di;have e1:(λf=>(eD (bytesOf f (fH L++t.map λb=>(g,b)))).1)=λf=>(L.filter λx=>decide (x.1=f)).map Prod.snd:=funext hb
 rw[e1];have e2:=In (oZ (fH L++t.map λb=>(g,b))) c.up λx d=>by
  rw[jz,VT];exact WP _ (Qy c.recs d)
 have e3:=congrArg (List.map Prod.snd) e2;rw[List.map_flatMap]at e3;exact e3
theorem Ip:∀(L:LG) (n:Nat),∃p g t,(fH L).take n=fH (L.take p)++(t.map λb=>(g,b))/\p<=L.length/\
  (t=[]\/∃r:Rc,(∃x∈L,r=x.2)/\∃k,k<(bN r).length/\t=(bN r).take k)/\∀m,m<=L.length->(fH (L.take m)).length<=n->(∀x∈L,0<(bN x.2).length)->m<=p
 | [],n=>⟨0,0,[],by simp[fH],VX _,.inl rfl,λm hm _ _=>hm⟩
 | x::L,n=>by
  rcases VV n (bN x.2).length with h|h
  .refine⟨0,x.1,(bN x.2).take n,?_,VX _,.inr ⟨x.2,⟨x,VM,rfl⟩,n,h,rfl⟩,λm hm d e=>?_⟩
   .rw [pj,Yr (by rw[VH];omega),List.map_take];rfl
   .cases m with
    | zero=>exact VA _
    | succ m=>
     rw[WL,pj,V3,VH]at d;omega
  .obtain⟨p,g,t,i,u,a,s⟩:=Ip L (n-(bN x.2).length);refine⟨p+1,g,t,?_,by rw[V9];omega,?_,λm hm d e=>?_⟩
   .rw [pj,List.take_append,VZ (by rw[VH];omega),VH,i,WL,pj,VI]
   .rcases a with a|⟨r,⟨y,c,j⟩,f⟩
    .exact .inl a
    .exact .inr ⟨r,⟨y,VL _ c,j⟩,f⟩
   .cases m with
    | zero=>omega
    | succ m=>
     rw[WL,pj,V3,VH]at d;have:=s m (by simp at hm;omega) (by omega) λy c=>e y (VL _ c)
     omega
theorem Iq(below:Int)(L:LG):iB below (fH L)=fH (L.filter λx=>decide (below<=x.1)):=by
 unfold iB
 induction L with
 | nil=>rfl
 | cons x L ih=>
  rw[pj,List.filter_append,ih,Wk]
  by_cases e:below<=x.1
  .rw [V1 (VS e),pj,Yv.2];intro y a;obtain⟨b,_,rfl⟩:=VB.1 a;exact VS e
  .rw [V0 (by simpa using e),WM.2,Wh];intro y a;obtain⟨b,_,rfl⟩:=VB.1 a;simpa using e
theorem aP.subS{H:aD}{a:KQ}{cs:Os}{k c sz:Nat}(h:aP H a cs)(s:cs.length<=c*sz):aP H (cq a k c sz) (cs.drop (k*sz)):=by
 intro j v f;have b:aT cs (k*sz+j)=Option.some v:=by
  rw[fO]at f ⊢
  rwa[List.getElem?_drop]at f
 have i:=od b;obtain⟨n,m⟩:=h _ _ b;have d:c≠k:=λe=>by subst e;omega
 have e:cq a k c sz=Option.some ⟨aU a,aS a+k*sz,none⟩:=by
  unfold cq;rw[V0 d,n,We,iQ];rfl
 rw[e];refine⟨rfl,?_⟩;show aL H (aU a) (aS a+k*sz+j)=_;rw[Ws];exact m
section
variable {H0:aD}{ca:KQ}{cc:Nat}{most:Int}
theorem openE_in{rows:DR}(h:64<=most/\most<=1048576)(hs:iT rows<=2147483647):eX most rows=0:=by
 unfold eX;rw[nO,nO]
theorem Qz{rows:DR}(ok:fZ rows){rs:List Ry}(h:rs.map Ry.rc=di rows):rs.length<=rows.length/\∀r∈rs,r.y.bs.length<=1099511627776:=by
 refine⟨?_,λr a=>?_⟩
 .rw [<-VH (f:=Ry.rc),h];exact zX ok
 .have hm:r.rc∈di rows:=by rw[<-h];exact VB.2 ⟨r,a,rfl⟩
  obtain⟨f,b,hm⟩:=Yi.1 hm;have:=((zU (VA _) (ok.bytes f)).1 _ hm).len;unfold Ry.rc at this;dsimp only at this;omega
theorem files_lt{rows:DR}:∀x∈rows,x.1<iT rows:=by
 intro r k;have d:r.1∈bB rows:=jz.2 (VB.2 ⟨r,k,rfl⟩);obtain⟨i,hi,j⟩:=Wu d;obtain⟨n,c⟩:∃n,n+1=(bB rows).length:=⟨(bB rows).length-1,by omega⟩;obtain⟨f,b,e,m⟩:=ub c;have a:n<(bB rows).length:=by omega
 rw[List.getElem?_eq_getElem a]at b;have b:=Option.some.inj b;rw[e,<-j,<-b]
 rcases VV i n with h|h
 .have:=Yt.1 (oZ rows) i n hi a h;omega
 .have:i=n:=by omega
  subst this;omega
end
def dw:List Rc->Option (List Int)×List Rc
 | []=>(none,[])
 | r::l=>if (dw l).1=none then (if r.kind=0 then (some r.data,l) else (none,r::l)) else dw l
theorem zY:∀{l:List Rc},(∀r∈l,r.kind≠0)->dw l=(none,l)
 | [],_=>rfl
 | r::l,h=>by
  have b:=zY λx a=>h x (VL _ a)
  rw[dw,b,V1 rfl,V0 (h r VM)]
theorem Ir{r:Rc}{l:List Rc}(b:r.kind=0)(h:∀x∈l,x.kind≠0):∀a:List Rc,dw (a++r::l)=(some r.data,l)
 | []=>by rw[Wh,dw,zY h,V1 rfl,V1 b]
 | x::a=>by
  have c:=Ir b h a;rw[W7,dw,c,V0 (by simp)]
def bookA(bb rb:Nat)(saved:Bool)(num seg:Int):aE:=cellsA bb [.pointer (some ⟨rb,0,none⟩),.bool saved,.int .i64 num,.int .i64 seg] 113
structure oq(rs:List Ry)(fy:Fy)(has:Bool)(qs:List Ry):Prop where
 sub:∀q∈qs,q∈rs
 st:fy=Fy.z\/∃r∈rs,fy=r.y
 tell:dw (rs.map Ry.rc)=(if has then some fy.bs else none,qs.map Ry.rc)
 no:has=false->fy=Fy.z
theorem oq.none{rs:List Ry}(h:∀r∈rs,r.kind≠0):oq rs Fy.z false rs:=by
 refine⟨λq a=>a,.inl rfl,?_,λ_=>rfl⟩
 rw[zY]
 .rfl
 .intro r b;obtain⟨x,c,rfl⟩:=VB.1 b;exact h x c
theorem oq.at{rs:List Ry}{i:Nat}{r:Ry}(hi:rs[i]?=some r)(h0:r.kind=0)(h:∀x∈rs.drop (i+1),x.kind≠0):oq rs r.y true (rs.drop (i+1)):=by
 obtain⟨a,f⟩:=List.getElem?_eq_some_iff.1 hi;refine⟨λq c=>WE c,.inr ⟨r,Wg hi,rfl⟩,?_,λb=>by cases b⟩
 have e:rs=rs.take i++r::rs.drop (i+1):=by rw[<-f,<-Wv a,Wt]
 conv=>lhs;rw[e]
 rw[VT,Wa,Ir (r:=r.rc) h0]
 .rfl
 .intro x j;obtain⟨y,d,rfl⟩:=VB.1 j;exact h y d
theorem QI{rows:DR}{s:RL}(h:∀x∈rows,x.1<s.seg){r:Rc}(f:r.ok) :
  iA rows s r=0/\du rows s r={ s with next:=s.next+1 }/\gA rows s r=(rows++(bN r).map λb=>(s.seg,b))/\appN rows s r=s.next:=by
 have d:bytesOf s.seg rows=[]:=by
  unfold bytesOf;rw[WM.2 λy e=>by have:=h y e;simp;omega]
  rfl
 have c:pi rows s (bN r).length=false:=by
  unfold pi;rw[d];rfl
 have a:iA rows s r=0:=by
  unfold iA;rw[Qj f,V0 (by decide),c];rfl
 have hs:du rows s r={ s with next:=s.next+1 }:=by unfold du;rw[V0 (by rw[a];decide),c];rfl
 refine⟨a,hs,?_,?_⟩
 .unfold gA;rw[V0 (by rw[a];decide),hs]
 .unfold appN;rw[V0 (by rw[a];decide)]
section
variable {F L:List aE}{H:aD}{K:KE}{rb db bb:Nat}{rows:DR}{syn:Nat}{s:RL}{most:Int}
theorem QJ{a:KQ}{n c:Nat}(h:aA H F)(k:∀c0 d,aA d (cellsA c0 [.slice a n c] 127::F)->K (.func (.func 195) #[] #[.pointer (some ⟨c0,0,none⟩)]) d):CF 100 #[.slice a n c] H K:=by
 refine cM 100 28 ?_;exact h.al λb _ h=>k b _ h
theorem QK{l c0:Nat}{pa:KQ}{pc:Nat}{rs:List Ry}(C:rs.length<=1099511627776)(A:Nat->aE)(t:aE)
  (h:aA H (A rs.length::cellsA c0 [.slice pa rs.length pc] 127::slA 234 2 pa rs.length pc (flat fY rs)::F))
  (B:∀j (d:j<rs.length) (G:List aE) (c:aD) (e:KE),aA c (A (j+1)::G)->(∀b,aA b (A j::G)->e (.bool true) b)->(∀b,aA b (t::G)->e (.bool false) b)->
   fL Tryz.prog l [.int .i64 j,.agg #[.int .i64 rs[j].kind,dV rs[j].y]] c e)
  (k:∀a,aA a (A 0::cellsA c0 [.slice pa rs.length pc] 127::slA 234 2 pa rs.length pc (flat fY rs)::F)->K (.tuple #[]) a)
  (v:∀a,aA a (t::cellsA c0 [.slice pa rs.length pc] 127::slA 234 2 pa rs.length pc (flat fY rs)::F)->K (.tuple #[]) a) :
  CF 195 #[.func (.yield l) #[] #[],.pointer (some ⟨c0,0,none⟩)] H K:=by
 refine cN 195 96300973186693524 [[(3,sI)]] ?_;have u:i64.wrap ((rs.length:Int)-1)=(rs.length:Int)-1:=aK;refine⟨_,_,_,h.r 1,λi a=>∃j:Nat,i=(j:Int)-1/\j<=rs.length/\aA a (A j::cellsA c0 [.slice pa rs.length pc] 127::slA 234 2 pa rs.length pc (flat fY rs)::F),λi _=>(i+1).toNat,⟨rs.length,u,VA _,h⟩,?_⟩
 rintro i c ⟨j,rfl,d,h⟩;refine⟨λn=>?_,λn=>?_⟩
 .obtain⟨q,rfl⟩:∃q,j=q+1:=⟨j-1,by have:=V4 n;omega⟩;have eq:((q+1:Nat):Int)-1=(q:Int):=by omega
  rw[eq];have s:=h.sl_rd 2 rfl;refine⟨_,_,_,h.rd 1 rfl _,⟨by omega,by omega⟩,_,_,s.some ph (by omega) d,_,_,_,_,s.els ph d,?_⟩;refine B q d _ c _ h (λw f=>⟨true,rfl,λm=>(by cases m),λ_=>?_⟩) λw f=>⟨false,rfl,λ_=>v _ f,λm=>(by cases m)⟩
  conv=>whnf
  rw[aK (x:=(q:Int)-1)];exact⟨⟨q,rfl,by omega,f⟩,by simp only;omega⟩
 .obtain rfl:j=0:=by have:=V5 n;omega
  exact k _ h
theorem Is{a:KQ}{c:Nat}{d:List Ry}(h:aA H L)(j:∀H,aA H L->aP H a (flat fY d))(y:d.length<=1099511627776)
  (k:∀f i e,aA e (slA 234 2 f d.length i (flat fY d)::L)->K (.slice f d.length i) e):CF 101 #[.slice a d.length c] H K:=by
 refine cM 101 476 ⟨λs=>?_,λs=>?_⟩
 .have:a=none:=by simpa using s
  subst this;have v:=oh (j H h);have:d=[]:=by
   cases d with
   | nil=>rfl
   | cons q r=>simp[lB]at v
  subst this;exact k none 0 H (h.sl_nil 234 2)
 .refine h.al λb x h=>?_
  have u:=j _ h.tl;have t:=aA.sl_pt (cs:=[]) h 2 0 rfl;refine aA.append (m:=d.length) slb54 t 0 rfl u (fi ph _) (lC Ih _) (by omega) (by omega) λf i e w=>⟨_,_,_,rfl,?_⟩
  have n:aA e (slA 234 2 f (0+d.length) i ([]++flat fY d)::L):=w;rw[VQ,Wh]at n;have:=k f i e n;rw[<-VQ d.length]at this;exact this
def boA(b1 b2 b3 l:Nat)(R:Loop)(a:KQ)(c:Nat)(rs:List Ry)(j:Nat):aE:=
 star [pur (∀r∈rs.drop j,r.kind≠0),cellsA b1 [.slice a rs.length c] 127,cellsA b2 [.slice none 0 0,.bool false,.slice none 0 0] 129,cellsA b3 [.slice a rs.length c] 127,pt l (.loop R)]
def boX(b1 b2 b3 l:Nat)(R:Loop)(a:KQ)(c:Nat)(rs:List Ry):aE:=
 exS λp:Nat×Ry=>star [pur (rs[p.1]?=some p.2/\p.2.kind=0/\∀r∈rs.drop (p.1+1),r.kind≠0),cellsA b1 [.slice a rs.length c] 127,cellsA b2 [dV p.2.y,.bool true,.slice none 0 0] 129,
  cellsA b3 [.slice (cq a (p.1+1) c 2) (rs.length-(p.1+1)) (c-(p.1+1))] 127,pt l (.loop { R with state:=.done,pending:=some (.exit 0) })]
theorem QL{b1 b2 b3 j c:Nat}{a:KQ}{rs:List Ry}{e i:aD}{R:Loop}{G:List aE}{k:KE}(A:rs.length<=1099511627776)(C:rs.length<=c)(n:j<rs.length)
  (h:aA i (boA b1 b2 b3 (e.size+1) R a c rs (j+1)::G)) (u:∀d,aA d (boA b1 b2 b3 (e.size+1) R a c rs j::G)->k (.bool true) d) (t:∀d,aA d (boX b1 b2 b3 (e.size+1) R a c rs::G)->k (.bool false) d) :
  zl.y1 b1 b2 b3 e R [.int .i64 j,.agg #[.int .i64 rs[j].kind,dV rs[j].y]] i k:=by
 obtain⟨m,h⟩:=aA.consP h.open;have h:aA i (cellsA b1 [.slice a rs.length c] 127::cellsA b2 [.slice none 0 0,.bool false,.slice none 0 0] 129::cellsA b3 [.slice a rs.length c] 127::pt (e.size+1) (.loop R)::G):=h;have v:rs.drop j=rs[j]::rs.drop (j+1):=Wv n;unfold zl.y1;refine⟨_,_,_,_,_,rfl,h.getO 3 rfl,?_⟩;refine h.al λb4 _ h=>h.st 0 rfl rfl λ_ h=>⟨h.getO 4 rfl,h.stl 4 rfl λw h=>⟨_,h.r 0,λb=>?_,λb=>?_⟩⟩
 .have h0:rs[j].kind=0:=V4 b;refine⟨_,_,_,h.r 0,?_⟩;refine h.st 2 rfl rfl λ_ h=>h.st 2 rfl rfl λ_ h=>⟨_,_,_,h.r 1,?_⟩
  rw[aK (x:=(j:Int)+1)];have s:((j:Int)+1).toNat=j+1:=by omega
  rw[s];refine⟨⟨by omega,by omega,by omega⟩,?_⟩;refine h.st 3 rfl rfl λB h=>⟨h.getO 4 rfl,t _ ?_⟩
  have h:=h.setO 4 rfl (.loop { R with state:=.done,pending:=some (.exit 0) });exact cJ.2 ⟨(j,rs[j]),aA.shut [_,_,_,_,_] (aA.pur (h.o [1,2,3,4] 5) ⟨List.getElem?_eq_getElem n,h0,m⟩)⟩
 .have h0:rs[j].kind≠0:=V5 b;refine⟨h.getO 4 rfl,u _ ?_⟩;have h:=h.setO 4 rfl (.loop R);refine aA.shut [_,_,_,_,_] (aA.pur (h.o [1,2,3,4] 5) λr f=>?_)
  rw[v]at f
  rcases VJ.1 f with rfl|f
  .exact h0
  .exact m r f
theorem QM(ok:fZ rows)(hB:rows.length<=1099511627776)(h:aA H (diskX db rows syn::F))
  (k1:eX most rows=0->∀(rs t:List Ry) (O:Fy) (has:Bool) a c bb rb f,rs.map Ry.rc=di rows->oq rs O has t->
   aA f (bookA bb rb false 0 0::reelA rb db (opS most rows)::slA 234 2 a t.length c (flat fY t)::rowsR rs::diskX db rows syn::F)->
   K (.tuple #[.pointer (some ⟨bb,0,none⟩),.agg #[dV O,.bool has,.slice a t.length c],.int .i64 0]) f)
  (k2:eX most rows≠0->∀f,aA f (diskX db rows syn::F)->K (.tuple #[.pointer none,.agg #[.slice none 0 0,.bool false,.slice none 0 0],.int .i64 (eX most rows)]) f) :
  CF 45 #[.pointer (some ⟨db,0,none⟩),.int .i64 most] H K:=by
 refine OY ?_;refine h.al λb W h=>?_
 refine Qv (F:=cellsA b [.slice none 0 0,.bool false,.slice none 0 0] 129::F) ok hB (h.o [1,0] 2) (λs rs a1 c1 rb S e h=>⟨_,_,_,_,_,rfl,?_⟩) λs S h=>⟨_,_,_,_,_,rfl,?_⟩
 .obtain⟨L,M⟩:=Qz ok e;have m:=h.sl_nc 1 rfl;refine h.al λb1 T h=>h.st 0 rfl rfl λV h=>⟨(λB=>by cases B),λ_=>?_⟩
  refine h.al λb2 P h=>⟨_,_,_,h.r 1,?_⟩
  refine h.al λb3 H6 h=>h.st 0 rfl rfl λH7 h=>⟨_,_,_,h.r 2,?_⟩
  refine QJ h λc0 d h=>⟨_,_,rfl,rfl,λR w J hy=>?_⟩
  have h:=h.rng R;have h0:aA ((d.push (.deferred (some []))).push (.loop R)) (boA b1 b2 b3 (d.size+1) R a1 c1 rs rs.length::cellsA c0 [.slice a1 rs.length c1] 127::slA 234 2 a1 rs.length c1 (flat fY rs)::pt d.size (.deferred (some []))::reelA rb db (opS most rows)::rowsR rs::diskX db rows syn::cellsA b [.slice none 0 0,.bool false,.slice none 0 0] 129::F):=by
   refine aA.shut [_,_,_,_,_] (aA.pur ?_ ?_)
   .exact h.o [5,4,3,0,2,7,1,6,8,9,10] 11
   .rw [W1];intro r Z;cases Z
  refine QK (by omega) (λj=>boA b1 b2 b3 (d.size+1) R a1 c1 rs j) (boX b1 b2 b3 (d.size+1) R a1 c1 rs) h0 (λj Y G W K1 Q kt U=>hy _ _ _ (QL (by omega) m Y Q kt U)) (λC h=>?_) λC h=>?_
  .obtain⟨u,h⟩:=aA.consP h.open;have h:aA C (cellsA b1 [.slice a1 rs.length c1] 127::cellsA b2 [.slice none 0 0,.bool false,.slice none 0 0] 129::cellsA b3 [.slice a1 rs.length c1] 127::pt (d.size+1) (.loop R)::cellsA c0 [.slice a1 rs.length c1] 127::slA 234 2 a1 rs.length c1 (flat fY rs)::pt d.size (.deferred (some []))::reelA rb db (opS most rows)::rowsR rs::diskX db rows syn::cellsA b [.slice none 0 0,.bool false,.slice none 0 0] 129::F):=h;rw[List.drop_zero]at u;refine⟨.ready,none,by decide,by rw[nC w J];exact h.getO 3 rfl,h.stl 3 rfl λx h=>Or.inl ⟨rfl,_,_,_,h.r 2,?_⟩⟩
   refine Is h (λH h=>h.sl_rd 5 rfl) (by omega) λa5 c5 I h=>⟨_,_,_,rfl,?_⟩
   refine h.st 2 rfl rfl λA h=>⟨_,_,_,_,_,_,_,h.q 2,?_⟩
   refine h.al λb5 D h=>⟨h.q 3,?_⟩
   refine h.st 12 rfl rfl λv h=>⟨h.getO 8 rfl,?_⟩
   have h:=h.setO 8 rfl (.deferred none);refine⟨_,_,_,_,_,_,_,h.q 12,?_⟩;exact k1 s rs rs Fy.z false a5 c5 b5 rb _ e (oq.none u) (h.o [0,9,1,10,11] 13)
  .obtain⟨p,h⟩:=cJ.1 h;obtain⟨u,h⟩:=aA.consP h.open;obtain⟨i,r⟩:=p;obtain⟨hi,n,N⟩:=u;dsimp only at hi n N;have h:aA C (cellsA b1 [.slice a1 rs.length c1] 127::cellsA b2 [dV r.y,.bool true,.slice none 0 0] 129::cellsA b3 [.slice (cq a1 (i+1) c1 2) (rs.length-(i+1)) (c1-(i+1))] 127::pt (d.size+1) (.loop { R with state:=.done,pending:=some (.exit 0) })::cellsA c0 [.slice a1 rs.length c1] 127::slA 234 2 a1 rs.length c1 (flat fY rs)::pt d.size (.deferred (some []))::reelA rb db (opS most rows)::rowsR rs::diskX db rows syn::cellsA b [.slice none 0 0,.bool false,.slice none 0 0] 129::F):=h;refine⟨.done,some (.exit 0),by decide,h.getO 3 rfl,h.stl 3 rfl λx h=>Or.inr ⟨rfl,_,_,_,h.r 2,?_⟩⟩
   have E:rs.length-(i+1)=(rs.drop (i+1)).length:=by rw[VP]
   rw[E];refine Is h (λH h=>by
    have:=aP.subS (k:=i+1) (c:=c1) (sz:=2) (h.sl_rd 5 rfl) (by rw[fi ph];exact Wy _ m)
    rwa[tu ph]at this) (by rw[VP];omega) λa5 c5 I h=>⟨_,_,_,rfl,?_⟩
   refine h.st 2 rfl rfl λA h=>⟨_,_,_,_,_,_,_,h.q 2,?_⟩
   refine h.al λb5 D h=>⟨h.q 3,?_⟩
   refine h.st 12 rfl rfl λv h=>⟨h.getO 8 rfl,?_⟩
   have h:=h.setO 8 rfl (.deferred none);refine⟨_,_,_,_,_,_,_,h.q 12,?_⟩;exact k1 s rs (rs.drop (i+1)) r.y true a5 c5 b5 rb _ e (oq.at hi n N) (h.o [0,9,1,10,11] 13)
 .refine h.al λb1 T h=>h.st 0 rfl rfl λV h=>⟨λ_=>?_,λB=>by simp[s]at B⟩
  refine h.st 2 rfl rfl λP h=>⟨_,_,_,_,_,_,_,h.q 2,?_⟩
  exact k2 s _ (h.o [1] 3)
theorem QO{a:KQ}{n c:Nat}{kind:Int}{saved:Bool}{num seg:Int}(h:aA H (bookA bb rb saved num seg::F))
  (k1:kind<=0->K (.tuple #[.int .i64 (-1),.int .i64 11]) H)
  (k2:¬kind<=0->CF 96 #[.pointer (some ⟨rb,0,none⟩),.int .i64 kind,.slice a n c] H λu d=>∃r r1:Int,u=.tuple #[.int .i64 r,.int .i64 r1]/\K (.tuple #[.int .i64 r,.int .i64 r1]) d) :
  CF 109 #[.pointer (some ⟨bb,0,none⟩),.int .i64 kind,.slice a n c] H K:=by
 refine cM 109 476 ?_;exact⟨λb=>k1 (V4 b),λb=>⟨_,h.r 0,k2 (V5 b)⟩⟩
theorem QP{a:KQ}{c:Nat}{parts:List Fy}{saved:Bool}{num seg:Int}(hs:s.ok)(L:s.seg<2147483647)(n:∀r∈rows,r.1<=s.seg)(T:rows.length<=549755813888)
  (h:aA H (bookA bb rb saved num seg::reelA rb db s::diskX db rows syn::F))
  (O:∀H,aA H F->aP H a (parts.map dV)) (S:∀H,aA H F->∀y∈parts,aP H y.a (y.bs.map U8)) (hb:aH (parts.flatMap Fy.bs)) (P:parts.length<=1099511627776) (N:(parts.flatMap Fy.bs).length<=262144)
  (k:∀w,aA w (bookA bb rb true s.next (s.seg+1)::reelA rb db { s with seg:=s.seg+1,next:=s.next+1 }::diskX db (rows++(bN ⟨0,parts.flatMap Fy.bs⟩).map λb=>(s.seg+1,b)) syn::F)->
   K (.tuple #[.int .i64 s.next,.int .i64 0]) w) :
  CF 42 #[.pointer (some ⟨bb,0,none⟩),.slice a parts.length c] H K:=by
 refine cN 42 0x112156123992511b421b1d1c [[(6,sI),(15,sI)]] ?_;have D:=hs.seg;have I:=hs.next;have f:∀j,((parts.take j).flatMap Fy.bs).length<=(parts.flatMap Fy.bs).length:=λj=>Ic _ _ _
 refine⟨λsize i w=>∃j:Nat,i=j/\j<=parts.length/\size=(((parts.take j).flatMap Fy.bs).length:Nat)/\w=H,λ_ i _=>parts.length-i.toNat,⟨0,rfl,VX _,rfl,rfl⟩,?_⟩
 rintro size i w ⟨j,rfl,hj,rfl,rfl⟩;refine⟨λC=>?_,λC=>?_⟩
 .have m:j<parts.length:=by simpa using C
  have J:=(O _ h.tl.tl.tl).at m;have B:=zJ m;have E:=f (j+1);rw[B,V3]at E;have Q:i64.wrap ((((parts.take j).flatMap Fy.bs).length:Int)+(parts[j].bs.length:Int))=(((parts.take (j+1)).flatMap Fy.bs).length:Nat):=by
   rw[B,V3,aK];omega
  refine⟨⟨by omega,by omega⟩,_,_,J.1,_,_,_,J.2,?_⟩;dsimp only
  conv=>whnf
  rw[Q];refine⟨λU=>?_,λ_=>?_⟩
  .have:=V4 U;have:=f (j+1);omega
  .conv=>whnf
   rw[aK (x:=(j:Int)+1)];exact⟨⟨j+1,rfl,m,rfl,rfl⟩,by simp only[VD];omega⟩
 .refine⟨_,h.r 0,?_⟩;refine GW (F:=bookA bb rb saved num seg::diskX db rows syn::F) D (h.o [1,0,2] 3) (λn=>V2 n (by omega)) λ_ R h=>⟨_,_,rfl,(λn=>by cases n),λ_=>⟨_,h.r 1,?_⟩⟩
  have G:({ s with seg:=s.seg+1 }:RL).ok:=⟨by dsimp only;omega,hs.most,I,hs.syn⟩;have v:(⟨0,parts.flatMap Fy.bs⟩:Rc).ok:=⟨Wd 0,by show (0:Int)<=255;decide,N,hb⟩;have e:=QI (rows:=rows) (s:={ s with seg:=s.seg+1 }) (λx C=>by have:=n x C;dsimp only;omega) v
  have M:=Ia (F:=bookA bb rb saved num seg::F) (a:=a) (c:=c) (kind:=0) (parts:=parts) (rb:=rb) (db:=db) (syn:=syn) (H:=R) (K:=λu1 d=>∃r2 r3:Int,u1=(.tuple #[(.int .i64 r2),(.int .i64 r3)])/\
   (((!decide (r3=0)))=true->K (.tuple #[(.int .i64 (-1)),(.int .i64 r3)]) d)/\
   (((!decide (r3=0)))=false->
   ∃v2:KQ,aL d bb 0=some (.pointer v2)/\
   ∃r4:Int,bV Tryz.prog 97 #[(.pointer v2)] d (.int .i64 r4)/\
   eV d bb (0+1) [(.bool true)]/\
   ∀t:aD,t=fM d bb (0+1) [(.bool true)]->
   eV t bb (0+2) [(.int .i64 r2)]/\
   ∀u:aD,u=fM t bb (0+2) [(.int .i64 r2)]->
   eV u bb (0+3) [(.int .i64 r4)]/\
   ∀A:aD,A=fM u bb (0+3) [(.int .i64 r4)]->
   K (.tuple #[(.int .i64 r2),(.int .i64 0)]) A)) G T (h.o [0,2,1] 3) (λH h=>O H h.tl) (λH h=>S H h.tl) hb P N
  rw[e.1,e.2.1,e.2.2.1,e.2.2.2]at M;refine M λW h=>⟨_,_,rfl,(λn=>by cases n),λ_=>⟨_,h.r 2,_,GU h,?_⟩⟩
  refine h.st 2 rfl rfl λY h=>h.st 2 rfl rfl λZ h=>h.st 2 rfl rfl λV h=>k _ ?_
  exact h.o [2,0,1] 3
theorem QR{saved:Bool}{num seg:Int}(i:rows.length<=1099511627776)(hs:syn<=rows.length)(h:aA H (bookA bb rb saved num seg::reelA rb db s::diskX db rows syn::F))
  (k0:saved=false->K (.int .i64 19) H)
  (k1:saved=true->(s.syn:Int)<=num->K (.int .i64 21) H)
  (k2:saved=true->¬(s.syn:Int)<=num->syn<rows.length->∀c,aA c (bookA bb rb saved num seg::reelA rb db s::diskX db rows syn::F)->K (.int .i64 21) c)
  (k3:saved=true->¬(s.syn:Int)<=num->¬syn<rows.length->∀c,aA c (bookA bb rb saved num seg::reelA rb db s::diskX db (iB seg rows) (iB seg rows).length::F)->K (.int .i64 0) c) :
  CF 41 #[.pointer (some ⟨bb,0,none⟩)] H K:=by
 refine cM 41 7644 ?_;refine⟨_,h.r 0,λe=>k0 (by simpa using e),λe=>?_⟩
 have b:saved=true:=by simpa using e
 refine⟨_,h.r 0,_,Qm (h.o [1,0,2] 3),_,h.r 0,λa=>k1 b (V4 a),λa=>⟨_,h.r 0,_,h.r 0,?_⟩⟩
 have f:=V5 a;refine Qs (F:=bookA bb rb saved num seg::F) i hs (h.o [1,2,0] 3) (λd j h=>⟨_,rfl,k2 b f d _ (h.o [2,0,1] 3)⟩) λd j h=>⟨_,rfl,k3 b f d _ (h.o [2,0,1] 3)⟩
end
theorem oq.rd{rs c:List Ry}{b:Fy}{has:Bool}(h:oq rs b has c){H:aD}{F:List aE}(hs:aA H (rowsR rs::F)):aP H b.a (b.bs.map U8):=by
 rcases h.st with rfl|⟨r,d,rfl⟩
 .exact iu _ _
 .exact zV hs r d
theorem TI.save{most:Int}{rows:DR}{syn:Nat}{s:RL}{j:Nat}(h:TI most rows syn s j)(t:j<=1000){r:Rc}(c:r.ok)(u:r.data.length<=262144) :
  TI most (rows++(bN r).map λb=>(s.seg+1,b)) syn { s with seg:=s.seg+1,next:=s.next+1 } (j+1):=by
 have f:=h.seg0;have n:=h.seg;have k:=h.next;have i:=h.ssyn;have e:=h.len;have m:=h.syn;have d:=qy c;refine⟨h.rok.app ⟨by omega,by omega⟩ (rZ c),λx a=>?_,by rw[V3];omega,by dsimp only;omega,by dsimp only;omega,by rw[V3,VH];omega,by dsimp only;omega,by dsimp only;omega,h.hm,h.range⟩
 rcases VR.1 a with a|a
 .have:=h.files x a;dsimp only;omega
 .obtain⟨b,_,rfl⟩:=VB.1 a;exact Wd _
theorem QS{R X:DR}(h:∀r∈R,∀x∈X,r.1<x.1):bB (R++X)=bB R++bB X:=by
 refine zD (oZ _) ?_ λx=>?_
 .rw [List.pairwise_append];refine⟨oZ R,oZ X,λa d b hb=>?_⟩
  obtain⟨r,e,rfl⟩:=VB.1 (jz.1 d);obtain⟨y,c,rfl⟩:=VB.1 (jz.1 hb);exact h r e y c
 .rw [jz,VT,VR,VR,jz,jz]
theorem It{f:Int}{X:DR}(h:∀x∈X,x.1≠f):bytesOf f X=[]:=by
 unfold bytesOf;rw[WM.2 λy a=>by simpa using h y a]
 rfl
theorem Iu{α β:Type}{l:List α}{f g:α->List β}(h:∀x∈l,f x=g x):l.flatMap f=l.flatMap g:=by
 rw[List.flatMap_def,List.flatMap_def,WS h]
theorem QU{R X:DR}(h:∀r∈R,∀x∈X,r.1<x.1):di (R++X)=di R++di X:=by
 unfold di;rw[QS h,W4];congr 1
 .refine Iu λf a=>?_
  obtain⟨r,b,rfl⟩:=VB.1 (jz.1 a);rw[qw,It (X:=X) λx c=>by have:=h r b x c;omega,Wc]
 .refine Iu λf a=>?_
  obtain⟨x,c,rfl⟩:=VB.1 (jz.1 a);rw[qw,It (X:=R) λr b=>by have:=h r b x c;omega,Wh]
structure jm(rows:DR)(syn:Nat)(s:RL)(R:DR)(L:LG)(n0:Int)(k:Nat):Prop where
 rows':rows=R++fH L
 ok:L.ok
 low:∀r∈R,r.1<s.seg
 lowL:∀r∈R,∀x∈L,r.1<x.1
 seg:∀x∈L,x.1<=s.seg
 next:s.next=n0+L.length
 kle:k<=L.length
 ssyn:s.syn=n0+k
 syn:syn=R.length+(fH (L.take k)).length
theorem jm.push{rows:DR}{syn:Nat}{s:RL}{R:DR}{L:LG}{n0:Int}{k:Nat}(h:jm rows syn s R L n0 k){g:Int}(f:s.seg<=g){r:Rc}(d:r.ok) :
  jm (rows++(bN r).map λb=>(g,b)) syn { s with seg:=g,next:=s.next+1 } R (L++[(g,r)]) n0 k:=by
 refine⟨by rw[Ik,Qx,h.rows',VI],⟨λx c=>?_,?_⟩,λr d=>by have:=h.low r d;dsimp only;omega,λr d x c=>?_,λx c=>?_,?_,by rw[V3];have:=h.kle;omega,h.ssyn,
  by rw[Yr h.kle];exact h.syn⟩
 .rcases VR.1 c with c|c
  .exact h.ok.recs x c
  .rw [VE]at c;subst c;exact d
 .rw [List.pairwise_append];refine⟨h.ok.up,List.pairwise_singleton _ _,λa e b hb=>?_⟩
  rw[VE]at hb;subst hb;have:=h.seg a e;dsimp only;omega
 .rcases VR.1 c with c|c
  .exact h.lowL r d x c
  .rw [VE]at c;subst c;have:=h.low r d;dsimp only;omega
 .rcases VR.1 c with c|c
  .have:=h.seg x c;dsimp only;omega
  .rw [VE]at c;subst c;exact Wd _
 .rw [V3];have:=h.next;dsimp only;simp only[V9,VW];omega
theorem jm.append{rows:DR}{syn:Nat}{s:RL}{R:DR}{L:LG}{n0:Int}{k:Nat}(h:jm rows syn s R L n0 k){r:Rc}(hb:aH r.data)(a:iA rows s r=0) :
  jm (gA rows s r) syn (du rows s r) R (L++[((du rows s r).seg,r)]) n0 k:=by
 have hs:=Ij (rows:=rows) (s:=s) (r:=r);have e1:gA rows s r=rows++(bN r).map λb=>((du rows s r).seg,b):=by unfold gA;rw[V0 (by rw[a];decide)]
 have e2:du rows s r={ s with seg:=(du rows s r).seg,next:=s.next+1 }:=by unfold du;rw[V0 (by rw[a];decide)]
 have:=h.push hs.1 (zW hb a);rw[<-e1,<-e2]at this;exact this
theorem jm.sync{rows:DR}{syn:Nat}{s:RL}{R:DR}{L:LG}{n0:Int}{k:Nat}(h:jm rows syn s R L n0 k):jm rows rows.length { s with syn:=s.next } R L n0 L.length:=
 ⟨h.rows',h.ok,h.low,h.lowL,h.seg,h.next,VA _,h.next,by rw[Wf,h.rows',V3]⟩
theorem jm.trim{rows:DR}{s:RL}{R:DR}{A B:LG}{seg:Int}{d:List Int}{n0:Int}{k:Nat}(h:jm rows rows.length s R (A++(seg,⟨0,d⟩)::B) n0 k)(hs:s.syn=s.next)(j:∀x∈A,x.1<seg) :
  jm (iB seg rows) (iB seg rows).length s [] ((seg,⟨0,d⟩)::B) (n0+A.length) (B.length+1):=by
 have b:=h.ok.up;rw[List.pairwise_append]at b;obtain⟨u1,u2,u3⟩:=b;have f:∀x∈(seg,(⟨0,d⟩:Rc))::B,seg<=x.1:=λx a=>by
  rcases VJ.1 a with rfl|a
  .exact Wd _
  .exact (W0.1 u2).1 x a
 have e:iB seg rows=fH ((seg,⟨0,d⟩)::B):=by
  rw[h.rows',Ik];unfold iB;rw[List.filter_append,List.filter_append,WM.2 λr c=>?_,Wh]
  .have a1:=Iq seg A;have a2:=Iq seg ((seg,⟨0,d⟩)::B);unfold iB at a1 a2;rw[a1,a2,WM.2 λx a=>by have:=j x a;simp;omega,Yv.2 λx a=>VS (f x a)]
   rfl
  .have:=h.lowL r c (seg,⟨0,d⟩) (by simp);simp;omega
 have i:=h.next;rw[V3,V9]at i;refine⟨by rw[e];rfl,⟨λx a=>h.ok.recs x (Yf _ a),u2⟩,λr c=>V2 c (by simp),λr c=>V2 c (by simp),λx a=>h.seg x (Yf _ a),?_,VA _,?_,?_⟩
 .rw [V9];omega
 .omega
 .rw [e,VZ (by rw[V9];omega)];simp
theorem jm.cut{rows:DR}{syn:Nat}{s:RL}{R:DR}{L:LG}{n0:Int}{k:Nat}(h:jm rows syn s R L n0 k)(keep:Int):∃p,k<=p/\p<=L.length/\di (dG rows syn keep)=di R++(L.take p).map Prod.snd:=by
 unfold dG;obtain⟨n,i⟩:∃n,syn+(min (max keep 0) ((rows.length:Int)-syn)).toNat=n:=⟨_,rfl⟩;rw[i];have f:=h.syn;obtain⟨p,g,t,m,B,A,w⟩:=Ip L (n-R.length);have e:∀x∈L,0<(bN x.2).length:=λx a=>by have:=qy (h.ok.recs x a);omega
 have v:=w k h.kle (by omega) e;have c:LG.ok (L.take p):=⟨λx a=>h.ok.recs x (Ww a),h.ok.up.take⟩
 refine⟨p,v,B,?_⟩;have d:∀r∈R,∀x∈(fH L).take (n-R.length),r.1<x.1:=λr u x a=>by
  obtain⟨y,C,a⟩:=Yi.1 (Ww a);obtain⟨b,_,rfl⟩:=VB.1 a;exact h.lowL r u y C
 rw[h.rows',List.take_append,VZ (by omega),QU d,m];congr 1
 rcases A with rfl|⟨r,⟨x,a,rfl⟩,j,D,rfl⟩
 .exact Io c (g:=g) (t:=[]) (λx a=>by cases a) rfl
 .exact Io c (tR _ (rZ (h.ok.recs x a))) (Qa (h.ok.recs x a) D)
theorem QV{rows:DR}(most:Int):jm rows rows.length (opS most rows) rows [] (di rows).length 0:=by
 unfold opS;exact⟨by simp[fH],⟨λx a=>V2 a (by simp),List.Pairwise.nil⟩,files_lt,λr b x a=>V2 a (by simp),λx a=>V2 a (by simp),by simp,VA _,by simp,by simp[fH]⟩
theorem tellM_no:∀{l:List Rc},(dw l).1=none->dw l=(none,l)
 | [],_=>rfl
 | r::l,h=>by
  rw[dw]at h ⊢
  split at h
  .rename_i h0;rw[V1 h0]
   split at h
   .cases h
   .rename_i a;rw[V0 a]
  .rename_i h0;exact V2 h h0
theorem zZ:∀(a b:List Rc),dw (a++b)=if (dw b).1=none then ((dw a).1,(dw a).2++b) else dw b
 | [],b=>by
  by_cases e:(dw b).1=none
  .rw [V1 e,Wh,tellM_no e];rfl
  .rw [V0 e,Wh]
 | r::a,b=>by
  rw[W7,dw,zZ a b]
  by_cases e:(dw b).1=none
  .simp only[V1 e];rw[dw]
   by_cases h:(dw a).1=none
   .rw [V1 h,V1 h]
    split <;> rfl
   .rw [V0 h,V0 h]
  .simp only[V0 e]
theorem Iv(l:List Rc)(x:Rc):dw (l++[x])=if x.kind=0 then (some x.data,[]) else ((dw l).1,(dw l).2++[x]):=by
 rw[zZ]
 by_cases h:x.kind=0
 .rw [V1 h,V0] <;> simp[dw,h]
 .rw [V0 h,V1] <;> simp[dw,h]
theorem QW(a:List Rc){x:Rc}(h:x.kind=0)(b:List Rc):dw (a++x::b)=dw (x::b):=by
 rw[zZ,V0];rw[dw]
 split
 .simp [h]
 .rename_i h0;exact h0
theorem tdivN(a b:Nat):Int.tdiv (a:Int) (b:Int)=((a/b:Nat):Int):=rfl
theorem tmodN(a b:Nat):Int.tmod (a:Int) (b:Int)=((a%b:Nat):Int):=rfl
theorem w_un{u u1 Q Y:Nat}(h:Q=(u*4294967296+u1)/Y)(c:0<Y)(a:Y<18446744073709551616) :
  u64.wrap ((u64.wrap ((u64.wrap ((u:Int)*4294967296))+(u1:Int)))-(u64.wrap ((Q:Int)*(Y:Int))))=(((u*4294967296+u1)%Y:Nat):Int):=by
 have b:=Yq (u*4294967296+u1) Y;have d:=W6 (u*4294967296+u1) c;rw[<-h]at b;rw[mulNN];generalize Q*Y=p at *;generalize (u*4294967296+u1)%Y=m at *;rw[df,df,df,df];omega
theorem norm_y{y:Nat}(h0:0<y)(h:y<18446744073709551616):64-bitLen y<64/\y*2^(64-bitLen y)<18446744073709551616/\9223372036854775808<=y*2^(64-bitLen y):=by
 obtain⟨b,a⟩:=bitLen_spec y;have a:=a (by omega);have c:bitLen y<=64:=by
  unfold bitLen
  split
  .omega
  .rename_i h0;have:=(Nat.log2_lt h0).2 (show y<2^64 from h);omega
 have d:0<bitLen y:=by unfold bitLen;rw[nO];omega
 refine⟨by omega,?_,?_⟩
 .calc y*2^(64-bitLen y)<2^bitLen y*2^(64-bitLen y):=(Nat.mul_lt_mul_right (WV _)).2 b
   _=18446744073709551616:=by rw[<-W2,show bitLen y+(64-bitLen y)=64 by omega]
 .calc 9223372036854775808=2^(bitLen y-1)*2^(64-bitLen y):=by rw[<-W2,show bitLen y-1+(64-bitLen y)=63 by omega]
   _<=y*2^(64-bitLen y):=Wy _ a
theorem norm_u{hi lo y s:Nat}(hs:s<64)(d:hi<y)(a:lo<18446744073709551616)(h:y*2^s<18446744073709551616) :
  hi*2^s+lo/2^(64-s)<y*2^s/\aX .or .u64 (u64.wrap ((hi:Int)*2^s)) (Int.fdiv (lo:Int) (2^(64-s)))=((hi*2^s+lo/2^(64-s):Nat):Int):=by
 have e:lo/2^(64-s)<2^s:=by
  rw[Yb (WV _),<-W2,show s+(64-s)=64 by omega];exact a
 have c:hi*2^s+2^s<=y*2^s:=by
  rw[<-Nat.succ_mul];exact Wy _ d
 refine⟨by omega,?_⟩;have e1:(hi:Int)*2^s=((hi*2^s:Nat):Int):=by rw[WU];simp
 have b:hi*2^s<18446744073709551616:=Nat.lt_of_lt_of_le (Nat.lt_add_of_pos_right (WV s)) (VO c (Nat.le_of_lt h));rw[e1,rG,u64n b,or64 b (Nat.lt_of_le_of_lt (Nat.div_le_self _ _) a)];congr 1;rw[Nat.mul_comm hi,<-YG e]
section
variable {F L:List aE}{H:aD}{K:KE}
theorem div_core{hi lo y s Y u v:Nat}(hs:s<64)(l0:Y<18446744073709551616)(l5:9223372036854775808<=Y)(hu:u<Y)(j1:v<18446744073709551616)(h8:hi≠0)
  (J:u64.wrap ((y:Int)*2^s)=(Y:Int)) (n:u64.wrap ((lo:Int)*2^s)=(v:Int))
  (W:aX .or .u64 (u64.wrap ((hi:Int)*2^s)) (Int.fdiv (lo:Int) (2^(64-s)))=(u:Int))
  (hz:bV Tryz.prog 364 #[.int .u64 (y:Nat)] H (aC (s:Nat)))
  (k:K (.tuple #[.int .u64 (((u*18446744073709551616+v)/Y:Nat):Int),.int .u64 ((((u*18446744073709551616+v)%Y)/2^s:Nat):Int)]) H) :
  lF.r5 (hi:Int) (lo:Int) (y:Int) K H:=by
  unfold lF.r5;refine⟨λd=>?_,λd=>?_⟩
  .exfalso;simp only[V6]at d;omega
  refine⟨_,hz,?_⟩;have I:u64.wrap (s:Int)=(s:Int):=u64n (by omega);have em:min (Int.toNat (s:Int)) u64.bits=s:=by rw[VD];exact WR (by simp only[IntKind.bits];omega)
  have e:u64.wrap (64-(s:Int))=((64-s:Nat):Int):=by rw[df];omega
  have t:min (Int.toNat ((64-s:Nat):Int)) u64.bits=64-s:=by rw[VD];exact WR (by simp only[IntKind.bits];omega)
  obtain⟨u1,R⟩:∃u1,v/4294967296=u1:=⟨_,rfl⟩;obtain⟨u0,S⟩:∃u0,v%4294967296=u0:=⟨_,rfl⟩;obtain⟨y1,h5⟩:∃y1,Y/4294967296=y1:=⟨_,rfl⟩;obtain⟨y0,h4⟩:∃y0,Y%4294967296=y0:=⟨_,rfl⟩;have i:y1*4294967296+y0=Y:=by omega
  have ev:u1*4294967296+u0=v:=by have ev:=Yq v 4294967296;rw[R,S]at ev;exact ev
  have b1:2147483648<=y1:=by omega
  have j3:y1<4294967296:=by omega
  have b0:y0<4294967296:=by omega
  have c1:u1<4294967296:=by omega
  have c0:u0<4294967296:=by omega
  have hj:=kn_join (u:=u) (u1:=u1) (u0:=u0) (y:=Y) (by omega);have e0:u*18446744073709551616+v=(u*4294967296+u1)*4294967296+u0:=by rw[<-ev,Wn,Nat.mul_assoc,Ws]
  rw[e0,hj.1]at k;rw[hj.2]at k;have Z:Int.fdiv (Y:Int) (2^(min (Int.toNat 32) (u64.bits)))=(y1:Int):=by rw[vX,h5]
  have N:Int.fdiv (v:Int) (2^(min (Int.toNat 32) (u64.bits)))=(u1:Int):=by rw[vX,R]
  have O:aX .and .u64 (Y:Int) 4294967295=(y0:Int):=by rw[tF (by omega),h4]
  have L:aX .and .u64 (v:Int) 4294967295=(u0:Int):=by rw[tF (by omega),S]
  have cond:∀q r w1:Nat,r<4294967296->w1<4294967296->((decide (4294967296<=(q:Int))||decide (u64.wrap ((u64.wrap (4294967296*(r:Int)))+(w1:Int))<u64.wrap ((q:Int)*(y0:Int))))=true↔(4294967296<=q\/4294967296*r+w1<q*y0)):=by
   intro q r w1 x hw;have ea:u64.wrap ((u64.wrap (4294967296*(r:Int)))+(w1:Int))=((4294967296*r+w1:Nat):Int):=by rw[df,df];omega
   rw[ea,mulNN,u64m];simp only[VN,V6]
   by_cases hB:4294967296<=q
   .constructor
    .intro _;exact .inl hB
    .intro _;exact .inl (by omega)
   .have:q*y0<=4294967296*4294967295:=Nat.mul_le_mul (by omega) (by omega);rw[WG (by omega)]
    constructor
    .rintro (h|h)
     .omega
     .exact .inr (by omega)
    .rintro (h|h)
     .omega
     .exact .inr (by omega)
  have M:∀q r:Nat,1<=q->r<4294967296->q<=4294967297->u64.wrap ((q:Int)-1)=((q-1:Nat):Int)/\u64.wrap ((r:Int)+(y1:Int))=((r+y1:Nat):Int):=by
   intro q r h1 h2 h3;exact⟨by rw[df];omega,by rw[df];omega⟩
  have V:∀U:Nat,U<Y->u64.wrap ((U/y1:Nat):Int)=((U/y1:Nat):Int)/\u64.wrap ((U:Int)-u64.wrap (((U/y1:Nat):Int)*(y1:Int)))=((U%y1:Nat):Int)/\U%y1<4294967296:=by
   intro U hU;have h1:=Yq U y1;have h2:=Nat.div_le_self U y1;have h3:=W6 U (show 0<y1 by omega);refine⟨u64n (by omega),?_,by omega⟩;rw[mulNN];generalize U/y1*y1=p at *;rw[df,df];omega
  obtain⟨w,c⟩:∃w,(u*4294967296+u1)/Y=w:=⟨_,rfl⟩;obtain⟨R1,C⟩:∃R1,(u*4294967296+u1)%Y=R1:=⟨_,rfl⟩;have A:R1<Y:=by rw[<-C];exact W6 _ (by omega)
  have w1:=w_un (u:=u) (u1:=u1) (Q:=w) (Y:=Y) c.symm (by omega) (by omega);rw[C]at w1;obtain⟨B,b⟩:∃B,(R1*4294967296+u0)/Y=B:=⟨_,rfl⟩;have w0:=w_un (u:=R1) (u1:=u0) (Q:=B) (Y:=Y) b.symm (by omega) (by omega);have h7:w<4294967296:=by rw[<-c];exact kn_lt hu c1
  have h6:B<4294967296:=by rw[<-b];exact kn_lt A c0
  rw[c,C,b]at k;have last:lF.r1 (hi:Int) lo y K (s:Int) (w:Int) (B:Int) H:=by
   unfold lF.r1;simp only[I,em,e,t,J,n,W,Z,N,O,L,w1,w0];refine⟨by omega,?_⟩;have ea:u64.wrap ((u64.wrap ((w:Int)*4294967296))+(B:Int))=((w*4294967296+B:Nat):Int):=by rw[df,df];omega
   rw[ea,rG];exact k
  have T:lF.r3 (hi:Int) lo y K (s:Int) (w:Int) H:=by
   unfold lF.r3;simp only[I,em,e,t,J,n,W,Z,N,O,L,w1,tdivN];obtain⟨i1,i2,i3⟩:=V R1 A;obtain⟨n1,n2,n3,n4⟩:=EK (y0:=y0) (u:=R1) (u1:=u0) b1 b0 (by omega) c0;rw[i,b]at n3;refine⟨by omega,λj2 h0=>⟨λa q0 G=>G=H/\∃q r:Nat,q0=q/\a=r/\q*y1+r=R1/\r<4294967296/\B<=q/\q<=4294967297,λa _ _=>4294967296-a.toNat,?_,?_⟩⟩
   .rw [i1,i2];exact⟨rfl,_,_,rfl,rfl,n1,i3,n3,n4⟩
   rintro a q0 G ⟨rfl,q,r,rfl,rfl,D,x,F,E⟩;simp only[I,em,e,t,J,n,W,Z,N,O,L];refine⟨λd=>?_,λd=>?_⟩
   .have d:=(cond q r u0 x c0).1 d;have hd:=kn_dec (y0:=y0) (u:=R1) (u1:=u0) b1 (by omega) c0 D d;rw[i,b]at hd;obtain⟨p,rfl⟩:∃p,q=p+1:=⟨q-1,by omega⟩;have m:p*y1+(r+y1)=R1:=by rw[Nat.succ_mul]at D;omega
    obtain⟨e1,e2⟩:=M (p+1) r (by omega) x E;rw[YC]at e1 hd;rw[e1,e2];refine⟨λf=>?_,λf=>⟨⟨trivial,_,_,rfl,rfl,m,?_,hd.2,by omega⟩,?_⟩⟩
    .simp only[V6]at f;have j:=EM (y0:=y0) (u:=R1) (u1:=u0) b1 b0 m (by rw[i,b];exact hd.2) (by omega) (by omega);rw[i,b]at j;rw[j];exact h0 _ _ last
    .simp only[V8]at f;omega
    .simp only[VD];omega
   .have d:¬(4294967296<=q\/4294967296*r+u0<q*y0):=λhh=>by rw[(cond q r u0 x c0).2 hh]at d;cases d
    have j:=EL (y0:=y0) (u:=R1) (u1:=u0) b1 D (by rw[i,b];exact F) (by omega);rw[i,b]at j;rw[j];exact h0 _ _ last
  simp only[I,em,e,t,J,n,W,Z,N,O,L,tdivN];obtain⟨i1,i2,i3⟩:=V u hu;obtain⟨n1,n2,n3,n4⟩:=EK (y0:=y0) (u:=u) (u1:=u1) b1 b0 (by omega) c1;rw[i,c]at n3;refine⟨by omega,by decide,by omega,by omega,by omega,by decide,by omega,λh9 P=>⟨λq1 a G=>G=H/\∃q r:Nat,q1=q/\a=r/\q*y1+r=u/\r<4294967296/\w<=q/\q<=4294967297,λ_ a _=>4294967296-a.toNat,?_,?_⟩⟩
  .rw [i1,i2];exact⟨rfl,_,_,rfl,rfl,n1,i3,n3,n4⟩
  rintro q1 a G ⟨rfl,q,r,rfl,rfl,D,x,F,E⟩;simp only[I,em,e,t,J,n,W,Z,N,O,L];refine⟨λd=>?_,λd=>?_⟩
  .have d:=(cond q r u1 x c1).1 d;have hd:=kn_dec (y0:=y0) (u:=u) (u1:=u1) b1 (by omega) c1 D d;rw[i,c]at hd;obtain⟨p,rfl⟩:∃p,q=p+1:=⟨q-1,by omega⟩;have m:p*y1+(r+y1)=u:=by rw[Nat.succ_mul]at D;omega
   obtain⟨e1,e2⟩:=M (p+1) r (by omega) x E;rw[YC]at e1 hd;rw[e1,e2];refine⟨λf=>?_,λf=>⟨⟨trivial,_,_,rfl,rfl,m,?_,hd.2,by omega⟩,?_⟩⟩
   .simp only[V6]at f;have j:=EM (y0:=y0) (u:=u) (u1:=u1) b1 b0 m (by rw[i,c];exact hd.2) (by omega) (by omega);rw[i,c]at j;rw[j];exact P _ _ T
   .simp only[V8]at f;omega
   .simp only[VD];omega
  .have d:¬(4294967296<=q\/4294967296*r+u1<q*y0):=λhh=>by rw[(cond q r u1 x c1).2 hh]at d;cases d
   have j:=EL (y0:=y0) (u:=u) (u1:=u1) b1 D (by rw[i,c];exact F) (by omega);rw[i,c]at j;rw[j];exact P _ _ T
theorem QY{hi lo y:Nat}(n:hi<y)(f:lo<18446744073709551616)(a:y<18446744073709551616)
  (k:K (.tuple #[.int .u64 (((hi*18446744073709551616+lo)/y:Nat):Int),.int .u64 (((hi*18446744073709551616+lo)%y:Nat):Int)]) H) :
  CF 331 #[.int .u64 (hi:Nat),.int .u64 (lo:Nat),.int .u64 (y:Nat)] H K:=by
 refine Oi ?_;refine λu h=>⟨λc=>?_,λ_=>h _ ?_⟩
 .exfalso;simp only[V6]at c;omega
 refine λj d=>⟨λc=>?_,λ_=>d _ ?_⟩
 .exfalso;simp only[V6]at c;omega
 by_cases h0:hi=0
 .subst h0;unfold lF.r5;refine⟨λ_=>⟨by omega,by omega,?_⟩,λc=>?_⟩
  .rw [tdivN,tmodN,u64n (Nat.lt_of_le_of_lt (Nat.div_le_self _ _) f)];rw[Yg,VQ]at k;exact k
  .exfalso;simp at c
 .obtain⟨hs,b,e⟩:=norm_y (y:=y) (by omega) a;obtain⟨t,i⟩:=norm_u hs n f b;have m:=norm_num (hi:=hi) (lo:=lo) (s:=64-bitLen y) (by omega) f;refine div_core (v:=lo*2^(64-bitLen y)%18446744073709551616) hs b e t (W6 _ (by decide)) h0 ?_ ?_ i (P9 a) ?_
  .rw [<-u64n b,WU];simp
  .rw [<-u64m,WU];simp
  .rw [m,Nat.mul_div_mul_right _ _ (WV _),Nat.mul_mod_mul_right,Nat.mul_div_cancel _ (WV _)];exact k
theorem Iw{a b c:Int}{up:Bool}(u:aF a)(hb:aF b)(n:aF c)(k:K (.tuple #[aC (pf a b c up).1,aC (pf a b c up).2]) H) :
  CF 286 #[aC a,aC b,aC c,.bool up] H K:=by
 refine Ox ?_;unfold pf at k;have w:zabs a<18446744073709551616:=by unfold zabs;unfold aF at u;omega
 have v:zabs b<18446744073709551616:=by unfold zabs;unfold aF at hb;omega
 refine⟨λs=>?_,λs=>?_⟩
 .rw [V1 (by simpa using s)]at k;exact k
 .have m:¬c<1:=by simpa using s
  rw[V0 m]at k;obtain⟨cn,rfl⟩:∃cn:Nat,c=cn:=⟨c.toNat,by omega⟩;have i:cn<18446744073709551616:=by unfold aF at n;omega
  rw[u64n i];rw[VD]at k;refine⟨_,Gw u,_,Gw hb,_,_,P6 w v,?_⟩;have x:zabs a*zabs b/18446744073709551616*18446744073709551616+zabs a*zabs b%18446744073709551616=zabs a*zabs b:=Yq _ _;have j:zabs a*zabs b%18446744073709551616<18446744073709551616:=W6 _ (by decide);generalize zabs a*zabs b/18446744073709551616=hi at *;generalize zabs a*zabs b%18446744073709551616=lo at *;generalize zabs a*zabs b=P at *;refine⟨λe=>?_,λe=>?_⟩
  .rw [V1 (by simp only[V6]at e;omega)]at k;exact k
  .have e:¬cn<=hi:=by simp only[V8]at e;omega
   rw[V0 e]at k;refine QY (by omega) j i ⟨_,_,rfl,?_⟩;rw[x];dsimp only at k;refine⟨λd=>?_,λd=>λy t=>?_⟩
   .rw [V1 (by simp only[V6]at d;omega)]at k;exact k
   .have d:¬9223372036854775808<P/cn:=by simp only[V8]at d;omega
    rw[V0 d]at k;have e1:u64.wrap (((P/cn:Nat):Int)+1)=((P/cn+1:Nat):Int):=(show ∀q:Nat,¬9223372036854775808<q->u64.wrap ((q:Int)+1)=((q+1:Nat):Int) from λq h=>by rw[df];omega) _ d
    have e2:decide (((P%cn:Nat):Int)=0)=decide (P%cn=0):=by
     rw[decide_eq_decide];omega
    rw[e1,e2];refine⟨λf=>t _ _ ?_,λf=>t _ _ ?_⟩
    .rw [V1 f]at k;exact⟨_,_,Gx (Nat.lt_of_le_of_lt (Nat.succ_le_succ (Nat.le_of_not_lt d)) (by decide)),k⟩
    .rw [f,V0 Bool.false_ne_true]at k;exact⟨_,_,Gx (Nat.lt_of_le_of_lt (Nat.le_of_not_lt d) (by decide)),k⟩
theorem QZ{rho:Int}:bV Tryz.prog 285 #[aC rho] H (.bool (decide (gy rho))):=by
 refine cM 285 28 ⟨congrArg Value.bool ?_,rfl⟩;rw[Wi];simp only[V7,V6,gy]
theorem Ix{x rho:Int}(f:aF x)(k:K (.tuple #[aC (lowS x rho).1,aC (lowS x rho).2]) H):CF 233 #[aC x,aC rho] H K:=by
 refine cM 233 125110962460 ?_;unfold lowS at k;refine⟨_,λ_=>QZ,λb=>?_,λb=>?_⟩
 .rw [V1 (by simp only[VN,V6,VY,V8]at b;omega)]at k;exact k
 .have c:¬(x < -4611686018427387904\/4611686018427387904<x\/¬gy rho):=by
   simp only[VK,V8,Wm,V6]at b;rintro (h|h|h)
   .exact b.1.1 h
   .exact b.1.2 h
   .exact h b.2
  rw[V0 c]at k;have d:gy rho:=by
   rcases Classical.em (gy rho) with h|h
   .exact h
   .exact V2 (.inr (.inr h)) c
  have e:¬x < -4611686018427387904/\¬4611686018427387904<x:=⟨λh=>c (.inl h),λh=>c (.inr (.inl h))⟩
  unfold gy at d;refine⟨λa=>?_,λa=>?_⟩
  .have h0:0<x:=by simpa using a
   rw[V1 h0]at k
   conv=>whnf
   rw[aK (x:=x-1),aK (x:=1000000+rho)];exact Iw (by unfold aF;omega) (by unfold aF;omega) (by unfold aF;omega) ⟨_,_,rfl,k⟩
  .have h0:¬0<x:=by simpa using a
   rw[V0 h0]at k
   conv=>whnf
   rw[aK (x:=1-x),aK (x:=1000000-rho)];exact Iw (by unfold aF;omega) (by unfold aF;omega) (by unfold aF;omega) ⟨_,_,rfl,k⟩
theorem Ra{x rho:Int}(c:aF x)(k:K (.tuple #[aC (pg x rho).1,aC (pg x rho).2]) H):CF 234 #[aC x,aC rho] H K:=by
 refine cM 234 7452 ?_;unfold pg at k;refine⟨λa=>?_,λa=>?_⟩
 .rw [V1 (by simpa using a)]at k;exact k
 .have b:¬(x < -4611686018427387904\/4611686018427387904<x):=by simpa using a
  rw[V0 b]at k;have e:i64.wrap (0-x)=-x:=by rw[aK];omega
  conv=>whnf
  rw[e];exact Ix (by unfold aF;omega) ⟨_,_,rfl,k⟩
end
structure Gd where
 width:Int
 policy:Int
 most:Int
deriving DecidableEq
abbrev uc(g:Gd):Value:=.agg #[.int .i64 g.width,.int .i64 g.policy,.int .i64 g.most]
def Gd.ok(g:Gd):Prop:=1<=g.width/\g.width<=1099511627776/\0<=g.policy/\g.policy<=3/\0<=g.most/\g.most<=4611686018427387903
instance (g:Gd):Decidable g.ok:=by unfold Gd.ok;infer_instance
def fP(g:Gd)(t:Int):Int:=
 if g.ok then (if Int.tmod t g.width<0 then i64.wrap (i64.wrap (Int.tdiv t g.width)-1) else i64.wrap (Int.tdiv t g.width)) else 0
def dK(g:Gd)(x:Gp):Int×Int×Int:=
 if g.ok then (if x.ok then (fP g x.lo,fP g x.hi,0) else (0,0,10)) else (0,0,21)
def mF(g:Gd)(x:Gp):Int×Int:=
 if (dK g x).2.2≠0 then (0,(dK g x).2.2) else
 if u64.wrap g.most<wx x then (0,17) else
 if g.policy=0 then ((dK g x).1,0) else
 if g.policy=1 then ((dK g x).2.1,0) else
 if g.policy=2 then (fP g (midS x),0) else
 if (dK g x).1≠(dK g x).2.1 then (0,17) else ((dK g x).1,0)
structure bQ where
 asked:Int
 got:Int
 sent:Int
 came:Int
deriving DecidableEq
def bQ.z:bQ:=⟨0,0,0,0⟩
abbrev eZ(s:bQ):Os:=[.int .i64 s.asked,.int .i64 s.got,.int .i64 s.sent,.int .i64 s.came]
abbrev aggSm(s:bQ):Value:=.agg #[.int .i64 s.asked,.int .i64 s.got,.int .i64 s.sent,.int .i64 s.came]
theorem kF(s:bQ):(eZ s).length=4:=rfl
theorem Aa(s:bQ):cT (eZ s)=true:=rfl
abbrev gN(t:Int):Prop:=0<=t/\t<=4611686018427387903
def bQ.ok(s:bQ):Prop:=gN s.asked/\gN s.got/\gN s.sent/\gN s.came/\s.asked<=s.came/\s.got<=s.sent
instance (s:bQ):Decidable s.ok:=by unfold bQ.ok;infer_instance
def bQ.wf(s:bQ):Prop:=aF s.asked/\aF s.got/\aF s.sent/\aF s.came
theorem bQ.ok.wf{s:bQ}(h:s.ok):s.wf:=by unfold bQ.ok gN at h;unfold bQ.wf aF;omega
def iU(s:bQ)(stamp rho:Int):Gp×Int:=
 if ¬s.ok then (Gp.z,10) else
 if ¬gN stamp\/¬gy rho then (Gp.z,11) else
 let low:=(lowS (stamp-s.got) rho).1
 let high:=(pg (stamp-s.sent) rho).1
 let lo:=if 0>i64.wrap (s.asked+low) then 0 else i64.wrap (s.asked+low)
 let h1:=if (j0 s.came high).2≠0 then 4611686018427387903 else (j0 s.came high).1
 let hi:=if 4611686018427387903<h1 then 4611686018427387903 else h1
 if hi<lo then (Gp.z,13) else (⟨lo,hi⟩,0)
structure Ck where
 rho:Int
 least:Int
 held:Bool
 streak:Int
 smps:List bQ
deriving DecidableEq
def iV(rho stamp:Int)(s:bQ):Gp:=if (iU s stamp rho).2≠0 then ⟨1,0⟩ else (iU s stamp rho).1
def pm(l:List Gp):Bool:=decide (0<l.length)&&decide ((kS l).2=0)
def kU(c:Ck)(s:bQ):Ck×Int:=
 if ¬s.ok then (c,10) else
 let l:=if 8<c.smps.length+1 then (c.smps++[s]).drop 1 else c.smps++[s]
 let gs:=l.map (iV c.rho s.sent)
 if pm gs then
  let st:=if c.streak<9223372036854775807 then c.streak+1 else c.streak
  ({ c with streak:=st,held:=if c.least<=st then false else c.held,smps:=l },0)
 else ({ c with held:=true,streak:=0,smps:=if (iV c.rho s.sent s).ok then [s] else [] },21)
def nM(rho stamp:Int):List bQ->List Gp×Int
 | []=>([],0)
 | s::r=>if (iU s stamp rho).2≠0 then ([],(iU s stamp rho).2) else ((iU s stamp rho).1::(nM rho stamp r).1,(nM rho stamp r).2)
def ckAt(c:Ck)(stamp:Int):Gp×Int:=
 if c.smps=[] then (Gp.z,19) else
 if ¬gN stamp then (Gp.z,11) else
 if (nM c.rho stamp c.smps).2≠0 then (Gp.z,(nM c.rho stamp c.smps).2) else kS (nM c.rho stamp c.smps).1
structure CkOk(c:Ck):Prop where
 len:c.smps.length<=8
 ok:∀s∈c.smps,s.ok
 st:0<=c.streak/\c.streak<=9223372036854775807
theorem ckAdd_ok{c:Ck}(h:CkOk c)(s:bQ):CkOk (kU c s).1:=by
 unfold kU
 split
 .exact h
 .rename_i hs;have hs:s.ok:=Decidable.not_not.1 hs;have e:∀x∈(if 8<c.smps.length+1 then (c.smps++[s]).drop 1 else c.smps++[s]),x.ok:=by
   intro x a;have:x∈c.smps++[s]:=by
    split at a
    .exact WE a
    .exact a
   rcases VR.1 this with b|b
   .exact h.ok x b
   .rw [VE]at b;rw[b];exact hs
  have d:(if 8<c.smps.length+1 then (c.smps++[s]).drop 1 else c.smps++[s]).length<=8:=by
   have:=h.len
   split
   .simp only[VP,V3,Wo];omega
   .simp only[V3,Wo];omega
  dsimp only;generalize (if 8<c.smps.length+1 then (c.smps++[s]).drop 1 else c.smps++[s])=l at e d ⊢
  by_cases hag:pm (l.map (iV c.rho s.sent))=true
  .rw [V1 hag];exact⟨d,e,by have:=h.st;dsimp only;split <;> omega⟩
  .rw [V0 hag];refine⟨?_,?_,by dsimp only;omega⟩
   .dsimp only;split <;> simp
   .dsimp only
    split
    .intro x a;rw[VE]at a;rw[a];exact hs
    .intro x a;cases a
section
variable {F L:List aE}{H:aD}{K:KE}
theorem sd{g:Gp}(h:aA H F)(k:∀a,aA a F->K (.bool (decide g.ok)) a):CF 150 #[jS g] H K:=by
 refine cM 150 28 ?_;refine h.al λ_ _ h=>?_;refine⟨_,Ra1,?_⟩;refine⟨_,Ra1,?_⟩
 exact k _ h.tl
theorem Rb{a b:Gp}(h:aA H F)(k:∀c,aA c F->K (jS (meet2 a b)) c):CF 288 #[jS a,jS b] H K:=by
 refine cM 288 28 ?_;refine h.al λ_ _ h=>?_;refine h.al λ_ _ h=>?_;refine h.al λ_ _ h=>?_;refine⟨_,Ra3,?_⟩;refine⟨_,Ra3,?_⟩;refine⟨_,Ra3,?_⟩;refine⟨_,Ra3,?_⟩;refine St3 h λ_ h=>?_;refine⟨_,_,Rs3,?_⟩
 exact k _ h.tl.tl.tl
theorem Re{s:Gp}{a:KQ}{c:Nat}{gs:List Gp}(h:aA H F)(x:∀H,aA H F->aP H a (flat jR gs))(D:gs.length<=1000000)
  (k:∀m,aA m F->K (.tuple #[jS (mD s gs).1,aC (mD s gs).2]) m) :
  CF 287 #[jS s,.slice a gs.length c,.func (.func 288) #[] #[]] H K:=by
 refine cN 287 0x1215612399251d44dc [[(12,sI)]] ?_;refine h.al λb _ h=>?_
 refine h.al λb1 _ h=>?_
 refine⟨λi m=>∃(j:Nat) (t:Gp),i=j/\j<=gs.length/\mD s gs=mD t (gs.drop j)/\aA m (cellsA b1 [aC 0,aC 0] 89::cellsA b (jR t) 89::F),λi _=>gs.length-i.toNat,⟨0,s,rfl,VX _,rfl,h⟩,?_⟩
 rintro i B ⟨j,t,rfl,C,e,h⟩;refine⟨λu=>?_,λu=>?_⟩
 .have f:j<gs.length:=by simpa using u
  have v:=x _ h.tl.tl;rw[Wv f,mD]at e;refine⟨⟨by omega,by omega⟩,_,_,v.some ww (by omega) f,_,_,v.els ww f,?_⟩;refine h.al λb3 _ h=>?_
  refine St3 h λ_ h=>?_;refine⟨_,_,Rs3,?_⟩
  refine sd (g:=gs[j]) h λw h=>⟨_,rfl,λd=>?_,λd=>?_⟩
  .have:¬(gs[j]).ok:=by simpa using d
   rw[V0 this]at e;refine St3 h λ_ h=>?_;refine⟨_,_,Rs3,?_⟩
   have:=k _ h.tl.tl.tl;rw[e]at this;exact this
  .have:(gs[j]).ok:=by simpa using d
   rw[V1 this]at e;refine⟨_,_,Rs3,?_⟩;refine⟨_,_,Rs3,?_⟩;refine⟨by kernel_rfl,?_⟩;refine Rb (a:=t) (b:=gs[j]) h λA h=>⟨_,_,rfl,?_⟩
   refine St3 h λ_ h=>?_
   have y:i64.wrap ((j:Int)+1)=((j+1:Nat):Int):=by rw[aK];omega
   conv=>whnf
   rw[y];exact⟨⟨j+1,_,rfl,f,e,h.tl⟩,by simp only[VD];omega⟩
 .have n:gs.length<=j:=by simpa using u
  rw[Y5 n,mD]at e;refine⟨_,_,Rs2,?_⟩;refine sd (g:=t) h λw h=>⟨_,rfl,λd=>?_,λd=>?_⟩
  .have:¬t.ok:=by simpa using d
   rw[V0 this]at e;refine St2 h λ_ h=>?_;refine⟨_,_,Rs2,?_⟩
   have:=k _ h.tl.tl;rw[e]at this;exact this
  .have:t.ok:=by simpa using d
   rw[V1 this]at e
   repeat (first|refine St2 h λ_ h=>?_|refine⟨_,_,Rs2,?_⟩)
   have:=k _ h.tl.tl;rw[e]at this;exact this
theorem ud{a:KQ}{c:Nat}{gs:List Gp}(h:aA H F)(d:∀H,aA H F->aP H a (flat jR gs))(e:gs.length<=1000000)
  (k:∀b,aA b F->K (.tuple #[jS (kS gs).1,aC (kS gs).2]) b) :
  CF 236 #[.slice a gs.length c] H K:=by
 refine cM 236 284 ?_;refine h.al λ_ _ h=>?_;refine h.al λ_ _ h=>?_;refine St2 h λ_ h=>?_;refine⟨_,_,Rs2,?_⟩
 refine Re (s:=⟨_,_⟩) h (λH h=>d H h.tl.tl) e λb h=>⟨_,_,_,rfl,?_⟩
 refine St2 h λ_ h=>?_;refine⟨_,_,Rs2,?_⟩
 exact k _ h.tl.tl
theorem Rf{a:KQ}{c:Nat}{gs:List Gp}(h:aA H F)(d:∀H,aA H F->aP H a (flat jR gs))(e:gs.length<=1000000)
  (k:∀b,aA b F->K (.bool (pm gs)) b) :
  CF 149 #[.slice a gs.length c] H K:=by
 refine cM 149 284 ?_;refine ud h d e λb h=>⟨_,_,_,rfl,?_⟩
 refine h.al λ_ _ h=>?_;refine St1 h λ_ h=>?_
 have:=k _ h.tl;unfold pm at this;rw[show decide (0<gs.length)=decide (0<(gs.length:Int)) by rw[decide_eq_decide];omega]at this;exact this
theorem Rg{g:Gp}(h:aA H F)(k:∀a,aA a F->K (.int .u64 (wx g)) a):CF 292 #[jS g] H K:=by
 refine cM 292 476 ?_;refine h.al λ_ _ h=>?_;refine⟨_,_,Rs1,?_⟩
 refine sd (g:=g) h λa h=>⟨_,rfl,λb=>?_,λb=>?_⟩
 .have:¬g.ok:=by simpa using b
  unfold wx at k;rw[V0 this]at k;exact k _ h.tl
 .have:g.ok:=by simpa using b
  unfold wx at k;rw[V1 this]at k;refine⟨_,Ra1,?_⟩;refine⟨_,Ra1,?_⟩;exact k _ h.tl
theorem Mid_spec{g:Gp}(h:aA H F)(k:∀a,aA a F->K (aC (midS g)) a):CF 293 #[jS g] H K:=by
 refine cM 293 476 ?_;refine h.al λ_ _ h=>?_;refine⟨_,_,Rs1,?_⟩
 refine sd (g:=g) h λa h=>⟨_,rfl,λb=>?_,λb=>?_⟩
 .have:¬g.ok:=by simpa using b
  unfold midS at k;rw[V0 this]at k;exact k _ h.tl
 .have:g.ok:=by simpa using b
  unfold midS at k;rw[V1 this]at k;refine⟨_,Ra1,?_⟩;refine⟨_,Ra1,?_⟩;refine⟨_,Ra1,?_⟩;refine⟨_,Ra1,?_⟩;refine⟨by decide,?_⟩;exact k _ h.tl
theorem Ab{g:Gd}(h:aA H F)(k:∀a,aA a F->K (.bool (decide g.ok)) a):CF 248 #[uc g] H K:=by
 refine cM 248 28 ?_
 repeat (first|refine h.al λ_ _ h=>?_|refine⟨_,Ra1,?_⟩|refine⟨_,λ_=>Ra1,?_⟩)
 have:=k _ h.tl;have e:decide g.ok=((((((decide (1<=g.width))&&(decide (g.width<=1099511627776)))&&(decide (0<=g.policy)))&&(decide (g.policy<=3)))&&(decide (0<=g.most)))&&(decide (g.most<=4611686018427387903))):=by
  rw[Wi];simp only[V7,V6]
  constructor
  .rintro⟨h1,h2,h3,h4,h5,h6⟩;exact⟨⟨⟨⟨⟨h1,h2⟩,h3⟩,h4⟩,h5⟩,h6⟩
  .rintro⟨⟨⟨⟨⟨h1,h2⟩,h3⟩,h4⟩,h5⟩,h6⟩;exact⟨h1,h2,h3,h4,h5,h6⟩
 rw[e]at this;exact this
theorem Iy{g:Gd}(h:aA H F)(k:∀a,aA a F->K (.tuple #[uc (if g.ok then g else ⟨0,0,0⟩),aC (if g.ok then 0 else 11)]) a) :
  CF 180 #[aC g.width,aC g.policy,aC g.most] H K:=by
 refine cM 180 4572 ?_;refine h.al λ_ _ h=>?_;refine h.al λ_ _ h=>?_;refine St2 h λ_ h=>?_;refine⟨_,_,_,Rs2,?_⟩
 refine Ab (g:=g) h λa h=>⟨_,rfl,λb=>?_,λb=>?_⟩
 .have:¬g.ok:=by simpa using b
  rw[V0 this,V0 this]at k;refine St2 h λ_ h=>?_;refine⟨_,_,_,Rs2,?_⟩
  exact k _ h.tl.tl
 .have:g.ok:=by simpa using b
  rw[V1 this,V1 this]at k
  repeat (first|refine St2 h λ_ h=>?_|refine⟨_,_,_,Rs2,?_⟩)
  exact k _ h.tl.tl
theorem wF{g:Gd}{t:Int}(h:aA H F)(k:∀b,aA b F->K (aC (fP g t)) b):CF 160 #[uc g,aC t] H K:=by
 refine cN 160 7803597980 [[(5,sI)]] ?_;refine h.al λ_ _ h=>?_;refine⟨_,_,_,Rs1,?_⟩
 refine Ab (g:=g) h λb h=>⟨_,rfl,λc=>?_,λc=>?_⟩
 .have:¬g.ok:=by simpa using c
  unfold fP at k;rw[V0 this]at k;exact k _ h.tl
 .have e:g.ok:=by simpa using c
  unfold fP at k;rw[V1 e]at k;have h0:g.width≠0:=by unfold Gd.ok at e;omega
  refine⟨_,h.r 0,h0,_,h.r 0,h0,λf d=>⟨λa=>d _ _ ?_,λa=>d _ _ ?_⟩⟩
  .skip
   rw[V1 (by simpa using a)]at k;exact k _ h.tl
  .skip
   rw[V0 (by simpa using a)]at k;exact k _ h.tl
theorem Iz{g:Gd}{x:Gp}(h:aA H F)(k:∀b,aA b F->K (.tuple #[aC (dK g x).1,aC (dK g x).2.1,aC (dK g x).2.2]) b) :
  CF 240 #[uc g,jS x] H K:=by
 refine cM 240 7644 ?_;refine h.al λ_ _ h=>?_;refine h.al λ_ _ h=>?_;refine⟨_,_,_,Rs2,?_⟩
 unfold dK at k;refine Ab (g:=g) h λb h=>⟨_,rfl,λa=>?_,λa=>?_⟩
 .have:¬g.ok:=by simpa using a
  rw[V0 this]at k;exact k _ h.tl.tl
 .have:g.ok:=by simpa using a
  rw[V1 this]at k;refine⟨_,_,Rs2,?_⟩;refine sd (g:=x) h λb h=>⟨_,rfl,λa=>?_,λa=>?_⟩
  .have:¬x.ok:=by simpa using a
   rw[V0 this]at k;exact k _ h.tl.tl
  .have:x.ok:=by simpa using a
   rw[V1 this]at k
   repeat (first|refine⟨_,Ra2,?_⟩|refine⟨_,_,_,Rs2,?_⟩)
   refine wF (g:=g) h λb h=>⟨_,rfl,h.r 0,h.q 1,?_⟩
   refine wF (g:=g) h λb h=>⟨_,rfl,?_⟩
   exact k _ h.tl.tl
theorem Rh{g:Gd}{x:Gp}(h:aA H F)(k:∀b,aA b F->K (.tuple #[aC (mF g x).1,aC (mF g x).2]) b) :
  CF 242 #[uc g,jS x] H K:=by
 refine cM 242 0x11dd21513c13cbdc ?_;refine h.al λ_ _ h=>?_;refine h.al λ_ _ h=>?_;refine⟨_,_,_,Rs2,?_⟩;refine⟨_,_,Rs2,?_⟩
 unfold mF at k;refine Iz (g:=g) (x:=x) h λb h=>⟨_,_,_,rfl,λa=>?_,λa=>?_⟩
 .rw [V1 (by simpa using a)]at k;exact k _ h.tl.tl
 .rw [V0 (by simpa using a)]at k
  repeat (first|refine⟨_,Ra2,?_⟩|refine⟨_,_,Rs2,?_⟩)
  refine Rg (g:=x) h λb h=>⟨_,rfl,h.r 1,λa=>?_,λa=>?_⟩
  .rw [V1 (by simpa using a)]at k;exact k _ h.tl.tl
  .rw [V0 (by simpa using a)]at k;refine⟨_,Ra2,?_⟩;refine⟨λa=>?_,λa=>?_⟩
   .rw [V1 (by simpa using a)]at k;exact k _ h.tl.tl
   rw[V0 (by simpa using a)]at k;refine⟨λa=>?_,λa=>?_⟩
   .rw [V1 (by simpa using a)]at k;exact k _ h.tl.tl
   rw[V0 (by simpa using a)]at k;refine⟨λa=>?_,λa=>?_⟩
   .rw [V1 (by simpa using a)]at k;refine⟨_,_,_,Rs2,?_⟩;refine⟨_,_,Rs2,?_⟩;refine Mid_spec (g:=x) h λb h=>⟨_,rfl,h.q 1,?_⟩
    refine wF (g:=g) h λb h=>⟨_,rfl,?_⟩
    exact k _ h.tl.tl
   rw[V0 (by simpa using a)]at k;refine⟨λa=>?_,λa=>?_⟩
   .rw [V1 (by simpa using a)]at k;exact k _ h.tl.tl
   .rw [V0 (by simpa using a)]at k;exact k _ h.tl.tl
end
def ckA(b:Nat)(c:Ck):aE:=exS λp:KQ×Nat=>cellsA b [.int .i64 c.rho,.int .i64 c.least,.bool c.held,.int .i64 c.streak,.slice p.1 c.smps.length p.2] 289*slA 58 4 p.1 c.smps.length p.2 (flat eZ c.smps)
theorem gO{H:aD}{b:Nat}{c:Ck}{L:List aE}:aA H (ckA b c::L)↔∃a k,aA H (cellsA b [.int .i64 c.rho,.int .i64 c.least,.bool c.held,.int .i64 c.streak,.slice a c.smps.length k] 289::slA 58 4 a c.smps.length k (flat eZ c.smps)::L):=by
 unfold ckA;rw[cJ]
 constructor
 .rintro⟨p,h⟩;exact⟨p.1,p.2,gu.1 h⟩
 .rintro⟨a,k,h⟩;exact⟨(a,k),gu.2 h⟩
theorem aP.subK{H:aD}{a:KQ}{cs:Os}{k c sz:Nat}(h:aP H a cs)(s:cs.length<=c*sz):aP H (cq a k c sz) (cs.drop (k*sz)):=by
 intro j v d;have b:aT cs (k*sz+j)=Option.some v:=by
  rw[fO]at d ⊢;rw[List.getElem?_drop]at d;exact d
 obtain⟨m,i⟩:=h (k*sz+j) v b;have f:=od b;have n:c≠k:=by rintro rfl;omega
 have e:cq a k c sz=Option.some ⟨aU a,aS a+k*sz,none⟩:=by
  unfold cq;rw[nO,m,We,iQ];rfl
 rw[e];refine⟨rfl,?_⟩;show aL H (aU a) (aS a+k*sz+j)=Option.some v;rw[Ws];exact i
theorem ue:SlT Tryz.prog 267 58 4 32:=iP (by kernel_rfl)
theorem sl239:SlT Tryz.prog 309 89 2 16:=iP (by kernel_rfl)
section
variable {F L:List aE}{H:aD}{K:KE}
theorem isTime_spec{t:Int}:bV Tryz.prog 228 #[aC t] H (.bool (decide (gN t))):=by
 refine cM 228 28 ⟨congrArg Value.bool ?_,rfl⟩;rw[Wi];simp only[V7,V6,gN]
theorem I1{t:Int}:bV Tryz.prog 232 #[aC t] H (.bool (decide (gy t))):=by
 refine cM 232 28 ⟨congrArg Value.bool ?_,rfl⟩;rw[Wi];simp only[V7,V6,gy]
theorem wG{s:bQ}(h:aA H F)(k:∀a,aA a F->K (.bool (decide s.ok)) a):CF 139 #[aggSm s] H K:=by
 refine cM 139 28 ?_;refine h.al λb _ h=>?_
 refine⟨_,h.r 0,_,isTime_spec,_,λ_=>h.r 0,_,λ_=>isTime_spec,_,λ_=>h.r 0,_,λ_=>isTime_spec,_,λ_=>h.r 0,_,λ_=>isTime_spec,_,λ_=>h.r 0,_,λ_=>h.r 0,_,λ_=>h.r 0,_,λ_=>h.r 0,?_⟩
 have:=k _ h.tl;have e:decide s.ok=(((((decide (gN s.asked)&&decide (gN s.got))&&decide (gN s.sent))&&decide (gN s.came))&&(decide (s.asked<=s.came)))&&(decide (s.got<=s.sent))):=by
  rw[Wi];simp only[V7,V6]
  constructor
  .rintro⟨h1,h2,h3,h4,h5,h6⟩;exact⟨⟨⟨⟨⟨h1,h2⟩,h3⟩,h4⟩,h5⟩,h6⟩
  .rintro⟨⟨⟨⟨⟨h1,h2⟩,h3⟩,h4⟩,h5⟩,h6⟩;exact⟨h1,h2,h3,h4,h5,h6⟩
 rw[e]at this;exact this
theorem wH{s:bQ}{stamp rho:Int}(h:aA H F)(k:∀b,aA b F->K (.tuple #[jS (iU s stamp rho).1,aC (iU s stamp rho).2]) b) :
  CF 148 #[aggSm s,aC stamp,aC rho] H K:=by
 refine OM ?_;refine h.al λb0 _ h=>?_
 refine h.al λb1 _ h=>?_
 refine⟨_,_,_,_,h.q 1,?_⟩;unfold iU at k;refine wG (s:=s) h λb h=>⟨_,rfl,λa=>?_,λa=>?_⟩
 .have:¬s.ok:=by simpa using a
  rw[V1 this]at k;refine St2 h λ_ h=>?_;refine⟨_,_,Rs2,?_⟩
  exact k _ h.tl.tl
 .have hs:s.ok:=by simpa using a
  rw[V0 (by simpa using hs)]at k;have d:=hs.wf;refine⟨_,isTime_spec,_,λ_=>I1,λa=>?_,λa=>?_⟩
  .have:¬gN stamp\/¬gy rho:=by
    simp only[VN,VY,V8]at a;exact a
   rw[V1 this]at k;refine St2 h λ_ h=>?_;refine⟨_,_,Rs2,?_⟩
   exact k _ h.tl.tl
  .have f:¬(¬gN stamp\/¬gy rho):=by
    simp only[VK,Wm,V6]at a;rintro (h|h)
    .exact h a.1
    .exact h a.2
   rw[V0 f]at k;have c:gN stamp:=by
    rcases Classical.em (gN stamp) with h|h
    .exact h
    .exact V2 (.inl h) f
   dsimp only at k;have i:=hs;unfold bQ.ok gN at hs;unfold gN at c;refine⟨_,Ra2,?_⟩;dsimp only;rw[aK (x:=stamp-s.got)];refine Ix (by unfold aF;omega) ⟨_,_,rfl,?_⟩;refine⟨_,Ra2,?_⟩;dsimp only;rw[aK (x:=stamp-s.sent)];refine Ra (by unfold aF;omega) ⟨_,_,rfl,?_⟩;refine⟨_,h.r 1,_,h.r 1,_,_,Gv d.2.2.2 (highS_wf _ _),?_⟩;have last:∀hi:Int,hi=(if (j0 s.came (pg (stamp-s.sent) rho).1).2≠0 then 4611686018427387903 else (j0 s.came (pg (stamp-s.sent) rho).1).1)->zh.r1 K b1 (lowS (stamp-s.got) rho).1 s.asked hi b:=by
    intro hi j;rw[<-j]at k;unfold zh.r1;refine⟨λa=>?_,λa=>?_⟩
    .rw [V1 (by simpa using a)]at k;refine St2 h λ_ h=>?_;refine⟨_,_,Rs2,?_⟩
     exact k _ h.tl.tl
    .rw [V0 (by simpa using a)]at k;refine St2 h λ_ h=>?_;refine⟨_,_,Rs2,?_⟩
     exact k _ h.tl.tl
   refine λm e=>⟨λa=>e _ _ (last _ ?_),λa=>e _ _ (last _ ?_)⟩
   .rw [V1 (by simpa using a)]
   .rw [V0 (by simpa using a)]
theorem I4{rho least:Int}(h:aA H F)(k1:¬(gy rho/\0<=least/\least<=100)->K (.tuple #[.pointer none,aC 11]) H)
  (k2:gy rho/\0<=least/\least<=100->∀b c,aA c (ckA b ⟨rho,least,false,0,[]⟩::F)->K (.tuple #[.pointer (some ⟨b,0,none⟩),aC 0]) c) :
  CF 182 #[aC rho,aC least] H K:=by
 refine cM 182 476 ?_;refine⟨_,I1,λa=>k1 ?_,λa=>?_⟩
 .simp only[VN,VY,V8,V6]at a;rintro⟨h1,h2,h3⟩
  rcases a with (h|h)|h
  .exact h h1
  .omega
  .omega
 .simp only[VK,Wm,V6,V8]at a;have h:=h.sl_nil 58 4;refine h.al λb _ h=>?_
  exact k2 ⟨a.1.1,by omega,by omega⟩ _ _ (gO.2 ⟨none,0,h⟩)
theorem uf{b:Nat}{c:Ck}(h:aA H (ckA b c::F)):bV Tryz.prog 69 #[.pointer (some ⟨b,0,none⟩)] H (.bool c.held):=by
 obtain⟨a,n,h⟩:=gO.1 h;exact cM 69 28 ⟨_,h.r 0,rfl,rfl⟩
theorem Ri{b:Nat}{c:Ck}(h:aA H (ckA b c::F)):bV Tryz.prog 121 #[.pointer (some ⟨b,0,none⟩)] H (aC c.streak):=by
 obtain⟨a,n,h⟩:=gO.1 h;exact cM 121 28 ⟨_,h.r 0,rfl,rfl⟩
theorem Ac{a:KQ}{c:Nat}{l:List bQ}(h:aA H F)(i:∀H,aA H F->aP H a (flat eZ l))(w:l.length<=1000000)
  (k:∀e f d,aA d (slA 58 4 e l.length f (flat eZ l)::F)->K (.slice e l.length f) d):CF 134 #[.slice a l.length c] H K:=by
 refine cM 134 476 ⟨λn=>?_,λn=>?_⟩
 .have:a=none:=by simpa using n
  subst this;have u:=oh (i H h);have:l=[]:=by
   have:=congrArg List.length u;rw[fi kF]at this;exact WK (by simp at this;omega)
  subst this;exact k none 0 H (h.sl_nil 58 4)
 .refine h.al λb _ h=>?_
  have t:=i _ h.tl;have s:=aA.sl_pt (cs:=[]) h 4 0 rfl;refine aA.append (m:=l.length) ue s 0 rfl t (fi kF l) (lC Aa l) (by omega) (by omega) λe f d v=>⟨_,_,_,rfl,?_⟩
  have j:aA d (slA 58 4 e (0+l.length) f ([]++flat eZ l)::F):=v;rw[VQ,Wh]at j;have:=k e f d j;rw[<-VQ l.length]at this;exact this
theorem Rk{a:KQ}{c:Nat}{l:List bQ}{j:Nat}(v:j<=l.length)(h:aA H (slA 58 4 a l.length c (flat eZ l)::F))
  (k:∀b,aA b (slA 58 4 a (l.length-j) c (flat eZ (l.drop j))::F)->K (.slice a (l.length-j) c) b):CF 147 #[.slice a l.length c,aC 0,aC j] H K:=by
 have t:=h.sl_nc 0 rfl;refine cM 147 18682140 ?_;refine⟨⟨by omega,by omega,by omega,by omega⟩,λd=>?_,λd=>?_⟩
 .have:j=0:=by simp only[V6]at d;omega
  subst this;exact k H h
 .have hj0:0<j:=by simp only[V8]at d;omega
  refine⟨⟨by omega,by omega,by omega⟩,⟨by omega,by omega,by omega⟩,?_⟩;have e:=h.sl_rd 0 rfl;have hs:=e.some kF (by omega) (k:=0) (by omega);have e0:cq a 0 c 4=a:=by
   unfold cq;rw[nO,hs,We,iQ];simp
  have i:=e.subK (k:=j) (c:=c) (sz:=4) (by rw[fi kF];omega);rw[tu kF]at i;have m:=h.sl_take 0 rfl 0 (by omega);simp only[Yg,Yc]at m;show cB Tryz.prog (Builtin.append_ #[267,267] 267 #[.slice (cq a 0 c 4) 0 c,.slice (cq a j c 4) (l.length-j) (c-j)]) H _;rw[e0];refine aA.appendIn ue m 0 rfl i (by rw[fi kF,VP]) (lC Aa _) (by omega) λb s=>⟨_,_,_,rfl,⟨by omega,by omega,by omega⟩,?_⟩
  rw[VQ];have f:aA b (slA 58 4 a (0+(l.length-j)) c ([]++flat eZ (l.drop j))::F):=s;rw[VQ,Wh]at f;exact aA.clearS ue (by kernel_rfl) f 0 rfl (by omega) λ_ u n=>k _ n
theorem Ad{b:Nat}{c:Ck}(h:aA H (ckA b c::F))(i:c.smps.length<=1000000)
  (k:∀d f e,aA e (slA 58 4 d c.smps.length f (flat eZ c.smps)::ckA b c::F)->K (.slice d c.smps.length f) e):CF 120 #[.pointer (some ⟨b,0,none⟩)] H K:=by
 obtain⟨a,n,h⟩:=gO.1 h;refine cM 120 28 ⟨_,_,_,h.r 0,?_⟩;refine Ac h (λH h=>h.sl_rd 1 rfl) i λd f e h=>⟨_,_,_,rfl,k _ _ _ ?_⟩
 have h:=h.o [1,2,0] 3;have h:=gO.2 ⟨_,_,h⟩;exact h.o [1,0] 2
theorem Rl{b:Nat}{c:Ck}(h:aA H (ckA b c::F))(f:c.smps.length<=1000000)
  (k:∀e d,aA d (ckA e c::ckA b c::F)->K (.pointer (some ⟨e,0,none⟩)) d):CF 62 #[.pointer (some ⟨b,0,none⟩)] H K:=by
 obtain⟨a,n,h⟩:=gO.1 h;refine cM 62 4380 ?_;refine⟨_,_,_,_,_,_,_,h.q 0,?_⟩;refine h.al λ_ _ h=>?_;refine St3 h λ_ h=>?_
 refine⟨_,_,_,h.r 1,?_⟩;refine Ac h (λH h=>h.sl_rd 2 rfl) f λi j d h=>⟨_,_,_,rfl,?_⟩
 refine St4 h λ_ h=>?_
 refine k _ _ ?_;have h:=h.o [1,0,2,3] 4;have h:=gO.2 ⟨_,_,h⟩;have h:=h.o [1,2,0] 3;have h:=gO.2 ⟨_,_,h⟩;exact h.o [1,0] 2
theorem Rm{b:Nat}{c:Ck}{held:Bool}{streak:Int}{a0:KQ}{n0:Nat}{l:List bQ}(h:aA H (ckA b c::F))(w:∀H,aA H F->aP H a0 (flat eZ l))
  (k1:¬(l.length<=8/\0<=streak/\∀s∈l,s.ok)->∀e,aA e (ckA b c::F)->K (aC 10) e)
  (k2:(l.length<=8/\0<=streak/\∀s∈l,s.ok)->∀e,aA e (ckA b ⟨c.rho,c.least,held,streak,l⟩::F)->K (aC 0) e) :
  CF 261 #[.pointer (some ⟨b,0,none⟩),.bool held,aC streak,.slice a0 l.length n0] H K:=by
 refine cN 261 0x1d215612399251b41c [[(20,sI)]] ?_;refine⟨λm=>k1 ?_ _ h,λm=>?_⟩
 .simp only[VN,V6]at m;omega
 .have t:l.length<=8/\0<=streak:=by simp only[VK,V8]at m;omega
  refine⟨λi e=>∃j:Nat,i=j/\j<=l.length/\(∀s∈l.take j,s.ok)/\aA e (ckA b c::F),λi _=>l.length-i.toNat,⟨0,rfl,VX _,λ_ hs=>by simp at hs,h⟩,?_⟩
  rintro i D ⟨j,rfl,E,f,h⟩;refine⟨λm=>?_,λm=>?_⟩
  .have d:j<l.length:=by simpa using m
   have x:=w _ h.tl;refine⟨⟨by omega,by omega⟩,_,_,x.some kF (by omega) d,_,_,_,_,x.els kF d,?_⟩;refine h.al λ_ _ h=>?_;refine St1 h λ_ h=>?_;refine⟨_,_,_,_,Rs1,?_⟩
   refine wG (s:=l[j]) h λB h=>⟨_,rfl,λk=>?_,λk=>?_⟩
   .have:¬(l[j]).ok:=by simpa using k
    exact k1 (λA=>this (A.2.2 _ (VF d))) _ h.tl
   .have u:(l[j]).ok:=by simpa using k
    have y:i64.wrap ((j:Int)+1)=((j+1:Nat):Int):=by rw[aK];omega
    conv=>whnf
    rw[y];refine⟨⟨j+1,rfl,d,λs hs=>?_,h.tl⟩,by simp only[VD];omega⟩
    rw[List.take_add_one,List.getElem?_eq_getElem d]at hs
    rcases VR.1 hs with hs|hs
    .exact f s hs
    .simp at hs;rw[hs];exact u
  .have v:l.length<=j:=by simpa using m
   rw[VZ v]at f;obtain⟨a,n,h⟩:=gO.1 h;refine Ac h (λH h=>w H h.tl.tl) (by omega) λC G e h=>⟨_,_,_,rfl,?_⟩
   refine St2 h λ_ h=>?_;refine St2 h λ_ h=>?_;refine St2 h λ_ h=>?_
   refine k2 ⟨t.1,t.2,f⟩ _ ?_;have h:=h.o [1,0] 3;exact gO.2 ⟨_,_,h⟩
end
theorem dn{p:Prop}[Decidable p](h:(!decide p)=true):¬p:=by simpa using h
theorem dy{p:Prop}[Decidable p](h:(!decide p)=false):p:=by simpa using h
section
variable {F L:List aE}{H:aD}{K:KE}
theorem Rn{b:Nat}{c:Ck}{stamp:Int}(I:c.smps.length<=8)(h:aA H (ckA b c::F))
  (k:∀m,aA m (ckA b c::F)->K (.tuple #[jS (ckAt c stamp).1,aC (ckAt c stamp).2]) m) :
  CF 244 #[.pointer (some ⟨b,0,none⟩),aC stamp] H K:=by
 obtain⟨a,n,h⟩:=gO.1 h;refine cN 244 0x1dd121561239925128d44c [[(9,sA),(10,sI)],[(6,sS),(33,sI)]] ?_;unfold ckAt at k;refine h.al λb0 _ h=>?_
 refine⟨_,_,_,h.r 1,λd=>?_,λd=>?_⟩
 .have:c.smps=[]:=by simpa using d
  rw[V1 this]at k;refine St1 h λ_ h=>?_;refine⟨_,_,Rs1,?_⟩
  exact k _ (gO.2 ⟨_,_,h.tl⟩)
 have v:c.smps≠[]:=by simpa using d
 rw[V0 v]at k;refine⟨_,isTime_spec,λd=>?_,λd=>?_⟩
 .have:¬gN stamp:=dn d;rw[V1 this]at k;refine St1 h λ_ h=>?_;refine⟨_,_,Rs1,?_⟩
  exact k _ (gO.2 ⟨_,_,h.tl⟩)
 have x:gN stamp:=dy d;rw[V0 (not_not_intro x)]at k;refine⟨_,_,_,h.r 1,?_⟩;refine h.mk0 sl239 (by omega) (by omega) λt M h=>⟨_,_,_,rfl,_,_,_,h.r 2,?_⟩
 refine⟨λt D w i m=>∃(j:Nat) (gs:List Gp),i=j/\j<=c.smps.length/\D=gs.length/\gs.length=j/\
   nM c.rho stamp c.smps=(gs++(nM c.rho stamp (c.smps.drop j)).1,(nM c.rho stamp (c.smps.drop j)).2)/\
   aA m (slA 89 2 t gs.length w (flat jR gs)::cellsA b0 [aC 0,aC 0] 89::cellsA b [aC c.rho,aC c.least,.bool c.held,aC c.streak,.slice a c.smps.length n] 289::slA 58 4 a c.smps.length n (flat eZ c.smps)::F),
  λ_ _ _ i _=>c.smps.length-i.toNat,⟨0,[],rfl,VX _,rfl,rfl,rfl,h⟩,?_⟩
 rintro t D w i N ⟨j,gs,rfl,P,rfl,A,e,h⟩;refine⟨λd=>?_,λd=>?_⟩
 .have f:j<c.smps.length:=by simpa using d
  have C:=h.sl_rd 3 rfl;rw[Wv f,nM]at e;refine⟨⟨by omega,by omega⟩,_,_,C.some kF (by omega) f,_,_,_,_,C.els kF f,?_⟩;refine h.al λ_ _ h=>?_;refine St1 h λ_ h=>?_
  refine λE G=>?_
  have fin:∀gb B,aA B (cellsA gb (jR (iU c.smps[j] stamp c.rho).1) 89::slA 89 2 t gs.length w (flat jR gs)::cellsA b0 [aC 0,aC 0] 89::cellsA b [aC c.rho,aC c.least,.bool c.held,aC c.streak,.slice a c.smps.length n] 289::slA 58 4 a c.smps.length n (flat eZ c.smps)::F)->E gb 0 (iU c.smps[j] stamp c.rho).2 B:=by
   intro gb B h;refine G _ _ _ _ ?_;refine⟨λd=>?_,λd=>?_⟩
   .have u:(iU c.smps[j] stamp c.rho).2≠0:=by simpa using d
    rw[V1 u]at e;rw[e,V1 u]at k;refine St3 h λ_ h=>?_;refine⟨_,_,Rs3,?_⟩
    exact k _ (gO.2 ⟨_,_,h.tl.tl.tl⟩)
   .have u:¬(iU c.smps[j] stamp c.rho).2≠0:=by simpa using d
    rw[V0 u]at e;refine⟨_,_,h.q 0,?_⟩;rintro b3 _ rfl rfl;refine h.append1 sl239 1 rfl rfl rfl (by omega) (by omega) λO Q m h=>⟨_,_,_,rfl,?_⟩
    have J:i64.wrap ((j:Int)+1)=((j+1:Nat):Int):=by rw[aK];omega
    conv=>whnf
    rw[J];have h:=h.tl;refine⟨⟨j+1,gs++[(iU c.smps[j] stamp c.rho).1],rfl,f,by simp,by simp[A],?_,?_⟩,by simp only[VD];omega⟩
    .rw [e,VI];rfl
    .rw [dR,ny,V3];exact h
  refine⟨_,_,_,_,h.q 0,_,h.r 3,?_,?_⟩
  .refine wH (s:=c.smps[j]) h λm h=>⟨_,_,_,rfl,?_⟩
   refine h.al λ_ _ h=>?_;refine St1 h λ_ h=>?_
   exact fin _ _ (h.o [0] 2)
  .refine h.al λb5 _ h=>?_
   refine⟨h.r 4,h.q 1,?_⟩;refine wH (s:=c.smps[j]) h λm h=>⟨_,_,_,rfl,?_⟩
   refine St1 h λ_ h=>?_
   exact fin _ _ (h.o [0] 2)
 .have y:c.smps.length<=j:=by simpa using d
  rw[Y5 y,nM,Wc]at e;rw[e,V0 (λL=>L rfl)]at k
  refine ud (gs:=gs) h (λH h=>h.sl_rd 0 rfl) (by omega) λm h=>⟨_,_,_,rfl,?_⟩
  refine St2 h λ_ h=>?_;refine⟨_,_,Rs2,?_⟩
  exact k _ (gO.2 ⟨_,_,h.tl.tl⟩)
theorem Rq{a:KQ}{c n:Nat}{gs:List Gp}(d:gs.length=n)(h:aA H F)(e:∀H,aA H F->aP H a (flat jR gs))(f:n<=1000000)
  (k:∀b,aA b F->K (.bool (pm gs)) b) :
  CF 149 #[.slice a n c] H K:=by
 subst d;exact Rf h e f k
theorem Rr{b:Nat}{c:Ck}{s:bQ}(ok:CkOk c)(h:aA H (ckA b c::F))
  (k:∀u,aA u (ckA b (kU c s).1::F)->K (aC (kU c s).2) u) :
  CF 67 #[.pointer (some ⟨b,0,none⟩),aggSm s] H K:=by
 obtain⟨a,n,h⟩:=gO.1 h;have S:=ok.len;have y2:=ok.st;refine OV ?_;unfold kU at k;refine h.al λb0 _ h=>?_
 refine⟨_,_,_,_,h.q 0,?_⟩;refine wG (s:=s) h λu h=>⟨_,rfl,λd=>?_,λd=>?_⟩
 .have:¬s.ok:=by simpa using d
  rw[V1 this]at k;exact k _ (gO.2 ⟨_,_,h.tl⟩)
 have hs:s.ok:=by simpa using d
 rw[V0 (by simpa using hs)]at k;refine⟨_,_,_,h.r 1,_,_,_,_,h.q 0,?_⟩;rintro b1 _ rfl rfl;have E:=(h.push (.cells #[aC s.asked,aC s.got,aC s.sent,aC s.came] 58 (0,0))).rd 2 rfl 4;refine⟨E,?_⟩;refine h.append1 ue 2 rfl rfl rfl (by omega) (by omega) λa1 c1 H1 h=>⟨_,_,_,rfl,?_⟩
 have ef:flat eZ c.smps++[aC s.asked,aC s.got,aC s.sent,aC s.came]=flat eZ (c.smps++[s]):=by rw[dR,ny]
 rw[ef]at h;have l0:∀x∈(if 8<c.smps.length+1 then (c.smps++[s]).drop 1 else c.smps++[s]),x.ok:=by
  intro x W;have:x∈c.smps++[s]:=by
   split at W
   .exact WE W
   .exact W
  rcases VR.1 this with Q|Q
  .exact ok.ok x Q
  .rw [VE]at Q;rw[Q];exact hs
 have rest:∀(l:List bQ) (a2:KQ) (c2:Nat) (R:aD),l.length<=8->l.getLast?=some s->(∀u,
    aA u (ckA b (if pm (l.map (iV c.rho s.sent)) then
     ({ c with streak:=if c.streak<9223372036854775807 then c.streak+1 else c.streak,held:=if c.least<=(if c.streak<9223372036854775807 then c.streak+1 else c.streak) then false else c.held,smps:=l },(0:Int))
     else ({ c with held:=true,streak:=0,smps:=if (iV c.rho s.sent s).ok then [s] else [] },21)).1::F)->
    K (aC (if pm (l.map (iV c.rho s.sent)) then
     ({ c with streak:=if c.streak<9223372036854775807 then c.streak+1 else c.streak,held:=if c.least<=(if c.streak<9223372036854775807 then c.streak+1 else c.streak) then false else c.held,smps:=l },(0:Int))
     else ({ c with held:=true,streak:=0,smps:=if (iV c.rho s.sent s).ok then [s] else [] },21)).2) u)->
   aA R (cellsA b0 [aC s.asked,aC s.got,aC s.sent,aC s.came] 58::cellsA b [aC c.rho,aC c.least,.bool c.held,aC c.streak,.slice a2 l.length c2] 289::slA 58 4 a2 l.length c2 (flat eZ l)::F)->
   zj.r7 b 0 K b0 R:=by
  intro l a2 c2 R S t k h;unfold zj.r7;refine⟨_,_,_,h.r 1,?_⟩;refine h.mk0 sl239 (by omega) (by omega) λI H6 h=>⟨_,_,_,rfl,_,_,_,h.r 2,?_⟩
  refine⟨λI gn J i u=>∃(j:Nat),i=j/\j<=l.length/\j=gn/\
    aA u (slA 89 2 I j J (flat jR ((l.take j).map (iV c.rho s.sent)))::cellsA b0 [aC s.asked,aC s.got,aC s.sent,aC s.came] 58::cellsA b [aC c.rho,aC c.least,.bool c.held,aC c.streak,.slice a2 l.length c2] 289::slA 58 4 a2 l.length c2 (flat eZ l)::F),
   λ_ _ _ i _=>l.length-i.toNat,⟨0,rfl,VX _,rfl,h⟩,?_⟩
  rintro I gn J i H7 ⟨j,rfl,hj,rfl,h⟩;refine⟨λd=>?_,λd=>?_⟩
  .have f:j<l.length:=by simpa using d
   have L:=h.sl_rd 3 rfl;refine⟨⟨by omega,by omega⟩,_,_,L.some kF (by omega) f,_,_,_,_,L.els kF f,?_⟩;refine h.al λ_ _ h=>?_;refine St1 h λ_ h=>?_
   refine λJn P=>?_
   have fin:∀gb B,aA B (cellsA gb (jR (iU l[j] s.sent c.rho).1) 89::slA 89 2 I j J (flat jR ((l.take j).map (iV c.rho s.sent)))::cellsA b0 [aC s.asked,aC s.got,aC s.sent,aC s.came] 58::cellsA b [aC c.rho,aC c.least,.bool c.held,aC c.streak,.slice a2 l.length c2] 289::slA 58 4 a2 l.length c2 (flat eZ l)::F)->Jn gb 0 (iU l[j] s.sent c.rho).2 B:=by
    intro gb B h;refine P _ _ _ _ ?_;refine λT Y=>?_
    have A:∀G,aA G (cellsA gb (jR (iV c.rho s.sent l[j])) 89::slA 89 2 I j J (flat jR ((l.take j).map (iV c.rho s.sent)))::cellsA b0 [aC s.asked,aC s.got,aC s.sent,aC s.came] 58::cellsA b [aC c.rho,aC c.least,.bool c.held,aC c.streak,.slice a2 l.length c2] 289::slA 58 4 a2 l.length c2 (flat eZ l)::F)->T G:=by
     intro G h;refine Y _ ?_;refine⟨_,_,h.q 0,?_⟩;rintro b4 _ rfl rfl;refine h.append1 sl239 1 rfl rfl rfl (by omega) (by omega) λa' c' u h=>⟨_,_,_,rfl,?_⟩
     have Z:i64.wrap ((j:Int)+1)=((j+1:Nat):Int):=by rw[aK];omega
     rw[Z];have h:=h.tl;refine⟨⟨j+1,rfl,f,rfl,?_⟩,by simp only[VD];omega⟩;rw[List.take_add_one,List.getElem?_eq_getElem f,VT,dR];rw[Option.toList_some,List.map_singleton,ny];exact h
    refine⟨λd=>?_,λd=>?_⟩
    .have he:(iU l[j] s.sent c.rho).2≠0:=by simpa using d
     have eg:iV c.rho s.sent l[j]=⟨1,0⟩:=by unfold iV;rw[V1 he]
     refine St1 h λ_ h=>?_
     refine A _ ?_;rw[eg];exact h
    .have he:¬(iU l[j] s.sent c.rho).2≠0:=by simpa using d
     have eg:iV c.rho s.sent l[j]=(iU l[j] s.sent c.rho).1:=by unfold iV;rw[V0 he]
     refine A _ ?_;rw[eg];exact h
   refine⟨_,_,_,_,h.q 0,_,h.r 2,_,h.r 3,?_,?_⟩
   .refine wH (s:=l[j]) h λu h=>⟨_,_,_,rfl,?_⟩
    refine h.al λ_ _ h=>?_;refine St1 h λ_ h=>?_
    exact fin _ _ (h.o [0] 2)
   .refine h.al λb5 _ h=>?_
    refine⟨h.r 4,h.r 3,h.q 1,?_⟩;refine wH (s:=l[j]) h λu h=>⟨_,_,_,rfl,?_⟩
    refine St1 h λ_ h=>?_
    exact fin _ _ (h.o [0] 2)
  .have h7:l.length<=j:=by simpa using d
   obtain rfl:j=l.length:=by omega
   rw[VZ (VA _)]at h;have m:(l.map (iV c.rho s.sent)).length=l.length:=VH _;have r0:0<l.length:=by
    cases l with
    | nil=>simp at t
    | cons x r=>simp
   have h0:l[l.length-1]=s:=by
    rw[List.getLast?_eq_getElem?,List.getElem?_eq_getElem (by omega)]at t;exact Option.some.inj t
   refine Rq m h (λH h=>h.sl_rd 0 rfl) (by omega) λj3 h=>⟨_,rfl,λD=>?_,λD=>?_⟩
   .rw [V1 D]at k;refine⟨_,h.r 2,λU h2=>?_⟩
    have w:∀(st:Int) C,st=(if c.streak<9223372036854775807 then c.streak+1 else c.streak)->aA C (slA 89 2 I l.length J (flat jR (l.map (iV c.rho s.sent)))::cellsA b0 [aC s.asked,aC s.got,aC s.sent,aC s.came] 58::cellsA b [aC c.rho,aC c.least,.bool c.held,aC st,.slice a2 l.length c2] 289::slA 58 4 a2 l.length c2 (flat eZ l)::F)->U C:=by
     intro st C V h;refine h2 _ ?_;rw[<-V]at k;refine⟨_,h.r 2,_,h.r 2,λr8 O=>⟨λd=>?_,λd=>?_⟩⟩
     .rw [V1 (by simpa using d)]at k;refine h.st 2 rfl rfl λu8 h=>O _ ?_
      exact k _ (gO.2 ⟨_,_,h.tl.tl⟩)
     .rw [V0 (by simpa using d)]at k;exact O _ (k _ (gO.2 ⟨_,_,h.tl.tl⟩))
    refine⟨λd=>?_,λd=>?_⟩
    .have f:c.streak<9223372036854775807:=by simpa using d
     refine⟨_,h.r 2,?_⟩;refine h.st 2 rfl rfl λh5 h=>w _ _ ?_ h
     rw[V1 f,aK]
    .have f:¬c.streak<9223372036854775807:=by simpa using d
     exact w _ _ (by rw[V0 f]) h
   .rw [V0 (by rw[D];decide)]at k;refine h.st 2 rfl rfl λj2 h=>?_
    refine h.st 2 rfl rfl λh4 h=>?_
    refine h.st 2 rfl rfl λh3 h=>?_
    have Z:i64.wrap ((l.length:Int)-1)=((l.length-1:Nat):Int):=by rw[aK];omega
    rw[Z];have L:=h.sl_rd 0 rfl;have y:=L.els ww (k:=l.length-1) (by omega);rw[Wx,h0]at y;refine⟨⟨by omega,by omega⟩,_,_,L.some ww (by omega) (k:=l.length-1) (by omega),_,_,y,?_⟩;refine sd (g:=iV c.rho s.sent s) h λh6 h=>⟨_,rfl,λr9 N=>⟨λd=>?_,λd=>?_⟩⟩
    .rw [V1 (by simpa using d)]at k;refine⟨_,_,_,_,h.q 1,?_⟩;refine h.al λb8 _ h=>?_
     refine h.st 3 rfl rfl λj1 h=>N _ ?_
     have h:=h.o [0,3] 5;have h:=aA.sl_pt h 4 1 rfl;have h:=h.o [1,0] 2;exact k _ (gO.2 ⟨_,_,h⟩)
    .rw [V0 (by simpa using d)]at k;refine N _ ?_;have h:=h.o [2] 4;have h:=(h.sl_nil 58 4).o [1,0] 2;exact k _ (gO.2 ⟨_,_,h⟩)
 refine h.st 1 rfl rfl λH2 h=>?_
 have v:(c.smps++[s]).getLast?=some s:=by simp
 refine⟨_,_,_,h.r 1,λJn P=>⟨λd=>?_,λd=>?_⟩⟩
 .have M:8<c.smps.length+1:=by have:=V4 d;omega
  rw[V1 M]at k;refine⟨_,_,_,h.r 1,?_⟩;have h:=h.o [2,0,1] 3;have m:c.smps.length+1=(c.smps++[s]).length:=by simp
  rw[m]at h ⊢;refine Rk (j:=1) (by simp) h λl5 h=>⟨_,_,_,rfl,?_⟩
  refine h.st 2 rfl rfl λl6 h=>P _ ?_
  have h:=h.o [1,2,0] 3;have hd:(c.smps++[s]).length-1=((c.smps++[s]).drop 1).length:=by simp
  rw[hd]at h;refine rest _ _ _ _ (by simp;omega) ?_ k h;have h8:c.smps≠[]:=by rintro e;rw[e]at M;simp at M
  rw[List.drop_append_of_le_length (by omega),List.getLast?_append];simp
 .have M:¬8<c.smps.length+1:=by have:=V5 d;omega
  rw[V0 M]at k;refine P _ ?_;have m:c.smps.length+1=(c.smps++[s]).length:=by simp
  rw[m]at h;exact rest _ _ _ _ (by simp;omega) v k h
end
end Go.Proofs.YtaaieblnikcndaaGreatDoor
