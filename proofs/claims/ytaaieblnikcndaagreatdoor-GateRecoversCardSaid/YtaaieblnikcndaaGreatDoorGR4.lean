/-
  Lemmas for GateRecovers: part 4 of what it rests on. Conditions: none.
-/
import Derived.Test.YtaaieblnikcndaaGreatDoorGR3
set_option linter.unusedVariables false
set_option linter.unusedSimpArgs false
set_option maxRecDepth 100000
set_option maxHeartbeats 16000000
open Go.IntKind (i64 u64 i8 u8 i32 u32 i16 u16)
namespace Go.Proofs.YtaaieblnikcndaaGreatDoor
open Go
def le4(s:Int):List Int:=[s%256,s/256%256,s/65536%256,s/16777216%256]
def eK(bs:List Int):List Int:=bs++le4 (kR bs)
def dW(bs:List Int):Int×List Int:=
 if bs.length<4 then (15,[]) else if eK (bs.take (bs.length-4))=bs then (0,bs.take (bs.length-4)) else (14,[])
theorem Qa(s:Int):aI (le4 s):=by
 intro x a;simp only[le4,VN,WF,or_false]at a
 rcases a with rfl|rfl|rfl|rfl <;> omega
theorem G5{bs:List Int}(h:aI bs):aI (eK bs):=tR h (Qa _)
theorem rY(bs:List Int):(eK bs).length=bs.length+4:=by simp[eK,le4]
theorem G6(bs:List Int):dW (eK bs)=(0,bs):=by
 unfold dW;rw[rY,nO,YH];have:(eK bs).take bs.length=bs:=by unfold eK;rw[List.take_left]
 rw[this,V5 rfl]
theorem zJ{bs p:List Int}(h:dW bs=(0,p)):bs=eK p:=by
 unfold dW at h
 split at h
 .cases h
 .split at h
  .rename_i a
   cases h
   exact a.symm
  .cases h
theorem le4_val{s:Int}(h0:0<=s)(i:s<4294967296){a b c d:Int}(e:0<=a/\a<256)(hb:0<=b/\b<256)(f:0<=c/\c<256)(hd:0<=d/\d<256) :
  le4 s=[a,b,c,d]↔a+256*b+65536*c+16777216*d=s:=by
 unfold le4
 constructor
 .intro h;simp only[List.cons.injEq,and_true]at h;omega
 .intro h;simp only[List.cons.injEq,and_true];omega
theorem zK{a m p:Nat}(b:a<2^p)(h:a+m*2^p<4294967296):aY .or .u32 (a:Int) ((m*2^p:Nat):Int)=((a+m*2^p:Nat):Int):=by
 have d:a<4294967296:=by omega
 have c:m*2^p<4294967296:=by omega
 have e3:a ||| m*2^p=a+m*2^p:=by
  rw[Nat.mul_comm m,Nat.or_comm,<-YO b,Yj]
 show u32.wrap ((BitVec.ofInt u32.bits (a:Int) ||| BitVec.ofInt u32.bits ((m*2^p:Nat):Int)).toNat:Int)=_;rw[BitVec.toNat_or,rX d,rX c,e3,u32w (by omega) (by omega)]
theorem sum_code{a b c d:Int}(k:0<=a/\a<256)(hb:0<=b/\b<256)(j:0<=c/\c<256)(hd:0<=d/\d<256) :
  aY .or .u32 (aY .or .u32 (aY .or .u32 (u32.wrap a) (u32.wrap ((u32.wrap b)*2^(min (Int.toNat 8) (u32.bits))))) (u32.wrap ((u32.wrap c)*2^(min (Int.toNat 16) (u32.bits))))) (u32.wrap ((u32.wrap d)*2^(min (Int.toNat 24) (u32.bits))))
   = a+256*b+65536*c+16777216*d:=by
 rw[u32w (x:=a) (by omega) (by omega),u32w (x:=b) (by omega) (by omega),u32w (x:=c) (by omega) (by omega),u32w (x:=d) (by omega) (by omega)];show aY .or .u32 (aY .or .u32 (aY .or .u32 a (u32.wrap (b*256))) (u32.wrap (c*65536))) (u32.wrap (d*16777216))=_;rw[u32w (x:=b*256) (by omega) (by omega),u32w (x:=c*65536) (by omega) (by omega),u32w (x:=d*16777216) (by omega) (by omega)];obtain⟨h,rfl⟩:=YI k.1;obtain⟨e,rfl⟩:=YI hb.1;obtain⟨f,rfl⟩:=YI j.1;obtain⟨i,rfl⟩:=YI hd.1;have e1:=zK (a:=h) (m:=e) (p:=8) (by omega) (by omega);have e2:=zK (a:=h+e*2^8) (m:=f) (p:=16) (by omega) (by omega);have e3:=zK (a:=h+e*2^8+f*2^16) (m:=i) (p:=24) (by omega) (by omega);rw[show (2:Nat)^8=256 by decide]at e1 e2 e3;rw[show (2:Nat)^16=65536 by decide]at e2 e3;rw[show (2:Nat)^24=16777216 by decide]at e3;have f1:((e*256:Nat):Int)=(e:Int)*256:=WZ ..;have f2:((f*65536:Nat):Int)=(f:Int)*65536:=WZ ..;have f3:((i*16777216:Nat):Int)=(i:Int)*16777216:=WZ ..;rw[f1]at e1;rw[f2]at e2;rw[f3]at e3;rw[e1,e2,e3];omega
theorem last4{bs:List Int}(h:¬bs.length<4):∃a b c d,bs=bs.take (bs.length-4)++[a,b,c,d]/\bs.drop (bs.length-4)=[a,b,c,d]:=by
 have f:(bs.drop (bs.length-4)).length=4:=by rw[VU];omega
 obtain⟨a,b,c,d,e⟩:∃a b c d,bs.drop (bs.length-4)=[a,b,c,d]:=by
  match hx:bs.drop (bs.length-4),f with
  | [a,b,c,d],_=>exact⟨a,b,c,d,rfl⟩
 exact⟨a,b,c,d,by rw[<-e,Ww],e⟩
section
variable {F L:List aE}{H:aC}{K:KE}
theorem G7{s:Int}(h0:0<=s)(a:s<4294967296) :
  [U8 (u8.wrap s),U8 (u8.wrap (Int.fdiv s (2^(min (Int.toNat 8) (u32.bits))))),U8 (u8.wrap (Int.fdiv s (2^(min (Int.toNat 16) (u32.bits))))),U8 (u8.wrap (Int.fdiv s (2^(min (Int.toNat 24) (u32.bits)))))]=(le4 s).map U8:=by
 obtain⟨n,rfl⟩:=YI h0;show [U8 (u8.wrap (n:Int)),U8 (u8.wrap (Int.fdiv (n:Int) 256)),U8 (u8.wrap (Int.fdiv (n:Int) 65536)),U8 (u8.wrap (Int.fdiv (n:Int) 16777216))]=_;rw[WY _ (by decide),WY _ (by decide),WY _ (by decide)];rw[show (n:Int)/256=((n/256:Nat):Int) by omega,show (n:Int)/65536=((n/65536:Nat):Int) by omega,show (n:Int)/16777216=((n/16777216:Nat):Int) by omega];rw[oV,oV,oV,oV];unfold le4;simp only[Wf,Yg,List.cons.injEq,Value.int.injEq,true_and,and_true];omega
theorem G8{a:KQ}{c:Nat}{bs:List Int}(h:aA H F)(J:∀H,aA H F->aP H a (bs.map U8))(hb:aI bs)(R:bs.length<=1099511627776)(P:bs.length<=c)
  (k1:∀D M p u,dW bs=(0,p)->aA u (slA 5 1 D p.length M (p.map U8)::F)->K (.tuple #[.slice D p.length M,.int .i64 0]) u)
  (k2:∀e u,e≠0->dW bs=(e,[])->aA u F->K (.tuple #[.slice none 0 0,.int .i64 e]) u) :
  CF 79 #[.slice a bs.length c] H K:=by
 refine OV ?_;refine⟨λd=>?_,λd=>?_⟩
 .have L:bs.length<4:=by simp at d;omega
  exact k2 15 _ (by decide) (by unfold dW;rw[V5 L]) h
 .have i:¬bs.length<4:=by simp at d;omega
  have en:i64.wrap ((bs.length:Int)-4)=((bs.length-4:Nat):Int):=by rw[aJ];omega
  rw[en,VJ];have j:cq a 0 c 1=a:=sl_same (J _ h) (by intro d;have:=congrArg List.length d;simp at this;subst this;simp at i);rw[j];obtain⟨B,v,A,m,e1,e2⟩:=last4 i;obtain⟨p,C⟩:∃p,bs.take (bs.length-4)=p:=⟨_,rfl⟩;have E:p.length=bs.length-4:=by rw[<-C,VY];omega
  rw[C]at e1;have t:=(J _ h).subB (k:=bs.length-4) (c:=c) (by simpa using P);rw[<-List.map_drop,e2]at t;have q0:=t 0 _ rfl;have q1:=t 1 _ rfl;have q2:=t 2 _ rfl;have q3:=t 3 _ rfl;refine⟨⟨by omega,by omega,by omega⟩,⟨by omega,by omega,by omega⟩,⟨by omega,by omega⟩,_,_,q0.1,_,q0.2,⟨by omega,by omega⟩,_,_,q0.1,_,q1.2,by decide,⟨by omega,by omega⟩,_,_,q0.1,_,q2.2,by decide,⟨by omega,by omega⟩,_,_,q0.1,_,q3.2,by decide,?_⟩;rw[<-E];have s:∀H,aA H F->aP H a (p.map U8):=λH h=>by
   have:=(J H h).take (bs.length-4)
   rwa[<-List.map_take,C]at this
  refine h.al λb4 Q h=>?_
  have O:=zI (c:=1) (parts:=[⟨a,c,p⟩]) (h.ce_rd 0 rfl) (λy n=>by
   rw[VI]at n;subst n;exact s _ h.tl) (by simp) (λy n=>by rw[VI]at n;subst n;dsimp only;omega)
  simp only[Wg,List.flatMap_nil,We]at O;refine⟨_,O,?_⟩;have b:∀x∈[B,v,A,m],0<=x/\x<256:=λx d=>hb x (by rw[e1];exact Yk _ d)
  have ba:=b B (by simp);have bb:=b v (by simp);have bc:=b A (by simp);have bd:=b m (by simp);rw[sum_code ba bb bc bd];obtain⟨s0,s1⟩:=zG p;have N:=le4_val s0 s1 ba bb bc bd;have w:dW bs=if eK p=bs then (0,p) else (14,[]):=by unfold dW;rw[V4 i,C]
  have f:eK p=bs↔le4 (kR p)=[B,v,A,m]:=by
   unfold eK
   constructor
   .intro e;rw[e1]at e;exact List.append_cancel_left e
   .intro e;rw[e];exact e1.symm
  refine⟨λd=>?_,λd=>?_⟩
  .have I:¬B+256*v+65536*A+16777216*m=kR p:=by simpa using d
   exact k2 14 _ (by decide) (by rw[w,V4];rw[f,N];exact I) h.tl
  .have G:B+256*v+65536*A+16777216*m=kR p:=by simpa using d
   refine zn h.tl s (by omega) λD M S h=>⟨_,_,_,rfl,k1 _ _ _ _ ?_ h⟩
   rw[w,V5];rw[f,N];exact G
theorem Qb{b o c:Nat}{parts:List Fy}(h:aA H F)(ha:∀H,aA H F->aP H (some ⟨b,o,none⟩) (parts.map dV))(Z:∀H,aA H F->∀y∈parts,aP H y.a (y.bs.map U8))(hA:∀y∈parts,y.a=none\/∃b o,y.a=some ⟨b,o,none⟩)
  (hb:∀y∈parts,aI y.bs) (n:2<=parts.length) (hc:parts.length<=c) (hn:parts.length<=1000) (hl:(parts.flatMap Fy.bs).length<=1099511627776) (j1:0<(parts.flatMap Fy.bs).length)
  (k:∀a' c' H',aA H' (slA 5 1 a' (eK (parts.flatMap Fy.bs)).length c' ((eK (parts.flatMap Fy.bs)).map U8)::F)->K (.slice a' (eK (parts.flatMap Fy.bs)).length c') H') :
  CF 179 #[.slice (some ⟨b,o,none⟩) parts.length c] H K:=by
 refine cM 179 4380 ?_;have l5:∀y∈parts,y.bs.length<=1099511627776:=λy I=>by
  refine VT ?_ hl;obtain⟨s,t,rfl⟩:=List.append_of_mem I;simp only[W4,Wg,V7];omega
 have hq:=zI (c:=c) (ha _ h) (Z _ h) (by omega) l5;refine⟨_,hq,?_⟩;obtain⟨bs,f⟩:∃bs,parts.flatMap Fy.bs=bs:=⟨_,rfl⟩;rw[f]at hl j1 k hq ⊢;obtain⟨s0,s1⟩:=zG bs;have h8:aI bs:=by
  rw[<-f];intro x j;obtain⟨y,I,j⟩:=Ym.1 j;exact hb y I x j
 refine .mk λw hw=>?_
 subst hw;have O:∀l:List Fy,Lib.lens (l.map λy=>Lib.bytesOf y.bs)=(l.flatMap Fy.bs).length:=by
  intro l
  induction l with
  | nil=>rfl
  | cons y r ih=>
   simp only[Lib.lens,Wf,Yb,Wg,V7]at ih ⊢;rw[ih];simp[Lib.bytesOf]
 have D:∀l:List Fy,Lib.join (l.map λy=>Lib.bytesOf y.bs) []=Lib.bytesOf (l.flatMap Fy.bs):=by
  intro l;have:∀l:List Fy,(l.map λy=>Lib.bytesOf y.bs).flatten=Lib.bytesOf (l.flatMap Fy.bs):=by
   intro l
   induction l with
   | nil=>rfl
   | cons y r ih=>simp only[Wf,List.flatten_cons,Wg,ih];simp[Lib.bytesOf]
  cases l with
  | nil=>rfl
  | cons y r=>
   rw[Wf,Lib.join_cons];unfold Lib.joinTail;simp only[Wl,List.map_id'];rw[this r];simp[Lib.bytesOf]
 have l0:Lib.PartsAt w ⟨b,o,none⟩ (parts.map dV) (parts.map λy=>Lib.bytesOf y.bs):=by
  refine⟨by simp,λi v Y=>?_,λi v l Y R=>?_⟩
  .rw [iQ,cell?_cellAt];exact (ha _ h i v (by rw[fL];exact Y)).2
  .rw [List.getElem?_map,Option.map_eq_some_iff]at Y R;obtain⟨y,I,rfl⟩:=Y;obtain⟨y',P,rfl⟩:=R;rw[I]at P
   cases P
   have hm:y∈parts:=Wk I;have E:=Z _ h y hm;refine⟨y.a,y.c,by simp[Lib.bytesOf],λh9=>?_,λa' G i x j=>?_⟩
   .rw [h9]at E;have:=ol E;simp at this;simp[Lib.bytesOf,this]
   .have Q:i<y.bs.length:=by
     have:=(List.getElem?_eq_some_iff.1 j).1;simpa[Lib.bytesOf] using this
    have u:=E.at Q;rw[G]at u
    rcases hA y hm with e|⟨b',o',e⟩
    .rw [G]at e;cases e
    .rw [G]at e
     cases e
     rw[iQ,cell?_cellAt];simp only[aV,aS]at u;rw[u.2];simp only[Lib.bytesOf,List.getElem?_map,List.getElem?_eq_getElem Q,Wj,Option.some.injEq]at j;rw[<-j,qr (hb y hm)]
 have hs:Lib.HoldsBytes w (.slice none 0 0) []:=⟨none,0,rfl,λ_=>rfl,λa ha=>by cases ha⟩
 have B:=Any.bytes_Join_many Tryz.joinB b o parts.length c (parts.map dV) (parts.map λy=>Lib.bytesOf y.bs) (.slice none 0 0) [] w (by simp) n l0 hc hs (by omega) (by rw[O,f];simp;omega)
 refine jk B ?_;rintro e w' ⟨v',rfl,S,V⟩;refine⟨_,rfl,tB V,?_⟩;rw[D,f]at S;obtain⟨g,cap,A,rfl,j2,U,r8,r9,h6,J,L,j3⟩:=S;have W:(Lib.bytesOf bs).length=bs.length:=by simp[Lib.bytesOf]
 rw[W]at U J ⊢;have hz:A.take bs.length=bs:=by
  have h5:(A.take bs.length).length=bs.length:=by rw[VY];omega
  refine W9 h5 λi u n=>?_
  have e1:=congrArg (λl:List UInt8=>l[i]?) J
  simp only[Lib.bytesOf,List.getElem?_map,List.getElem?_eq_getElem u,List.getElem?_eq_getElem n,Wj,Option.some.injEq]at e1;have b1:=qr (xs:=A.take bs.length) (λx j=>h6 x (W0 j)) i u
  have b2:=qr h8 i n;rw[<-b1,<-b2,e1]
 have T:∃(C:Array Value) (M:TypeId) (fr:Nat×Nat),w'.heap[g]?=some (.cells C M fr):=by
  have h0:=L 0 (by omega);unfold World.cell? at h0
  split at h0
  .rename_i C M fr hh;exact⟨C,M,fr,hh⟩
  .cases h0
 obtain⟨C,M,fr,T⟩:=T;have d:∀i,i<cap->C.toList[i]?=some (U8 (A.getD i 0)):=λi hi=>by
  have h0:=L i hi;rw[cell?_cellAt]at h0;unfold aL at h0;rw[T]at h0;simpa using h0
 have r0:cap<=C.toList.length:=by
  rcases Y1 cap with h0|h0
  .omega
  .have:=(List.getElem?_eq_some_iff.1 (d (cap-1) (by omega))).1;omega
 have h7:C.toList=bs.map U8++C.toList.drop bs.length:=by
  rw[<-Ww bs.length C.toList];congr 1
  .refine WU λi=>?_
   rcases Wa i bs.length with hi|hi
   .rw [List.getElem?_take_of_lt hi,d i (by omega),List.getElem?_map,List.getElem?_eq_getElem hi,Wj];have:A.getD i 0=bs[i]:=by
     have u:i<(A.take bs.length).length:=by rw[hz];exact hi
     have n:(A.take bs.length)[i]=bs[i]:=by simp only[hz]
     rw[<-n,List.getElem_take];have h3:i<A.length:=by omega
     rw[List.getD,List.getElem?_eq_getElem h3];rfl
    rw[this]
   .rw [List.getElem?_eq_none (by rw[VY];omega),List.getElem?_eq_none (by simpa using hi)]
  .rw [Ww]
 have N:aA w'.heap (slA 5 1 (some ⟨g,0,none⟩) bs.length cap (bs.map U8)::F):=by
  refine (h.new (rE V) j2 T).mono λp Z=>⟨by simp,.inr ⟨g,[],C.toList.drop bs.length,M,fr,rfl,U,by rw[VU];omega,λ_ i u n hh=>?_,?_⟩⟩
  .have:=j3 i (by simp at n;omega);unfold World.frozen? at this;rw[T]at this;simp only[Wo,VD]at this;omega
  .rw [Wl,<-h7];exact Z
 refine⟨_,_,_,rfl,by decide,by decide,by decide,?_⟩;have l6:=G7 s0 s1;refine N.al λb1 H3 h=>?_
 refine aA.append (m:=4) (ws:=(le4 (kR bs)).map U8) rW h 1 rfl (h.ce_rd 0 (by rw[<-l6];rfl)) (by simp[le4]) (nE (λ_=>rfl) _) (by omega) (by omega) λa3 c3 H4 h4=>⟨_,_,_,rfl,?_⟩
 have:=k a3 c3 H4;unfold eK at this;rw[V7,show (le4 (kR bs)).length=4 from rfl]at this;refine this ?_;rw[VW];exact h4.tl
end
structure Rc where
 kind:Int
 data:List Int
 deriving DecidableEq
def gB(r:Rc):List Int:=eK (bR r.kind.toNat++r.data)
def bN(r:Rc):List Int:=bR (gB r).length++gB r
structure Rc.ok(r:Rc):Prop where
 k0:0<=r.kind
 k1:r.kind<=255
 len:r.data.length<=262144
 by':aI r.data
def kC(b:List Int):Option Rc:=if (dW b).1≠0 then none else match rdU 0 0 (dW b).2 with
 | .ok kind j=>if 255<kind\/262144<(dW b).2.length-j then none else some ⟨kind,(dW b).2.drop j⟩
 | _=>none
def iR(b:List Int):Option (Rc×Nat):=match rdU 0 0 b with
 | .ok n k=>if b.length<k+n then none else (kC ((b.drop k).take n)).map λr=>(r,k+n)
 | _=>none
def nM:Nat->List Int->List Rc×Nat
 | 0,_=>([],0)
 | f+1,b=>match iR b with
  | none=>([],0)
  | some (r,n)=>(r::(nM f (b.drop n)).1,n+(nM f (b.drop n)).2)
def eB(b:List Int):List Rc×Nat:=nM b.length b
theorem wD{b:List Int}(hb:aI b):aI (dW b).2:=by
 unfold dW
 split
 .intro x a;cases a
 .split
  .exact tS _ hb
  .intro x a;cases a
theorem zL{u:Nat}(h:u<=255):(bR u).length<=2:=by
 by_cases h1:u<128
 .rw [lI h1];simp
 .rw [nI h1,lI (by omega)];simp
theorem G9{b:List Int}{r:Rc}(hb:aI b)(h:kC b=some r):b=gB r/\r.ok:=by
 unfold kC at h
 split at h
 .cases h
 .rename_i h0;have a:=wD hb;have h0:(dW b).1=0:=Classical.not_not.1 h0;obtain⟨p,d⟩:∃p,dW b=(0,p):=⟨(dW b).2,by rw[<-h0]⟩;rw[d]at a h;dsimp only at a h;have c:=zJ d
  split at h
  .rename_i kind j i
   split at h
   .cases h
   .rename_i n
    cases h
    obtain⟨w,e,k,m,f,_,_,_⟩:=wk a i (by omega);simp only[Nat.mul_zero,Nat.pow_zero,W2,VX]at e;subst e;rw[Nat.sub_zero]at f;refine⟨?_,⟨by dsimp only;omega,by dsimp only;omega,by simp only[VU];omega,oX _ a⟩⟩;unfold gB;dsimp only;rw[VJ,f,Ww];exact c
  .cases h
theorem Qc{r:Rc}(h:r.ok):kC (gB r)=some r:=by
 have h0:=h.k0;have c:=h.k1;have b:=h.len;unfold kC gB;rw[G6,V4 (by simp)];dsimp only;rw[wl r.data (by omega) (by omega) (λa=>V6 a (by omega))]
 simp only[Nat.mul_zero,Nat.pow_zero,W2,VX];rw[V4,Yn,Y2 h0];rw[V7];omega
theorem ua{r:Rc}(h:r.ok):(gB r).length<=262150/\5<=(gB r).length:=by
 have h0:=h.k0;have b:=h.k1;have a:=h.len;unfold gB;rw[rY,V7];have:=zL (u:=r.kind.toNat) (by omega);have:=wj r.kind.toNat
 omega
theorem Qd{r:Rc}(h:r.ok):aI (gB r):=G5 (tR (oU _) h.by')
theorem rZ{r:Rc}(h:r.ok):aI (bN r):=tR (oU _) (Qd h)
theorem zM{u:Nat}(h:u<=262150):(bR u).length<=3:=by
 by_cases h1:u<128
 .rw [lI h1];simp
 .rw [nI h1]
  by_cases h2:u/128<128
  .rw [lI h2];simp
  .rw [nI h2,lI (by omega)];simp
theorem qy{r:Rc}(h:r.ok):(bN r).length<=262153/\6<=(bN r).length/\(bN r).length<=r.data.length+9:=by
 have a:=ua h;have c:=zM a.1;have e:=wj (gB r).length;have d:=h.k1;have b:=zL (u:=r.kind.toNat) (by omega);have f:(gB r).length=(bR r.kind.toNat).length+r.data.length+4:=by unfold gB;rw[rY,V7]
 unfold bN;rw[V7];omega
theorem Qe{b:List Int}(hb:aI b)(h:262150<b.length):kC b=none:=by
 cases hr:kC b with
 | none=>rfl
 | some r=>
  obtain⟨c,a⟩:=G9 hb hr;have:=ua a;rw[c]at h;omega
theorem zN{b:List Int}{r:Rc}{n:Nat}(hb:aI b)(h:iR b=some (r,n)):r.ok/\n<=b.length/\b.take n=bN r/\0<n:=by
 unfold iR at h
 split at h
 .rename_i m k f;obtain⟨w,d,t,u,e,_,_,_⟩:=wk hb f (by omega);simp only[Nat.mul_zero,Nat.pow_zero,W2,VX]at d;subst d;rw[Nat.sub_zero]at e
  split at h
  .cases h
  .rename_i x;rw[Option.map_eq_some_iff]at h;obtain⟨v,j,s⟩:=h
   cases s
   obtain⟨c,i⟩:=G9 (tS _ (oX _ hb)) j;refine⟨i,by omega,?_,by omega⟩;have a:(gB r).length=m:=by rw[<-c,VY,VU];omega
   unfold bN;rw[a,e,<-c,<-List.take_add]
 .cases h
theorem oneM_rec{r:Rc}(h:r.ok)(rest:List Int):iR (bN r++rest)=some (r,(bN r).length):=by
 have b:=ua h;unfold iR bN;rw[VK,wl (gB r++rest) (by omega) (by omega) (λa=>V6 a (by omega))]
 simp only[Nat.mul_zero,Nat.pow_zero,W2,VX];rw[V4 (by simp only[V7];omega),Yn,List.take_left,Qc h];simp
theorem Qf{r:Rc}(h:r.ok){k:Nat}(b:k<(bN r).length):iR ((bN r).take k)=none:=by
 have d:=ua h;have e:=zM d.1;unfold bN at b ⊢;rw[V7]at b
 rcases Wa k (bR (gB r).length).length with a|a
 .rw [Yv (by omega)];unfold iR;rw[rdU_part a (by omega)]
 .rw [List.take_append,Wc a];unfold iR;rw[wl _ (by omega) (by omega) (λc=>V6 c (by omega))]
  simp only[Nat.mul_zero,Nat.pow_zero,W2,VX];rw[V5];simp only[V7,VY];omega
theorem GB:∀{f:Nat} {b:List Int},aI b->b.length<=f->nM f b=eB b:=by
 have:∀{n f g:Nat} {b:List Int},aI b->b.length<=n->b.length<=f->b.length<=g->nM f b=nM g b:=by
  intro n
  induction n with
  | zero=>
   intro f g b hb d _ _;have:b=[]:=WK.1 (by omega);subst this
   cases f <;> cases g <;> rfl
  | succ n ih=>
   intro f g b hb d a c
   cases b with
   | nil=>cases f <;> cases g <;> rfl
   | cons x b=>
    cases f with
    | zero=>simp at a
    | succ f=>
     cases g with
     | zero=>simp at c
     | succ g=>
      simp only[nM]
      cases h:iR (x::b) with
      | none=>rfl
      | some p=>
       obtain⟨r,m⟩:=p;have e:=(zN hb h).2.2.2;have hd:((x::b).drop m).length<=(x::b).length-1:=by rw[VU];omega
       simp only[VE]at d a c hd;have:=ih (f:=f) (g:=g) (b:=(x::b).drop m) (oX _ hb) (by omega) (by omega) (by omega);dsimp only;rw[this]
 intro f b hb h;exact this (n:=b.length) hb (VF _) h (VF _)
theorem zO{b:List Int}(h:iR b=none):eB b=([],0):=by
 unfold eB
 cases b with
 | nil=>rfl
 | cons x b=>simp only[VE,nM,h]
theorem zP{b:List Int}{r:Rc}{n:Nat}(hb:aI b)(h:iR b=some (r,n)):eB b=(r::(eB (b.drop n)).1,n+(eB (b.drop n)).2):=by
 have a:=(zN hb h).2.2.2;have e:eB b=nM (b.length+1) b:=(GB hb (by omega)).symm;rw[e];simp only[nM,h];rw[GB (oX _ hb) (by rw[VU];omega)]
theorem Qg{r:Rc}(h:r.ok){rest:List Int}(a:aI rest):eB (bN r++rest)=(r::(eB rest).1,(bN r).length+(eB rest).2):=by
 rw[zP (tR (rZ h) a) (oneM_rec h rest),Yn]
theorem Qh{rs:List Rc}(h:∀r∈rs,r.ok):aI (rs.flatMap bN):=by
 intro x a;obtain⟨r,b,a⟩:=Ym.1 a;exact rZ (h r b) x a
theorem zQ:∀{rs:List Rc} {t:List Int},(∀r∈rs,r.ok)->aI t->iR t=none->eB (rs.flatMap bN++t)=(rs,(rs.flatMap bN).length)
 | [],t,_,_,ht=>by simp[zO ht]
 | r::rs,t,h,hb,ht=>by
  have c:=h r VO;have a:∀x∈rs,x.ok:=λx b=>h x (VQ _ b)
  rw[Wg,VK,Qg c (tR (Qh a) hb),zQ a hb ht];simp
theorem Qi{rs:List Rc}(h:∀r∈rs,r.ok):eB (rs.flatMap bN)=(rs,(rs.flatMap bN).length):=by
 have:=zQ (t:=[]) h (λx a=>by cases a) rfl
 rwa[We]at this
theorem zS:∀{n:Nat} {b:List Int},b.length<=n->aI b->(∀r∈(eB b).1,r.ok)/\(eB b).2<=b.length/\(eB b).1.flatMap bN=b.take (eB b).2
 | n,b,hn,hb=>by
  cases h:iR b with
  | none=>rw[zO h];exact⟨λr c=>(by cases c),Wd _,rfl⟩
  | some p=>
   obtain⟨r,m⟩:=p;obtain⟨e,f,d,i⟩:=zN hb h;rw[zP hb h]
   cases n with
   | zero=>omega
   | succ n=>
    obtain⟨i1,i2,i3⟩:=zS (n:=n) (b:=b.drop m) (by rw[VU];omega) (oX _ hb);rw[VU]at i2;refine⟨λx a=>?_,by dsimp only;omega,?_⟩
    .rcases VN.1 a with rfl|a
     .exact e
     .exact i1 x a
    .rw [Wg,i3,<-d,List.take_add]
theorem GD{b:List Int}(hb:aI b) :
  ((∃e,e≠0/\aZ 262150 ⟨0,b⟩=([],⟨e,b⟩))/\iR b=none)\/
  ∃k n,(aZ 262150 ⟨0,b⟩)=((b.drop k).take n,⟨0,b.drop (k+n)⟩)/\k+n<=b.length/\0<k/\iR b=(kC ((b.drop k).take n)).map λr=>(r,k+n):=by
 unfold aZ iR;simp only[ne_eq,not_true_eq_false,if_false]
 cases hr:rdU 0 0 b with
 | form=>exact .inl ⟨⟨10,by decide,rfl⟩,rfl⟩
 | ended=>exact .inl ⟨⟨15,by decide,rfl⟩,rfl⟩
 | ok n k=>
  have a:=qq hb hr;dsimp only
  by_cases h1:(max 262150 0:Int)<n
  .rw [V5 h1];refine .inl ⟨⟨17,by decide,rfl⟩,?_⟩
   split
   .rfl
   .rw [Qe (tS _ (oX _ hb)) (by rw[VY,VU];omega)];rfl
  .rw [V4 h1]
   by_cases h2:b.length<k+n
   .rw [V5 h2,V5 h2];exact .inl ⟨⟨15,by decide,rfl⟩,rfl⟩
   .rw [V4 h2,V4 h2];exact .inr ⟨k,n,rfl,by omega,a.1,rfl⟩
theorem Qj{b:List Int}(hb:aI b)(h0:(dW b).1=0) :
  ((∃e,e≠0/\bY 255 ⟨0,(dW b).2⟩=(0,⟨e,(dW b).2⟩))/\kC b=none)\/
  (∃kind j:Nat,bY 255 ⟨0,(dW b).2⟩=((kind:Int),⟨0,(dW b).2.drop j⟩)/\j<=(dW b).2.length/\kC b=if 262144<(dW b).2.length-j then none else some ⟨kind,(dW b).2.drop j⟩):=by
 have a:=wD hb;unfold kC bY;obtain⟨p,c⟩:∃p,dW b=(0,p):=⟨(dW b).2,by rw[<-h0]⟩;rw[c]at a ⊢;dsimp only at a ⊢;simp only[ne_eq,not_true_eq_false,if_false]
 cases hr:rdU 0 0 p with
 | form=>exact .inl ⟨⟨10,by decide,rfl⟩,rfl⟩
 | ended=>exact .inl ⟨⟨15,by decide,rfl⟩,rfl⟩
 | ok n k=>
  have d:=qq a hr;dsimp only
  by_cases h1:(max 255 0:Int)<n
  .rw [V5 h1,V5 (Or.inl (by omega))];exact .inl ⟨⟨17,by decide,rfl⟩,rfl⟩
  .rw [V4 h1];refine .inr ⟨n,k,rfl,d.2.1,?_⟩
   by_cases h2:262144<p.length-k
   .rw [V5 (Or.inr h2),V5 h2]
   .rw [nO,V4 h2]
structure Ry where
 kind:Int
 y:Fy
def Ry.rc(r:Ry):Rc:=⟨r.kind,r.y.bs⟩
abbrev fW(r:Ry):Os:=[.int .i64 r.kind,dV r.y]
theorem pg(r:Ry):(fW r).length=2:=rfl
def rowsR(rs:List Ry):aE:=star (rs.map λr=>rowY r.y)
theorem GE(a b:List Ry):rowsR (a++b)=rowsR a*rowsR b:=by unfold rowsR;rw[VW,tr]
theorem Qk(r:Ry):rowsR [r]=rowY r.y:=by unfold rowsR;simp only[Wf,Yg,star];rw[vH]
theorem zT:∀{rs:List Ry} {H:aC} {F:List aE},aA H (rowsR rs::F)->∀r∈rs,aP H r.y.a (r.y.bs.map U8)
 | [],_,_,_,r,b=>by cases b
 | x::rs,H,F,h,r,b=>by
  have c:aA H (rowY x.y::rowsR rs::F):=gy.1 h
  rcases VN.1 b with rfl|b
  .exact c.sl_rd 0 rfl
  .exact zT c.tl r b
theorem slb54:SlT Tryz.prog 127 234 2 32:=iu (by kernel_rfl)
section
variable {F L:List aE}{H:aC}{K:KE}
theorem Ql{a:KQ}{c:Nat}{bs:List Int}(h:aA H L)(n:∀H,aA H L->aP H a (bs.map U8))(w:bs.length<=1099511627776)
  (k:∀e f d,aA d (slA 5 1 e bs.length f (bs.map U8)::L)->K (.slice e bs.length f) d):CF 300 #[.slice a bs.length c] H K:=by
 refine cM 300 476 ⟨λj=>?_,λj=>?_⟩
 .have:a=none:=by simpa using j
  subst this;have v:=ol (n H h);have:bs=[]:=by simpa using v
  subst this;exact k none 0 H (h.sl_nil 5 1)
 .refine h.al λb x h=>?_
  have s:=n _ h.tl;have u:=aA.sl_pt (cs:=[]) h 1 0 rfl;refine aA.append (m:=bs.length) rW u 0 rfl s (by simp) (nE (λ_=>rfl) _) (by omega) (by omega) λe f d t=>⟨_,_,_,rfl,?_⟩
  have i:aA d (slA 5 1 e (0+bs.length) f ([]++bs.map U8)::L):=t;rw[VX,Wl]at i;have:=k e f d i;rw[<-VX bs.length]at this;exact this
theorem Qm{a:KQ}{c:Nat}{bs:List Int}(h:aA H F)(J:∀H,aA H F->aP H a (bs.map U8))(hb:aI bs)(E:bs.length<=1099511627776)(A:bs.length<=c)
  (k1:∀(r:Ry) m,kC bs=some r.rc->aA m (rowY r.y::F)->K (.tuple #[.agg #[.int .i64 r.kind,dV r.y],.bool true]) m)
  (k2:∀m,kC bs=none->aA m F->K (.tuple #[.agg #[.int .i64 0,.slice none 0 0],.bool false]) m) :
  CF 259 #[.slice a bs.length c] H K:=by
 refine OD ?_;refine h.al λb M h=>?_
 refine G8 h (λH h=>J H h.tl) hb E A (λa1 c1 p I i h=>?_) λe I t i h=>?_
 .refine⟨_,_,_,_,rfl,(λu=>by cases u),λ_=>?_⟩
  have C:p.length<=bs.length:=by
   have:=congrArg List.length (zJ i);rw[rY]at this;omega
  have w:aI p:=by have:=wD hb;rwa[i]at this
  have d:=Qj hb (by rw[i]);rw[i]at d;dsimp only at d;refine rQ h (λH h=>h.sl_rd 0 rfl) (by omega) λrb D h=>⟨_,rfl,?_⟩
  refine tQ h w (by dsimp only;omega) (by unfold aF;omega) λO h=>⟨_,rfl,_,mB h,_,λ_=>oW h,λf=>?_,λf=>?_⟩
  .refine h.st 2 rfl rfl λB h=>⟨_,_,_,_,h.q 2,k2 _ ?_ h.tl.tl.tl⟩
   rcases d with ⟨_,L⟩|⟨kind,j,n,x,s⟩
   .exact L
   .rw [s];rw[n]at f;simp only[VU,decide_true,Bool.not_true,Yc,VA]at f;rw[pO]
  .rcases d with ⟨⟨e,t,n⟩,_⟩|⟨kind,j,n,x,s⟩
   .rw [n]at f;simp[t]at f
   .rw [n]at f h ⊢;dsimp only at h ⊢;simp only[VU,decide_true,Bool.not_true,Yc,VD]at f;rw[nO]at s;refine⟨_,oW h,?_⟩;dsimp only;have G:i64.wrap ((p.length:Int)-((p.drop j).length:Int))=(j:Nat):=by
     rw[VU,aJ];omega
    have v:=h.sl_nc 1 rfl;rw[G,VJ];refine⟨⟨by omega,by omega,by omega⟩,?_⟩;rw[show p.length-j=(p.drop j).length by rw[VU]];refine Ql h (λH h=>by
     have:=(h.sl_rd 1 rfl).subB (k:=j) (c:=c1) (by simpa using v)
     rwa[<-List.map_drop]at this) (by rw[VU];omega) λa5 c5 B h=>⟨_,_,_,rfl,?_⟩
    refine h.st 3 rfl rfl λN h=>⟨_,_,_,_,h.q 3,?_⟩
    refine k1 ⟨kind,⟨a5,c5,p.drop j⟩⟩ _ s ?_;exact h.o [0] 4
 .refine⟨_,_,_,_,rfl,λ_=>?_,λu=>by simp[t]at u⟩
  refine h.st 0 rfl rfl λD h=>⟨_,_,_,_,h.q 0,k2 _ ?_ h.tl⟩
  unfold kC;rw[i,V5 t]
end
section
variable {F L:List aE}{H:aC}{K:KE}
theorem Qn{a:KQ}{c:Nat}{bs:List Int}(h:aA H F)(hF:∀H,aA H F->aP H a (bs.map U8))(hb:aI bs)(Z:bs.length<=1099511627776)
  (k:∀(rs:List Ry) a' c' f,rs.map Ry.rc=(eB bs).1->aA f (slA 234 2 a' rs.length c' (flat fW rs)::rowsR rs::F)->K (.tuple #[.slice a' rs.length c',.int .i64 (eB bs).2]) f) :
  CF 194 #[.slice a bs.length c] H K:=by
 refine cN 194 0x11112a621399512139912139914c [[(4,sS),(5,sI)],[(4,sS),(5,sI)]] ?_;refine rQ h hF Z λrb O h=>⟨_,rfl,λQ P=>?_⟩
 have fin:∀la lc (rs:List Ry) (w:Nat) s t f,iR t=none->eB bs=(rs.map Ry.rc++(eB t).1,w+(eB t).2)->aA f (crdA rb s::slA 234 2 la rs.length lc (flat fW rs)::rowsR rs::F)->Q la rs.length lc w f:=by
  intro la lc rs w s t f C i V;refine P _ _ _ _ _ ?_;rw[zO C,We,WM]at i;have:=k rs la lc f (by rw[i]) V.tl
  rwa[i]at this
 refine⟨λla N lc b f=>∃(rs:List Ry) (w:Nat),N=rs.length/\b=w/\w<=bs.length/\rs.length<=w/\eB bs=(rs.map Ry.rc++(eB (bs.drop w)).1,w+(eB (bs.drop w)).2)/\
   aA f (crdA rb ⟨0,bs.drop w⟩::slA 234 2 la rs.length lc (flat fW rs)::rowsR rs::F),λ_ _ _ b _=>bs.length-b.toNat,⟨[],0,rfl,rfl,Wd _,Wd _,by simp,?_⟩,?_⟩
 .have M:aA O (rowsR []::crdA rb ⟨0,bs⟩::F):=ww.2 h;have J:=(M.sl_nil 234 2).o [2,0,1] 3;exact J
 rintro la N lc b H2 ⟨rs,w,rfl,rfl,hw,Y,i,h⟩;have d:aI (bs.drop w):=oX _ hb;refine⟨_,oW h,λj=>?_,λj=>?_⟩
 .refine nK h d (by simp only[VU];omega) (by unfold aF;omega) λH3 h=>⟨_,rfl,_,mB h,λj=>?_,λj=>?_⟩
  .rcases GD d with ⟨⟨e,x,m⟩,C⟩|⟨kk,n,L,A,G,v⟩
   .rw [m]at h;exact fin _ _ _ _ _ _ _ C i h
   .rw [L]at j;simp at j
  .rcases GD d with ⟨⟨e,x,m⟩,C⟩|⟨kk,n,L,A,G,v⟩
   .rw [m]at j;simp[x]at j
   .rw [L]at h ⊢;dsimp only at h ⊢;obtain⟨t,u⟩:∃t,((bs.drop w).drop kk).take n=t:=⟨_,rfl⟩;rw[u]at v ⊢;have B:aI t:=by rw[<-u];exact tS _ (oX _ d)
    have R:t.length<=bs.length:=by rw[<-u];simp only[VY,VU];omega
    rw[VU]at A;refine wp B h λa4 c4 H4 h=>⟨_,_,_,rfl,?_⟩
    have E:=h.sl_nc 0 rfl;refine Qm h (λH h=>h.sl_rd 0 rfl) B (by omega) E (λr U I h=>⟨_,_,_,_,_,rfl,?_⟩) λU I h=>⟨_,_,_,_,_,rfl,?_⟩
    .refine h.al λb6 S h=>?_
     refine h.st 0 rfl rfl λH7 h=>⟨(λD=>by cases D),λ_=>⟨_,_,_,_,h.q 0,?_⟩⟩
     rw[I,Wj]at v;rw[Yw]at h;rintro _ _ rfl rfl;refine h.append1 slb54 4 rfl (by rfl) (by rfl) (by omega) (by omega) λa8 c8 H8 h=>⟨_,_,_,rfl,?_⟩
     have h:=h.o [3,4,5,1] 6;refine⟨_,oW h,?_⟩;have e1:i64.wrap ((bs.length:Int)-((bs.drop (w+(kk+n))).length:Int))=((w+(kk+n):Nat):Int):=by
      rw[VU,aJ];omega
     dsimp only
     conv=>whnf
     rw[e1];refine⟨⟨rs++[r],w+(kk+n),by simp,rfl,by omega,by rw[V7,Wv];omega,?_,?_⟩,by simp only[VJ];omega⟩
     .rw [i,zP d v,Yw];simp[Wy]
     .rw [GE,Qk,dS,nA,V7,Wv];have M:=h.o [0,1,2,3] 4;have J:aA H8 (slA 234 2 a8 (rs.length+1) c8 (flat fW rs++fW r)::crdA rb ⟨0,bs.drop (w+(kk+n))⟩::rowsR rs::rowY r.y::F):=h.o [1,0,2,3] 4;have T:=J.o [2,3,1,0] 4;have W:=gy.2 T;exact W.o [1,2,0] 3
    .refine h.al λb6 S h=>?_
     refine h.st 0 rfl rfl λH7 h=>⟨λ_=>?_,(λD=>by cases D)⟩
     rw[I,Option.map_none]at v;exact fin _ _ _ _ _ _ _ v i (h.o [2,3,4] 5)
 .have hd:bs.drop w=[]:=by
   simp at j;exact List.drop_eq_nil_of_le (by omega)
  exact fin _ _ _ _ _ _ _ (by rw[hd];rfl) i h
end
def iz(kind:Int)(n:Nat):Int:=if kind<0\/255<kind then 11 else if 262144<n then 17 else 0
theorem wE{kind:Int}{bs:List Int}(hb:aI bs)(h:iz kind bs.length=0):(⟨kind,bs⟩:Rc).ok:=by
 unfold iz at h
 split at h
 .cases h
 .split at h
  .cases h
  .exact⟨by dsimp only;omega,by dsimp only;omega,by dsimp only;omega,hb⟩
theorem Qo{r:Rc}(h:r.ok):iz r.kind r.data.length=0:=by
 have:=h.k0;have:=h.k1;have:=h.len;unfold iz;rw[nO,nO]
section
variable {F L:List aE}{H:aC}{K:KE}
theorem ub{e sz n c:Nat}{a:KQ}{cs:Os}(h:aA H (slA e sz a n c cs::F)):a=none\/∃b o,a=some ⟨b,o,none⟩:=by
 rcases (ky (F:=star F) h).2 with ⟨d,_⟩|⟨b,pre,post,f,fr,d,_⟩
 .exact .inl d
 .exact .inr ⟨_,_,d⟩
theorem Qp{kind:Int}{a:KQ}{c:Nat}{bs:List Int}(h:aA H F)(M:∀H,aA H F->aP H a (bs.map U8))(J:a=none\/∃b o,a=some ⟨b,o,none⟩)(hb:aI bs)(R:bs.length<=1099511627776)
  (k1:∀C E k,iz kind bs.length=0->aA k (slA 5 1 C (bN ⟨kind,bs⟩).length E ((bN ⟨kind,bs⟩).map U8)::F)->K (.tuple #[.slice C (bN ⟨kind,bs⟩).length E,.int .i64 0]) k)
  (k2:∀k,iz kind bs.length≠0->aA k F->K (.tuple #[.slice none 0 0,.int .i64 (iz kind bs.length)]) k) :
  CF 190 #[.agg #[.int .i64 kind,.slice a bs.length c]] H K:=by
 refine cM 190 122140 ?_;refine h.al λb N h=>⟨_,h.r 0,_,λ_=>h.r 0,λw=>?_,λw=>?_⟩
 .have n:kind<0\/255<kind:=by simpa using w
  have e:iz kind bs.length=11:=by unfold iz;rw[V5 n]
  have:=k2 _ (by rw[e];decide) h.tl
  rwa[e]at this
 .have n:¬(kind<0\/255<kind):=by simp at w;omega
  refine⟨_,_,_,h.r 0,λj=>?_,λj=>?_⟩
  .have B:262144<bs.length:=by simp at j;omega
   have e:iz kind bs.length=17:=by unfold iz;rw[V4 n,V5 B]
   have:=k2 _ (by rw[e];decide) h.tl
   rwa[e]at this
  .have v:¬262144<bs.length:=by simp at j;omega
   have e:iz kind bs.length=0:=by unfold iz;rw[V4 n,V4 v]
   have s:=wE hb e;have A:=ua s;obtain⟨u,D⟩:∃u:Nat,kind=u:=⟨kind.toNat,by omega⟩;refine⟨_,h.r 0,_,_,_,h.r 0,?_⟩;rw[u64w (x:=kind) (by omega) (by omega)];refine h.al λb1 S h=>⟨h.r 1,?_⟩
   refine zo (u:=u) h (λH h=>by rw[<-D];exact h.ce_rd 0 rfl) (by omega) λa3 c3 Q h=>⟨_,_,_,rfl,h.r 2,?_⟩
   refine h.al λb2 U h=>?_
   have t:=ub h.tl;have f:([⟨a3,c3,bR u⟩,⟨a,c,bs⟩]:List Fy).flatMap Fy.bs=bR u++bs:=by simp
   have V:=zL (u:=u) (by omega);have up:=wj u;refine Qb (parts:=[⟨a3,c3,bR u⟩,⟨a,c,bs⟩]) h (λH h=>h.ce_rd 0 rfl) (λH h y d=>?_) (λy d=>?_) (λy d=>?_) (VF _) (VF _) (Ys rfl) (by rw[f,V7];omega) (by rw[f,V7];omega) λa5 c5 P h=>⟨_,_,_,rfl,?_⟩
   .simp only[VN,WF,or_false]at d
    rcases d with rfl|rfl
    .exact h.sl_rd 1 rfl
    .exact M _ h.tl.tl.tl.tl
   .simp only[VN,WF,or_false]at d
    rcases d with rfl|rfl
    .exact t
    .exact J
   .simp only[VN,WF,or_false]at d
    rcases d with rfl|rfl
    .exact oU _
    .exact hb
   .rw [f]at h ⊢;have G:eK (bR u++bs)=gB ⟨kind,bs⟩:=by unfold gB;dsimp only;rw[D,VJ]
    rw[G]at h ⊢
    conv=>whnf
    rw[u64w (x:=(((gB ⟨kind,bs⟩).length:Nat):Int)) (by omega) (by omega)];refine h.al λb3 O h=>?_
    refine zo (u:=(gB ⟨kind,bs⟩).length) h (λH h=>h.ce_rd 0 rfl) (by omega) λa7 c7 T h=>⟨_,_,_,rfl,?_⟩
    have I:=zM A.1;refine aA.append (m:=(gB ⟨kind,bs⟩).length) (ws:=(gB ⟨kind,bs⟩).map U8) rW h 0 rfl (h.sl_rd 2 rfl) (by simp) (nE (λ_=>rfl) _) (by omega) (by omega) λa8 c8 L h=>⟨_,_,_,rfl,?_⟩
    have i:=k1 a8 c8 L e;unfold bN at i;rw[V7,VW]at i;exact i (h.o [0] 7)
end
def fX(rows:DR):Prop:=∀r∈rows,(0<=r.1/\r.1<=2147483647)/\0<=r.2/\r.2<256
theorem fX.bytes{rows:DR}(h:fX rows)(f:Int):aI (bytesOf f rows):=by
 intro x a;unfold bytesOf at a;obtain⟨r,b,rfl⟩:=VH.1 a;exact (h r (W7.1 b).1).2
theorem fX.app{rows:DR}(h:fX rows){f:Int}{bs:List Int}(d:0<=f/\f<=2147483647)(hb:aI bs):fX (rows++bs.map λb=>(f,b)):=by
 intro r a
 rcases VV.1 a with a|a
 .exact h r a
 .obtain⟨b,c,rfl⟩:=VH.1 a;exact⟨d,hb b c⟩
theorem fX.take{rows:DR}(h:fX rows)(n:Nat):fX (rows.take n):=λr a=>h r (W0 a)
theorem fX.filter{rows:DR}(h:fX rows)(p:Int×Int->Bool):fX (rows.filter p):=λr a=>h r (W7.1 a).1
structure RL where
 most:Int
 seg:Int
 next:Nat
 syn:Nat
structure RL.ok(s:RL):Prop where
 seg:0<=s.seg/\s.seg<=2147483647
 most:64<=s.most/\s.most<=1048576
 next:s.next<=1099511627776
 syn:s.syn<=1099511627776
def reelA(rb db:Nat)(s:RL):aE:=cellsA rb [.pointer (some ⟨db,0,none⟩),.int .i64 s.most,.int .i64 s.seg,.int .i64 s.next,.int .i64 s.syn] 222
def ph(rows:DR)(s:RL)(n:Nat):Bool:=decide (0<(bytesOf s.seg rows).length)&&decide (s.most<(((bytesOf s.seg rows).length+n:Nat):Int))
def iA(rows:DR)(s:RL)(r:Rc):Int:=
 if iz r.kind r.data.length≠0 then iz r.kind r.data.length else if ph rows s (bN r).length=true/\s.seg=2147483647 then 20 else 0
def dp(rows:DR)(s:RL)(r:Rc):RL:=if iA rows s r≠0 then s else { s with seg:=if ph rows s (bN r).length then s.seg+1 else s.seg,next:=s.next+1 }
def fY(rows:DR)(s:RL)(r:Rc):DR:=if iA rows s r≠0 then rows else rows++(bN r).map λb=>((dp rows s r).seg,b)
def appN(rows:DR)(s:RL)(r:Rc):Int:=if iA rows s r≠0 then -1 else s.next
theorem zU{rows:DR}{s:RL}{r:Rc}(hb:aI r.data)(h:iA rows s r=0):r.ok:=by
 unfold iA at h
 split at h
 .rename_i a;exact V6 h a
 .rename_i a;obtain⟨k,d⟩:=r;exact wE hb (Classical.not_not.1 a)
theorem appS_seg{rows:DR}{s:RL}{r:Rc}(h:s.ok):0<=(dp rows s r).seg/\(dp rows s r).seg<=2147483647:=by
 have:=h.seg;unfold dp
 split
 .exact this
 .rename_i a;unfold iA at a;dsimp only
  split
  .rename_i b
   split at a
   .rename_i c;exact V6 c a
   .split at a
    .exact V6 (by decide) a
    .rename_i d;have:s.seg≠2147483647:=λe=>d ⟨b,e⟩
     omega
  .exact this
section
variable {F L:List aE}{H:aC}{K:KE}{rb db pb:Nat}{rows:DR}{syn:Nat}{s:RL}
theorem GL{f:Int}(i:rows.length<=1099511627776)(h:aA H (diskX db rows syn::F))
  (k:∀a c e b,aA b (slA 5 1 a (bytesOf f rows).length c ((bytesOf f rows).map U8)::diskX db rows syn::F)->K (.tuple #[.slice a (bytesOf f rows).length c,.int .i64 e]) b) :
  CF 192 #[.pointer (some ⟨db,0,none⟩),.int .i64 f] H K:=by
 refine PI i h (λd b h=>?_) λd a c b h=>?_
 .have:=k none 0 23 b;rw[d]at this;exact this (h.sl_nil 5 1)
 .exact k a c 0 b h
theorem Qq{a:KQ}{c:Nat}{parts:List Fy}(h:aA H F)(I:∀H,aA H F->aP H a (parts.map dV))(J:∀H,aA H F->∀y∈parts,aP H y.a (y.bs.map U8))(Q:parts.length<=1099511627776)(M:(parts.flatMap Fy.bs).length<=262144)
  (k:∀v B n,aA n (slA 5 1 v (parts.flatMap Fy.bs).length B ((parts.flatMap Fy.bs).map U8)::F)->K (.slice v (parts.flatMap Fy.bs).length B) n) :
  CF 191 #[.slice a parts.length c] H K:=by
 refine cN 191 0x1121a6123992512139944c [[(3,sS),(8,sI)],[(3,sS)]] ?_;intro L E;have d:∀j,((parts.take j).flatMap Fy.bs).length<=(parts.flatMap Fy.bs).length:=by
  intro j
  conv=>rhs;rw[<-Ww j parts,W4,V7]
  omega
 refine⟨λw on u i n=>∃j:Nat,i=j/\j<=parts.length/\on=((parts.take j).flatMap Fy.bs).length/\aA n (slA 5 1 w ((parts.take j).flatMap Fy.bs).length u (((parts.take j).flatMap Fy.bs).map U8)::F),λ_ _ _ i _=>parts.length-i.toNat,⟨0,rfl,Wd _,rfl,h.sl_nil 5 1⟩,?_⟩
 rintro w on u i O ⟨j,rfl,N,rfl,h⟩;have G:=d j;refine⟨λt=>?_,λt=>?_⟩
 .have b:j<parts.length:=by simpa using t
  have A:=(I _ h.tl).at b;have C:=J _ h.tl _ (VL b);have e:=zH b;have f:=d (j+1);rw[e,V7]at f;refine⟨⟨by omega,by omega⟩,_,_,A.1,_,_,_,A.2,λD=>?_,λ_=>?_⟩
  .have:=V8 D;omega
  .refine aA.append (m:=parts[j].bs.length) (ws:=parts[j].bs.map U8) rW h 0 rfl C (by simp) (nE (λ_=>rfl) _) (by omega) (by omega) λa8 c8 P h=>⟨_,_,_,rfl,?_⟩
   conv=>whnf
   rw[aJ (x:=(j:Int)+1)];refine⟨⟨j+1,rfl,b,by rw[e,V7],?_⟩,by simp only[VJ];omega⟩;rw[e,V7,VW];exact h
 .have s:j=parts.length:=by simp at t;omega
  subst s;rw[Wi]at h ⊢;refine E _ _ _ _ ?_;exact k _ _ _ h
theorem Qr(h:aA H (reelA rb db s::F)):bV Tryz.prog 93 #[.pointer (some ⟨rb,0,none⟩)] H (.int .i64 s.syn):=by
 unfold bV;refine cM 93 28 ?_;exact⟨_,h.r 0,rfl,rfl⟩
theorem GM(h:aA H (reelA rb db s::F)):bV Tryz.prog 97 #[.pointer (some ⟨rb,0,none⟩)] H (.int .i64 s.seg):=by
 unfold bV;refine cM 97 28 ?_;exact⟨_,h.r 0,rfl,rfl⟩
theorem GN(hs:0<=s.seg/\s.seg<=2147483647)(h:aA H (reelA rb db s::F))
  (k1:s.seg=2147483647->∀a,aA a (reelA rb db s::F)->K (.tuple #[.int .i64 (-1),.int .i64 20]) a)
  (k2:s.seg≠2147483647->∀a,aA a (reelA rb db { s with seg:=s.seg+1 }::F)->K (.tuple #[.int .i64 (s.seg+1),.int .i64 0]) a) :
  CF 95 #[.pointer (some ⟨rb,0,none⟩)] H K:=by
 refine cM 95 7452 ?_;refine⟨_,h.r 0,λb=>k1 (by simpa using b) _ h,λb=>⟨_,h.r 0,?_⟩⟩
 conv=>whnf
 rw[aJ (x:=s.seg+1)];exact h.st 0 rfl rfl λa h=>⟨_,h.r 0,k2 (by simpa using b) _ h⟩
theorem GU(h:aA H (reelA rb db s::diskX db rows syn::F))(k:∀a,aA a (reelA rb db { s with syn:=s.next }::diskX db rows rows.length::F)->K (.tuple #[]) a) :
  CF 40 #[.pointer (some ⟨rb,0,none⟩)] H K:=by
 refine cM 40 20 ?_;refine⟨_,h.r 0,?_⟩;refine PG (F:=reelA rb db s::F) (h.o [1,0] 2) λb h=>⟨rfl,_,h.r 1,?_⟩
 exact h.st 1 rfl rfl λa h=>k _ (h.o [1,0] 2)
theorem GW{a:KQ}{c:Nat}{parts:List Fy}{kind:Int}(hs:s.ok)(hB:rows.length<=549755813888)(h:aA H (reelA rb db s::diskX db rows syn::F))
  (C:∀H,aA H F->aP H a (parts.map dV)) (w:∀H,aA H F->∀y∈parts,aP H y.a (y.bs.map U8)) (hb:aI (parts.flatMap Fy.bs)) (U:parts.length<=1099511627776) (M:(parts.flatMap Fy.bs).length<=262144)
  (k:∀n,aA n (reelA rb db (dp rows s ⟨kind,parts.flatMap Fy.bs⟩)::diskX db (fY rows s ⟨kind,parts.flatMap Fy.bs⟩) syn::F)->
   K (.tuple #[.int .i64 (appN rows s ⟨kind,parts.flatMap Fy.bs⟩),.int .i64 (iA rows s ⟨kind,parts.flatMap Fy.bs⟩)]) n) :
  CF 96 #[.pointer (some ⟨rb,0,none⟩),.int .i64 kind,.slice a parts.length c] H K:=by
 refine OU ?_;have u:=hs.seg;have O:=hs.most;have Q:=hs.next;refine Qq h (λH h=>C H h.tl.tl) (λH h=>w H h.tl.tl) U M λa1 c1 W h=>⟨_,_,_,rfl,?_⟩
 obtain⟨d,hd⟩:∃d,parts.flatMap Fy.bs=d:=⟨_,rfl⟩;rw[hd]at hb M h k ⊢;refine Qp h (λH h=>h.sl_rd 0 rfl) (ub h) hb (by omega) (λa2 c2 N j h=>⟨_,_,_,_,rfl,(λe=>by cases e),λ_=>?_⟩) λN j h=>⟨_,_,_,_,rfl,λ_=>?_,λe=>by simp[j]at e⟩
 .have t:=qy (wE hb j);have G:=rZ (wE hb j);dsimp only at t;obtain⟨r,L⟩:∃r:Rc,(⟨kind,d⟩:Rc)=r:=⟨_,rfl⟩;have A:iz r.kind r.data.length=0:=by rw[<-L];exact j
  rw[L]at h t G k ⊢;have S:=tX s.seg rows;refine⟨_,h.r 2,_,h.r 2,?_⟩;refine GL (F:=slA 5 1 a2 (bN r).length c2 ((bN r).map U8)::slA 5 1 a1 d.length c1 (d.map U8)::reelA rb db s::F) (by omega) (h.o [3,0,1,2] 4) λa3 c3 e3 H3 h=>⟨_,_,_,_,rfl,λ_=>trivial,_,λ_=>h.r 4,λY I=>?_⟩
  have P:i64.wrap (((bytesOf s.seg rows).length:Int)+((bN r).length:Int))=(((bytesOf s.seg rows).length+(bN r).length:Nat):Int):=by rw[aJ];omega
  have T:(decide ((0:Int)<((bytesOf s.seg rows).length:Int))&&decide (s.most<(((bytesOf s.seg rows).length+(bN r).length:Nat):Int)))=ph rows s (bN r).length:=by
   unfold ph;congr 1;exact decide_eq_decide.2 (by omega)
  rw[P,T];have f:∀g n,0<=g/\g<=2147483647->iA rows s r=0->dp rows s r={ s with seg:=g,next:=s.next+1 }->aA n (reelA rb db { s with seg:=g }::diskX db rows syn::slA 5 1 a2 (bN r).length c2 ((bN r).map U8)::F)->zh.r1 rb 0 K a2 (bN r).length c2 n:=by
   intro g n V e0 J h;unfold zh.r1;refine⟨_,h.r 0,_,h.r 0,?_⟩;refine h.al λb D h=>⟨h.r 1,h.r 1,?_⟩
   have B:([⟨a2,c2,bN r⟩]:List Fy).flatMap Fy.bs=bN r:=by simp
   refine PN (F:=cellsA b [.slice a2 (bN r).length c2] 43::reelA rb db { s with seg:=g }::slA 5 1 a2 (bN r).length c2 ((bN r).map U8)::F) (pc:=1) (parts:=[⟨a2,c2,bN r⟩]) (by rw[B];omega) (by simp) (λH h=>⟨h.ce_rd 0 rfl,λp w=>by
    rw[VI]at w;subst w;exact h.sl_rd 2 rfl⟩) (h.o [2,0,1,3] 4) (λe=>V6 e (by dsimp only;omega)) λ_ Z h=>⟨_,rfl,(λe=>by cases e),λ_=>⟨_,h.r 2,?_⟩⟩
   conv=>whnf
   rw[aJ (x:=(s.next:Int)+1)];refine h.st 2 rfl rfl λR h=>⟨_,h.r 2,?_⟩
   have i:=k R;rw[show appN rows s r=s.next by unfold appN;rw[V4 (by rw[e0];decide)],e0,show fY rows s r=rows++(bN r).map (λb=>(g,b)) by unfold fY;rw[V4 (by rw[e0];decide),J],J]at i
   have en:i64.wrap (((s.next:Int)+1)-1)=s.next:=by rw[aJ];omega
   conv=>whnf
   rw[en];refine i ?_;have C:jm g [(⟨a2,c2,bN r⟩:Fy)]=(bN r).map (λb=>(g,b)):=by simp[jm]
   have h:=h.o [2,0] 4;rw[<-C];exact h
  have e0:iA rows s r=if ph rows s (bN r).length=true/\s.seg=2147483647 then 20 else 0:=by unfold iA;rw[V4 (by rw[A];decide)]
  refine⟨λv=>?_,λv=>?_⟩
  .refine GN (F:=slA 5 1 a3 (bytesOf s.seg rows).length c3 ((bytesOf s.seg rows).map U8)::diskX db rows syn::slA 5 1 a2 (bN r).length c2 ((bN r).map U8)::slA 5 1 a1 d.length c1 (d.map U8)::F) u (h.o [4,0,1,2,3] 5) (λhm D h=>⟨_,_,rfl,λ_=>?_,(λe=>by cases e)⟩) λhm D h=>⟨_,_,rfl,(λe=>by cases e),λ_=>I _ ?_⟩
   .rw [V5 ⟨v,hm⟩]at e0;have i:=k D;unfold appN dp fY at i;rw[e0,V5 (by decide),V5 (by decide),V5 (by decide)]at i;exact i (h.o [0,2] 5)
   .rw [V4 (λE=>hm E.2)]at e0
    exact f (s.seg+1) _ (by omega) e0 (by unfold dp;rw[V4 (by rw[e0];decide),V5 v]) (h.o [0,2,3] 5)
  .have m:ph rows s (bN r).length=false:=v;rw[V4 (λE=>by rw[E.1]at m;cases m)]at e0
   exact I _ (f s.seg _ u e0 (by unfold dp;rw[V4 (by rw[e0];decide),m];rfl) (h.o [4,1,2] 5))
 .have e0:iA rows s ⟨kind,d⟩=iz kind d.length:=by unfold iA;dsimp only;rw[V5 j]
  have i:=k N;unfold appN dp fY at i;rw[e0,V5 j,V5 j,V5 j]at i;exact i (h.o [1,2] 3)
end
def di(rows:DR):List Rc:=(bB rows).flatMap λf=>(eB (bytesOf f rows)).1
def iS(rows:DR):Int:=match (bB rows)[(bB rows).length-1]? with
 | none=>0
 | some f=>f+1
def fk(most:Int)(rows:DR):Int:=if most<64\/1048576<most then 11 else if 2147483647<iS rows then 20 else 0
def iB(below:Int)(rows:DR):DR:=rows.filter λr=>decide (below<=r.1)
theorem GZ{b:List Int}(hb:aI b):(eB b).1.length<=b.length:=by
 obtain⟨f,i,c⟩:=zS (VF _) hb;have d:=congrArg List.length c;rw[VY]at d;have:∀a:List Rc,(∀r∈a,r.ok)->a.length<=(a.flatMap bN).length:=by
  intro a
  induction a with
  | nil=>intro _;simp
  | cons r a ih=>
   intro h;have e1:=qy (h r VO);have e2:=ih λx e=>h x (VQ _ e)
   rw[Wg,V7,VE];omega
 have:=this _ f;omega
theorem Qs(rows:DR):(bB rows).Nodup:=(oY rows).imp λh=>by omega
theorem zV{rows:DR}(h:fX rows):(di rows).length<=rows.length:=by
 have b:=zw rows (bB rows) (Qs rows) λr a=>j0.2 (VH.2 ⟨r,a,rfl⟩)
 rw[<-b];unfold di;generalize bB rows=l
 induction l with
 | nil=>simp
 | cons f l ih=>
  rw[Wg,V7,Wf,Yb];have:=GZ (h.bytes f);omega
theorem Ia{α β:Type}(f:α->List β)(l:List α)(j:Nat):((l.take j).flatMap f).length<=(l.flatMap f).length:=by
 conv=>rhs;rw[<-Ww j l,W4,V7]
 omega
theorem Qt{α β:Type}(f:α->List β){l:List α}{j:Nat}(h:j<l.length):(l.take (j+1)).flatMap f=(l.take j).flatMap f++f l[j]:=by
 rw[Wn h,W4];simp
theorem uc{rows:DR}{n:Nat}(h:n+1=(bB rows).length):∃f,(bB rows)[n]?=some f/\iS rows=f+1/\f∈bB rows:=by
 have a:n<(bB rows).length:=by omega
 refine⟨_,List.getElem?_eq_getElem a,?_,VL a⟩;unfold iS;rw[<-h,YH,List.getElem?_eq_getElem a]
theorem wF{rows:DR}(h:(bB rows).length=0):iS rows=0:=by
 unfold iS;rw[WK.1 h];rfl
theorem fX.file{rows:DR}(h:fX rows){f:Int}(b:f∈bB rows):0<=f/\f<=2147483647:=by
 obtain⟨r,a,rfl⟩:=VH.1 (j0.1 b);exact (h r a).1
theorem Ib{rows:DR}(h:fX rows):0<=iS rows/\iS rows<=2147483648:=by
 cases hn:(bB rows).length with
 | zero=>rw[wF hn];omega
 | succ n=>
  obtain⟨f,c,b,a⟩:=uc hn.symm;have:=h.file a;omega
def jU(below:Int)(rows:DR)(j:Nat):DR:=rows.filter λr=>!(decide (r.1∈(bB rows).take j)&&decide (r.1<below))
theorem Qu(below:Int)(rows:DR):jU below rows 0=rows:=by
 unfold jU;simp
theorem Qv(below:Int)(rows:DR):jU below rows (bB rows).length=iB below rows:=by
 unfold jU iB;refine Y3 λr a=>?_
 rw[Wi,VS (j0.2 (VH.2 ⟨r,a,rfl⟩)),Yo,<-decide_not];exact decide_eq_decide.2 (by omega)
theorem Qw{below:Int}{rows:DR}{j:Nat}(h:j<(bB rows).length) :
  jU below rows (j+1)=if (bB rows)[j]<below then (jU below rows j).filter (λr=>decide (r.1≠(bB rows)[j])) else jU below rows j:=by
 have hm:∀x,decide (x∈(bB rows).take (j+1))=(decide (x∈(bB rows).take j)||decide (x=(bB rows)[j])):=by
  intro x;rw[<-Bool.decide_or];refine decide_eq_decide.2 ?_;rw[Wn h,VV,VI]
 split
 .rename_i b;unfold jU;rw[List.filter_filter];refine Y3 λr c=>?_
  rw[hm]
  by_cases e:r.1=(bB rows)[j]
  .rw [VS e,show decide (r.1≠(bB rows)[j])=false from Ws λd=>d e,show decide (r.1<below)=true from VS (by rw[e];exact b)]
   simp
  .rw [Ws e,show decide (r.1≠(bB rows)[j])=true from VS e,Bool.or_false,Yo]
 .rename_i a;unfold jU;refine Y3 λr c=>?_
  rw[hm]
  by_cases e:r.1=(bB rows)[j]
  .rw [show decide (r.1<below)=false from Ws (by rw[e];exact a),Bool.and_false,Bool.and_false]
  .rw [Ws e,Bool.or_false]
section
variable {F L:List aE}{H:aC}{K:KE}{rb db pb:Nat}{rows:DR}{syn:Nat}{s:RL}
theorem Qx{below:Int}(w:rows.length<=1099511627776)(hs:syn<=rows.length)(h:aA H (reelA rb db s::diskX db rows syn::F))
  (k1:syn<rows.length->∀b,aA b (reelA rb db s::diskX db rows syn::F)->K (.int .i64 21) b)
  (k2:¬syn<rows.length->∀b,aA b (reelA rb db s::diskX db (iB below rows) (iB below rows).length::F)->K (.int .i64 0) b) :
  CF 94 #[.pointer (some ⟨rb,0,none⟩),.int .i64 below] H K:=by
 refine cN 94 0x1d21561239925117494c [[],[(19,sI)]] ?_;refine⟨_,h.r 0,?_⟩;refine Gx (F:=reelA rb db s::F) w (h.o [1,0] 2) λE h=>⟨_,rfl,λc=>?_,λc=>?_⟩
 .have:=V8 c;exact k1 (by omega) _ (h.o [1,0] 2)
 .have c:=V9 c;have n:syn=rows.length:=by omega
  refine⟨_,h.r 1,?_⟩;refine G0 w h λu m J h=>⟨_,_,_,rfl,?_⟩
  have C:=G3 rows;refine⟨λi b=>∃j:Nat,i=j/\j<=(bB rows).length/\aA b (slA 3 1 u (bB rows).length m ((bB rows).map aD)::diskX db (jU below rows j) (jU below rows j).length::reelA rb db s::F),λi _=>(bB rows).length-i.toNat,⟨0,rfl,Wd _,?_⟩,?_⟩
  .rw [Qu,<-n];exact h
  rintro i G ⟨j,rfl,I,h⟩;refine⟨λc=>?_,λc=>?_⟩
  .have f:j<(bB rows).length:=by simpa using c
   have k:=(h.sl_rd 0 rfl).at f;refine⟨⟨by omega,by omega⟩,_,_,k.1,_,k.2,λA y=>?_⟩
   have a:=Qw (below:=below) f;have next:∀b,aA b (slA 3 1 u (bB rows).length m ((bB rows).map aD)::diskX db (jU below rows (j+1)) (jU below rows (j+1)).length::reelA rb db s::F)->A b:=by
    intro b h;refine y _ ?_
    conv=>whnf
    rw[aJ (x:=(j:Int)+1)];exact⟨⟨j+1,rfl,f,h⟩,by simp only[VJ];omega⟩
   refine⟨λd=>⟨_,h.r 2,?_⟩,λd=>?_⟩
   .have d:(bB rows)[j]<below:=V8 d;rw[V5 d]at a;refine PJ (F:=slA 3 1 u (bB rows).length m ((bB rows).map aD)::reelA rb db s::F) (h.o [1,0,2] 3) (λv D h=>⟨_,rfl,next _ ?_⟩) (λ_ B=>V6 B (Nat.lt_irrefl _)) λv _ D h=>⟨_,rfl,next _ ?_⟩
    .have e:(jU below rows j).filter (λr=>decide (r.1≠(bB rows)[j]))=jU below rows j:=by
      refine Yz.2 λr k=>?_
      have:¬r.1=(bB rows)[j]:=λe=>by
       have:=Gr.2 (VH.2 ⟨r,k,e⟩);exact this v
      simp[this]
     rw[a,e];exact h.o [1,0,2] 3
    .rw [a];exact h.o [1,0,2] 3
   .have d:¬(bB rows)[j]<below:=V9 d;rw[V4 d]at a;refine next _ ?_;rw[a];exact h
  .have t:j=(bB rows).length:=by simp at c;omega
   subst t;rw[Qv]at h;exact k2 (by omega) _ (h.o [2,1] 3)
end
section
variable {F L:List aE}{H:aC}{K:KE}{rb db pb:Nat}{rows:DR}{syn:Nat}{s:RL}{most:Int}
abbrev opS(most:Int)(rows:DR):RL:=⟨most,iS rows,(di rows).length,(di rows).length⟩
def qz(rows:DR)(j:Nat):List Rc:=((bB rows).take j).flatMap λf=>(eB (bytesOf f rows)).1
theorem Ic(h:fX rows)(j:Nat):(qz rows j).length<=rows.length:=VT (Ia _ _ _) (zV h)
theorem Qy{j:Nat}(h:j<(bB rows).length):qz rows (j+1)=qz rows j++(eB (bytesOf (bB rows)[j] rows)).1:=Qt _ h
theorem allJ_all:qz rows (bB rows).length=di rows:=by unfold qz di;rw[Wi]
theorem Qz{a b:List Ry}(h:aA H (rowsR a::rowsR b::F)):aA H (rowsR (a++b)::F):=by rw[GE];exact gy.2 h
theorem Ie(r:Ry):cT (fW r)=true:=rfl
theorem QI(ok:fX rows)(M:rows.length<=1099511627776)(h:aA H (diskX db rows syn::F))
  (k1:fk most rows=0->∀(rs:List Ry) a c rb k,rs.map Ry.rc=di rows->aA k (reelA rb db (opS most rows)::slA 234 2 a rs.length c (flat fW rs)::rowsR rs::diskX db rows syn::F)->
   K (.tuple #[.pointer (some ⟨rb,0,none⟩),.slice a rs.length c,.int .i64 0]) k)
  (k2:fk most rows≠0->∀k,aA k (diskX db rows syn::F)->K (.tuple #[.pointer none,.slice none 0 0,.int .i64 (fk most rows)]) k) :
  CF 99 #[.pointer (some ⟨db,0,none⟩),.int .i64 most] H K:=by
 refine cN 99 0x1d1121749d12156123992511144c [[(9,sS),(38,sI)],[(8,sI)]] ?_;refine⟨λd=>?_,λd=>?_⟩
 .have hm:most<64\/1048576<most:=by simpa using d
  have e:fk most rows=11:=by unfold fk;rw[V5 hm]
  have:=k2 (by rw[e];decide) _ h
  rwa[e]at this
 have hm:¬(most<64\/1048576<most):=by simp at d;omega
 have T:=Ib ok;refine G0 M h λB A H1 h=>⟨_,_,_,rfl,λQ P=>?_⟩
 have Y:=G3 rows;have rest:∀k,aA k (slA 3 1 B (bB rows).length A ((bB rows).map aD)::diskX db rows syn::F)->Q (iS rows) k:=by
  intro k h;refine P _ _ ?_;refine⟨λd=>?_,λd=>?_⟩
  .have b:2147483647<iS rows:=V8 d;have e:fk most rows=20:=by unfold fk;rw[V4 hm,V5 b]
   have:=k2 (by rw[e];decide) _ h.tl
   rwa[e]at this
  .have E:¬2147483647<iS rows:=V9 d;have e:fk most rows=0:=by unfold fk;rw[V4 hm,V4 E]
   refine⟨λla J lc i k=>∃(j:Nat) (rs:List Ry),i=j/\j<=(bB rows).length/\J=rs.length/\rs.map Ry.rc=qz rows j/\
    aA k (slA 234 2 la rs.length lc (flat fW rs)::rowsR rs::slA 3 1 B (bB rows).length A ((bB rows).map aD)::diskX db rows syn::F),λ_ _ _ i _=>(bB rows).length-i.toNat,⟨0,[],rfl,Wd _,rfl,rfl,?_⟩,?_⟩
   .have v:aA k (rowsR []::slA 3 1 B (bB rows).length A ((bB rows).map aD)::diskX db rows syn::F):=ww.2 h;exact v.sl_nil 234 2
   rintro la J lc i H2 ⟨j,rs,rfl,hj,rfl,s,h⟩;have R:rs.length<=rows.length:=by
    have:=congrArg List.length s;rw[VM]at this;rw[this];exact Ic ok j
   refine⟨λd=>?_,λd=>?_⟩
   .have b:j<(bB rows).length:=by simpa using d
    have u:=(h.sl_rd 2 rfl).at b;refine⟨⟨by omega,by omega⟩,_,_,u.1,_,u.2,?_⟩;have Z:=tX (bB rows)[j] rows;refine GL (F:=slA 234 2 la rs.length lc (flat fW rs)::rowsR rs::slA 3 1 B (bB rows).length A ((bB rows).map aD)::F) M (h.o [3,0,1,2] 4) λa3 c3 e3 H3 h=>⟨_,_,_,_,rfl,?_⟩
    refine Qn h (λH h=>h.sl_rd 0 rfl) (ok.bytes _) (by omega) λw a4 c4 H4 G h=>⟨_,_,_,_,rfl,?_⟩
    have V:=GZ (ok.bytes (bB rows)[j]);have t:(rs++w).map Ry.rc=qz rows (j+1):=by rw[Qy b,VW,s,G]
    have I:rs.length+w.length<=rows.length:=by
     have:=congrArg List.length t;rw[VM,V7]at this;rw[this];exact Ic ok (j+1)
    refine aA.append (m:=w.length) (ws:=flat fW w) slb54 h 4 rfl (h.sl_rd 0 rfl) (fg pg _) (lC Ie _) (by omega) (by omega) λa8 c8 H8 h=>⟨_,_,_,rfl,?_⟩
    conv=>whnf
    rw[aJ (x:=(j:Int)+1)];refine⟨⟨j+1,rs++w,rfl,b,by rw[V7],t,?_⟩,by simp only[VJ];omega⟩;have v:=Qz (h.o [5,1,4,6,3] 7);rw[dS,V7];exact v.o [1,0,2,3] 4
   .have D:j=(bB rows).length:=by simp at d;omega
    subst D;rw[allJ_all]at s;refine h.al λb1 S h=>?_
    have C:=k1 e rs la lc b1 S s;have y:rs.length=(di rows).length:=by rw[<-s,VM]
    unfold reelA at C;dsimp only at C;rw[<-y]at C;exact C (h.o [0,1,2,4] 5)
 refine⟨λd=>?_,λd=>?_⟩
 .have L:0<(bB rows).length:=by have:=V8 d;omega
  obtain⟨n,hn⟩:∃n,n+1=(bB rows).length:=⟨(bB rows).length-1,by omega⟩;obtain⟨f,N,v,W⟩:=uc hn;have hf:=ok.file W;have en:i64.wrap (((bB rows).length:Int)-1)=(n:Nat):=by rw[aJ];omega
  have b:n<(bB rows).length:=by omega
  have u:=(h.sl_rd 0 rfl).at b
  conv=>whnf
  rw[en];have O:(bB rows)[n]=f:=by rw[List.getElem?_eq_getElem b]at N;exact Option.some.inj N
  rw[O]at u;refine⟨⟨by omega,by omega⟩,_,_,u.1,_,u.2,?_⟩
  conv=>whnf
  rw[aJ (x:=f+1),<-v];exact rest _ h
 .have U:(bB rows).length=0:=by have:=V9 d;omega
  have:=rest _ h
  rwa[wF U]at this
end
theorem wG:fk 64 []=0/\di []=[]/\iS []=0:=by
 have a:bB []=[]:=by
  cases h:bB [] with
  | nil=>rfl
  | cons f r=>
   have:f∈bB []:=by rw[h];exact VO
   rw[j0]at this
   cases this
 have hs:iS []=0:=wF (by rw[a];rfl);refine⟨?_,?_,hs⟩
 .unfold fk;rw[hs];rfl
 .unfold di;rw[a];rfl
section
variable {F L:List aE}{H:aC}{K:KE}
theorem If:∀{rs:List Ry} {H:aC} {F:List aE},aA H (rowsR rs::F)->∀r∈rs,r.y.a=none\/∃b o,r.y.a=some ⟨b,o,none⟩
 | [],_,_,_,r,c=>by cases c
 | x::rs,H,F,h,r,c=>by
  have d:aA H (rowY x.y::rowsR rs::F):=gy.1 h
  rcases VN.1 c with rfl|c
  .exact ub d
  .exact If d.tl r c
end
structure TI(most:Int)(rows:DR)(syn:Nat)(s:RL)(j:Nat):Prop where
 rok:fX rows
 files:∀r∈rows,r.1<=s.seg
 syn:syn<=rows.length
 seg0:0<=s.seg
 seg:s.seg<=j
 len:rows.length<=300000*j
 next:s.next<=300000*j
 ssyn:s.syn<=300000*j
 hm:s.most=most
 range:64<=most/\most<=1048576
theorem TI.ok{most:Int}{rows:DR}{syn:Nat}{s:RL}{j:Nat}(h:TI most rows syn s j)(e:j<=1000):s.ok:=by
 have d:=h.seg0;have a:=h.seg;have c:=h.next;have f:=h.ssyn;have b:=h.hm;have i:=h.range;exact⟨by omega,by omega,by omega,by omega⟩
theorem TI.mono{most:Int}{rows:DR}{syn:Nat}{s:RL}{j:Nat}(h:TI most rows syn s j):TI most rows syn s (j+1):=
 ⟨h.rok,h.files,h.syn,h.seg0,by have:=h.seg;omega,by have:=h.len;omega,by have:=h.next;omega,by have:=h.ssyn;omega,h.hm,h.range⟩
theorem Ih{rows:DR}{s:RL}{r:Rc}:s.seg<=(dp rows s r).seg/\(dp rows s r).seg<=s.seg+1/\(dp rows s r).next<=s.next+1/\(dp rows s r).syn=s.syn/\(dp rows s r).most=s.most:=by
 unfold dp
 split
 .exact⟨by omega,by omega,by omega,rfl,rfl⟩
 .dsimp only
  split <;> exact⟨by omega,by omega,by omega,rfl,rfl⟩
theorem TI.append{most:Int}{rows:DR}{syn:Nat}{s:RL}{j:Nat}(h:TI most rows syn s j)(f:j<=1000){r:Rc}(hb:aI r.data)(v:r.data.length<=262144) :
  TI most (fY rows s r) syn (dp rows s r) (j+1):=by
 have hs:=Ih (rows:=rows) (s:=s) (r:=r);have d:=appS_seg (rows:=rows) (r:=r) (h.ok f);have w:=h.seg0;have m:=h.seg;have t:=h.next;have y:=h.ssyn;have n:=h.len;have k:=h.files;have u:=h.syn
 by_cases he:iA rows s r=0
 .have a:=zU hb he;have i:=qy a;have e:fY rows s r=rows++(bN r).map λb=>((dp rows s r).seg,b):=by unfold fY;rw[V4 (by rw[he];decide)]
  rw[e];refine⟨h.rok.app d (rZ a),λx c=>?_,by rw[V7];omega,by omega,by omega,by rw[V7,VM];omega,by omega,by omega,by rw[hs.2.2.2.2];exact h.hm,h.range⟩
  rcases VV.1 c with c|c
  .have:=k x c;omega
  .obtain⟨b,_,rfl⟩:=VH.1 c;exact Wh _
 .have e:fY rows s r=rows:=by unfold fY;rw[V5 he]
  have e2:dp rows s r=s:=by unfold dp;rw[V5 he]
  rw[e,e2];exact h.mono
theorem TI.sync{most:Int}{rows:DR}{syn:Nat}{s:RL}{j:Nat}(h:TI most rows syn s j):TI most rows rows.length { s with syn:=s.next } (j+1):=
 ⟨h.rok,h.files,VF _,h.seg0,by have:=h.seg;dsimp only;omega,by have:=h.len;omega,by have:=h.next;dsimp only;omega,by have:=h.next;dsimp only;omega,h.hm,h.range⟩
theorem TI.drop{most:Int}{rows:DR}{syn:Nat}{s:RL}{j:Nat}(h:TI most rows syn s j)(below:Int):TI most (iB below rows) (iB below rows).length s (j+1):=by
 have c:(iB below rows).length<=rows.length:=Y4 _ _;have b:=h.len;exact⟨h.rok.filter _,λr a=>h.files r (W7.1 a).1,VF _,h.seg0,by have:=h.seg;omega,by omega,by have:=h.next;omega,by have:=h.ssyn;omega,h.hm,h.range⟩
theorem segOf_le{rows:DR}{g:Int}(h0:0<=g)(h:∀r∈rows,r.1<=g):iS rows<=g+1:=by
 cases hn:(bB rows).length with
 | zero=>rw[wF hn];omega
 | succ n=>
  obtain⟨f,d,c,b⟩:=uc hn.symm;obtain⟨r,a,rfl⟩:=VH.1 (j0.1 b);have:=h r a;omega
theorem QJ{rows:DR}(e:fX rows):∀r∈rows,r.1<=iS rows:=by
 intro r c;have j:r.1∈bB rows:=j0.2 (VH.2 ⟨r,c,rfl⟩);obtain⟨i,hi,k⟩:=Wz j;obtain⟨n,m⟩:∃n,n+1=(bB rows).length:=⟨(bB rows).length-1,by omega⟩;obtain⟨f,b,d,s⟩:=uc m;have a:n<(bB rows).length:=by omega
 rw[List.getElem?_eq_getElem a]at b;have b:=Option.some.inj b;rw[d,<-k,<-b]
 rcases Wa i n with h|h
 .have:=Yx.1 (oY rows) i n hi a h;omega
 .have:i=n:=by omega
  subst this;omega
theorem TI.crash{most:Int}{rows:DR}{syn:Nat}{s:RL}{j:Nat}(h:TI most rows syn s j)(i:j<=1000)(keep:Int) :
  TI most (eV rows syn keep) (eV rows syn keep).length ⟨most,iS (eV rows syn keep),(di (eV rows syn keep)).length,(di (eV rows syn keep)).length⟩ (j+1)/\fk most (eV rows syn keep)=0:=by
 have f:=PX rows syn keep;have e:=h.len;have d:=h.seg;have a:fX (eV rows syn keep):=h.rok.take _;have hs:=segOf_le (rows:=eV rows syn keep) h.seg0 λr b=>h.files r (W0 b)
 have c:=zV a;have b:=Ib a;refine⟨⟨a,QJ a,VF _,b.1,by dsimp only;omega,by omega,by dsimp only;omega,by dsimp only;omega,rfl,h.range⟩,?_⟩;have k:=h.range;unfold fk;rw[nO,nO]
theorem ti0{most:Int}(h:fk most []=0):TI most [] 0 (opS most []) 0:=by
 obtain⟨_,b,c⟩:=wG;have a:64<=most/\most<=1048576:=by
  unfold fk at h
  split at h
  .cases h
  .omega
 unfold opS;rw[b,c];exact⟨λr a=>(by cases a),λr a=>(by cases a),VF _,Wh _,Wh _,VF _,VF _,VF _,rfl,a⟩
abbrev LG:=List (Int×Rc)
def fF(L:LG):DR:=L.flatMap λx=>(bN x.2).map λb=>(x.1,b)
theorem Ii(A B:LG):fF (A++B)=fF A++fF B:=W4
theorem QK(x:Int×Rc):fF [x]=(bN x.2).map λb=>(x.1,b):=by simp[fF]
theorem pi(x:Int×Rc)(L:LG):fF (x::L)=((bN x.2).map λb=>(x.1,b))++fF L:=rfl
theorem Ij(f:Int):∀L:LG,bytesOf f (fF L)=((L.filter λx=>decide (x.1=f)).map Prod.snd).flatMap bN
 | []=>rfl
 | x::L=>by
  rw[pi,qw,Ij f L,Wm]
  by_cases e:x.1=f
  .rw [e,zu,V5 (VS rfl)];rfl
  .rw [zv (λh=>e h.symm),V4 (by simpa using e),Wl]
structure LG.ok(L:LG):Prop where
 recs:∀x∈L,x.2.ok
 up:L.Pairwise λx y=>x.1<=y.1
theorem Ik{f:Int}:∀{L:LG},(L.Pairwise λx y=>x.1<=y.1)->(∀x∈L,f<=x.1)->L=L.filter (λx=>decide (x.1=f))++L.filter λx=>decide (x.1≠f)
 | [],_,_=>rfl
 | x::L,h,hf=>by
  rw[W5]at h
  by_cases e:x.1=f
  .have c:=Ik h.2 λy a=>hf y (VQ _ a)
   rw[Wm,V5 (VS e),Wm,V4 (by simpa using e),WE,<-c]
  .have d:f<x.1:=by have:=hf x VO;omega
   have b:∀y∈x::L,¬y.1=f:=λy a=>by
    rcases VN.1 a with rfl|a
    .exact e
    .have:=h.1 y a;omega
   rw[WQ.2 λy a=>by simpa using b y a,Wl,Yz.2 λy a=>by simpa using b y a]
theorem Il:∀{fs:List Int} {L:LG},fs.Pairwise (·< ·)->(L.Pairwise λx y=>x.1<=y.1)->(∀x∈L,x.1∈fs)->fs.flatMap (λf=>L.filter λx=>decide (x.1=f))=L
 | [],[],_,_,_=>rfl
 | [],x::L,_,_,h=>by have:=h x VO;cases this
 | f::fs,L,hr,hs,h=>by
  rw[W5]at hr;have m:∀x∈L,f<=x.1:=λx b=>by
   rcases VN.1 (h x b) with e|e
   .omega
   .have:=hr.1 _ e;omega
  have j:=Ik hs m;have d:=Il (fs:=fs) (L:=L.filter λx=>decide (x.1≠f)) hr.2 (hs.filter _) λx b=>by
   obtain⟨k,i⟩:=W7.1 b;have i:x.1≠f:=V8 i
   rcases VN.1 (h x k) with e|e
   .exact V6 e i
   .exact e
  have e:fs.flatMap (λa=>L.filter λx=>decide (x.1=a))=fs.flatMap λa=>(L.filter λx=>decide (x.1≠f)).filter λx=>decide (x.1=a):=by
   have:∀l:List Int,(∀y∈l,f<y)->l.flatMap (λa=>L.filter λx=>decide (x.1=a))=l.flatMap λa=>(L.filter λx=>decide (x.1≠f)).filter λx=>decide (x.1=a):=by
    intro l
    induction l with
    | nil=>intro _;rfl
    | cons y l d=>
     intro c;rw[Wg,Wg,d λz n=>c z (VQ _ n)]
     congr 1;rw[List.filter_filter];refine Y3 λx b=>?_
     have:=c y VO
     by_cases ex:x.1=y
     .rw [VS ex,Yo];exact (VS (by omega)).symm
     .rw [Ws ex,Bool.false_and]
   exact this fs λy c=>hr.1 y c
  rw[Wg,e,d];exact j.symm
theorem QL{L:LG}(d:∀x∈L,x.2.ok){x:Int×Rc}(a:x∈L):x.1∈(fF L).map Prod.fst:=by
 have c:=qy (d x a);obtain⟨b,hb⟩:∃b,b∈bN x.2:=by
  cases h:bN x.2 with
  | nil=>rw[h]at c;simp at c
  | cons b r=>exact⟨b,VO⟩
 exact VH.2 ⟨(x.1,b),Ym.2 ⟨x,a,VH.2 ⟨b,hb,rfl⟩⟩,rfl⟩
theorem Im{L:LG}(c:L.ok){g:Int}{t:List Int}(h:aI t)(j:iR t=none):di (fF L++t.map λb=>(g,b))=L.map Prod.snd:=by
 have hb:∀f,(eB (bytesOf f (fF L++t.map λb=>(g,b)))).1=(L.filter λx=>decide (x.1=f)).map Prod.snd:=by
  intro f;rw[qw,Ij];have a:∀r∈(L.filter λx=>decide (x.1=f)).map Prod.snd,r.ok:=λr i=>by
   obtain⟨x,d,rfl⟩:=VH.1 i;exact c.recs x (W7.1 d).1
  by_cases e:f=g
  .subst e;rw[zu,zQ a h j]
  .rw [zv e,We,Qi a]
 unfold di;have e1:(λf=>(eB (bytesOf f (fF L++t.map λb=>(g,b)))).1)=λf=>(L.filter λx=>decide (x.1=f)).map Prod.snd:=funext hb
 rw[e1];have e2:=Il (oY (fF L++t.map λb=>(g,b))) c.up λx d=>by
  rw[j0,VW];exact WV _ (QL c.recs d)
 have e3:=congrArg (List.map Prod.snd) e2;rw[List.map_flatMap]at e3;exact e3
theorem In:∀(L:LG) (n:Nat),∃p g t,(fF L).take n=fF (L.take p)++(t.map λb=>(g,b))/\p<=L.length/\
  (t=[]\/∃r:Rc,(∃x∈L,r=x.2)/\∃k,k<(bN r).length/\t=(bN r).take k)/\∀m,m<=L.length->(fF (L.take m)).length<=n->(∀x∈L,0<(bN x.2).length)->m<=p
 | [],n=>⟨0,0,[],by simp[fF],Wd _,.inl rfl,λm hm _ _=>hm⟩
 | x::L,n=>by
  rcases Wa n (bN x.2).length with h|h
  .refine⟨0,x.1,(bN x.2).take n,?_,Wd _,.inr ⟨x.2,⟨x,VO,rfl⟩,n,h,rfl⟩,λm hm c e=>?_⟩
   .rw [pi,Yv (by rw[VM];omega),List.map_take];rfl
   .cases m with
    | zero=>exact VF _
    | succ m=>
     rw[WO,pi,V7,VM]at c;omega
  .obtain⟨p,g,t,j,u,a,s⟩:=In L (n-(bN x.2).length);refine⟨p+1,g,t,?_,by rw[VE];omega,?_,λm hm c e=>?_⟩
   .rw [pi,List.take_append,Wc (by rw[VM];omega),VM,j,WO,pi,VK]
   .rcases a with a|⟨r,⟨y,d,f⟩,i⟩
    .exact .inl a
    .exact .inr ⟨r,⟨y,VQ _ d,f⟩,i⟩
   .cases m with
    | zero=>omega
    | succ m=>
     rw[WO,pi,V7,VM]at c;have:=s m (by simp at hm;omega) (by omega) λy d=>e y (VQ _ d)
     omega
theorem Io(below:Int)(L:LG):iB below (fF L)=fF (L.filter λx=>decide (below<=x.1)):=by
 unfold iB
 induction L with
 | nil=>rfl
 | cons x L ih=>
  rw[pi,List.filter_append,ih,Wm]
  by_cases e:below<=x.1
  .rw [V5 (VS e),pi,Yz.2];intro y a;obtain⟨b,_,rfl⟩:=VH.1 a;exact VS e
  .rw [V4 (by simpa using e),WQ.2,Wl];intro y a;obtain⟨b,_,rfl⟩:=VH.1 a;simpa using e
theorem aP.subS{H:aC}{a:KQ}{cs:Os}{k c sz:Nat}(h:aP H a cs)(s:cs.length<=c*sz):aP H (cq a k c sz) (cs.drop (k*sz)):=by
 intro j v f;have b:aT cs (k*sz+j)=Option.some v:=by
  rw[fL]at f ⊢
  rwa[List.getElem?_drop]at f
 have m:=og b;obtain⟨n,i⟩:=h _ _ b;have d:c≠k:=λe=>by subst e;omega
 have e:cq a k c sz=Option.some ⟨aV a,aS a+k*sz,none⟩:=by
  unfold cq;rw[V4 d,n,Wj,iQ];rfl
 rw[e];refine⟨rfl,?_⟩;show aL H (aV a) (aS a+k*sz+j)=_;rw[Wy];exact i
section
variable {H0:aC}{ca:KQ}{cc:Nat}{most:Int}
theorem openE_in{rows:DR}(h:64<=most/\most<=1048576)(hs:iS rows<=2147483647):fk most rows=0:=by
 unfold fk;rw[nO,nO]
theorem QM{rows:DR}(ok:fX rows){rs:List Ry}(h:rs.map Ry.rc=di rows):rs.length<=rows.length/\∀r∈rs,r.y.bs.length<=1099511627776:=by
 refine⟨?_,λr a=>?_⟩
 .rw [<-VM (f:=Ry.rc),h];exact zV ok
 .have hm:r.rc∈di rows:=by rw[<-h];exact VH.2 ⟨r,a,rfl⟩
  obtain⟨f,b,hm⟩:=Ym.1 hm;have:=((zS (VF _) (ok.bytes f)).1 _ hm).len;unfold Ry.rc at this;dsimp only at this;omega
theorem files_lt{rows:DR}:∀x∈rows,x.1<iS rows:=by
 intro r c;have e:r.1∈bB rows:=j0.2 (VH.2 ⟨r,c,rfl⟩);obtain⟨i,hi,j⟩:=Wz e;obtain⟨n,k⟩:∃n,n+1=(bB rows).length:=⟨(bB rows).length-1,by omega⟩;obtain⟨f,b,d,m⟩:=uc k;have a:n<(bB rows).length:=by omega
 rw[List.getElem?_eq_getElem a]at b;have b:=Option.some.inj b;rw[d,<-j,<-b]
 rcases Wa i n with h|h
 .have:=Yx.1 (oY rows) i n hi a h;omega
 .have:i=n:=by omega
  subst this;omega
end
def dw:List Rc->Option (List Int)×List Rc
 | []=>(none,[])
 | r::l=>if (dw l).1=none then (if r.kind=0 then (some r.data,l) else (none,r::l)) else dw l
theorem zW:∀{l:List Rc},(∀r∈l,r.kind≠0)->dw l=(none,l)
 | [],_=>rfl
 | r::l,h=>by
  have a:=zW λx b=>h x (VQ _ b)
  rw[dw,a,V5 rfl,V4 (h r VO)]
theorem Ip{r:Rc}{l:List Rc}(b:r.kind=0)(h:∀x∈l,x.kind≠0):∀a:List Rc,dw (a++r::l)=(some r.data,l)
 | []=>by rw[Wl,dw,zW h,V5 rfl,V5 b]
 | x::a=>by
  have c:=Ip b h a;rw[WE,dw,c,V4 (by simp)]
def bookA(bb rb:Nat)(saved:Bool)(num seg:Int):aE:=cellsA bb [.pointer (some ⟨rb,0,none⟩),.bool saved,.int .i64 num,.int .i64 seg] 113
structure ot(rs:List Ry)(fy:Fy)(has:Bool)(qs:List Ry):Prop where
 sub:∀q∈qs,q∈rs
 st:fy=Fy.z\/∃r∈rs,fy=r.y
 tell:dw (rs.map Ry.rc)=(if has then some fy.bs else none,qs.map Ry.rc)
 no:has=false->fy=Fy.z
theorem ot.none{rs:List Ry}(h:∀r∈rs,r.kind≠0):ot rs Fy.z false rs:=by
 refine⟨λq b=>b,.inl rfl,?_,λ_=>rfl⟩
 rw[zW]
 .rfl
 .intro r a;obtain⟨x,c,rfl⟩:=VH.1 a;exact h x c
theorem ot.at{rs:List Ry}{i:Nat}{r:Ry}(hi:rs[i]?=some r)(h0:r.kind=0)(h:∀x∈rs.drop (i+1),x.kind≠0):ot rs r.y true (rs.drop (i+1)):=by
 obtain⟨a,d⟩:=List.getElem?_eq_some_iff.1 hi;refine⟨λq f=>WH f,.inr ⟨r,Wk hi,rfl⟩,?_,λb=>by cases b⟩
 have e:rs=rs.take i++r::rs.drop (i+1):=by rw[<-d,<-Wx a,Ww]
 conv=>lhs;rw[e]
 rw[VW,Wf,Ip (r:=r.rc) h0]
 .rfl
 .intro x j;obtain⟨y,c,rfl⟩:=VH.1 j;exact h y c
theorem QO{rows:DR}{s:RL}(f:∀x∈rows,x.1<s.seg){r:Rc}(d:r.ok) :
  iA rows s r=0/\dp rows s r={ s with next:=s.next+1 }/\fY rows s r=(rows++(bN r).map λb=>(s.seg,b))/\appN rows s r=s.next:=by
 have h:bytesOf s.seg rows=[]:=by
  unfold bytesOf;rw[WQ.2 λy e=>by have:=f y e;simp;omega]
  rfl
 have c:ph rows s (bN r).length=false:=by
  unfold ph;rw[h];rfl
 have a:iA rows s r=0:=by
  unfold iA;rw[Qo d,V4 (by decide),c];rfl
 have hs:dp rows s r={ s with next:=s.next+1 }:=by unfold dp;rw[V4 (by rw[a];decide),c];rfl
 refine⟨a,hs,?_,?_⟩
 .unfold fY;rw[V4 (by rw[a];decide),hs]
 .unfold appN;rw[V4 (by rw[a];decide)]
section
variable {F L:List aE}{H:aC}{K:KE}{rb db bb:Nat}{rows:DR}{syn:Nat}{s:RL}{most:Int}
theorem QP{a:KQ}{n c:Nat}(h:aA H F)(k:∀c0 d,aA d (cellsA c0 [.slice a n c] 127::F)->K (.func (.func 195) #[] #[.pointer (some ⟨c0,0,none⟩)]) d):CF 100 #[.slice a n c] H K:=by
 refine cM 100 28 ?_;exact h.al λb _ h=>k b _ h
theorem QS{l c0:Nat}{pa:KQ}{pc:Nat}{rs:List Ry}(C:rs.length<=1099511627776)(A:Nat->aE)(t:aE)
  (h:aA H (A rs.length::cellsA c0 [.slice pa rs.length pc] 127::slA 234 2 pa rs.length pc (flat fW rs)::F))
  (w:∀j (c:j<rs.length) (G:List aE) (d:aC) (e:KE),aA d (A (j+1)::G)->(∀b,aA b (A j::G)->e (.bool true) b)->(∀b,aA b (t::G)->e (.bool false) b)->
   fI Tryz.prog l [.int .i64 j,.agg #[.int .i64 rs[j].kind,dV rs[j].y]] d e)
  (k:∀a,aA a (A 0::cellsA c0 [.slice pa rs.length pc] 127::slA 234 2 pa rs.length pc (flat fW rs)::F)->K (.tuple #[]) a)
  (u:∀a,aA a (t::cellsA c0 [.slice pa rs.length pc] 127::slA 234 2 pa rs.length pc (flat fW rs)::F)->K (.tuple #[]) a) :
  CF 195 #[.func (.yield l) #[] #[],.pointer (some ⟨c0,0,none⟩)] H K:=by
 refine cN 195 96300973186693524 [[(3,sI)]] ?_;have v:i64.wrap ((rs.length:Int)-1)=(rs.length:Int)-1:=aJ;refine⟨_,_,_,h.r 1,λi a=>∃j:Nat,i=(j:Int)-1/\j<=rs.length/\aA a (A j::cellsA c0 [.slice pa rs.length pc] 127::slA 234 2 pa rs.length pc (flat fW rs)::F),λi _=>(i+1).toNat,⟨rs.length,v,VF _,h⟩,?_⟩
 rintro i d ⟨j,rfl,c,h⟩;refine⟨λf=>?_,λf=>?_⟩
 .obtain⟨q,rfl⟩:∃q,j=q+1:=⟨j-1,by have:=V8 f;omega⟩;have eq:((q+1:Nat):Int)-1=(q:Int):=by omega
  rw[eq];have s:=h.sl_rd 2 rfl;refine⟨_,_,_,h.rd 1 rfl _,⟨by omega,by omega⟩,_,_,s.some pg (by omega) c,_,_,_,_,s.els pg c,?_⟩;refine w q c _ d _ h (λB n=>⟨true,rfl,λm=>(by cases m),λ_=>?_⟩) λB n=>⟨false,rfl,λ_=>u _ n,λm=>(by cases m)⟩
  conv=>whnf
  rw[aJ (x:=(q:Int)-1)];exact⟨⟨q,rfl,by omega,n⟩,by simp only;omega⟩
 .obtain rfl:j=0:=by have:=V9 f;omega
  exact k _ h
theorem Iq{a:KQ}{c:Nat}{d:List Ry}(h:aA H L)(s:∀H,aA H L->aP H a (flat fW d))(x:d.length<=1099511627776)
  (k:∀f i e,aA e (slA 234 2 f d.length i (flat fW d)::L)->K (.slice f d.length i) e):CF 101 #[.slice a d.length c] H K:=by
 refine cM 101 476 ⟨λn=>?_,λn=>?_⟩
 .have:a=none:=by simpa using n
  subst this;have w:=ol (s H h);have:d=[]:=by
   cases d with
   | nil=>rfl
   | cons q r=>simp[lB]at w
  subst this;exact k none 0 H (h.sl_nil 234 2)
 .refine h.al λb y h=>?_
  have t:=s _ h.tl;have v:=aA.sl_pt (cs:=[]) h 2 0 rfl;refine aA.append (m:=d.length) slb54 v 0 rfl t (fg pg _) (lC Ie _) (by omega) (by omega) λf i e u=>⟨_,_,_,rfl,?_⟩
  have j:aA e (slA 234 2 f (0+d.length) i ([]++flat fW d)::L):=u;rw[VX,Wl]at j;have:=k f i e j;rw[<-VX d.length]at this;exact this
def boA(b1 b2 b3 l:Nat)(R:Loop)(a:KQ)(c:Nat)(rs:List Ry)(j:Nat):aE:=
 star [pur (∀r∈rs.drop j,r.kind≠0),cellsA b1 [.slice a rs.length c] 127,cellsA b2 [.slice none 0 0,.bool false,.slice none 0 0] 129,cellsA b3 [.slice a rs.length c] 127,pt l (.loop R)]
def boX(b1 b2 b3 l:Nat)(R:Loop)(a:KQ)(c:Nat)(rs:List Ry):aE:=
 exS λp:Nat×Ry=>star [pur (rs[p.1]?=some p.2/\p.2.kind=0/\∀r∈rs.drop (p.1+1),r.kind≠0),cellsA b1 [.slice a rs.length c] 127,cellsA b2 [dV p.2.y,.bool true,.slice none 0 0] 129,
  cellsA b3 [.slice (cq a (p.1+1) c 2) (rs.length-(p.1+1)) (c-(p.1+1))] 127,pt l (.loop { R with state:=.done,pending:=some (.exit 0) })]
theorem QU{b1 b2 b3 j c:Nat}{a:KQ}{rs:List Ry}{e k:aC}{R:Loop}{G:List aE}{i:KE}(B:rs.length<=1099511627776)(w:rs.length<=c)(m:j<rs.length)
  (h:aA k (boA b1 b2 b3 (e.size+1) R a c rs (j+1)::G)) (v:∀d,aA d (boA b1 b2 b3 (e.size+1) R a c rs j::G)->i (.bool true) d) (u:∀d,aA d (boX b1 b2 b3 (e.size+1) R a c rs::G)->i (.bool false) d) :
  zk.y1 b1 b2 b3 e R [.int .i64 j,.agg #[.int .i64 rs[j].kind,dV rs[j].y]] k i:=by
 obtain⟨n,h⟩:=aA.consP h.open;have h:aA k (cellsA b1 [.slice a rs.length c] 127::cellsA b2 [.slice none 0 0,.bool false,.slice none 0 0] 129::cellsA b3 [.slice a rs.length c] 127::pt (e.size+1) (.loop R)::G):=h;have s:rs.drop j=rs[j]::rs.drop (j+1):=Wx m;unfold zk.y1;refine⟨_,_,_,_,_,rfl,h.getO 3 rfl,?_⟩;refine h.al λb4 _ h=>h.st 0 rfl rfl λ_ h=>⟨h.getO 4 rfl,h.stl 4 rfl λA h=>⟨_,h.r 0,λb=>?_,λb=>?_⟩⟩
 .have h0:rs[j].kind=0:=V8 b;refine⟨_,_,_,h.r 0,?_⟩;refine h.st 2 rfl rfl λ_ h=>h.st 2 rfl rfl λ_ h=>⟨_,_,_,h.r 1,?_⟩
  rw[aJ (x:=(j:Int)+1)];have t:((j:Int)+1).toNat=j+1:=by omega
  rw[t];refine⟨⟨by omega,by omega,by omega⟩,?_⟩;refine h.st 3 rfl rfl λC h=>⟨h.getO 4 rfl,u _ ?_⟩
  have h:=h.setO 4 rfl (.loop { R with state:=.done,pending:=some (.exit 0) });exact cK.2 ⟨(j,rs[j]),aA.shut [_,_,_,_,_] (aA.pur (h.o [1,2,3,4] 5) ⟨List.getElem?_eq_getElem m,h0,n⟩)⟩
 .have h0:rs[j].kind≠0:=V9 b;refine⟨h.getO 4 rfl,v _ ?_⟩;have h:=h.setO 4 rfl (.loop R);refine aA.shut [_,_,_,_,_] (aA.pur (h.o [1,2,3,4] 5) λr f=>?_)
  rw[s]at f
  rcases VN.1 f with rfl|f
  .exact h0
  .exact n r f
theorem QV(ok:fX rows)(W:rows.length<=1099511627776)(h:aA H (diskX db rows syn::F))
  (k1:fk most rows=0->∀(rs t:List Ry) (O:Fy) (has:Bool) a c bb rb s,rs.map Ry.rc=di rows->ot rs O has t->
   aA s (bookA bb rb false 0 0::reelA rb db (opS most rows)::slA 234 2 a t.length c (flat fW t)::rowsR rs::diskX db rows syn::F)->
   K (.tuple #[.pointer (some ⟨bb,0,none⟩),.agg #[dV O,.bool has,.slice a t.length c],.int .i64 0]) s)
  (k2:fk most rows≠0->∀s,aA s (diskX db rows syn::F)->K (.tuple #[.pointer none,.agg #[.slice none 0 0,.bool false,.slice none 0 0],.int .i64 (fk most rows)]) s) :
  CF 45 #[.pointer (some ⟨db,0,none⟩),.int .i64 most] H K:=by
 refine Pf ?_;refine h.al λb P h=>?_
 refine QI (F:=cellsA b [.slice none 0 0,.bool false,.slice none 0 0] 129::F) ok W (h.o [1,0] 2) (λn rs a1 c1 rb H2 e h=>⟨_,_,_,_,_,rfl,?_⟩) λn H2 h=>⟨_,_,_,_,_,rfl,?_⟩
 .obtain⟨N,L⟩:=QM ok e;have m:=h.sl_nc 1 rfl;refine h.al λb1 V h=>h.st 0 rfl rfl λH4 h=>⟨(λA=>by cases A),λ_=>?_⟩
  refine h.al λb2 S h=>⟨_,_,_,h.r 1,?_⟩
  refine h.al λb3 H6 h=>h.st 0 rfl rfl λH7 h=>⟨_,_,_,h.r 2,?_⟩
  refine QP h λc0 d h=>⟨_,_,rfl,rfl,λR w C Q=>?_⟩
  have h:=h.rng R;have h0:aA ((d.push (.deferred (some []))).push (.loop R)) (boA b1 b2 b3 (d.size+1) R a1 c1 rs rs.length::cellsA c0 [.slice a1 rs.length c1] 127::slA 234 2 a1 rs.length c1 (flat fW rs)::pt d.size (.deferred (some []))::reelA rb db (opS most rows)::rowsR rs::diskX db rows syn::cellsA b [.slice none 0 0,.bool false,.slice none 0 0] 129::F):=by
   refine aA.shut [_,_,_,_,_] (aA.pur ?_ ?_)
   .exact h.o [5,4,3,0,2,7,1,6,8,9,10] 11
   .rw [W6];intro r T;cases T
  refine QS (by omega) (λj=>boA b1 b2 b3 (d.size+1) R a1 c1 rs j) (boX b1 b2 b3 (d.size+1) R a1 c1 rs) h0 (λj Y G P K1 Z kt U=>Q _ _ _ (QU (by omega) m Y Z kt U)) (λD h=>?_) λD h=>?_
  .obtain⟨u,h⟩:=aA.consP h.open;have h:aA D (cellsA b1 [.slice a1 rs.length c1] 127::cellsA b2 [.slice none 0 0,.bool false,.slice none 0 0] 129::cellsA b3 [.slice a1 rs.length c1] 127::pt (d.size+1) (.loop R)::cellsA c0 [.slice a1 rs.length c1] 127::slA 234 2 a1 rs.length c1 (flat fW rs)::pt d.size (.deferred (some []))::reelA rb db (opS most rows)::rowsR rs::diskX db rows syn::cellsA b [.slice none 0 0,.bool false,.slice none 0 0] 129::F):=h;rw[List.drop_zero]at u;refine⟨.ready,none,by decide,by rw[nD w C];exact h.getO 3 rfl,h.stl 3 rfl λv h=>Or.inl ⟨rfl,_,_,_,h.r 2,?_⟩⟩
   refine Iq h (λH h=>h.sl_rd 5 rfl) (by omega) λa5 c5 E h=>⟨_,_,_,rfl,?_⟩
   refine h.st 2 rfl rfl λB h=>⟨_,_,_,_,_,_,_,h.q 2,?_⟩
   refine h.al λb5 I h=>⟨h.q 3,?_⟩
   refine h.st 12 rfl rfl λJ h=>⟨h.getO 8 rfl,?_⟩
   have h:=h.setO 8 rfl (.deferred none);refine⟨_,_,_,_,_,_,_,h.q 12,?_⟩;exact k1 n rs rs Fy.z false a5 c5 b5 rb _ e (ot.none u) (h.o [0,9,1,10,11] 13)
  .obtain⟨p,h⟩:=cK.1 h;obtain⟨u,h⟩:=aA.consP h.open;obtain⟨i,r⟩:=p;obtain⟨hi,f,M⟩:=u;dsimp only at hi f M;have h:aA D (cellsA b1 [.slice a1 rs.length c1] 127::cellsA b2 [dV r.y,.bool true,.slice none 0 0] 129::cellsA b3 [.slice (cq a1 (i+1) c1 2) (rs.length-(i+1)) (c1-(i+1))] 127::pt (d.size+1) (.loop { R with state:=.done,pending:=some (.exit 0) })::cellsA c0 [.slice a1 rs.length c1] 127::slA 234 2 a1 rs.length c1 (flat fW rs)::pt d.size (.deferred (some []))::reelA rb db (opS most rows)::rowsR rs::diskX db rows syn::cellsA b [.slice none 0 0,.bool false,.slice none 0 0] 129::F):=h;refine⟨.done,some (.exit 0),by decide,h.getO 3 rfl,h.stl 3 rfl λv h=>Or.inr ⟨rfl,_,_,_,h.r 2,?_⟩⟩
   have x:rs.length-(i+1)=(rs.drop (i+1)).length:=by rw[VU]
   rw[x];refine Iq h (λH h=>by
    have:=aP.subS (k:=i+1) (c:=c1) (sz:=2) (h.sl_rd 5 rfl) (by rw[fg pg];exact W1 _ m)
    rwa[tv pg]at this) (by rw[VU];omega) λa5 c5 E h=>⟨_,_,_,rfl,?_⟩
   refine h.st 2 rfl rfl λB h=>⟨_,_,_,_,_,_,_,h.q 2,?_⟩
   refine h.al λb5 I h=>⟨h.q 3,?_⟩
   refine h.st 12 rfl rfl λJ h=>⟨h.getO 8 rfl,?_⟩
   have h:=h.setO 8 rfl (.deferred none);refine⟨_,_,_,_,_,_,_,h.q 12,?_⟩;exact k1 n rs (rs.drop (i+1)) r.y true a5 c5 b5 rb _ e (ot.at hi f M) (h.o [0,9,1,10,11] 13)
 .refine h.al λb1 V h=>h.st 0 rfl rfl λH4 h=>⟨λ_=>?_,λA=>by simp[n]at A⟩
  refine h.st 2 rfl rfl λS h=>⟨_,_,_,_,_,_,_,h.q 2,?_⟩
  exact k2 n _ (h.o [1] 3)
theorem QW{a:KQ}{n c:Nat}{kind:Int}{saved:Bool}{num seg:Int}(h:aA H (bookA bb rb saved num seg::F))
  (k1:kind<=0->K (.tuple #[.int .i64 (-1),.int .i64 11]) H)
  (k2:¬kind<=0->CF 96 #[.pointer (some ⟨rb,0,none⟩),.int .i64 kind,.slice a n c] H λu d=>∃r r1:Int,u=.tuple #[.int .i64 r,.int .i64 r1]/\K (.tuple #[.int .i64 r,.int .i64 r1]) d) :
  CF 109 #[.pointer (some ⟨bb,0,none⟩),.int .i64 kind,.slice a n c] H K:=by
 refine cM 109 476 ?_;exact⟨λb=>k1 (V8 b),λb=>⟨_,h.r 0,k2 (V9 b)⟩⟩
theorem QY{a:KQ}{c:Nat}{parts:List Fy}{saved:Bool}{num seg:Int}(hs:s.ok)(O:s.seg<2147483647)(n:∀r∈rows,r.1<=s.seg)(S:rows.length<=549755813888)
  (h:aA H (bookA bb rb saved num seg::reelA rb db s::diskX db rows syn::F))
  (N:∀H,aA H F->aP H a (parts.map dV)) (T:∀H,aA H F->∀y∈parts,aP H y.a (y.bs.map U8)) (hb:aI (parts.flatMap Fy.bs)) (U:parts.length<=1099511627776) (L:(parts.flatMap Fy.bs).length<=262144)
  (k:∀A,aA A (bookA bb rb true s.next (s.seg+1)::reelA rb db { s with seg:=s.seg+1,next:=s.next+1 }::diskX db (rows++(bN ⟨0,parts.flatMap Fy.bs⟩).map λb=>(s.seg+1,b)) syn::F)->
   K (.tuple #[.int .i64 s.next,.int .i64 0]) A) :
  CF 42 #[.pointer (some ⟨bb,0,none⟩),.slice a parts.length c] H K:=by
 refine cN 42 0x112156123992511b421b1d1c [[(6,sI),(15,sI)]] ?_;have D:=hs.seg;have E:=hs.next;have f:∀j,((parts.take j).flatMap Fy.bs).length<=(parts.flatMap Fy.bs).length:=λj=>Ia _ _ _
 refine⟨λsize i A=>∃j:Nat,i=j/\j<=parts.length/\size=(((parts.take j).flatMap Fy.bs).length:Nat)/\A=H,λ_ i _=>parts.length-i.toNat,⟨0,rfl,Wd _,rfl,rfl⟩,?_⟩
 rintro size i A ⟨j,rfl,Y,rfl,rfl⟩;refine⟨λC=>?_,λC=>?_⟩
 .have t:j<parts.length:=by simpa using C
  have M:=(N _ h.tl.tl.tl).at t;have v:=zH t;have G:=f (j+1);rw[v,V7]at G;have R:i64.wrap ((((parts.take j).flatMap Fy.bs).length:Int)+(parts[j].bs.length:Int))=(((parts.take (j+1)).flatMap Fy.bs).length:Nat):=by
   rw[v,V7,aJ];omega
  refine⟨⟨by omega,by omega⟩,_,_,M.1,_,_,_,M.2,?_⟩;dsimp only
  conv=>whnf
  rw[R];refine⟨λP=>?_,λ_=>?_⟩
  .have:=V8 P;have:=f (j+1);omega
  .conv=>whnf
   rw[aJ (x:=(j:Int)+1)];exact⟨⟨j+1,rfl,t,rfl,rfl⟩,by simp only[VJ];omega⟩
 .refine⟨_,h.r 0,?_⟩;refine GN (F:=bookA bb rb saved num seg::diskX db rows syn::F) D (h.o [1,0,2] 3) (λn=>V6 n (by omega)) λ_ Q h=>⟨_,_,rfl,(λn=>by cases n),λ_=>⟨_,h.r 1,?_⟩⟩
  have I:({ s with seg:=s.seg+1 }:RL).ok:=⟨by dsimp only;omega,hs.most,E,hs.syn⟩;have w:(⟨0,parts.flatMap Fy.bs⟩:Rc).ok:=⟨Wh 0,by show (0:Int)<=255;decide,L,hb⟩;have e:=QO (rows:=rows) (s:={ s with seg:=s.seg+1 }) (λx C=>by have:=n x C;dsimp only;omega) w
  have J:=GW (F:=bookA bb rb saved num seg::F) (a:=a) (c:=c) (kind:=0) (parts:=parts) (rb:=rb) (db:=db) (syn:=syn) (H:=Q) (K:=λu1 d=>∃r2 r3:Int,u1=(.tuple #[(.int .i64 r2),(.int .i64 r3)])/\
   (((!decide (r3=0)))=true->K (.tuple #[(.int .i64 (-1)),(.int .i64 r3)]) d)/\
   (((!decide (r3=0)))=false->
   ∃v2:KQ,aL d bb 0=some (.pointer v2)/\
   ∃r4:Int,bV Tryz.prog 97 #[(.pointer v2)] d (.int .i64 r4)/\
   eT d bb (0+1) [(.bool true)]/\
   ∀m:aC,m=fJ d bb (0+1) [(.bool true)]->
   eT m bb (0+2) [(.int .i64 r2)]/\
   ∀u:aC,u=fJ m bb (0+2) [(.int .i64 r2)]->
   eT u bb (0+3) [(.int .i64 r4)]/\
   ∀B:aC,B=fJ u bb (0+3) [(.int .i64 r4)]->
   K (.tuple #[(.int .i64 r2),(.int .i64 0)]) B)) I S (h.o [0,2,1] 3) (λH h=>N H h.tl) (λH h=>T H h.tl) hb U L
  rw[e.1,e.2.1,e.2.2.1,e.2.2.2]at J;refine J λZ h=>⟨_,_,rfl,(λn=>by cases n),λ_=>⟨_,h.r 2,_,GM h,?_⟩⟩
  refine h.st 2 rfl rfl λW h=>h.st 2 rfl rfl λH4 h=>h.st 2 rfl rfl λV h=>k _ ?_
  exact h.o [2,0,1] 3
theorem QZ{saved:Bool}{num seg:Int}(i:rows.length<=1099511627776)(hs:syn<=rows.length)(h:aA H (bookA bb rb saved num seg::reelA rb db s::diskX db rows syn::F))
  (k0:saved=false->K (.int .i64 19) H)
  (k1:saved=true->(s.syn:Int)<=num->K (.int .i64 21) H)
  (k2:saved=true->¬(s.syn:Int)<=num->syn<rows.length->∀c,aA c (bookA bb rb saved num seg::reelA rb db s::diskX db rows syn::F)->K (.int .i64 21) c)
  (k3:saved=true->¬(s.syn:Int)<=num->¬syn<rows.length->∀c,aA c (bookA bb rb saved num seg::reelA rb db s::diskX db (iB seg rows) (iB seg rows).length::F)->K (.int .i64 0) c) :
  CF 41 #[.pointer (some ⟨bb,0,none⟩)] H K:=by
 refine cM 41 7644 ?_;refine⟨_,h.r 0,λd=>k0 (by simpa using d),λd=>?_⟩
 have a:saved=true:=by simpa using d
 refine⟨_,h.r 0,_,Qr (h.o [1,0,2] 3),_,h.r 0,λb=>k1 a (V8 b),λb=>⟨_,h.r 0,_,h.r 0,?_⟩⟩
 have f:=V9 b;refine Qx (F:=bookA bb rb saved num seg::F) i hs (h.o [1,2,0] 3) (λe j h=>⟨_,rfl,k2 a f e _ (h.o [2,0,1] 3)⟩) λe j h=>⟨_,rfl,k3 a f e _ (h.o [2,0,1] 3)⟩
end
theorem ot.rd{rs d:List Ry}{b:Fy}{has:Bool}(h:ot rs b has d){H:aC}{F:List aE}(hs:aA H (rowsR rs::F)):aP H b.a (b.bs.map U8):=by
 rcases h.st with rfl|⟨r,c,rfl⟩
 .exact iv _ _
 .exact zT hs r c
theorem TI.save{most:Int}{rows:DR}{syn:Nat}{s:RL}{j:Nat}(h:TI most rows syn s j)(n:j<=1000){r:Rc}(c:r.ok)(m:r.data.length<=262144) :
  TI most (rows++(bN r).map λb=>(s.seg+1,b)) syn { s with seg:=s.seg+1,next:=s.next+1 } (j+1):=by
 have t:=h.seg0;have e:=h.seg;have i:=h.next;have u:=h.ssyn;have f:=h.len;have k:=h.syn;have d:=qy c;refine⟨h.rok.app ⟨by omega,by omega⟩ (rZ c),λx a=>?_,by rw[V7];omega,by dsimp only;omega,by dsimp only;omega,by rw[V7,VM];omega,by dsimp only;omega,by dsimp only;omega,h.hm,h.range⟩
 rcases VV.1 a with a|a
 .have:=h.files x a;dsimp only;omega
 .obtain⟨b,_,rfl⟩:=VH.1 a;exact Wh _
theorem Ra{R X:DR}(h:∀r∈R,∀x∈X,r.1<x.1):bB (R++X)=bB R++bB X:=by
 refine zB (oY _) ?_ λx=>?_
 .rw [List.pairwise_append];refine⟨oY R,oY X,λa c b hb=>?_⟩
  obtain⟨r,d,rfl⟩:=VH.1 (j0.1 c);obtain⟨y,e,rfl⟩:=VH.1 (j0.1 hb);exact h r d y e
 .rw [j0,VW,VV,VV,j0,j0]
theorem Ir{f:Int}{X:DR}(h:∀x∈X,x.1≠f):bytesOf f X=[]:=by
 unfold bytesOf;rw[WQ.2 λy a=>by simpa using h y a]
 rfl
theorem Is{α β:Type}{l:List α}{f g:α->List β}(h:∀x∈l,f x=g x):l.flatMap f=l.flatMap g:=by
 rw[List.flatMap_def,List.flatMap_def,WP h]
theorem Rb{R X:DR}(h:∀r∈R,∀x∈X,r.1<x.1):di (R++X)=di R++di X:=by
 unfold di;rw[Ra h,W4];congr 1
 .refine Is λf b=>?_
  obtain⟨r,a,rfl⟩:=VH.1 (j0.1 b);rw[qw,Ir (X:=X) λx c=>by have:=h r a x c;omega,We]
 .refine Is λf b=>?_
  obtain⟨x,c,rfl⟩:=VH.1 (j0.1 b);rw[qw,Ir (X:=R) λr a=>by have:=h r a x c;omega,Wl]
structure jn(rows:DR)(syn:Nat)(s:RL)(R:DR)(L:LG)(n0:Int)(k:Nat):Prop where
 rows':rows=R++fF L
 ok:L.ok
 low:∀r∈R,r.1<s.seg
 lowL:∀r∈R,∀x∈L,r.1<x.1
 seg:∀x∈L,x.1<=s.seg
 next:s.next=n0+L.length
 kle:k<=L.length
 ssyn:s.syn=n0+k
 syn:syn=R.length+(fF (L.take k)).length
theorem jn.push{rows:DR}{syn:Nat}{s:RL}{R:DR}{L:LG}{n0:Int}{k:Nat}(h:jn rows syn s R L n0 k){g:Int}(f:s.seg<=g){r:Rc}(d:r.ok) :
  jn (rows++(bN r).map λb=>(g,b)) syn { s with seg:=g,next:=s.next+1 } R (L++[(g,r)]) n0 k:=by
 refine⟨by rw[Ii,QK,h.rows',VK],⟨λx c=>?_,?_⟩,λr d=>by have:=h.low r d;dsimp only;omega,λr d x c=>?_,λx c=>?_,?_,by rw[V7];have:=h.kle;omega,h.ssyn,
  by rw[Yv h.kle];exact h.syn⟩
 .rcases VV.1 c with c|c
  .exact h.ok.recs x c
  .rw [VI]at c;subst c;exact d
 .rw [List.pairwise_append];refine⟨h.ok.up,List.pairwise_singleton _ _,λa e b hb=>?_⟩
  rw[VI]at hb;subst hb;have:=h.seg a e;dsimp only;omega
 .rcases VV.1 c with c|c
  .exact h.lowL r d x c
  .rw [VI]at c;subst c;have:=h.low r d;dsimp only;omega
 .rcases VV.1 c with c|c
  .have:=h.seg x c;dsimp only;omega
  .rw [VI]at c;subst c;exact Wh _
 .rw [V7];have:=h.next;dsimp only;simp only[VE,VZ];omega
theorem jn.append{rows:DR}{syn:Nat}{s:RL}{R:DR}{L:LG}{n0:Int}{k:Nat}(h:jn rows syn s R L n0 k){r:Rc}(hb:aI r.data)(a:iA rows s r=0) :
  jn (fY rows s r) syn (dp rows s r) R (L++[((dp rows s r).seg,r)]) n0 k:=by
 have hs:=Ih (rows:=rows) (s:=s) (r:=r);have e1:fY rows s r=rows++(bN r).map λb=>((dp rows s r).seg,b):=by unfold fY;rw[V4 (by rw[a];decide)]
 have e2:dp rows s r={ s with seg:=(dp rows s r).seg,next:=s.next+1 }:=by unfold dp;rw[V4 (by rw[a];decide)]
 have:=h.push hs.1 (zU hb a);rw[<-e1,<-e2]at this;exact this
theorem jn.sync{rows:DR}{syn:Nat}{s:RL}{R:DR}{L:LG}{n0:Int}{k:Nat}(h:jn rows syn s R L n0 k):jn rows rows.length { s with syn:=s.next } R L n0 L.length:=
 ⟨h.rows',h.ok,h.low,h.lowL,h.seg,h.next,VF _,h.next,by rw[Wi,h.rows',V7]⟩
theorem jn.trim{rows:DR}{s:RL}{R:DR}{A B:LG}{seg:Int}{d:List Int}{n0:Int}{k:Nat}(h:jn rows rows.length s R (A++(seg,⟨0,d⟩)::B) n0 k)(hs:s.syn=s.next)(i:∀x∈A,x.1<seg) :
  jn (iB seg rows) (iB seg rows).length s [] ((seg,⟨0,d⟩)::B) (n0+A.length) (B.length+1):=by
 have c:=h.ok.up;rw[List.pairwise_append]at c;obtain⟨u1,u2,u3⟩:=c;have f:∀x∈(seg,(⟨0,d⟩:Rc))::B,seg<=x.1:=λx a=>by
  rcases VN.1 a with rfl|a
  .exact Wh _
  .exact (W5.1 u2).1 x a
 have e:iB seg rows=fF ((seg,⟨0,d⟩)::B):=by
  rw[h.rows',Ii];unfold iB;rw[List.filter_append,List.filter_append,WQ.2 λr b=>?_,Wl]
  .have a1:=Io seg A;have a2:=Io seg ((seg,⟨0,d⟩)::B);unfold iB at a1 a2;rw[a1,a2,WQ.2 λx a=>by have:=i x a;simp;omega,Yz.2 λx a=>VS (f x a)]
   rfl
  .have:=h.lowL r b (seg,⟨0,d⟩) (by simp);simp;omega
 have j:=h.next;rw[V7,VE]at j;refine⟨by rw[e];rfl,⟨λx a=>h.ok.recs x (Yk _ a),u2⟩,λr b=>V6 b (by simp),λr b=>V6 b (by simp),λx a=>h.seg x (Yk _ a),?_,VF _,?_,?_⟩
 .rw [VE];omega
 .omega
 .rw [e,Wc (by rw[VE];omega)];simp
theorem jn.cut{rows:DR}{syn:Nat}{s:RL}{R:DR}{L:LG}{n0:Int}{k:Nat}(h:jn rows syn s R L n0 k)(keep:Int):∃p,k<=p/\p<=L.length/\di (eV rows syn keep)=di R++(L.take p).map Prod.snd:=by
 unfold eV;obtain⟨n,D⟩:∃n,syn+(min (max keep 0) ((rows.length:Int)-syn)).toNat=n:=⟨_,rfl⟩;rw[D];have f:=h.syn;obtain⟨p,g,t,w,m,u,C⟩:=In L (n-R.length);have e:∀x∈L,0<(bN x.2).length:=λx a=>by have:=qy (h.ok.recs x a);omega
 have A:=C k h.kle (by omega) e;have d:LG.ok (L.take p):=⟨λx a=>h.ok.recs x (W0 a),h.ok.up.take⟩
 refine⟨p,A,m,?_⟩;have c:∀r∈R,∀x∈(fF L).take (n-R.length),r.1<x.1:=λr i x a=>by
  obtain⟨y,B,a⟩:=Ym.1 (W0 a);obtain⟨b,_,rfl⟩:=VH.1 a;exact h.lowL r i y B
 rw[h.rows',List.take_append,Wc (by omega),Rb c,w];congr 1
 rcases u with rfl|⟨r,⟨x,a,rfl⟩,j,v,rfl⟩
 .exact Im d (g:=g) (t:=[]) (λx a=>by cases a) rfl
 .exact Im d (tS _ (rZ (h.ok.recs x a))) (Qf (h.ok.recs x a) v)
theorem Re{rows:DR}(most:Int):jn rows rows.length (opS most rows) rows [] (di rows).length 0:=by
 unfold opS;exact⟨by simp[fF],⟨λx a=>V6 a (by simp),List.Pairwise.nil⟩,files_lt,λr b x a=>V6 a (by simp),λx a=>V6 a (by simp),by simp,VF _,by simp,by simp[fF]⟩
theorem tellM_no:∀{l:List Rc},(dw l).1=none->dw l=(none,l)
 | [],_=>rfl
 | r::l,h=>by
  rw[dw]at h ⊢
  split at h
  .rename_i h0;rw[V5 h0]
   split at h
   .cases h
   .rename_i a;rw[V4 a]
  .rename_i h0;exact V6 h h0
theorem zX:∀(a b:List Rc),dw (a++b)=if (dw b).1=none then ((dw a).1,(dw a).2++b) else dw b
 | [],b=>by
  by_cases e:(dw b).1=none
  .rw [V5 e,Wl,tellM_no e];rfl
  .rw [V4 e,Wl]
 | r::a,b=>by
  rw[WE,dw,zX a b]
  by_cases e:(dw b).1=none
  .simp only[V5 e];rw[dw]
   by_cases h:(dw a).1=none
   .rw [V5 h,V5 h]
    split <;> rfl
   .rw [V4 h,V4 h]
  .simp only[V4 e]
theorem It(l:List Rc)(x:Rc):dw (l++[x])=if x.kind=0 then (some x.data,[]) else ((dw l).1,(dw l).2++[x]):=by
 rw[zX]
 by_cases h:x.kind=0
 .rw [V5 h,V4] <;> simp[dw,h]
 .rw [V4 h,V5] <;> simp[dw,h]
theorem Rf(a:List Rc){x:Rc}(h:x.kind=0)(b:List Rc):dw (a++x::b)=dw (x::b):=by
 rw[zX,V4];rw[dw]
 split
 .simp [h]
 .rename_i h0;exact h0
theorem tdivN(a b:Nat):Int.tdiv (a:Int) (b:Int)=((a/b:Nat):Int):=rfl
theorem tmodN(a b:Nat):Int.tmod (a:Int) (b:Int)=((a%b:Nat):Int):=rfl
theorem w_un{u u1 Q Y:Nat}(h:Q=(u*4294967296+u1)/Y)(a:0<Y)(b:Y<18446744073709551616) :
  u64.wrap ((u64.wrap ((u64.wrap ((u:Int)*4294967296))+(u1:Int)))-(u64.wrap ((Q:Int)*(Y:Int))))=(((u*4294967296+u1)%Y:Nat):Int):=by
 have c:=Yu (u*4294967296+u1) Y;have d:=WB (u*4294967296+u1) a;rw[<-h]at c;rw[mulNN];generalize Q*Y=p at *;generalize (u*4294967296+u1)%Y=m at *;rw[df,df,df,df];omega
theorem norm_y{y:Nat}(h0:0<y)(h:y<18446744073709551616):64-bitLen y<64/\y*2^(64-bitLen y)<18446744073709551616/\9223372036854775808<=y*2^(64-bitLen y):=by
 obtain⟨b,a⟩:=bitLen_spec y;have a:=a (by omega);have d:bitLen y<=64:=by
  unfold bitLen
  split
  .omega
  .rename_i h0;have:=(Nat.log2_lt h0).2 (show y<2^64 from h);omega
 have c:0<bitLen y:=by unfold bitLen;rw[nO];omega
 refine⟨by omega,?_,?_⟩
 .calc y*2^(64-bitLen y)<2^bitLen y*2^(64-bitLen y):=(Nat.mul_lt_mul_right (Ya _)).2 b
   _=18446744073709551616:=by rw[<-W8,show bitLen y+(64-bitLen y)=64 by omega]
 .calc 9223372036854775808=2^(bitLen y-1)*2^(64-bitLen y):=by rw[<-W8,show bitLen y-1+(64-bitLen y)=63 by omega]
   _<=y*2^(64-bitLen y):=W1 _ a
theorem norm_u{hi lo y s:Nat}(hs:s<64)(d:hi<y)(b:lo<18446744073709551616)(h:y*2^s<18446744073709551616) :
  hi*2^s+lo/2^(64-s)<y*2^s/\aY .or .u64 (u64.wrap ((hi:Int)*2^s)) (Int.fdiv (lo:Int) (2^(64-s)))=((hi*2^s+lo/2^(64-s):Nat):Int):=by
 have e:lo/2^(64-s)<2^s:=by
  rw[Yh (Ya _),<-W8,show s+(64-s)=64 by omega];exact b
 have c:hi*2^s+2^s<=y*2^s:=by
  rw[<-Nat.succ_mul];exact W1 _ d
 refine⟨by omega,?_⟩;have e1:(hi:Int)*2^s=((hi*2^s:Nat):Int):=by rw[WZ];simp
 have a:hi*2^s<18446744073709551616:=Nat.lt_of_lt_of_le (Nat.lt_add_of_pos_right (Ya s)) (VT c (Nat.le_of_lt h));rw[e1,rG,u64n a,or64 a (Nat.lt_of_le_of_lt (Nat.div_le_self _ _) b)];congr 1;rw[Nat.mul_comm hi,<-YO e]
section
variable {F L:List aE}{H:aC}{K:KE}
theorem div_core{hi lo y s Y u v:Nat}(hs:s<64)(h8:Y<18446744073709551616)(l0:9223372036854775808<=Y)(hu:u<Y)(h7:v<18446744073709551616)(j1:hi≠0)
  (I:u64.wrap ((y:Int)*2^s)=(Y:Int)) (m:u64.wrap ((lo:Int)*2^s)=(v:Int))
  (V:aY .or .u64 (u64.wrap ((hi:Int)*2^s)) (Int.fdiv (lo:Int) (2^(64-s)))=(u:Int))
  (hz:bV Tryz.prog 364 #[.int .u64 (y:Nat)] H (aD (s:Nat)))
  (k:K (.tuple #[.int .u64 (((u*18446744073709551616+v)/Y:Nat):Int),.int .u64 ((((u*18446744073709551616+v)%Y)/2^s:Nat):Int)]) H) :
  lG.r5 (hi:Int) (lo:Int) (y:Int) K H:=by
  unfold lG.r5;refine⟨λd=>?_,λd=>?_⟩
  .exfalso;simp only[VA]at d;omega
  refine⟨_,hz,?_⟩;have P:u64.wrap (s:Int)=(s:Int):=u64n (by omega);have em:min (Int.toNat (s:Int)) u64.bits=s:=by rw[VJ];exact WX (by simp only[IntKind.bits];omega)
  have e:u64.wrap (64-(s:Int))=((64-s:Nat):Int):=by rw[df];omega
  have j:min (Int.toNat ((64-s:Nat):Int)) u64.bits=64-s:=by rw[VJ];exact WX (by simp only[IntKind.bits];omega)
  obtain⟨u1,S⟩:∃u1,v/4294967296=u1:=⟨_,rfl⟩;obtain⟨u0,Z⟩:∃u0,v%4294967296=u0:=⟨_,rfl⟩;obtain⟨y1,h4⟩:∃y1,Y/4294967296=y1:=⟨_,rfl⟩;obtain⟨y0,h0⟩:∃y0,Y%4294967296=y0:=⟨_,rfl⟩;have i:y1*4294967296+y0=Y:=by omega
  have ev:u1*4294967296+u0=v:=by have ev:=Yu v 4294967296;rw[S,Z]at ev;exact ev
  have b1:2147483648<=y1:=by omega
  have j2:y1<4294967296:=by omega
  have b0:y0<4294967296:=by omega
  have c1:u1<4294967296:=by omega
  have c0:u0<4294967296:=by omega
  have hj:=kn_join (u:=u) (u1:=u1) (u0:=u0) (y:=Y) (by omega);have e0:u*18446744073709551616+v=(u*4294967296+u1)*4294967296+u0:=by rw[<-ev,Wr,Nat.mul_assoc,Wy]
  rw[e0,hj.1]at k;rw[hj.2]at k;have fy:Int.fdiv (Y:Int) (2^(min (Int.toNat 32) (u64.bits)))=(y1:Int):=by rw[vX,h4]
  have R:Int.fdiv (v:Int) (2^(min (Int.toNat 32) (u64.bits)))=(u1:Int):=by rw[vX,S]
  have N:aY .and .u64 (Y:Int) 4294967295=(y0:Int):=by rw[tH (by omega),h0]
  have J:aY .and .u64 (v:Int) 4294967295=(u0:Int):=by rw[tH (by omega),Z]
  have cond:∀q r w1:Nat,r<4294967296->w1<4294967296->((decide (4294967296<=(q:Int))||decide (u64.wrap ((u64.wrap (4294967296*(r:Int)))+(w1:Int))<u64.wrap ((q:Int)*(y0:Int))))=true↔(4294967296<=q\/4294967296*r+w1<q*y0)):=by
   intro q r w1 A hw;have ea:u64.wrap ((u64.wrap (4294967296*(r:Int)))+(w1:Int))=((4294967296*r+w1:Nat):Int):=by rw[df,df];omega
   rw[ea,mulNN,u64m];simp only[VR,VA]
   by_cases hB:4294967296<=q
   .constructor
    .intro _;exact .inl hB
    .intro _;exact .inl (by omega)
   .have:q*y0<=4294967296*4294967295:=Nat.mul_le_mul (by omega) (by omega);rw[WJ (by omega)]
    constructor
    .rintro (h|h)
     .omega
     .exact .inr (by omega)
    .rintro (h|h)
     .omega
     .exact .inr (by omega)
  have T:∀q r:Nat,1<=q->r<4294967296->q<=4294967297->u64.wrap ((q:Int)-1)=((q-1:Nat):Int)/\u64.wrap ((r:Int)+(y1:Int))=((r+y1:Nat):Int):=by
   intro q r h1 h2 h3;exact⟨by rw[df];omega,by rw[df];omega⟩
  have G:∀U:Nat,U<Y->u64.wrap ((U/y1:Nat):Int)=((U/y1:Nat):Int)/\u64.wrap ((U:Int)-u64.wrap (((U/y1:Nat):Int)*(y1:Int)))=((U%y1:Nat):Int)/\U%y1<4294967296:=by
   intro U hU;have h1:=Yu U y1;have h2:=Nat.div_le_self U y1;have h3:=WB U (show 0<y1 by omega);refine⟨u64n (by omega),?_,by omega⟩;rw[mulNN];generalize U/y1*y1=p at *;rw[df,df];omega
  obtain⟨w,b⟩:∃w,(u*4294967296+u1)/Y=w:=⟨_,rfl⟩;obtain⟨R1,D⟩:∃R1,(u*4294967296+u1)%Y=R1:=⟨_,rfl⟩;have B:R1<Y:=by rw[<-D];exact WB _ (by omega)
  have w1:=w_un (u:=u) (u1:=u1) (Q:=w) (Y:=Y) b.symm (by omega) (by omega);rw[D]at w1;obtain⟨x,c⟩:∃x,(R1*4294967296+u0)/Y=x:=⟨_,rfl⟩;have w0:=w_un (u:=R1) (u1:=u0) (Q:=x) (Y:=Y) c.symm (by omega) (by omega);have h5:w<4294967296:=by rw[<-b];exact kn_lt hu c1
  have h6:x<4294967296:=by rw[<-c];exact kn_lt B c0
  rw[b,D,c]at k;have last:lG.r1 (hi:Int) lo y K (s:Int) (w:Int) (x:Int) H:=by
   unfold lG.r1;simp only[P,em,e,j,I,m,V,fy,R,N,J,w1,w0];refine⟨by omega,?_⟩;have ea:u64.wrap ((u64.wrap ((w:Int)*4294967296))+(x:Int))=((w*4294967296+x:Nat):Int):=by rw[df,df];omega
   rw[ea,rG];exact k
  have O:lG.r3 (hi:Int) lo y K (s:Int) (w:Int) H:=by
   unfold lG.r3;simp only[P,em,e,j,I,m,V,fy,R,N,J,w1,tdivN];obtain⟨i1,i2,i3⟩:=G R1 B;obtain⟨n1,n2,n3,n4⟩:=EI (y0:=y0) (u:=R1) (u1:=u0) b1 b0 (by omega) c0;rw[i,c]at n3;refine⟨by omega,λh9 M=>⟨λa q0 L=>L=H/\∃q r:Nat,q0=q/\a=r/\q*y1+r=R1/\r<4294967296/\x<=q/\q<=4294967297,λa _ _=>4294967296-a.toNat,?_,?_⟩⟩
   .rw [i1,i2];exact⟨rfl,_,_,rfl,rfl,n1,i3,n3,n4⟩
   rintro a q0 L ⟨rfl,q,r,rfl,rfl,F,A,E,C⟩;simp only[P,em,e,j,I,m,V,fy,R,N,J];refine⟨λd=>?_,λd=>?_⟩
   .have d:=(cond q r u0 A c0).1 d;have hd:=kn_dec (y0:=y0) (u:=R1) (u1:=u0) b1 (by omega) c0 F d;rw[i,c]at hd;obtain⟨p,rfl⟩:∃p,q=p+1:=⟨q-1,by omega⟩;have n:p*y1+(r+y1)=R1:=by rw[Nat.succ_mul]at F;omega
    obtain⟨e1,e2⟩:=T (p+1) r (by omega) A C;rw[YH]at e1 hd;rw[e1,e2];refine⟨λf=>?_,λf=>⟨⟨trivial,_,_,rfl,rfl,n,?_,hd.2,by omega⟩,?_⟩⟩
    .simp only[VA]at f;have t:=EK (y0:=y0) (u:=R1) (u1:=u0) b1 b0 n (by rw[i,c];exact hd.2) (by omega) (by omega);rw[i,c]at t;rw[t];exact M _ _ last
    .simp only[VD]at f;omega
    .simp only[VJ];omega
   .have d:¬(4294967296<=q\/4294967296*r+u0<q*y0):=λhh=>by rw[(cond q r u0 A c0).2 hh]at d;cases d
    have t:=EJ (y0:=y0) (u:=R1) (u1:=u0) b1 F (by rw[i,c];exact E) (by omega);rw[i,c]at t;rw[t];exact M _ _ last
  simp only[P,em,e,j,I,m,V,fy,R,N,J,tdivN];obtain⟨i1,i2,i3⟩:=G u hu;obtain⟨n1,n2,n3,n4⟩:=EI (y0:=y0) (u:=u) (u1:=u1) b1 b0 (by omega) c1;rw[i,b]at n3;refine⟨by omega,by decide,by omega,by omega,by omega,by decide,by omega,λj3 W=>⟨λq1 a L=>L=H/\∃q r:Nat,q1=q/\a=r/\q*y1+r=u/\r<4294967296/\w<=q/\q<=4294967297,λ_ a _=>4294967296-a.toNat,?_,?_⟩⟩
  .rw [i1,i2];exact⟨rfl,_,_,rfl,rfl,n1,i3,n3,n4⟩
  rintro q1 a L ⟨rfl,q,r,rfl,rfl,F,A,E,C⟩;simp only[P,em,e,j,I,m,V,fy,R,N,J];refine⟨λd=>?_,λd=>?_⟩
  .have d:=(cond q r u1 A c1).1 d;have hd:=kn_dec (y0:=y0) (u:=u) (u1:=u1) b1 (by omega) c1 F d;rw[i,b]at hd;obtain⟨p,rfl⟩:∃p,q=p+1:=⟨q-1,by omega⟩;have n:p*y1+(r+y1)=u:=by rw[Nat.succ_mul]at F;omega
   obtain⟨e1,e2⟩:=T (p+1) r (by omega) A C;rw[YH]at e1 hd;rw[e1,e2];refine⟨λf=>?_,λf=>⟨⟨trivial,_,_,rfl,rfl,n,?_,hd.2,by omega⟩,?_⟩⟩
   .simp only[VA]at f;have t:=EK (y0:=y0) (u:=u) (u1:=u1) b1 b0 n (by rw[i,b];exact hd.2) (by omega) (by omega);rw[i,b]at t;rw[t];exact W _ _ O
   .simp only[VD]at f;omega
   .simp only[VJ];omega
  .have d:¬(4294967296<=q\/4294967296*r+u1<q*y0):=λhh=>by rw[(cond q r u1 A c1).2 hh]at d;cases d
   have t:=EJ (y0:=y0) (u:=u) (u1:=u1) b1 F (by rw[i,b];exact E) (by omega);rw[i,b]at t;rw[t];exact W _ _ O
theorem Rg{hi lo y:Nat}(t:hi<y)(d:lo<18446744073709551616)(a:y<18446744073709551616)
  (k:K (.tuple #[.int .u64 (((hi*18446744073709551616+lo)/y:Nat):Int),.int .u64 (((hi*18446744073709551616+lo)%y:Nat):Int)]) H) :
  CF 331 #[.int .u64 (hi:Nat),.int .u64 (lo:Nat),.int .u64 (y:Nat)] H K:=by
 refine Oo ?_;refine λu j=>⟨λc=>?_,λ_=>j _ ?_⟩
 .exfalso;simp only[VA]at c;omega
 refine λm f=>⟨λc=>?_,λ_=>f _ ?_⟩
 .exfalso;simp only[VA]at c;omega
 by_cases h0:hi=0
 .subst h0;unfold lG.r5;refine⟨λ_=>⟨by omega,by omega,?_⟩,λc=>?_⟩
  .rw [tdivN,tmodN,u64n (Nat.lt_of_le_of_lt (Nat.div_le_self _ _) d)];rw[Yl,VX]at k;exact k
  .exfalso;simp at c
 .obtain⟨hs,b,e⟩:=norm_y (y:=y) (by omega) a;obtain⟨n,i⟩:=norm_u hs t d b;have h:=norm_num (hi:=hi) (lo:=lo) (s:=64-bitLen y) (by omega) d;refine div_core (v:=lo*2^(64-bitLen y)%18446744073709551616) hs b e n (WB _ (by decide)) h0 ?_ ?_ i (PF a) ?_
  .rw [<-u64n b,WZ];simp
  .rw [<-u64m,WZ];simp
  .rw [h,Nat.mul_div_mul_right _ _ (Ya _),Nat.mul_mod_mul_right,Nat.mul_div_cancel _ (Ya _)];exact k
theorem Iu{a b c:Int}{up:Bool}(u:aF a)(hb:aF b)(n:aF c)(k:K (.tuple #[aD (pe a b c up).1,aD (pe a b c up).2]) H) :
  CF 286 #[aD a,aD b,aD c,.bool up] H K:=by
 refine O5 ?_;unfold pe at k;have x:zabs a<18446744073709551616:=by unfold zabs;unfold aF at u;omega
 have w:zabs b<18446744073709551616:=by unfold zabs;unfold aF at hb;omega
 refine⟨λj=>?_,λj=>?_⟩
 .rw [V5 (by simpa using j)]at k;exact k
 .have s:¬c<1:=by simpa using j
  rw[V4 s]at k;obtain⟨cn,rfl⟩:∃cn:Nat,c=cn:=⟨c.toNat,by omega⟩;have i:cn<18446744073709551616:=by unfold aF at n;omega
  rw[u64n i];rw[VJ]at k;refine⟨_,Gu u,_,Gu hb,_,_,PC x w,?_⟩;have v:zabs a*zabs b/18446744073709551616*18446744073709551616+zabs a*zabs b%18446744073709551616=zabs a*zabs b:=Yu _ _;have m:zabs a*zabs b%18446744073709551616<18446744073709551616:=WB _ (by decide);generalize zabs a*zabs b/18446744073709551616=hi at *;generalize zabs a*zabs b%18446744073709551616=lo at *;generalize zabs a*zabs b=P at *;refine⟨λe=>?_,λe=>?_⟩
  .rw [V5 (by simp only[VA]at e;omega)]at k;exact k
  .have e:¬cn<=hi:=by simp only[VD]at e;omega
   rw[V4 e]at k;refine Rg (by omega) m i ⟨_,_,rfl,?_⟩;rw[v];dsimp only at k;refine⟨λd=>?_,λd=>λy t=>?_⟩
   .rw [V5 (by simp only[VA]at d;omega)]at k;exact k
   .have d:¬9223372036854775808<P/cn:=by simp only[VD]at d;omega
    rw[V4 d]at k;have e1:u64.wrap (((P/cn:Nat):Int)+1)=((P/cn+1:Nat):Int):=(show ∀q:Nat,¬9223372036854775808<q->u64.wrap ((q:Int)+1)=((q+1:Nat):Int) from λq h=>by rw[df];omega) _ d
    have e2:decide (((P%cn:Nat):Int)=0)=decide (P%cn=0):=by
     rw[decide_eq_decide];omega
    rw[e1,e2];refine⟨λf=>t _ _ ?_,λf=>t _ _ ?_⟩
    .rw [V5 f]at k;exact⟨_,_,Gv (Nat.lt_of_le_of_lt (Nat.succ_le_succ (Nat.le_of_not_lt d)) (by decide)),k⟩
    .rw [f,V4 Bool.false_ne_true]at k;exact⟨_,_,Gv (Nat.lt_of_le_of_lt (Nat.le_of_not_lt d) (by decide)),k⟩
theorem Rh{rho:Int}:bV Tryz.prog 285 #[aD rho] H (.bool (decide (gA rho))):=by
 refine cM 285 28 ⟨congrArg Value.bool ?_,rfl⟩;rw[Wp];simp only[VB,VA,gA]
theorem Iv{x rho:Int}(f:aF x)(k:K (.tuple #[aD (lowS x rho).1,aD (lowS x rho).2]) H):CF 233 #[aD x,aD rho] H K:=by
 refine cM 233 125110962460 ?_;unfold lowS at k;refine⟨_,λ_=>Rh,λb=>?_,λb=>?_⟩
 .rw [V5 (by simp only[VR,VA,Wb,VD]at b;omega)]at k;exact k
 .have c:¬(x < -4611686018427387904\/4611686018427387904<x\/¬gA rho):=by
   simp only[VP,VD,Wq,VA]at b;rintro (h|h|h)
   .exact b.1.1 h
   .exact b.1.2 h
   .exact h b.2
  rw[V4 c]at k;have d:gA rho:=by
   rcases Classical.em (gA rho) with h|h
   .exact h
   .exact V6 (.inr (.inr h)) c
  have e:¬x < -4611686018427387904/\¬4611686018427387904<x:=⟨λh=>c (.inl h),λh=>c (.inr (.inl h))⟩
  unfold gA at d;refine⟨λa=>?_,λa=>?_⟩
  .have h0:0<x:=by simpa using a
   rw[V5 h0]at k
   conv=>whnf
   rw[aJ (x:=x-1),aJ (x:=1000000+rho)];exact Iu (by unfold aF;omega) (by unfold aF;omega) (by unfold aF;omega) ⟨_,_,rfl,k⟩
  .have h0:¬0<x:=by simpa using a
   rw[V4 h0]at k
   conv=>whnf
   rw[aJ (x:=1-x),aJ (x:=1000000-rho)];exact Iu (by unfold aF;omega) (by unfold aF;omega) (by unfold aF;omega) ⟨_,_,rfl,k⟩
theorem Ri{x rho:Int}(c:aF x)(k:K (.tuple #[aD (pf x rho).1,aD (pf x rho).2]) H):CF 234 #[aD x,aD rho] H K:=by
 refine cM 234 7452 ?_;unfold pf at k;refine⟨λa=>?_,λa=>?_⟩
 .rw [V5 (by simpa using a)]at k;exact k
 .have b:¬(x < -4611686018427387904\/4611686018427387904<x):=by simpa using a
  rw[V4 b]at k;have e:i64.wrap (0-x)=-x:=by rw[aJ];omega
  conv=>whnf
  rw[e];exact Iv (by unfold aF;omega) ⟨_,_,rfl,k⟩
end
structure Gd where
 width:Int
 policy:Int
 most:Int
deriving DecidableEq
abbrev ud(g:Gd):Value:=.agg #[.int .i64 g.width,.int .i64 g.policy,.int .i64 g.most]
def Gd.ok(g:Gd):Prop:=1<=g.width/\g.width<=1099511627776/\0<=g.policy/\g.policy<=3/\0<=g.most/\g.most<=4611686018427387903
instance (g:Gd):Decidable g.ok:=by unfold Gd.ok;infer_instance
def fN(g:Gd)(t:Int):Int:=
 if g.ok then (if Int.tmod t g.width<0 then i64.wrap (i64.wrap (Int.tdiv t g.width)-1) else i64.wrap (Int.tdiv t g.width)) else 0
def dM(g:Gd)(x:Gp):Int×Int×Int:=
 if g.ok then (if x.ok then (fN g x.lo,fN g x.hi,0) else (0,0,10)) else (0,0,21)
def mG(g:Gd)(x:Gp):Int×Int:=
 if (dM g x).2.2≠0 then (0,(dM g x).2.2) else
 if u64.wrap g.most<wA x then (0,17) else
 if g.policy=0 then ((dM g x).1,0) else
 if g.policy=1 then ((dM g x).2.1,0) else
 if g.policy=2 then (fN g (midS x),0) else
 if (dM g x).1≠(dM g x).2.1 then (0,17) else ((dM g x).1,0)
structure bQ where
 asked:Int
 got:Int
 sent:Int
 came:Int
deriving DecidableEq
def bQ.z:bQ:=⟨0,0,0,0⟩
abbrev eW(s:bQ):Os:=[.int .i64 s.asked,.int .i64 s.got,.int .i64 s.sent,.int .i64 s.came]
abbrev aggSm(s:bQ):Value:=.agg #[.int .i64 s.asked,.int .i64 s.got,.int .i64 s.sent,.int .i64 s.came]
theorem kD(s:bQ):(eW s).length=4:=rfl
theorem zY(s:bQ):cT (eW s)=true:=rfl
abbrev gM(t:Int):Prop:=0<=t/\t<=4611686018427387903
def bQ.ok(s:bQ):Prop:=gM s.asked/\gM s.got/\gM s.sent/\gM s.came/\s.asked<=s.came/\s.got<=s.sent
instance (s:bQ):Decidable s.ok:=by unfold bQ.ok;infer_instance
def bQ.wf(s:bQ):Prop:=aF s.asked/\aF s.got/\aF s.sent/\aF s.came
theorem bQ.ok.wf{s:bQ}(h:s.ok):s.wf:=by unfold bQ.ok gM at h;unfold bQ.wf aF;omega
def iT(s:bQ)(stamp rho:Int):Gp×Int:=
 if ¬s.ok then (Gp.z,10) else
 if ¬gM stamp\/¬gA rho then (Gp.z,11) else
 let low:=(lowS (stamp-s.got) rho).1
 let high:=(pf (stamp-s.sent) rho).1
 let lo:=if 0>i64.wrap (s.asked+low) then 0 else i64.wrap (s.asked+low)
 let h1:=if (j4 s.came high).2≠0 then 4611686018427387903 else (j4 s.came high).1
 let hi:=if 4611686018427387903<h1 then 4611686018427387903 else h1
 if hi<lo then (Gp.z,13) else (⟨lo,hi⟩,0)
structure Ck where
 rho:Int
 least:Int
 held:Bool
 streak:Int
 smps:List bQ
deriving DecidableEq
def iU(rho stamp:Int)(s:bQ):Gp:=if (iT s stamp rho).2≠0 then ⟨1,0⟩ else (iT s stamp rho).1
def pj(l:List Gp):Bool:=decide (0<l.length)&&decide ((kQ l).2=0)
def kS(c:Ck)(s:bQ):Ck×Int:=
 if ¬s.ok then (c,10) else
 let l:=if 8<c.smps.length+1 then (c.smps++[s]).drop 1 else c.smps++[s]
 let gs:=l.map (iU c.rho s.sent)
 if pj gs then
  let st:=if c.streak<9223372036854775807 then c.streak+1 else c.streak
  ({ c with streak:=st,held:=if c.least<=st then false else c.held,smps:=l },0)
 else ({ c with held:=true,streak:=0,smps:=if (iU c.rho s.sent s).ok then [s] else [] },21)
def nN(rho stamp:Int):List bQ->List Gp×Int
 | []=>([],0)
 | s::r=>if (iT s stamp rho).2≠0 then ([],(iT s stamp rho).2) else ((iT s stamp rho).1::(nN rho stamp r).1,(nN rho stamp r).2)
def ckAt(c:Ck)(stamp:Int):Gp×Int:=
 if c.smps=[] then (Gp.z,19) else
 if ¬gM stamp then (Gp.z,11) else
 if (nN c.rho stamp c.smps).2≠0 then (Gp.z,(nN c.rho stamp c.smps).2) else kQ (nN c.rho stamp c.smps).1
structure CkOk(c:Ck):Prop where
 len:c.smps.length<=8
 ok:∀s∈c.smps,s.ok
 st:0<=c.streak/\c.streak<=9223372036854775807
theorem ckAdd_ok{c:Ck}(h:CkOk c)(s:bQ):CkOk (kS c s).1:=by
 unfold kS
 split
 .exact h
 .rename_i hs;have hs:s.ok:=Decidable.not_not.1 hs;have d:∀x∈(if 8<c.smps.length+1 then (c.smps++[s]).drop 1 else c.smps++[s]),x.ok:=by
   intro x a;have:x∈c.smps++[s]:=by
    split at a
    .exact WH a
    .exact a
   rcases VV.1 this with b|b
   .exact h.ok x b
   .rw [VI]at b;rw[b];exact hs
  have e:(if 8<c.smps.length+1 then (c.smps++[s]).drop 1 else c.smps++[s]).length<=8:=by
   have:=h.len
   split
   .simp only[VU,V7,Wv];omega
   .simp only[V7,Wv];omega
  dsimp only;generalize (if 8<c.smps.length+1 then (c.smps++[s]).drop 1 else c.smps++[s])=l at d e ⊢
  by_cases hag:pj (l.map (iU c.rho s.sent))=true
  .rw [V5 hag];exact⟨e,d,by have:=h.st;dsimp only;split <;> omega⟩
  .rw [V4 hag];refine⟨?_,?_,by dsimp only;omega⟩
   .dsimp only;split <;> simp
   .dsimp only
    split
    .intro x a;rw[VI]at a;rw[a];exact hs
    .intro x a;cases a
section
variable {F L:List aE}{H:aC}{K:KE}
theorem sd{g:Gp}(h:aA H F)(k:∀a,aA a F->K (.bool (decide g.ok)) a):CF 150 #[jS g] H K:=by
 refine cM 150 28 ?_;refine h.al λ_ _ h=>?_;refine⟨_,Ra1,?_⟩;refine⟨_,Ra1,?_⟩
 exact k _ h.tl
theorem Rk{a b:Gp}(h:aA H F)(k:∀c,aA c F->K (jS (meet2 a b)) c):CF 288 #[jS a,jS b] H K:=by
 refine cM 288 28 ?_;refine h.al λ_ _ h=>?_;refine h.al λ_ _ h=>?_;refine h.al λ_ _ h=>?_;refine⟨_,Ra3,?_⟩;refine⟨_,Ra3,?_⟩;refine⟨_,Ra3,?_⟩;refine⟨_,Ra3,?_⟩;refine St3 h λ_ h=>?_;refine⟨_,_,Rs3,?_⟩
 exact k _ h.tl.tl.tl
theorem Rl{s:Gp}{a:KQ}{c:Nat}{gs:List Gp}(h:aA H F)(y:∀H,aA H F->aP H a (flat jR gs))(B:gs.length<=1000000)
  (k:∀m,aA m F->K (.tuple #[jS (mE s gs).1,aD (mE s gs).2]) m) :
  CF 287 #[jS s,.slice a gs.length c,.func (.func 288) #[] #[]] H K:=by
 refine cN 287 0x1215612399251d44dc [[(12,sI)]] ?_;refine h.al λb _ h=>?_
 refine h.al λb1 _ h=>?_
 refine⟨λi m=>∃(j:Nat) (t:Gp),i=j/\j<=gs.length/\mE s gs=mE t (gs.drop j)/\aA m (cellsA b1 [aD 0,aD 0] 89::cellsA b (jR t) 89::F),λi _=>gs.length-i.toNat,⟨0,s,rfl,Wd _,rfl,h⟩,?_⟩
 rintro i D ⟨j,t,rfl,C,e,h⟩;refine⟨λn=>?_,λn=>?_⟩
 .have f:j<gs.length:=by simpa using n
  have v:=y _ h.tl.tl;rw[Wx f,mE]at e;refine⟨⟨by omega,by omega⟩,_,_,v.some wy (by omega) f,_,_,v.els wy f,?_⟩;refine h.al λb3 _ h=>?_
  refine St3 h λ_ h=>?_;refine⟨_,_,Rs3,?_⟩
  refine sd (g:=gs[j]) h λx h=>⟨_,rfl,λd=>?_,λd=>?_⟩
  .have:¬(gs[j]).ok:=by simpa using d
   rw[V4 this]at e;refine St3 h λ_ h=>?_;refine⟨_,_,Rs3,?_⟩
   have:=k _ h.tl.tl.tl;rw[e]at this;exact this
  .have:(gs[j]).ok:=by simpa using d
   rw[V5 this]at e;refine⟨_,_,Rs3,?_⟩;refine⟨_,_,Rs3,?_⟩;refine⟨by kernel_rfl,?_⟩;refine Rk (a:=t) (b:=gs[j]) h λA h=>⟨_,_,rfl,?_⟩
   refine St3 h λ_ h=>?_
   have w:i64.wrap ((j:Int)+1)=((j+1:Nat):Int):=by rw[aJ];omega
   conv=>whnf
   rw[w];exact⟨⟨j+1,_,rfl,f,e,h.tl⟩,by simp only[VJ];omega⟩
 .have u:gs.length<=j:=by simpa using n
  rw[YA u,mE]at e;refine⟨_,_,Rs2,?_⟩;refine sd (g:=t) h λx h=>⟨_,rfl,λd=>?_,λd=>?_⟩
  .have:¬t.ok:=by simpa using d
   rw[V4 this]at e;refine St2 h λ_ h=>?_;refine⟨_,_,Rs2,?_⟩
   have:=k _ h.tl.tl;rw[e]at this;exact this
  .have:t.ok:=by simpa using d
   rw[V5 this]at e
   repeat (first|refine St2 h λ_ h=>?_|refine⟨_,_,Rs2,?_⟩)
   have:=k _ h.tl.tl;rw[e]at this;exact this
theorem ue{a:KQ}{c:Nat}{gs:List Gp}(h:aA H F)(d:∀H,aA H F->aP H a (flat jR gs))(e:gs.length<=1000000)
  (k:∀b,aA b F->K (.tuple #[jS (kQ gs).1,aD (kQ gs).2]) b) :
  CF 236 #[.slice a gs.length c] H K:=by
 refine cM 236 284 ?_;refine h.al λ_ _ h=>?_;refine h.al λ_ _ h=>?_;refine St2 h λ_ h=>?_;refine⟨_,_,Rs2,?_⟩
 refine Rl (s:=⟨_,_⟩) h (λH h=>d H h.tl.tl) e λb h=>⟨_,_,_,rfl,?_⟩
 refine St2 h λ_ h=>?_;refine⟨_,_,Rs2,?_⟩
 exact k _ h.tl.tl
theorem Rm{a:KQ}{c:Nat}{gs:List Gp}(h:aA H F)(d:∀H,aA H F->aP H a (flat jR gs))(e:gs.length<=1000000)
  (k:∀b,aA b F->K (.bool (pj gs)) b) :
  CF 149 #[.slice a gs.length c] H K:=by
 refine cM 149 284 ?_;refine ue h d e λb h=>⟨_,_,_,rfl,?_⟩
 refine h.al λ_ _ h=>?_;refine St1 h λ_ h=>?_
 have:=k _ h.tl;unfold pj at this;rw[show decide (0<gs.length)=decide (0<(gs.length:Int)) by rw[decide_eq_decide];omega]at this;exact this
theorem Rn{g:Gp}(h:aA H F)(k:∀b,aA b F->K (.int .u64 (wA g)) b):CF 292 #[jS g] H K:=by
 refine cM 292 476 ?_;refine h.al λ_ _ h=>?_;refine⟨_,_,Rs1,?_⟩
 refine sd (g:=g) h λb h=>⟨_,rfl,λa=>?_,λa=>?_⟩
 .have:¬g.ok:=by simpa using a
  unfold wA at k;rw[V4 this]at k;exact k _ h.tl
 .have:g.ok:=by simpa using a
  unfold wA at k;rw[V5 this]at k;refine⟨_,Ra1,?_⟩;refine⟨_,Ra1,?_⟩;exact k _ h.tl
theorem Mid_spec{g:Gp}(h:aA H F)(k:∀b,aA b F->K (aD (midS g)) b):CF 293 #[jS g] H K:=by
 refine cM 293 476 ?_;refine h.al λ_ _ h=>?_;refine⟨_,_,Rs1,?_⟩
 refine sd (g:=g) h λb h=>⟨_,rfl,λa=>?_,λa=>?_⟩
 .have:¬g.ok:=by simpa using a
  unfold midS at k;rw[V4 this]at k;exact k _ h.tl
 .have:g.ok:=by simpa using a
  unfold midS at k;rw[V5 this]at k;refine⟨_,Ra1,?_⟩;refine⟨_,Ra1,?_⟩;refine⟨_,Ra1,?_⟩;refine⟨_,Ra1,?_⟩;refine⟨by decide,?_⟩;exact k _ h.tl
theorem zZ{g:Gd}(h:aA H F)(k:∀a,aA a F->K (.bool (decide g.ok)) a):CF 248 #[ud g] H K:=by
 refine cM 248 28 ?_
 repeat (first|refine h.al λ_ _ h=>?_|refine⟨_,Ra1,?_⟩|refine⟨_,λ_=>Ra1,?_⟩)
 have:=k _ h.tl;have e:decide g.ok=((((((decide (1<=g.width))&&(decide (g.width<=1099511627776)))&&(decide (0<=g.policy)))&&(decide (g.policy<=3)))&&(decide (0<=g.most)))&&(decide (g.most<=4611686018427387903))):=by
  rw[Wp];simp only[VB,VA]
  constructor
  .rintro⟨h1,h2,h3,h4,h5,h6⟩;exact⟨⟨⟨⟨⟨h1,h2⟩,h3⟩,h4⟩,h5⟩,h6⟩
  .rintro⟨⟨⟨⟨⟨h1,h2⟩,h3⟩,h4⟩,h5⟩,h6⟩;exact⟨h1,h2,h3,h4,h5,h6⟩
 rw[e]at this;exact this
theorem Iw{g:Gd}(h:aA H F)(k:∀b,aA b F->K (.tuple #[ud (if g.ok then g else ⟨0,0,0⟩),aD (if g.ok then 0 else 11)]) b) :
  CF 180 #[aD g.width,aD g.policy,aD g.most] H K:=by
 refine cM 180 4572 ?_;refine h.al λ_ _ h=>?_;refine h.al λ_ _ h=>?_;refine St2 h λ_ h=>?_;refine⟨_,_,_,Rs2,?_⟩
 refine zZ (g:=g) h λb h=>⟨_,rfl,λa=>?_,λa=>?_⟩
 .have:¬g.ok:=by simpa using a
  rw[V4 this,V4 this]at k;refine St2 h λ_ h=>?_;refine⟨_,_,_,Rs2,?_⟩
  exact k _ h.tl.tl
 .have:g.ok:=by simpa using a
  rw[V5 this,V5 this]at k
  repeat (first|refine St2 h λ_ h=>?_|refine⟨_,_,_,Rs2,?_⟩)
  exact k _ h.tl.tl
theorem wH{g:Gd}{t:Int}(h:aA H F)(k:∀c,aA c F->K (aD (fN g t)) c):CF 160 #[ud g,aD t] H K:=by
 refine cN 160 7803597980 [[(5,sI)]] ?_;refine h.al λ_ _ h=>?_;refine⟨_,_,_,Rs1,?_⟩
 refine zZ (g:=g) h λc h=>⟨_,rfl,λb=>?_,λb=>?_⟩
 .have:¬g.ok:=by simpa using b
  unfold fN at k;rw[V4 this]at k;exact k _ h.tl
 .have d:g.ok:=by simpa using b
  unfold fN at k;rw[V5 d]at k;have h0:g.width≠0:=by unfold Gd.ok at d;omega
  refine⟨_,h.r 0,h0,_,h.r 0,h0,λf e=>⟨λa=>e _ _ ?_,λa=>e _ _ ?_⟩⟩
  .skip
   rw[V5 (by simpa using a)]at k;exact k _ h.tl
  .skip
   rw[V4 (by simpa using a)]at k;exact k _ h.tl
theorem Ix{g:Gd}{x:Gp}(h:aA H F)(k:∀b,aA b F->K (.tuple #[aD (dM g x).1,aD (dM g x).2.1,aD (dM g x).2.2]) b) :
  CF 240 #[ud g,jS x] H K:=by
 refine cM 240 7644 ?_;refine h.al λ_ _ h=>?_;refine h.al λ_ _ h=>?_;refine⟨_,_,_,Rs2,?_⟩
 unfold dM at k;refine zZ (g:=g) h λb h=>⟨_,rfl,λa=>?_,λa=>?_⟩
 .have:¬g.ok:=by simpa using a
  rw[V4 this]at k;exact k _ h.tl.tl
 .have:g.ok:=by simpa using a
  rw[V5 this]at k;refine⟨_,_,Rs2,?_⟩;refine sd (g:=x) h λb h=>⟨_,rfl,λa=>?_,λa=>?_⟩
  .have:¬x.ok:=by simpa using a
   rw[V4 this]at k;exact k _ h.tl.tl
  .have:x.ok:=by simpa using a
   rw[V5 this]at k
   repeat (first|refine⟨_,Ra2,?_⟩|refine⟨_,_,_,Rs2,?_⟩)
   refine wH (g:=g) h λb h=>⟨_,rfl,h.r 0,h.q 1,?_⟩
   refine wH (g:=g) h λb h=>⟨_,rfl,?_⟩
   exact k _ h.tl.tl
theorem Rq{g:Gd}{x:Gp}(h:aA H F)(k:∀b,aA b F->K (.tuple #[aD (mG g x).1,aD (mG g x).2]) b) :
  CF 242 #[ud g,jS x] H K:=by
 refine cM 242 0x11dd21513c13cbdc ?_;refine h.al λ_ _ h=>?_;refine h.al λ_ _ h=>?_;refine⟨_,_,_,Rs2,?_⟩;refine⟨_,_,Rs2,?_⟩
 unfold mG at k;refine Ix (g:=g) (x:=x) h λb h=>⟨_,_,_,rfl,λa=>?_,λa=>?_⟩
 .rw [V5 (by simpa using a)]at k;exact k _ h.tl.tl
 .rw [V4 (by simpa using a)]at k
  repeat (first|refine⟨_,Ra2,?_⟩|refine⟨_,_,Rs2,?_⟩)
  refine Rn (g:=x) h λb h=>⟨_,rfl,h.r 1,λa=>?_,λa=>?_⟩
  .rw [V5 (by simpa using a)]at k;exact k _ h.tl.tl
  .rw [V4 (by simpa using a)]at k;refine⟨_,Ra2,?_⟩;refine⟨λa=>?_,λa=>?_⟩
   .rw [V5 (by simpa using a)]at k;exact k _ h.tl.tl
   rw[V4 (by simpa using a)]at k;refine⟨λa=>?_,λa=>?_⟩
   .rw [V5 (by simpa using a)]at k;exact k _ h.tl.tl
   rw[V4 (by simpa using a)]at k;refine⟨λa=>?_,λa=>?_⟩
   .rw [V5 (by simpa using a)]at k;refine⟨_,_,_,Rs2,?_⟩;refine⟨_,_,Rs2,?_⟩;refine Mid_spec (g:=x) h λb h=>⟨_,rfl,h.q 1,?_⟩
    refine wH (g:=g) h λb h=>⟨_,rfl,?_⟩
    exact k _ h.tl.tl
   rw[V4 (by simpa using a)]at k;refine⟨λa=>?_,λa=>?_⟩
   .rw [V5 (by simpa using a)]at k;exact k _ h.tl.tl
   .rw [V4 (by simpa using a)]at k;exact k _ h.tl.tl
end
def ckA(b:Nat)(c:Ck):aE:=exS λp:KQ×Nat=>cellsA b [.int .i64 c.rho,.int .i64 c.least,.bool c.held,.int .i64 c.streak,.slice p.1 c.smps.length p.2] 289*slA 58 4 p.1 c.smps.length p.2 (flat eW c.smps)
theorem gN{H:aC}{b:Nat}{c:Ck}{L:List aE}:aA H (ckA b c::L)↔∃a k,aA H (cellsA b [.int .i64 c.rho,.int .i64 c.least,.bool c.held,.int .i64 c.streak,.slice a c.smps.length k] 289::slA 58 4 a c.smps.length k (flat eW c.smps)::L):=by
 unfold ckA;rw[cK]
 constructor
 .rintro⟨p,h⟩;exact⟨p.1,p.2,gy.1 h⟩
 .rintro⟨a,k,h⟩;exact⟨(a,k),gy.2 h⟩
theorem aP.subK{H:aC}{a:KQ}{cs:Os}{k c sz:Nat}(h:aP H a cs)(s:cs.length<=c*sz):aP H (cq a k c sz) (cs.drop (k*sz)):=by
 intro j v d;have b:aT cs (k*sz+j)=Option.some v:=by
  rw[fL]at d ⊢;rw[List.getElem?_drop]at d;exact d
 obtain⟨n,f⟩:=h (k*sz+j) v b;have m:=og b;have i:c≠k:=by rintro rfl;omega
 have e:cq a k c sz=Option.some ⟨aV a,aS a+k*sz,none⟩:=by
  unfold cq;rw[nO,n,Wj,iQ];rfl
 rw[e];refine⟨rfl,?_⟩;show aL H (aV a) (aS a+k*sz+j)=Option.some v;rw[Wy];exact f
theorem uf:SlT Tryz.prog 267 58 4 32:=iu (by kernel_rfl)
theorem sl239:SlT Tryz.prog 309 89 2 16:=iu (by kernel_rfl)
section
variable {F L:List aE}{H:aC}{K:KE}
theorem isTime_spec{t:Int}:bV Tryz.prog 228 #[aD t] H (.bool (decide (gM t))):=by
 refine cM 228 28 ⟨congrArg Value.bool ?_,rfl⟩;rw[Wp];simp only[VB,VA,gM]
theorem Iy{t:Int}:bV Tryz.prog 232 #[aD t] H (.bool (decide (gA t))):=by
 refine cM 232 28 ⟨congrArg Value.bool ?_,rfl⟩;rw[Wp];simp only[VB,VA,gA]
theorem wI{s:bQ}(h:aA H F)(k:∀a,aA a F->K (.bool (decide s.ok)) a):CF 139 #[aggSm s] H K:=by
 refine cM 139 28 ?_;refine h.al λb _ h=>?_
 refine⟨_,h.r 0,_,isTime_spec,_,λ_=>h.r 0,_,λ_=>isTime_spec,_,λ_=>h.r 0,_,λ_=>isTime_spec,_,λ_=>h.r 0,_,λ_=>isTime_spec,_,λ_=>h.r 0,_,λ_=>h.r 0,_,λ_=>h.r 0,_,λ_=>h.r 0,?_⟩
 have:=k _ h.tl;have e:decide s.ok=(((((decide (gM s.asked)&&decide (gM s.got))&&decide (gM s.sent))&&decide (gM s.came))&&(decide (s.asked<=s.came)))&&(decide (s.got<=s.sent))):=by
  rw[Wp];simp only[VB,VA]
  constructor
  .rintro⟨h1,h2,h3,h4,h5,h6⟩;exact⟨⟨⟨⟨⟨h1,h2⟩,h3⟩,h4⟩,h5⟩,h6⟩
  .rintro⟨⟨⟨⟨⟨h1,h2⟩,h3⟩,h4⟩,h5⟩,h6⟩;exact⟨h1,h2,h3,h4,h5,h6⟩
 rw[e]at this;exact this
theorem wJ{s:bQ}{stamp rho:Int}(h:aA H F)(k:∀b,aA b F->K (.tuple #[jS (iT s stamp rho).1,aD (iT s stamp rho).2]) b) :
  CF 148 #[aggSm s,aD stamp,aD rho] H K:=by
 refine OR ?_;refine h.al λb0 _ h=>?_
 refine h.al λb1 _ h=>?_
 refine⟨_,_,_,_,h.q 1,?_⟩;unfold iT at k;refine wI (s:=s) h λb h=>⟨_,rfl,λa=>?_,λa=>?_⟩
 .have:¬s.ok:=by simpa using a
  rw[V5 this]at k;refine St2 h λ_ h=>?_;refine⟨_,_,Rs2,?_⟩
  exact k _ h.tl.tl
 .have hs:s.ok:=by simpa using a
  rw[V4 (by simpa using hs)]at k;have c:=hs.wf;refine⟨_,isTime_spec,_,λ_=>Iy,λa=>?_,λa=>?_⟩
  .have:¬gM stamp\/¬gA rho:=by
    simp only[VR,Wb,VD]at a;exact a
   rw[V5 this]at k;refine St2 h λ_ h=>?_;refine⟨_,_,Rs2,?_⟩
   exact k _ h.tl.tl
  .have f:¬(¬gM stamp\/¬gA rho):=by
    simp only[VP,Wq,VA]at a;rintro (h|h)
    .exact h a.1
    .exact h a.2
   rw[V4 f]at k;have d:gM stamp:=by
    rcases Classical.em (gM stamp) with h|h
    .exact h
    .exact V6 (.inl h) f
   dsimp only at k;have j:=hs;unfold bQ.ok gM at hs;unfold gM at d;refine⟨_,Ra2,?_⟩;dsimp only;rw[aJ (x:=stamp-s.got)];refine Iv (by unfold aF;omega) ⟨_,_,rfl,?_⟩;refine⟨_,Ra2,?_⟩;dsimp only;rw[aJ (x:=stamp-s.sent)];refine Ri (by unfold aF;omega) ⟨_,_,rfl,?_⟩;refine⟨_,h.r 1,_,h.r 1,_,_,Gt c.2.2.2 (highS_wf _ _),?_⟩;have last:∀hi:Int,hi=(if (j4 s.came (pf (stamp-s.sent) rho).1).2≠0 then 4611686018427387903 else (j4 s.came (pf (stamp-s.sent) rho).1).1)->zg.r1 K b1 (lowS (stamp-s.got) rho).1 s.asked hi b:=by
    intro hi i;rw[<-i]at k;unfold zg.r1;refine⟨λa=>?_,λa=>?_⟩
    .rw [V5 (by simpa using a)]at k;refine St2 h λ_ h=>?_;refine⟨_,_,Rs2,?_⟩
     exact k _ h.tl.tl
    .rw [V4 (by simpa using a)]at k;refine St2 h λ_ h=>?_;refine⟨_,_,Rs2,?_⟩
     exact k _ h.tl.tl
   refine λm e=>⟨λa=>e _ _ (last _ ?_),λa=>e _ _ (last _ ?_)⟩
   .rw [V5 (by simpa using a)]
   .rw [V4 (by simpa using a)]
theorem Iz{rho least:Int}(h:aA H F)(k1:¬(gA rho/\0<=least/\least<=100)->K (.tuple #[.pointer none,aD 11]) H)
  (k2:gA rho/\0<=least/\least<=100->∀b c,aA c (ckA b ⟨rho,least,false,0,[]⟩::F)->K (.tuple #[.pointer (some ⟨b,0,none⟩),aD 0]) c) :
  CF 182 #[aD rho,aD least] H K:=by
 refine cM 182 476 ?_;refine⟨_,Iy,λa=>k1 ?_,λa=>?_⟩
 .simp only[VR,Wb,VD,VA]at a;rintro⟨h1,h2,h3⟩
  rcases a with (h|h)|h
  .exact h h1
  .omega
  .omega
 .simp only[VP,Wq,VA,VD]at a;have h:=h.sl_nil 58 4;refine h.al λb _ h=>?_
  exact k2 ⟨a.1.1,by omega,by omega⟩ _ _ (gN.2 ⟨none,0,h⟩)
theorem ug{b:Nat}{c:Ck}(h:aA H (ckA b c::F)):bV Tryz.prog 69 #[.pointer (some ⟨b,0,none⟩)] H (.bool c.held):=by
 obtain⟨a,n,h⟩:=gN.1 h;exact cM 69 28 ⟨_,h.r 0,rfl,rfl⟩
theorem Rr{b:Nat}{c:Ck}(h:aA H (ckA b c::F)):bV Tryz.prog 121 #[.pointer (some ⟨b,0,none⟩)] H (aD c.streak):=by
 obtain⟨a,n,h⟩:=gN.1 h;exact cM 121 28 ⟨_,h.r 0,rfl,rfl⟩
theorem Aa{a:KQ}{c:Nat}{l:List bQ}(h:aA H F)(n:∀H,aA H F->aP H a (flat eW l))(w:l.length<=1000000)
  (k:∀e f d,aA d (slA 58 4 e l.length f (flat eW l)::F)->K (.slice e l.length f) d):CF 134 #[.slice a l.length c] H K:=by
 refine cM 134 476 ⟨λj=>?_,λj=>?_⟩
 .have:a=none:=by simpa using j
  subst this;have v:=ol (n H h);have:l=[]:=by
   have:=congrArg List.length v;rw[fg kD]at this;exact WN (by simp at this;omega)
  subst this;exact k none 0 H (h.sl_nil 58 4)
 .refine h.al λb _ h=>?_
  have s:=n _ h.tl;have u:=aA.sl_pt (cs:=[]) h 4 0 rfl;refine aA.append (m:=l.length) uf u 0 rfl s (fg kD l) (lC zY l) (by omega) (by omega) λe f d t=>⟨_,_,_,rfl,?_⟩
  have i:aA d (slA 58 4 e (0+l.length) f ([]++flat eW l)::F):=t;rw[VX,Wl]at i;have:=k e f d i;rw[<-VX l.length]at this;exact this
theorem Rs{a:KQ}{c:Nat}{l:List bQ}{j:Nat}(u:j<=l.length)(h:aA H (slA 58 4 a l.length c (flat eW l)::F))
  (k:∀b,aA b (slA 58 4 a (l.length-j) c (flat eW (l.drop j))::F)->K (.slice a (l.length-j) c) b):CF 147 #[.slice a l.length c,aD 0,aD j] H K:=by
 have s:=h.sl_nc 0 rfl;refine cM 147 18682140 ?_;refine⟨⟨by omega,by omega,by omega,by omega⟩,λd=>?_,λd=>?_⟩
 .have:j=0:=by simp only[VA]at d;omega
  subst this;exact k H h
 .have hj0:0<j:=by simp only[VD]at d;omega
  refine⟨⟨by omega,by omega,by omega⟩,⟨by omega,by omega,by omega⟩,?_⟩;have e:=h.sl_rd 0 rfl;have hs:=e.some kD (by omega) (k:=0) (by omega);have e0:cq a 0 c 4=a:=by
   unfold cq;rw[nO,hs,Wj,iQ];simp
  have i:=e.subK (k:=j) (c:=c) (sz:=4) (by rw[fg kD];omega);rw[tv kD]at i;have m:=h.sl_take 0 rfl 0 (by omega);simp only[Yl,Yi]at m;show cB Tryz.prog (Builtin.append_ #[267,267] 267 #[.slice (cq a 0 c 4) 0 c,.slice (cq a j c 4) (l.length-j) (c-j)]) H _;rw[e0];refine aA.appendIn uf m 0 rfl i (by rw[fg kD,VU]) (lC zY _) (by omega) λb n=>⟨_,_,_,rfl,⟨by omega,by omega,by omega⟩,?_⟩
  rw[VX];have f:aA b (slA 58 4 a (0+(l.length-j)) c ([]++flat eW (l.drop j))::F):=n;rw[VX,Wl]at f;exact aA.clearS uf (by kernel_rfl) f 0 rfl (by omega) λ_ v t=>k _ t
theorem Ab{b:Nat}{c:Ck}(h:aA H (ckA b c::F))(i:c.smps.length<=1000000)
  (k:∀d f e,aA e (slA 58 4 d c.smps.length f (flat eW c.smps)::ckA b c::F)->K (.slice d c.smps.length f) e):CF 120 #[.pointer (some ⟨b,0,none⟩)] H K:=by
 obtain⟨a,n,h⟩:=gN.1 h;refine cM 120 28 ⟨_,_,_,h.r 0,?_⟩;refine Aa h (λH h=>h.sl_rd 1 rfl) i λd f e h=>⟨_,_,_,rfl,k _ _ _ ?_⟩
 have h:=h.o [1,2,0] 3;have h:=gN.2 ⟨_,_,h⟩;exact h.o [1,0] 2
theorem Rt{b:Nat}{c:Ck}(h:aA H (ckA b c::F))(f:c.smps.length<=1000000)
  (k:∀e d,aA d (ckA e c::ckA b c::F)->K (.pointer (some ⟨e,0,none⟩)) d):CF 62 #[.pointer (some ⟨b,0,none⟩)] H K:=by
 obtain⟨a,n,h⟩:=gN.1 h;refine cM 62 4380 ?_;refine⟨_,_,_,_,_,_,_,h.q 0,?_⟩;refine h.al λ_ _ h=>?_;refine St3 h λ_ h=>?_
 refine⟨_,_,_,h.r 1,?_⟩;refine Aa h (λH h=>h.sl_rd 2 rfl) f λi j d h=>⟨_,_,_,rfl,?_⟩
 refine St4 h λ_ h=>?_
 refine k _ _ ?_;have h:=h.o [1,0,2,3] 4;have h:=gN.2 ⟨_,_,h⟩;have h:=h.o [1,2,0] 3;have h:=gN.2 ⟨_,_,h⟩;exact h.o [1,0] 2
theorem Ru{b:Nat}{c:Ck}{held:Bool}{streak:Int}{a0:KQ}{n0:Nat}{l:List bQ}(h:aA H (ckA b c::F))(x:∀H,aA H F->aP H a0 (flat eW l))
  (k1:¬(l.length<=8/\0<=streak/\∀s∈l,s.ok)->∀e,aA e (ckA b c::F)->K (aD 10) e)
  (k2:(l.length<=8/\0<=streak/\∀s∈l,s.ok)->∀e,aA e (ckA b ⟨c.rho,c.least,held,streak,l⟩::F)->K (aD 0) e) :
  CF 261 #[.pointer (some ⟨b,0,none⟩),.bool held,aD streak,.slice a0 l.length n0] H K:=by
 refine cN 261 0x1d215612399251b41c [[(20,sI)]] ?_;refine⟨λk=>k1 ?_ _ h,λk=>?_⟩
 .simp only[VR,VA]at k;omega
 .have u:l.length<=8/\0<=streak:=by simp only[VP,VD]at k;omega
  refine⟨λi e=>∃j:Nat,i=j/\j<=l.length/\(∀s∈l.take j,s.ok)/\aA e (ckA b c::F),λi _=>l.length-i.toNat,⟨0,rfl,Wd _,λ_ hs=>by simp at hs,h⟩,?_⟩
  rintro i B ⟨j,rfl,D,f,h⟩;refine⟨λk=>?_,λk=>?_⟩
  .have d:j<l.length:=by simpa using k
   have w:=x _ h.tl;refine⟨⟨by omega,by omega⟩,_,_,w.some kD (by omega) d,_,_,_,_,w.els kD d,?_⟩;refine h.al λ_ _ h=>?_;refine St1 h λ_ h=>?_;refine⟨_,_,_,_,Rs1,?_⟩
   refine wI (s:=l[j]) h λE h=>⟨_,rfl,λm=>?_,λm=>?_⟩
   .have:¬(l[j]).ok:=by simpa using m
    exact k1 (λA=>this (A.2.2 _ (VL d))) _ h.tl
   .have t:(l[j]).ok:=by simpa using m
    have y:i64.wrap ((j:Int)+1)=((j+1:Nat):Int):=by rw[aJ];omega
    conv=>whnf
    rw[y];refine⟨⟨j+1,rfl,d,λs hs=>?_,h.tl⟩,by simp only[VJ];omega⟩
    rw[List.take_add_one,List.getElem?_eq_getElem d]at hs
    rcases VV.1 hs with hs|hs
    .exact f s hs
    .simp at hs;rw[hs];exact t
  .have v:l.length<=j:=by simpa using k
   rw[Wc v]at f;obtain⟨a,n,h⟩:=gN.1 h;refine Aa h (λH h=>x H h.tl.tl) (by omega) λC G e h=>⟨_,_,_,rfl,?_⟩
   refine St2 h λ_ h=>?_;refine St2 h λ_ h=>?_;refine St2 h λ_ h=>?_
   refine k2 ⟨u.1,u.2,f⟩ _ ?_;have h:=h.o [1,0] 3;exact gN.2 ⟨_,_,h⟩
end
theorem dn{p:Prop}[Decidable p](h:(!decide p)=true):¬p:=by simpa using h
theorem dy{p:Prop}[Decidable p](h:(!decide p)=false):p:=by simpa using h
section
variable {F L:List aE}{H:aC}{K:KE}
theorem Rv{b:Nat}{c:Ck}{stamp:Int}(L:c.smps.length<=8)(h:aA H (ckA b c::F))
  (k:∀m,aA m (ckA b c::F)->K (.tuple #[jS (ckAt c stamp).1,aD (ckAt c stamp).2]) m) :
  CF 244 #[.pointer (some ⟨b,0,none⟩),aD stamp] H K:=by
 obtain⟨a,n,h⟩:=gN.1 h;refine cN 244 0x1dd121561239925128d44c [[(9,sA),(10,sI)],[(6,sS),(33,sI)]] ?_;unfold ckAt at k;refine h.al λb0 _ h=>?_
 refine⟨_,_,_,h.r 1,λd=>?_,λd=>?_⟩
 .have:c.smps=[]:=by simpa using d
  rw[V5 this]at k;refine St1 h λ_ h=>?_;refine⟨_,_,Rs1,?_⟩
  exact k _ (gN.2 ⟨_,_,h.tl⟩)
 have B:c.smps≠[]:=by simpa using d
 rw[V4 B]at k;refine⟨_,isTime_spec,λd=>?_,λd=>?_⟩
 .have:¬gM stamp:=dn d;rw[V5 this]at k;refine St1 h λ_ h=>?_;refine⟨_,_,Rs1,?_⟩
  exact k _ (gN.2 ⟨_,_,h.tl⟩)
 have v:gM stamp:=dy d;rw[V4 (not_not_intro v)]at k;refine⟨_,_,_,h.r 1,?_⟩;refine h.mk0 sl239 (by omega) (by omega) λt N h=>⟨_,_,_,rfl,_,_,_,h.r 2,?_⟩
 refine⟨λt D w i m=>∃(j:Nat) (gs:List Gp),i=j/\j<=c.smps.length/\D=gs.length/\gs.length=j/\
   nN c.rho stamp c.smps=(gs++(nN c.rho stamp (c.smps.drop j)).1,(nN c.rho stamp (c.smps.drop j)).2)/\
   aA m (slA 89 2 t gs.length w (flat jR gs)::cellsA b0 [aD 0,aD 0] 89::cellsA b [aD c.rho,aD c.least,.bool c.held,aD c.streak,.slice a c.smps.length n] 289::slA 58 4 a c.smps.length n (flat eW c.smps)::F),
  λ_ _ _ i _=>c.smps.length-i.toNat,⟨0,[],rfl,Wd _,rfl,rfl,rfl,h⟩,?_⟩
 rintro t D w i P ⟨j,gs,rfl,O,rfl,y,e,h⟩;refine⟨λd=>?_,λd=>?_⟩
 .have f:j<c.smps.length:=by simpa using d
  have C:=h.sl_rd 3 rfl;rw[Wx f,nN]at e;refine⟨⟨by omega,by omega⟩,_,_,C.some kD (by omega) f,_,_,_,_,C.els kD f,?_⟩;refine h.al λ_ _ h=>?_;refine St1 h λ_ h=>?_
  refine λE G=>?_
  have fin:∀gb A,aA A (cellsA gb (jR (iT c.smps[j] stamp c.rho).1) 89::slA 89 2 t gs.length w (flat jR gs)::cellsA b0 [aD 0,aD 0] 89::cellsA b [aD c.rho,aD c.least,.bool c.held,aD c.streak,.slice a c.smps.length n] 289::slA 58 4 a c.smps.length n (flat eW c.smps)::F)->E gb 0 (iT c.smps[j] stamp c.rho).2 A:=by
   intro gb A h;refine G _ _ _ _ ?_;refine⟨λd=>?_,λd=>?_⟩
   .have u:(iT c.smps[j] stamp c.rho).2≠0:=by simpa using d
    rw[V5 u]at e;rw[e,V5 u]at k;refine St3 h λ_ h=>?_;refine⟨_,_,Rs3,?_⟩
    exact k _ (gN.2 ⟨_,_,h.tl.tl.tl⟩)
   .have u:¬(iT c.smps[j] stamp c.rho).2≠0:=by simpa using d
    rw[V4 u]at e;refine⟨_,_,h.q 0,?_⟩;rintro b3 _ rfl rfl;refine h.append1 sl239 1 rfl rfl rfl (by omega) (by omega) λM Q m h=>⟨_,_,_,rfl,?_⟩
    have I:i64.wrap ((j:Int)+1)=((j+1:Nat):Int):=by rw[aJ];omega
    conv=>whnf
    rw[I];have h:=h.tl;refine⟨⟨j+1,gs++[(iT c.smps[j] stamp c.rho).1],rfl,f,by simp,by simp[y],?_,?_⟩,by simp only[VJ];omega⟩
    .rw [e,VK];rfl
    .rw [dS,nA,V7];exact h
  refine⟨_,_,_,_,h.q 0,_,h.r 3,?_,?_⟩
  .refine wJ (s:=c.smps[j]) h λm h=>⟨_,_,_,rfl,?_⟩
   refine h.al λ_ _ h=>?_;refine St1 h λ_ h=>?_
   exact fin _ _ (h.o [0] 2)
  .refine h.al λb5 _ h=>?_
   refine⟨h.r 4,h.q 1,?_⟩;refine wJ (s:=c.smps[j]) h λm h=>⟨_,_,_,rfl,?_⟩
   refine St1 h λ_ h=>?_
   exact fin _ _ (h.o [0] 2)
 .have x:c.smps.length<=j:=by simpa using d
  rw[YA x,nN,We]at e;rw[e,V4 (λJ=>J rfl)]at k
  refine ue (gs:=gs) h (λH h=>h.sl_rd 0 rfl) (by omega) λm h=>⟨_,_,_,rfl,?_⟩
  refine St2 h λ_ h=>?_;refine⟨_,_,Rs2,?_⟩
  exact k _ (gN.2 ⟨_,_,h.tl.tl⟩)
theorem Rw{a:KQ}{c n:Nat}{gs:List Gp}(f:gs.length=n)(h:aA H F)(d:∀H,aA H F->aP H a (flat jR gs))(e:n<=1000000)
  (k:∀b,aA b F->K (.bool (pj gs)) b) :
  CF 149 #[.slice a n c] H K:=by
 subst f;exact Rm h d e k
theorem Rz{b:Nat}{c:Ck}{s:bQ}(ok:CkOk c)(h:aA H (ckA b c::F))
  (k:∀u,aA u (ckA b (kS c s).1::F)->K (aD (kS c s).2) u) :
  CF 67 #[.pointer (some ⟨b,0,none⟩),aggSm s] H K:=by
 obtain⟨a,n,h⟩:=gN.1 h;have h3:=ok.len;have h5:=ok.st;refine Pa ?_;unfold kS at k;refine h.al λb0 _ h=>?_
 refine⟨_,_,_,_,h.q 0,?_⟩;refine wI (s:=s) h λu h=>⟨_,rfl,λd=>?_,λd=>?_⟩
 .have:¬s.ok:=by simpa using d
  rw[V5 this]at k;exact k _ (gN.2 ⟨_,_,h.tl⟩)
 have hs:s.ok:=by simpa using d
 rw[V4 (by simpa using hs)]at k;refine⟨_,_,_,h.r 1,_,_,_,_,h.q 0,?_⟩;rintro b1 _ rfl rfl;have E:=(h.push (.cells #[aD s.asked,aD s.got,aD s.sent,aD s.came] 58 (0,0))).rd 2 rfl 4;refine⟨E,?_⟩;refine h.append1 uf 2 rfl rfl rfl (by omega) (by omega) λa1 c1 H1 h=>⟨_,_,_,rfl,?_⟩
 have ef:flat eW c.smps++[aD s.asked,aD s.got,aD s.sent,aD s.came]=flat eW (c.smps++[s]):=by rw[dS,nA]
 rw[ef]at h;have h6:∀x∈(if 8<c.smps.length+1 then (c.smps++[s]).drop 1 else c.smps++[s]),x.ok:=by
  intro x hx;have:x∈c.smps++[s]:=by
   split at hx
   .exact WH hx
   .exact hx
  rcases VV.1 this with Q|Q
  .exact ok.ok x Q
  .rw [VI]at Q;rw[Q];exact hs
 have rest:∀(l:List bQ) (a2:KQ) (c2:Nat) (R:aC),l.length<=8->l.getLast?=some s->(∀u,
    aA u (ckA b (if pj (l.map (iU c.rho s.sent)) then
     ({ c with streak:=if c.streak<9223372036854775807 then c.streak+1 else c.streak,held:=if c.least<=(if c.streak<9223372036854775807 then c.streak+1 else c.streak) then false else c.held,smps:=l },(0:Int))
     else ({ c with held:=true,streak:=0,smps:=if (iU c.rho s.sent s).ok then [s] else [] },21)).1::F)->
    K (aD (if pj (l.map (iU c.rho s.sent)) then
     ({ c with streak:=if c.streak<9223372036854775807 then c.streak+1 else c.streak,held:=if c.least<=(if c.streak<9223372036854775807 then c.streak+1 else c.streak) then false else c.held,smps:=l },(0:Int))
     else ({ c with held:=true,streak:=0,smps:=if (iU c.rho s.sent s).ok then [s] else [] },21)).2) u)->
   aA R (cellsA b0 [aD s.asked,aD s.got,aD s.sent,aD s.came] 58::cellsA b [aD c.rho,aD c.least,.bool c.held,aD c.streak,.slice a2 l.length c2] 289::slA 58 4 a2 l.length c2 (flat eW l)::F)->
   zi.r7 b 0 K b0 R:=by
  intro l a2 c2 R h3 t k h;unfold zi.r7;refine⟨_,_,_,h.r 1,?_⟩;refine h.mk0 sl239 (by omega) (by omega) λI H6 h=>⟨_,_,_,rfl,_,_,_,h.r 2,?_⟩
  refine⟨λI gn J i u=>∃(j:Nat),i=j/\j<=l.length/\j=gn/\
    aA u (slA 89 2 I j J (flat jR ((l.take j).map (iU c.rho s.sent)))::cellsA b0 [aD s.asked,aD s.got,aD s.sent,aD s.came] 58::cellsA b [aD c.rho,aD c.least,.bool c.held,aD c.streak,.slice a2 l.length c2] 289::slA 58 4 a2 l.length c2 (flat eW l)::F),
   λ_ _ _ i _=>l.length-i.toNat,⟨0,rfl,Wd _,rfl,h⟩,?_⟩
  rintro I gn J i H7 ⟨j,rfl,hj,rfl,h⟩;refine⟨λd=>?_,λd=>?_⟩
  .have m:j<l.length:=by simpa using d
   have L:=h.sl_rd 3 rfl;refine⟨⟨by omega,by omega⟩,_,_,L.some kD (by omega) m,_,_,_,_,L.els kD m,?_⟩;refine h.al λ_ _ h=>?_;refine St1 h λ_ h=>?_
   refine λJn P=>?_
   have fin:∀gb B,aA B (cellsA gb (jR (iT l[j] s.sent c.rho).1) 89::slA 89 2 I j J (flat jR ((l.take j).map (iU c.rho s.sent)))::cellsA b0 [aD s.asked,aD s.got,aD s.sent,aD s.came] 58::cellsA b [aD c.rho,aD c.least,.bool c.held,aD c.streak,.slice a2 l.length c2] 289::slA 58 4 a2 l.length c2 (flat eW l)::F)->Jn gb 0 (iT l[j] s.sent c.rho).2 B:=by
    intro gb B h;refine P _ _ _ _ ?_;refine λh0 h2=>?_
    have w:∀C,aA C (cellsA gb (jR (iU c.rho s.sent l[j])) 89::slA 89 2 I j J (flat jR ((l.take j).map (iU c.rho s.sent)))::cellsA b0 [aD s.asked,aD s.got,aD s.sent,aD s.came] 58::cellsA b [aD c.rho,aD c.least,.bool c.held,aD c.streak,.slice a2 l.length c2] 289::slA 58 4 a2 l.length c2 (flat eW l)::F)->h0 C:=by
     intro C h;refine h2 _ ?_;refine⟨_,_,h.q 0,?_⟩;rintro b4 _ rfl rfl;refine h.append1 sl239 1 rfl rfl rfl (by omega) (by omega) λa' c' u h=>⟨_,_,_,rfl,?_⟩
     have Z:i64.wrap ((j:Int)+1)=((j+1:Nat):Int):=by rw[aJ];omega
     rw[Z];have h:=h.tl;refine⟨⟨j+1,rfl,m,rfl,?_⟩,by simp only[VJ];omega⟩;rw[List.take_add_one,List.getElem?_eq_getElem m,VW,dS];rw[Option.toList_some,List.map_singleton,nA];exact h
    refine⟨λd=>?_,λd=>?_⟩
    .have S:(iT l[j] s.sent c.rho).2≠0:=by simpa using d
     have W:iU c.rho s.sent l[j]=⟨1,0⟩:=by unfold iU;rw[V5 S]
     refine St1 h λ_ h=>?_
     refine w _ ?_;rw[W];exact h
    .have S:¬(iT l[j] s.sent c.rho).2≠0:=by simpa using d
     have W:iU c.rho s.sent l[j]=(iT l[j] s.sent c.rho).1:=by unfold iU;rw[V4 S]
     refine w _ ?_;rw[W];exact h
   refine⟨_,_,_,_,h.q 0,_,h.r 2,_,h.r 3,?_,?_⟩
   .refine wJ (s:=l[j]) h λu h=>⟨_,_,_,rfl,?_⟩
    refine h.al λ_ _ h=>?_;refine St1 h λ_ h=>?_
    exact fin _ _ (h.o [0] 2)
   .refine h.al λb5 _ h=>?_
    refine⟨h.r 4,h.r 3,h.q 1,?_⟩;refine wJ (s:=l[j]) h λu h=>⟨_,_,_,rfl,?_⟩
    refine St1 h λ_ h=>?_
    exact fin _ _ (h.o [0] 2)
  .have j1:l.length<=j:=by simpa using d
   obtain rfl:j=l.length:=by omega
   rw[Wc (VF _)]at h;have f:(l.map (iU c.rho s.sent)).length=l.length:=VM _;have l5:0<l.length:=by
    cases l with
    | nil=>simp at t
    | cons x r=>simp
   have V:l[l.length-1]=s:=by
    rw[List.getLast?_eq_getElem?,List.getElem?_eq_getElem (by omega)]at t;exact Option.some.inj t
   refine Rw f h (λH h=>h.sl_rd 0 rfl) (by omega) λy3 h=>⟨_,rfl,λG=>?_,λG=>?_⟩
   .rw [V5 G]at k;refine⟨_,h.r 2,λU T=>?_⟩
    have A:∀(st:Int) D,st=(if c.streak<9223372036854775807 then c.streak+1 else c.streak)->aA D (slA 89 2 I l.length J (flat jR (l.map (iU c.rho s.sent)))::cellsA b0 [aD s.asked,aD s.got,aD s.sent,aD s.came] 58::cellsA b [aD c.rho,aD c.least,.bool c.held,aD st,.slice a2 l.length c2] 289::slA 58 4 a2 l.length c2 (flat eW l)::F)->U D:=by
     intro st D Y h;refine T _ ?_;rw[<-Y]at k;refine⟨_,h.r 2,_,h.r 2,λy2 N=>⟨λd=>?_,λd=>?_⟩⟩
     .rw [V5 (by simpa using d)]at k;refine h.st 2 rfl rfl λj2 h=>N _ ?_
      exact k _ (gN.2 ⟨_,_,h.tl.tl⟩)
     .rw [V4 (by simpa using d)]at k;exact N _ (k _ (gN.2 ⟨_,_,h.tl.tl⟩))
    refine⟨λd=>?_,λd=>?_⟩
    .have m:c.streak<9223372036854775807:=by simpa using d
     refine⟨_,h.r 2,?_⟩;refine h.st 2 rfl rfl λr0 h=>A _ _ ?_ h
     rw[V5 m,aJ]
    .have m:¬c.streak<9223372036854775807:=by simpa using d
     exact A _ _ (by rw[V4 m]) h
   .rw [V4 (by rw[G];decide)]at k;refine h.st 2 rfl rfl λj3 h=>?_
    refine h.st 2 rfl rfl λl0 h=>?_
    refine h.st 2 rfl rfl λh4 h=>?_
    have Z:i64.wrap ((l.length:Int)-1)=((l.length-1:Nat):Int):=by rw[aJ];omega
    rw[Z];have L:=h.sl_rd 0 rfl;have y:=L.els wy (k:=l.length-1) (by omega);rw[W3,V]at y;refine⟨⟨by omega,by omega⟩,_,_,L.some wy (by omega) (k:=l.length-1) (by omega),_,_,y,?_⟩;refine sd (g:=iU c.rho s.sent s) h λh7 h=>⟨_,rfl,λl6 M=>⟨λd=>?_,λd=>?_⟩⟩
    .rw [V5 (by simpa using d)]at k;refine⟨_,_,_,_,h.q 1,?_⟩;refine h.al λb8 _ h=>?_
     refine h.st 3 rfl rfl λu8 h=>M _ ?_
     have h:=h.o [0,3] 5;have h:=aA.sl_pt h 4 1 rfl;have h:=h.o [1,0] 2;exact k _ (gN.2 ⟨_,_,h⟩)
    .rw [V4 (by simpa using d)]at k;refine M _ ?_;have h:=h.o [2] 4;have h:=(h.sl_nil 58 4).o [1,0] 2;exact k _ (gN.2 ⟨_,_,h⟩)
 refine h.st 1 rfl rfl λH2 h=>?_
 have v:(c.smps++[s]).getLast?=some s:=by simp
 refine⟨_,_,_,h.r 1,λJn P=>⟨λd=>?_,λd=>?_⟩⟩
 .have O:8<c.smps.length+1:=by have:=V8 d;omega
  rw[V5 O]at k;refine⟨_,_,_,h.r 1,?_⟩;have h:=h.o [2,0,1] 3;have f:c.smps.length+1=(c.smps++[s]).length:=by simp
  rw[f]at h ⊢;refine Rs (j:=1) (by simp) h λr9 h=>⟨_,_,_,rfl,?_⟩
  refine h.st 2 rfl rfl λr8 h=>P _ ?_
  have h:=h.o [1,2,0] 3;have hd:(c.smps++[s]).length-1=((c.smps++[s]).drop 1).length:=by simp
  rw[hd]at h;refine rest _ _ _ _ (by simp;omega) ?_ k h;have h8:c.smps≠[]:=by rintro e;rw[e]at O;simp at O
  rw[List.drop_append_of_le_length (by omega),List.getLast?_append];simp
 .have O:¬8<c.smps.length+1:=by have:=V9 d;omega
  rw[V4 O]at k;refine P _ ?_;have f:c.smps.length+1=(c.smps++[s]).length:=by simp
  rw[f]at h;exact rest _ _ _ _ (by simp;omega) v k h
end
end Go.Proofs.YtaaieblnikcndaaGreatDoor
