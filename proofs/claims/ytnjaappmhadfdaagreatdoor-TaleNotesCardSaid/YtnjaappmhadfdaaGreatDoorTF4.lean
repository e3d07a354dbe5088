/-
  Lemmas for TaleBack: part 4 of what it rests on. Conditions: none.
-/
import Derived.Test.YtnjaappmhadfdaaGreatDoorTF3
set_option linter.unusedVariables false
set_option linter.unusedSimpArgs false
set_option maxRecDepth 100000
set_option maxHeartbeats 16000000
open Go.IntKind (i64 u64 i8 u8 i32 u32 i16 u16)
namespace Go.Proofs.YtnjaappmhadfdaaGreatDoor
open Go
structure Ky where
 win:Int
 ser:Eq
deriving DecidableEq
abbrev jn(k:Ky):Xb:=[aB k.win,.string k.ser]
abbrev aggK(k:Ky):Value:=.agg ⟨jn k⟩
theorem zm(k:Ky):(jn k).length=2:=rfl
abbrev Ot:=Ky×Cl
abbrev cW(o:Ot):Xb:=[aB o.1.win,.string o.1.ser,aB o.2.n,aB (whi o.2.sum),.int .u64 (wlo o.2.sum),aB o.2.mn,aB o.2.mx,aB o.2.cer,aB o.2.pos]++bU .i64 o.2.h 65 0
theorem iU(o:Ot):(cW o).length=74:=by simp[cW,vV]
theorem tK(o:Ot):cK (cW o)=true:=vo rfl (EW _ _ _ _)
theorem vX(x y:Eq):(x.toList == y.toList)=decide (x=y):=by
 rw[Wd,beq_iff_eq,V5,ByteArray.toList_eq,ByteArray.toList_eq]
 constructor
 .intro h
  cases x with|mk a=>simp_all
 grind
def bZ(first last:Int):List Int:=(List.range (last-first+1).toNat).map λi:Nat=>first+i
abbrev CM:=List (Ky×Cl)
def ii(m:CM)(k:Ky):Cl:=(aK k m).getD Cl.z
def jo(m:CM)(ser:Eq)(ws:List Int):Int:=((ws.filter λw=>(aK ⟨w,ser⟩ m).isNone).length:Nat)
def qg(most:Int)(m:CM)(first last:Int)(ser:Eq):Bool:=
 if last<first then false else if most<=last-first then false else decide ((m.length:Int)+jo m ser (bZ first last)<=most)
def gE(m:CM)(ser:Eq)(certain:Bool):List Int->CM×Int
 | []=>([],0)
 | w::r=>if (fS (ii m ⟨w,ser⟩) certain).2≠0 then ([],(fS (ii m ⟨w,ser⟩) certain).2)
  else ((⟨w,ser⟩,(fS (ii m ⟨w,ser⟩) certain).1)::(gE m ser certain r).1,(gE m ser certain r).2)
def kY(l:CM)(m:CM):CM:=l.foldl (λm p=>mset p.1 p.2 m) m
def jp(most:Int)(m:CM)(first last:Int)(ser:Eq):CM×Int:=
 if last<first then (m,10) else if qg most m first last ser=false then (m,20) else
 if (gE m ser (decide (first=last)) (bZ first last)).2≠0 then (m,(gE m ser (decide (first=last)) (bZ first last)).2)
 else (kY (gE m ser (decide (first=last)) (bZ first last)).1 m,0)
def lW(m:CM)(k:Ky)(v:Int):CM×Int:=
 match aK k m with
 | none=>(m,19)
 | some c=>if (jm c v).2≠0 then (m,(jm c v).2) else (mset k (jm c v).1 m,0)
structure eT(most:Int)(m:CM):Prop where
 m1:1<=most
 m2:most<=1024
 nd:(aL m).Nodup
 wc:∀p∈m,WC p.2
 rt:∀p∈m,gD p.2=true
 wn:∀p∈m,aG p.1.win
 len:(m.length:Int)<=most
theorem eT.cell{most:Int}{m:CM}(h:eT most m)(k:Ky):WC (ii m k):=by
 unfold ii
 cases hm:aK k m with
 | none=>exact WC.z
 | some c=>exact h.wc _ (fL hm)
theorem koK:jG Tryz.prog 286 aggK:=yB Tryz.underlying286 (λx y h=>by
  cases x;simp_all)
 (λx y=>by
  have h:nQ Tryz.prog 286 (jn x) (jn y)=some (x.win == y.win&&(x.ser == y.ser&&true)):=by kernel_rfl
  rw[h];congr 1;rw[Wd];simp only[Bool.and_true,V4,beq_iff_eq,V5,Go.MapKept.bytes_beq]
  cases x;cases y
  simp)
 (λx=>by kernel_rfl) (λx n=>by
  have hb:(x.ser == x.ser)=true:=(Go.MapKept.bytes_beq _ _).2 rfl;unfold Instr.sameBits;simp[Instr.sameBits,hb])
theorem mtC:hD Tryz.prog 517 286 159 aggC Cl.z:=lP Tryz.underlying517 (by kernel_rfl)
theorem sl86:SlT Tryz.prog 283 288 74 600:=eG (by kernel_rfl)
abbrev shC(sb mb:Nat)(most:Int):aD:=cellsA sb [aB most,.map (some mb)] 519
abbrev cB(mb:Nat)(m:CM):aD:=mapA aggK aggC mb m
section
variable {sb mb:Nat}{most:Int}{m:CM}{F L:List aD}{H:aC}{K:KQ}
theorem Gi(h:aA H F)(k1:most<1\/1024<most->K (.tuple #[.pointer none,aB 11]) H)
  (k2:∀sb mb H',eT most []->aA H' (shC sb mb most::cB mb []::F)->K (.tuple #[PA sb 0,aB 0]) H'):CF 226 #[aB most] H K:=by
 refine cM 226 476 ⟨λa=>k1 (by grind),λa=>?_⟩
 simp only[VN,VG]at a;refine h.alm aggK aggC λmb _ h=>?_
 refine h.al λsb _ h=>?_
 exact k2 _ _ _ ⟨by omega,by omega,List.nodup_nil,by simp,by simp,by simp,by simp;omega⟩ h
theorem PX(h:aA H F)(i j:Nat)(b:aS i F=shC sb mb most)(a:aS j F=cB mb m):bO Tryz.prog 297 #[PA sb 0] H (aB (m.length:Nat)):=
 cM 297 28 ⟨_,h.rd i b _,_,h.mp_len mtC j a,rfl,rfl⟩
theorem u64sub{a b:Int}(c:aG a)(hb:aG b)(h:b<=a):u64.wrap (u64.wrap a-u64.wrap b)=a-b:=by
 grind [aG,fw]
theorem Gj{first last:Int}(h:first<=last):((bZ first last).length:Int)=last-first+1:=by
 grind [bZ]
theorem Gk{first last:Int}{j:Nat}(a:j<(bZ first last).length):(bZ first last)[j]=first+(j:Nat):=by simp[bZ]
theorem PY(ok:eT most m){first last:Int}{ser:Eq}(C:aG first)(A:aG last)(h:aA H (shC sb mb most::cB mb m::F))
  (k:∀H',aA H' (shC sb mb most::cB mb m::F)->K (.bool (qg most m first last ser)) H') :
  CF 462 #[PA sb 0,aB first,aB last,.string ser] H K:=by
 refine Oi ?_;unfold qg at k;have J:=ok.m1;have O:=ok.m2;have B:=ok.len;refine⟨λt=>?_,λt=>?_⟩
 .rw [V1 (V3 t)]at k;exact k _ h
 have u:=V2 t;rw[Vz u]at k;have em:u64.wrap most=most:=by grind [fw]
 have es:=u64sub A C (by omega);rw[es];refine⟨_,h.r 0,?_⟩;dsimp only;rw[em];refine⟨λc=>?_,λc=>?_⟩
 .rw [V1 (V3 c)]at k;exact k _ h
 have s:=V2 c;rw[Vz s]at k;have E:=Gj (first:=first) (last:=last) (by omega);refine⟨_,h.r 0,_,h.mp_len mtC 1 rfl,?_⟩;refine⟨λn i H'=>∃j:Nat,i=j/\j<=(bZ first last).length/\n=(m.length:Int)+jo m ser ((bZ first last).take j)/\aA H' (shC sb mb most::cB mb m::F),λ_ i _=>(bZ first last).length-i.toNat,
  ⟨0,rfl,VE _,by simp[jo],h⟩,?_⟩
 rintro n i N ⟨j,rfl,Q,rfl,h⟩;have e1:i64.wrap (i64.wrap (last-first)+1)=((bZ first last).length:Int):=by grind [aJ]
 rw[e1];refine⟨λv=>?_,λv=>?_⟩
 .have L:j<(bZ first last).length:=by grind
  unfold aG at C A;have M:i64.wrap (first+(j:Nat))=(bZ first last)[j]:=by grind [Gk,aJ]
  have f:∀q,jo m ser ((bZ first last).take q)<=q:=λq=>by
   grind [jo]
  have I:=f j;have P:0<=jo m ser ((bZ first last).take j):=by grind [jo]
  rw[M];refine⟨_,h.r 0,_,_,_,_,_,_,_,_,_,h.mp_get mtC koK 1 rfl (x:=⟨(bZ first last)[j],ser⟩),?_⟩;refine h.al λb _ h=>?_
  refine h.sta 0 rfl (by rw[kh];exact (kh Cl.z).symm) λH2 h=>?_
  have e3:i64.wrap ((j:Int)+1)=((j+1:Nat):Int):=by grind [aJ]
  have d:jo m ser ((bZ first last).take (j+1))=jo m ser ((bZ first last).take j)+(if (aK (⟨(bZ first last)[j],ser⟩:Ky) m).isNone then 1 else 0):=by
   grind [jo,List.take_succ_eq_append_getElem]
  have a:∀n2:Int,n2=(m.length:Int)+jo m ser ((bZ first last).take (j+1))->∀w,aA w (shC sb mb most::cB mb m::F)->yR.r1 (λn i H'=>∃j:Nat,i=j/\j<=(bZ first last).length/\n=(m.length:Int)+jo m ser ((bZ first last).take j)/\aA H' (shC sb mb most::cB mb m::F)) (λ_ i _=>(bZ first last).length-i.toNat) ((m.length:Int)+jo m ser ((bZ first last).take j)) (j:Int) N n2 w:=by
   intro n2 e w h;unfold yR.r1
   grind
  refine λR D=>⟨λG=>D _ _ (a _ ?_ _ h.tl),λG=>D _ _ (a _ ?_ _ h.tl)⟩
  .have:(aK (⟨(bZ first last)[j],ser⟩:Ky) m).isNone=true:=by grind
   rw[d,this,aJ]
   grind
  grind
 .have y:j=(bZ first last).length:=by grind
  subst y;rw[VM (VD _)];refine⟨_,h.r 0,?_⟩;exact k _ h
theorem PZ(ok:eT most m){key:Ky}{v:Int}(e:aG v)(h:aA H (shC sb mb most::cB mb m::F))
  (k:∀H',aA H' (shC sb mb most::cB mb (lW m key v).1::F)->K (aB (lW m key v).2) H') :
  CF 424 #[PA sb 0,aggK key,aB v] H K:=by
 refine cM 424 18685212 ?_;unfold lW at k;refine h.al λb _ h=>?_
 have d:=h.mp_get mtC koK 2 rfl (x:=key);refine⟨_,h.r 1,_,_,h.rda 0 rfl,_,_,_,_,_,_,_,_,_,d,?_⟩;refine h.al λb1 _ h=>⟨h.mp_get mtC koK 3 rfl (x:=key),h.rda 1 rfl,h.r 2,?_⟩
 refine h.sta 0 rfl rfl λH2 h=>?_
 cases hm:aK key m with
 | none=>
  rw[hm]at k;exact⟨λ_=>k _ h.tl.tl,λa=>by simp at a⟩
 | some c=>
  rw[hm]at k h;refine⟨λa=>by simp at a,λ_=>?_⟩
  have wc:WC c:=ok.wc _ (fL hm);have h:aA H2 (cellsA b1 (dm c) 159::cellsA b (jn key) 286::shC sb mb most::cB mb m::F):=h;refine⟨_,_,_,_,_,_,_,_,h.rda 0 rfl,?_⟩;refine PW wc e h λn h=>⟨_,_,_,_,_,_,_,_,_,rfl,?_⟩
  refine h.sta 0 rfl (by rw[kh];exact (kh c).symm) λi h=>?_
  dsimp only at k;refine⟨λf=>?_,λf=>?_⟩
  .rw [V1 (by grind)]at k;exact k _ h.tl.tl
  .rw [Vz (by grind)]at k;refine⟨_,h.r 2,_,_,h.rda 1 rfl,_,_,_,_,_,_,_,_,h.rda 0 rfl,?_⟩;refine h.mp_update (x:=key) (v:=(jm c v).1) mtC koK 3 rfl λj h=>?_
   exact k _ h.tl.tl
end
theorem Qa(l r:CM)(m:CM):kY (l++r) m=kY r (kY l m):=by grind [kY]
section
variable {sb mb:Nat}{most:Int}{m:CM}{F L:List aD}{H:aC}{K:KQ}
theorem Qb(ok:eT most m){first last:Int}{ser:Eq}(J:aG first)(G:aG last)(h:aA H (shC sb mb most::cB mb m::F))
  (k:∀H',aA H' (shC sb mb most::cB mb (jp most m first last ser).1::F)->K (aB (jp most m first last ser).2) H') :
  CF 422 #[PA sb 0,aB first,aB last,.string ser] H K:=by
 refine On ?_;unfold jp at k;have P:=ok.m2;refine⟨λy=>?_,λy=>?_⟩
 .rw [V1 (V3 y)]at k;exact k _ h
 have A:=V2 y;rw[Vz A]at k;refine PY ok J G h λW h=>⟨_,rfl,λu=>?_,λu=>?_⟩
 .rw [V1 (by grind)]at k;exact k _ h
 have c:qg most m first last ser=true:=by grind
 rw[Vz (by grind)]at k;have N:last-first<most:=by
  unfold qg at c
  grind
 have M:=Gj (first:=first) (last:=last) (by omega);have C:=J;unfold aG at C;refine⟨λs I t i H'=>∃(j:Nat) (done:CM),i=j/\j<=(bZ first last).length/\I=done.length/\done.length=j/\
   gE m ser (decide (first=last)) (bZ first last)=(done++(gE m ser (decide (first=last)) ((bZ first last).drop j)).1,(gE m ser (decide (first=last)) ((bZ first last).drop j)).2)/\
   aA H' (slA 288 74 s done.length t (aF cW done)::shC sb mb most::cB mb m::F),
  λ_ _ _ i _=>(bZ first last).length-i.toNat,⟨0,[],rfl,VE _,rfl,rfl,rfl,h.sl_nil 288 74⟩,?_⟩
 rintro s I t i H2 ⟨j,done,rfl,V,rfl,w,e,h⟩;have e1:i64.wrap (i64.wrap (last-first)+1)=((bZ first last).length:Int):=by grind [aJ]
 rw[e1];refine⟨λB=>?_,λB=>?_⟩
 .have a:j<(bZ first last).length:=by grind
  unfold aG at G;have O:i64.wrap (first+(j:Nat))=(bZ first last)[j]:=by grind [Gk,aJ]
  rw[O];rw[Wv a,gE]at e;have wc:=ok.cell ⟨(bZ first last)[j],ser⟩;refine h.al λb _ h=>?_
  refine h.sta 0 rfl rfl λR h=>λT S=>?_
  refine⟨_,h.r 2,_,_,h.rda 0 rfl,_,_,_,_,_,_,_,_,h.mp_get1 mtC koK 3 rfl (x:=⟨(bZ first last)[j],ser⟩),?_⟩;have fin:∀cb d,aA d (cellsA cb (dm (fS (ii m ⟨(bZ first last)[j],ser⟩) (decide (first=last))).1) 159::cellsA b (jn ⟨(bZ first last)[j],ser⟩) 286::slA 288 74 s done.length t (aF cW done)::shC sb mb most::cB mb m::F)->
    T cb 0 (fS (ii m ⟨(bZ first last)[j],ser⟩) (decide (first=last))).2 d:=by
   intro cb d h;refine S _ _ _ _ ?_;refine⟨λf=>?_,λf=>?_⟩
   .have f:(fS (ii m ⟨(bZ first last)[j],ser⟩) (decide (first=last))).2≠0:=by grind
    rw[V1 f]at e;rw[e,V1 f]at k;exact k _ h.tl.tl.tl
   .have f:¬(fS (ii m ⟨(bZ first last)[j],ser⟩) (decide (first=last))).2≠0:=by grind
    rw[Vz f]at e;refine⟨_,_,h.rda 1 rfl,_,_,_,_,_,_,_,_,h.rda 0 rfl,?_⟩;rintro b1 _ rfl rfl;refine h.append1 (ws:=cW (⟨(bZ first last)[j],ser⟩,(fS (ii m ⟨(bZ first last)[j],ser⟩) (decide (first=last))).1)) sl86 2 rfl (iU _) (tK _) (by omega) (by omega) λU Y H' h=>⟨_,_,_,rfl,?_⟩
    rw[show i64.wrap ((j:Int)+1)=((j+1:Nat):Int) by grind [aJ]];have h:=h.tl.tl;refine⟨⟨j+1,done++[(⟨(bZ first last)[j],ser⟩,(fS (ii m ⟨(bZ first last)[j],ser⟩) (decide (first=last))).1)],rfl,a,by simp,by simp[w],?_,?_⟩,by grind⟩
    .grind
    .rw [gx,lL,V6];exact h
  refine⟨?_,?_⟩
  .refine Gh wc h λd h=>⟨_,_,_,_,_,_,_,_,_,rfl,?_⟩
   refine h.al λb2 _ h=>?_
   refine h.sta 0 rfl (by rw[kh];exact (kh Cl.z).symm) λL h=>fin _ _ h
  .refine h.al λb2 _ h=>⟨h.mp_get1 mtC koK 4 rfl (x:=⟨(bZ first last)[j],ser⟩),h.rda 1 rfl,h.r 3,?_⟩
   refine Gh wc h λd h=>⟨_,_,_,_,_,_,_,_,_,rfl,?_⟩
   refine h.sta 0 rfl (by rw[kh];exact (kh Cl.z).symm) λL h=>fin _ _ h
 .have D:j=(bZ first last).length:=by grind
  subst D;rw[List.drop_length,gE,VQ]at e;rw[e,Vz (λQ=>Q rfl)]at k
  refine⟨λi H'=>∃q:Nat,i=q/\q<=done.length/\aA H' (slA 288 74 s done.length t (aF cW done)::shC sb mb most::cB mb (kY (done.take q) m)::F),λi _=>done.length-i.toNat,⟨0,rfl,VE _,h⟩,?_⟩
  rintro i R ⟨q,rfl,Z,h⟩;refine⟨λE=>?_,λE=>?_⟩
  .have a:q<done.length:=by grind
   have u:=h.sl_rd 0 rfl;have n:=u.els iU a;refine⟨⟨by omega,by omega⟩,_,_,u.some iU (by omega) a,_,_,_,_,_,_,_,_,_,_,n,?_⟩;refine h.al λb5 _ h=>?_
   refine h.sta 0 rfl (by rw[iU];exact (iU (⟨0,⟨#[]⟩⟩,Cl.z)).symm) λd h=>?_
   have h:aA d (cellsA b5 (jn done[q].1++dm done[q].2) 288::slA 288 74 s done.length t (aF cW done)::shC sb mb most::cB mb (kY (done.take q) m)::F):=h;refine⟨_,h.r 2,_,_,h.rdv (l:=[]) 0 rfl rfl,_,_,_,_,_,_,_,_,h.rdt 0 rfl rfl,?_⟩;refine h.mp_update (x:=done[q].1) (v:=done[q].2) mtC koK 3 rfl λL h=>?_
   rw[show i64.wrap ((q:Int)+1)=((q+1:Nat):Int) by grind [aJ]];refine⟨⟨q+1,rfl,a,?_⟩,by grind⟩;rw[VU a,Qa];exact h.tl
  .have:q=done.length:=by grind
   subst this;rw[VM (VD _)]at h;exact k _ h.tl
end
open  Go.Shelf Go.RowKit Go.Lib Go.Sort
def jL(a b:Int):Int:=if a<b then -1 else if b<a then 1 else 0
def nW(x y:Eq):Int:=if Op.bytesLess x.toList y.toList then -1 else if !(Op.bytesLess x.toList y.toList||x.toList == y.toList) then 1 else 0
theorem vY(a b:Int)(W:World):Calls Tryz.prog 308 #[.int .i64 a,.int .i64 b] W λe d=>e=.returned (.int .i64 (jL a b))/\d=W:=by
 obtain⟨r,c⟩:∃r,r=jL a b:=⟨_,rfl⟩;rw[<-c];unfold jL at c
 go_enter Tryz.func308,Tryz.ntmps308
 go_wp2
 .rename_i h;have e:r=-1:=by grind
  go_ret
  simp_all
 .rename_i i _ _ f;have e:r=1:=by grind
  go_ret
  simp_all
 .rename_i i _ _ f;have e:r=0:=by grind
  go_ret
  exact⟨by clear c;simp_all,rfl⟩
theorem cmp183(x y:Eq)(W:World):Calls Tryz.prog 437 #[.string x,.string y] W λe b=>e=.returned (.int .i64 (nW x y))/\b=W:=by
 obtain⟨r,a⟩:∃r,r=nW x y:=⟨_,rfl⟩;rw[<-a];unfold nW at a
 go_enter Tryz.func437,Tryz.ntmps437
 go_wp2
 .rename_i h;have e:r=-1:=by grind
  go_ret
  simp_all
 .have d:=‹Op.bytesLess x.toList y.toList=false›;have c:=‹(!x.toList == y.toList)=true›;have e:r=1:=by grind
  go_ret
  simp_all
 .have d:=‹Op.bytesLess x.toList y.toList=false›;have c:=‹(!x.toList == y.toList)=false›;have e:r=0:=by grind
  go_ret
  simp_all
def kj(x y:Ky):Int:=if jL x.win y.win≠0 then jL x.win y.win else nW x.ser y.ser
theorem cmp131(x y:Ky)(W:World):Calls Tryz.prog 394 #[.agg #[.int .i64 x.win,.string x.ser],.agg #[.int .i64 y.win,.string y.ser]] W λe c=>e=.returned (.int .i64 (kj x y))/\∃q b,c=grow (W.drewN q) b:=by
 obtain⟨r,d⟩:∃r,r=kj x y:=⟨_,rfl⟩;rw[<-d];unfold kj at d;have i:=λa=>vY x.win y.win a
 have f:=λa=>cmp183 x.ser y.ser a
 generalize jL x.win y.win=ri at *;generalize nW x.ser y.ser=rs at *
 go_enter Tryz.func394,Tryz.ntmps394
 go_wp2_with (first|(go_at_call 308;refine (i _).mono ?_;rintro e c ⟨rfl,rfl⟩)|(go_at_call 437;refine (f _).mono ?_;rintro e c ⟨rfl,rfl⟩))
 .rename_i h;have e:r=ri:=by grind
  go_ret
  exact⟨by simp_all,0,_,by rw[alloc_eq_grow,alloc_eq_grow,grow_grow];rfl⟩
 .rename_i h;have e:r=rs:=by grind
  go_ret
  exact⟨by simp_all,0,_,by rw[alloc_eq_grow,alloc_eq_grow,grow_grow];rfl⟩
theorem ltKy(x y:Ky):ltOf kj x y=(decide (x.win<y.win)||(decide (x.win=y.win)&&Op.bytesLess x.ser.toList y.ser.toList)):=by
 unfold ltOf kj jL nW
 grind
theorem rI(x y:Ky):ltOf kj x y=true↔x.win<y.win\/x.win=y.win/\x.ser.toList<y.ser.toList:=by
 grind [ltKy,bytesLess_eq]
theorem swoKy:SWO (ltOf kj) where
 irrefl x:=by
  rw[WA]
  grind [rI]
 trans x y z h1 h2:=by
  grind [rI]
 ntrans x y z h1 h2:=by
  rw[WA]at *;intro a;rw[Ne,rI,not_or]at h1 h2
  grind [rI]
theorem totKy(x y:Ky)(b:(ltOf kj) x y=false)(a:(ltOf kj) y x=false):x=y:=by
 rw[WA,Ne,rI,not_or]at b a;have e:x.win=y.win:=by omega
 have b1:¬x.ser.toList<y.ser.toList:=λh=>b.2 ⟨e,h⟩
 have b2:¬y.ser.toList<x.ser.toList:=λh=>a.2 ⟨e.symm,h⟩
 have e2:x.ser.toList=y.ser.toList:=List.le_antisymm (List.not_lt.1 b2) (List.not_lt.1 b1);have:=vX x.ser y.ser;rw[e2]at this;have c:x.ser=y.ser:=by grind
 cases x;simp_all
instance:Inhabited Ky:=⟨⟨0,⟨#[]⟩⟩⟩
theorem Qc(a cs post ys:Xb)(b:ys.length=cs.length) :
  Sort.putCells id a.length ys.toArray (a++cs++post).toArray=(a++ys++post).toArray:=by
 apply Array.ext';apply Wp
 grind [Sort.putCells]
theorem Gm{α:Type}[Inhabited α](enc:α->Xb)(k:Nat)(b:∀x,(enc x).length=k)(xs:List α):Go.Sort.flatK enc k xs.toArray=(aF enc xs).toArray:=by
 apply Array.ext';apply WJ
 .simp [dT b]
 .intro t f e;have a:t<xs.length*k:=by simp_all
  have k0:0<k:=by
   grind
  have c:t/k<xs.length:=by rw[WH k0];exact a
  have hm:t%k<k:=W4 _ k0;have d:=vm b c (t%k) hm
  grind [Nat.div_add_mod',fJ,Go.Sort.flatK]
def ij(x y:Ky):Bool:=!(decide (y.win<x.win)||(decide (y.win=x.win)&&Op.bytesLess y.ser.toList x.ser.toList))
def ik(ks:List Ky):List Ky:=ks.mergeSort ij
theorem qh(a:List Ky):(ik a).Perm a:=List.mergeSort_perm _ _
theorem vZ(a:List Ky):(ik a).length=a.length:=(qh a).length_eq
open  Go.RowKit Go.Sort
section
variable {L:List aD}{H:aC}{K:KQ}
theorem Qd:∀args w,(callFunc 394 args).run Tryz.prog w=.ok (.enter 394 args) w:=λargs w=>by kernel_rfl
theorem sortK_eq(a:List Ky):a.mergeSort (λx y=>!(ltOf kj) y x)=ik a:=by
 unfold ik;congr 1;funext x y;rw[ltKy];rfl
theorem Gn{ρ:Go.Shelf.Ren}(O:Go.Proofs.SlLaysF0.n6 Tryz.prog ρ){α:Type}[Inhabited α]{enc:α->Xb}{sz Y g:Nat}(aE:∀w,(isAgg (ρ.t 24)).run Tryz.prog w=.ok true w)(zE:∀w,(Go.sizeOf (ρ.t 24)).run Tryz.prog w=.ok sz w)
  (E:∀x,(enc x).length=sz) (h1:∀x,∀v∈enc x,v.oneCell'=true) {cf:α->α->Int} (S:SWO (ltOf cf)) (eg:∀args w,(callFunc g args).run Tryz.prog w=.ok (.enter g args) w)
  (T:∀x y W,Calls Tryz.prog g #[.agg ⟨enc x⟩,.agg ⟨enc y⟩] W λe w'=>e=.returned (.int .i64 (cf x y))/\∃q Z,w'=grow (W.drewN q) Z) (P:∀x y,ltOf cf x y=false->ltOf cf y x=false->x=y)
  {a:Xa} {c:Nat} {xs:List α} (h:aA H L) (i:Nat) (hA:aS i L=slA Y sz a xs.length c (aF enc xs)) (Q:xs.length<4611686018427387904)
  (k:∀H',aA H' (put i (slA Y sz a xs.length c (aF enc (xs.mergeSort λx y=>!(ltOf cf) y x))) L)->K (.tuple #[]) H') :
  CF (ρ.f 6) #[.slice a xs.length c,.func (.func g) #[] #[]] H K:=by
 refine .mk λw hw=>?_
 subst hw;have h2:=h.foc i;rw[hA]at h2;obtain⟨ys,A⟩:∃ys,ys=xs.mergeSort λx y=>!(ltOf cf) y x:=⟨_,rfl⟩
 have G:ys.length=xs.length:=by rw[A];exact (List.mergeSort_perm _ _).length_eq
 rw[<-A]at k;obtain⟨hl,⟨rfl,hn,rfl,C⟩|⟨b,d,post,e',fr,rfl,F,I,M,C⟩⟩:=jF h2
 .have hx:xs=[]:=W5.1 hn;subst hx;obtain rfl:ys=[]:=W5.1 G;refine ib (AnyF.slices_SortFunc_none O none 0 _ w) ?_;rintro e w' ⟨rfl,rfl⟩;exact⟨_,rfl,⟨rfl,rfl,rfl⟩,k _ (aA.back (rh C))⟩
 .have hb:=aO.get C;have V:b<w.heap.size:=aO.lt C;have R:(aF enc xs).length=xs.length*sz:=dT E xs;have s:(aF enc ys).length=xs.length*sz:=by rw[dT E,G]
  have h0:xs.length*sz<=c*sz:=Wf _ F;have hH:HoldsK enc sz w b d.length xs.toArray:=by
   unfold HoldsK;rw[Gm enc sz E];intro j J;have u:j<(aF enc xs).length:=by simpa using J
   refine⟨?_,?_⟩
   case refine_2=>
    have:=M (d.length+j) (by omega) (by omega)
    grind [World.frozen?]
   simp only[World.cell?,hb,Option.isSome_none,WQ,if_false,List.getElem?_toArray];rw[VX,List.getElem?_append_right (by omega),WU,List.getElem?_append_left u,List.getElem?_eq_getElem u];simp[u]
  have N:CmpLays Tryz.prog g #[] enc sz cf b d.length xs.toArray.size w:=λm os dk hs x y=>T x y _
  refine ib (AnyQ.slices_SortFunc_total O sz aE zE enc E h1 cf S g #[] b d.length c xs.toArray w eg N hH V (by simpa using Q) P) ?_;rintro e w' ⟨rfl,n,os,rfl⟩;refine⟨_,rfl,⟨rfl,rfl,rfl⟩,k _ (aA.back ?_)⟩;have es:(xs.toArray.toList.mergeSort λx y=>!(ltOf cf) y x).toArray=ys.toArray:=by rw[A]
  rw[es];have U:aO (w.heap.modify b (onCells (putCells id d.length (aF enc ys).toArray))) (pt b (.cells (d++aF enc ys++post).toArray e' fr)*star (del i L)):=by
   refine aO.upd C ?_ λj J=>?_
   .rw [Array.getElem?_modify,V1 rfl,hb];simp only[VT,onCells];rw[Qc _ _ _ _ (by rw[R,s])]
   .rw [Array.getElem?_modify,Vz (Ne.symm J)]
  have hg:aO (w.heap.modify b (onCells (putCells id d.length (aF enc ys).toArray))++os.toList.toArray) (pt b (.cells (d++aF enc ys++post).toArray e' fr)*star (del i L)):=
   U.grow λj J=>by rw[Array.getElem?_append_left J]
  have D:=hg.frame (B:=slA Y sz (some ⟨b,d.length,none⟩) xs.length c (aF enc ys)) λp hp=>⟨s,.inr ⟨b,d,post,e',fr,rfl,F,I,λ_=>M,hp⟩⟩
  simpa[sortWorldK,grow,putRowK,putRow,mapBlock,Sort.ahead,Gm enc sz E] using D
theorem Qe{a:Xa}{c:Nat}{xs:List Ky}(h:aA H L)(i:Nat)(e:aS i L=slA 286 2 a xs.length c (aF jn xs))(b:xs.length<4611686018427387904)
  (k:∀H',aA H' (put i (slA 286 2 a xs.length c (aF jn (ik xs))) L)->K (.tuple #[]) H') :
  CF 435 #[.slice a xs.length c,.func (.func 394) #[] #[]] H K:=
 Gn Tryz.sortKA Tryz.isAgg286 Tryz.sizeOf286 zm (λx v d=>by simp[jn]at d;rcases d with rfl|rfl <;> rfl) swoKy Qd cmp131 totKy h i e b λH' h=>k H' (by rw[<-sortK_eq];exact h)
theorem Gq{r:Nat}{m:CM}(h:aA H L)(i:Nat)(b:aS i L=mapA aggK aggC r m)(k:∀a H',aA H' (mapA aggK aggC a m::L)->K (.map (some a)) H'):CF 370 #[.map (some r)] H K:=tF Tryz.cloneA4 h i b λH' h _=>k _ H' h
end
theorem we(x y:Ky):ij x y=true↔x.win<y.win\/x.win=y.win/\x.ser.toList<=y.ser.toList:=by
 grind [ij,Go.Proofs.bytesLess_eq]
theorem Qf{x y z:Ky}(a:ij x y=true)(b:ij y z=true):ij x z=true:=by
 grind [we]
theorem Qg(x y:Ky):(ij x y||ij y x)=true:=by
 rw[VY,we,we]
 grind
theorem ba_ext{x y:Eq}(h:x.toList=y.toList):x=y:=by
 grind [vX]
theorem Qh{x y:Ky}(b:ij x y=true)(a:ij y x=true):x=y:=by
 rw[we]at *
 rcases b with b|b <;> rcases a with a|a
 .omega
 .omega
 .omega
 .have:=ba_ext (List.le_antisymm b.2 a.2)
  cases x;cases y
  grind
theorem Gr(l:List Ky):(ik l).Pairwise λa b=>ij a b=true:=
 List.pairwise_mergeSort (le:=ij) (λa b c e d=>Qf e d) Qg l
theorem Qi{l c:List Ky}(h:l.Perm c):ik l=ik c:=
 List.Perm.eq_of_pairwise (le:=λa b=>ij a b=true) (λa b _ _ e d=>Qh e d) (Gr l) (Gr c) (((qh l).trans h).trans (qh c).symm)
def bP(m:CM):List Ot:=(ik (aL m)).map λk=>(k,ii m k)
theorem wg(m:CM):(bP m).length=m.length:=by simp[bP,vZ,aL]
def iy(m:CM)(before:Int):List Ot:=(bP m).takeWhile λo=>decide (o.1.win<before)
def kZ(m:CM)(l:List Ot):CM:=l.foldl (λm o=>bD o.1 m) m
def ni(m:CM)(before:Int):CM:=kZ m (iy m before)
section
variable {sb mb:Nat}{most:Int}{m:CM}{F L:List aD}{H:aC}{K:KQ}
theorem Qj(h:aA H F)(k:∀c0 H',aA H' (cellsA c0 [.map (some mb)] 517::F)->K (.func (.func 436) #[] #[PA c0 0]) H'):CF 393 #[.map (some mb)] H K:=by
 refine cM 393 28 ?_;exact h.al λc0 _ h=>k _ _ h
theorem Qk{l c0:Nat}(A:List Ky->aD)(h:aA H (A []::cellsA c0 [.map (some mb)] 517::cB mb m::F))
  (u:∀dn key (G:List aD) (f:aC) (n:KQ),dn.length<m.length->aA f (A dn::G)->(∀H2,aA H2 (A (dn++[key])::G)->n (.bool true) H2)->eK Tryz.prog l [aggK key] f n)
  (k:∀dn H',dn.Perm (aL m)->aA H' (A dn::cellsA c0 [.map (some mb)] 517::cB mb m::F)->K (.tuple #[]) H') :
  CF 436 #[.func (.yield l) #[] #[],PA c0 0] H K:=by
 refine cN 436 6017780034900889 [[]] ?_;refine⟨_,h.r 1,?_⟩
 conv=>whnf
 refine h.rg_new mtC 2 rfl λd f h=>⟨d,rfl,?_⟩
 refine⟨λH'=>∃dn:CM,aA H' (A (aL dn)::cellsA c0 [.map (some mb)] 517::gy aggK aggC d mb m dn::F),λH'=>m.length-pN H' d,⟨[],h⟩,?_⟩
 rintro H2 ⟨dn,h⟩;have j:=h.rg_count 2 rfl;refine h.rg_next 2 rfl (λw=>.inl ⟨rfl,(λb=>by cases b),λ_=>?_⟩) λp v s y h=>.inr ⟨_,_,rfl,(λ_=>?_),λb=>by cases b⟩
 .exact k (aL dn) _ (w.map Prod.fst) (h.rg_map 2 rfl)
 .have a:=h.rg_count 2 rfl;have c:=aA.rg_entry (P:=Tryz.prog) h 2 rfl;refine⟨_,_,_,c,?_⟩;refine h.al λb1 _ h=>?_
  refine h.sta 0 rfl rfl λx h=>⟨_,_,h.rda 0 rfl,?_⟩
  rw[V6]at a;have i:(aL dn).length<m.length:=by grind
  refine u (aL dn) p.1 _ _ _ i (h.o [1,0,2,3] 4) λt h=>⟨true,rfl,(λb=>by cases b),λ_=>?_⟩
  have h:aA t (A (aL dn++[p.1])::cellsA c0 [.map (some mb)] 517::gy aggK aggC d mb m (dn++[p])::F):=h.o [0,2,3] 4;refine⟨⟨dn++[p],?_⟩,?_⟩
  .have e:aL (dn++[p])=aL dn++[p.1]:=by grind
   rw[e];exact h
  .have:=h.rg_count 2 rfl
   grind
theorem sl225:SlT Tryz.prog 583 286 2 24:=eG (by kernel_rfl)
theorem Ql{c0:Nat}(x:m.length<=1000000)(h:aA H (cellsA c0 [.map (some mb)] 517::cB mb m::F))
  (k:∀dn a c H',dn.Perm (aL m)->aA H' (slA 286 2 a dn.length c (aF jn dn)::cB mb m::F)->K (.slice a dn.length c) H') :
  CF 471 #[.slice none 0 0,.func (.func 436) #[] #[PA c0 0]] H K:=by
 refine cL 471 (.r (.seq (.r (.blk (.rng [.agg [.int .i64,.str]] [none] .reg (.blk .reg)))) (.r .no))) ?_;refine h.al λb _ h=>⟨rfl,λR e d s=>?_⟩
 rename_i H0;have h:=h.rng R;have h:=h.sl_nil 286 2;refine Qk (m:=m) (mb:=mb) (λdn=>exS λp:Xa×Nat=>star [cellsA b [.slice p.1 dn.length p.2] 583,slA 286 2 p.1 dn.length p.2 (aF jn dn),pt (H0.size+1) (.loop R)])
  (F:=pt H0.size (.deferred (some []))::F) ?_ ?_ ?_
 .have h:=h.o [3,0,1,4,5,2] 6;exact cy.2 ⟨(none,0),aA.shut [_,_,_] h⟩
 .intro dn key G j D u h i;obtain⟨⟨a,c⟩,h⟩:=cy.1 h;have h:=aA.open (A:=[_,_,_]) h;refine s _ _ _ ?_;refine⟨_,_,rfl,h.getO 2 rfl,?_⟩;refine h.al λb1 _ h=>?_
  refine h.sta 0 rfl rfl λC h=>⟨h.getO 3 rfl,h.stl 3 rfl λw h=>?_⟩
  refine⟨_,_,_,h.r 1,_,_,h.rda 0 rfl,?_⟩;rintro b2 _ rfl rfl
  conv=>whnf
  refine h.append1 (ws:=jn key) sl225 2 rfl rfl rfl (by omega) (by omega) λf n B h=>⟨_,_,_,rfl,?_⟩
  refine h.sta 1 rfl rfl λy h=>⟨h.getO 3 rfl,i _ ?_⟩
  have h:=h.setO 3 rfl (.loop R);refine cy.2 ⟨(f,n),aA.shut [_,_,_] ?_⟩;rw[gx,lL,V6];exact h.o [1,2,3] 4
 .intro dn j t h;obtain⟨⟨a,c⟩,h⟩:=cy.1 h;have h:=aA.open (A:=[_,_,_]) h;refine⟨.ready,none,by decide,by rw[kT e d];exact h.getO 2 rfl,h.stl 2 rfl λv h=>⟨rfl,?_⟩⟩
  refine⟨_,_,_,h.r 0,h.getO 5 rfl,?_⟩;have h:=h.setO 5 rfl (.deferred none);exact k dn a c _ t (h.o [1,4] 6)
theorem Qm{c0:Nat}(e:m.length<=1000000)(h:aA H (cellsA c0 [.map (some mb)] 517::cB mb m::F))
  (k:∀a c H',aA H' (slA 286 2 a m.length c (aF jn (ik (aL m)))::cB mb m::F)->K (.slice a m.length c) H') :
  CF 392 #[.func (.func 436) #[] #[PA c0 0],.func (.func 394) #[] #[]] H K:=by
 refine cM 392 4380 ?_;refine cM 434 28 ?_;refine Ql e h λdn a c f d h=>⟨_,_,_,rfl,_,_,_,rfl,?_⟩
 have b:dn.length=m.length:=by rw[d.length_eq];grind
 refine Qe h 0 rfl (by omega) λH2 h=>⟨rfl,?_⟩
 rw[b,Qi d]at h;rw[b];exact k _ _ _ h
theorem Gs(h:aA H F)(k:∀c0 H',aA H' (cellsA c0 [PA sb 0] 311::F)->K (.func (.func 391) #[] #[PA c0 0]) H'):CF 298 #[PA sb 0] H K:=by
 refine cM 298 28 ?_
 conv=>whnf
 exact h.al λc0 _ h=>k _ _ h
theorem Gt{l c0:Nat}(D:m.length<=1000000)(A:Nat->aD)(y:Nat->aD)(B:aD)(h:aA H (cellsA c0 [PA sb 0] 311::shC sb mb most::cB mb m::B::F))
  (v:∀G H',aA H' (shC sb mb most::cB mb m::B::G)->aA H' (A 0::G))
  (J:∀j (L:j<(bP m).length) (G:List aD) (s:aC) (i:KQ),aA s (A j::G)->(∀H2,aA H2 (A (j+1)::G)->i (.bool true) H2)->(∀H2,aA H2 (y j::G)->i (.bool false) H2)->
   eK Tryz.prog l [aggK (bP m)[j].1,aggC (bP m)[j].2] s i)
  (k:∀H',aA H' (A (bP m).length::F)->K (.tuple #[]) H')
  (O:∀j H',j<(bP m).length->aA H' (y j::F)->K (.tuple #[]) H') :
  CF 391 #[.func (.yield l) #[] #[],PA c0 0] H K:=by
 refine cN 391 0x11561239925113994 [[(15,sI)]] ?_
 conv=>whnf
 refine⟨_,h.rd 0 rfl _,⟨_,h.r 1,?_⟩⟩;refine Gq h 2 rfl λr s h=>⟨_,rfl,?_⟩
 refine Qj h λkc H2 h=>⟨_,_,rfl,?_⟩
 refine Qm D h λa c P h=>⟨_,_,_,rfl,?_⟩
 have f:(bP m).length=m.length:=wg m;have E:(ik (aL m)).length=m.length:=by rw[vZ];grind
 have h:=v _ _ (h.o [3,4,5,0,1] 6);refine⟨λt H'=>∃j:Nat,t=j/\j<=m.length/\aA H' (A j::slA 286 2 a m.length c (aF jn (ik (aL m)))::cB r m::F),λt _=>m.length-t.toNat,⟨0,rfl,VE _,h⟩,?_⟩
 rintro t M ⟨j,rfl,L,h⟩;refine⟨λC=>?_,λC=>?_⟩
 .have n:j<m.length:=by grind
  have b:j<(ik (aL m)).length:=by omega
  have w:=h.sl_rd 1 rfl;refine⟨⟨by omega,by omega⟩,_,_,w.some zm (by omega) b,_,_,w.els zm b,?_⟩;refine h.al λb1 _ h=>?_
  refine h.sta 0 rfl rfl λN h=>⟨_,_,h.rda 0 rfl,_,_,h.rda 0 rfl,?_⟩
  refine⟨_,_,_,_,_,_,_,_,h.mp_get1 mtC koK 3 rfl (x:=(ik (aL m))[j]),?_⟩;have e:(bP m)[j]'(by omega)=((ik (aL m))[j],ii m (ik (aL m))[j]):=by simp[bP]
  have d:=J j (by omega);rw[e]at d;refine d _ N _ (h.o [1,0,2,3] 4) (λI h=>⟨true,rfl,(λu=>by cases u),λ_=>?_⟩) λI h=>⟨false,rfl,(λ_=>?_),λu=>by cases u⟩
  .conv=>whnf
   rw[show i64.wrap ((j:Int)+1)=((j+1:Nat):Int) by grind [aJ]];exact⟨⟨j+1,rfl,n,h.o [0,2,3] 4⟩,by grind⟩
  .exact O j _ (by omega) (h.o [0] 4)
 .have:j=m.length:=by grind
  subst this;have:=k M;rw[f]at this;exact this (h.o [0] 3)
theorem Qn(h:aA H (shC sb mb most::cB mb m::F))
  (k:∀a c H',aA H' (shC a c most::cB c m::shC sb mb most::cB mb m::F)->K (PA a 0) H') :
  CF 264 #[PA sb 0] H K:=by
 refine cM 264 28 ?_;refine⟨_,h.r 0,_,h.r 0,?_⟩;refine Gq h 1 rfl λr d h=>⟨_,rfl,h.r 1,?_⟩
 exact h.al λb _ h=>k _ _ _ h
end
abbrev aR(s:Eq):List UInt8:=s.data.toList
theorem ko(s:Eq):(aR s).length=s.size:=WM
theorem tL{s:Eq}{i:Nat}(h:i<(aR s).length):bAt s i=((aR s)[i].toNat:Int):=by
 grind [bAt]
def lowC(c:UInt8):Bool:=decide (97<=c.toNat)&&decide (c.toNat<=122)
def nj(c:UInt8):Bool:=lowC c||(decide (48<=c.toNat)&&decide (c.toNat<=57))||decide (c.toNat=95)
def ld(c:UInt8):Bool:=decide (33<=c.toNat)&&decide (c.toNat<=126)&&decide (c∉[(44:UInt8),61,123,125])
def jq(s:Eq):Bool:=decide (1<=s.size)&&decide (s.size<=64)&&lowC ((aR s).headD 0)&&(aR s).all nj
def bg.z:bg:=⟨⟨#[]⟩,⟨#[]⟩⟩
def gF(l:bg):Bool:=decide (l.value.size<=64)&&(aR l.value).all ld&&jq l.name
def qi(labs:List bg)(i:Nat):Bool:=gF (labs.getD i bg.z)&&(decide (i=0)||Op.bytesLess (labs.getD (i-1) bg.z).name.toList (labs.getD i bg.z).name.toList)
def df(name:Eq)(labs:List bg):Bool:=jq name&&decide (labs.length<=8)&&(List.range labs.length).all (qi labs)
theorem Qo{p:Nat->Bool}{n:Nat}:(List.range n).all p=true↔∀i,i<n->p i=true:=by
 grind
theorem all_at{α:Type}{p:α->Bool}{l:List α}(h:∀i (hi:i<l.length),p l[i]=true):l.all p=true:=by
 rw[VK];intro x a;obtain⟨i,hi,rfl⟩:=Wu a
 grind
theorem all_not{α:Type}{p:α->Bool}{l:List α}{i:Nat}(hi:i<l.length)(h:p l[i]=false):l.all p=false:=by
 grind
theorem wh{α:Type}{l:List α}{i:Nat}(d:α)(h:i<l.length):l.getD i d=l[i]:=by
 grind
theorem Gu{l:List UInt8}(h:0<l.length):l.headD 0=l[0]:=by
 cases l with
 | nil=>simp at h
 | cons a l=>rfl
def cI(c:UInt8)(l:List UInt8):Int:=if l.idxOf c<l.length then (l.idxOf c:Int) else -1
theorem Gv(c:UInt8):∀l:List UInt8,Go.Lib.indexByte l c=cI c l
 | []=>rfl
 | b::l=>by
  unfold Go.Lib.indexByte;rw[Gv c l];unfold cI
  grind
theorem idxU_ge(c:UInt8)(l:List UInt8):-1<=cI c l/\cI c l<l.length:=by
 grind [cI]
theorem idxU_mem(c:UInt8)(l:List UInt8):0<=cI c l↔c∈l:=by
 grind [cI]
section
variable {F L:List aD}{H:aC}{K:KQ}
theorem natIdx{s:Eq}{c:Int}:sx Tryz.prog 329 #[.string s,.int .u8 c] (aB (cI c.toNat.toUInt8 (aR s))):=by
 intro w;have h:(callFunc 329 #[.string s,.int .u8 c]).run Tryz.prog w=(do let v <-Extern.BytealgIndexByte.indexByte #[.string s,.int .u8 c];pure (Next.value v)).run Tryz.prog w:=by kernel_rfl
 rw[h];have a:=Go.Lib.run_indexByteString (P:=Tryz.prog) s c w;simp only[Sem.run_bind,a,Gv];rfl
theorem zn{s:Eq}{c:Int}(k:K (aB (cI c.toNat.toUInt8 (aR s))) H):CF 132 #[.string s,.int .u8 c] H K:=
 cM 132 28 (cM 216 28 ⟨_,natIdx,_,rfl,k⟩)
theorem Gw{s:Eq}:bO Tryz.prog 199 #[.string s] H (.bool (jq s)):=by
 refine OL ?_;refine⟨λa=>?_,λa=>?_,λa=>?_,λa=>?_⟩
 .simp only[VN,VG]at a;omega
 .simp only[VN,VG]at a;omega
 .have:jq s=false:=by
   cases e:jq s
   .rfl
   .unfold jq lowC at e;simp only[V4,V5]at e;simp only[VY,V5]at a;obtain⟨⟨⟨e1,e2⟩,e3,e4⟩,-⟩:=e;have k:=ko s;have hb:bAt s 0=((aR s)[0]'(by omega)).toNat:=tL (by omega);have m:(aR s).headD 0=(aR s)[0]'(by omega):=Gu (by omega)
    grind
  grind
 .simp only[VN,VG]at a;obtain⟨⟨⟨c1,c2⟩,c3⟩,c4⟩:=a;have k:=ko s;have hb:bAt s 0=((aR s)[0]'(by omega)).toNat:=tL (by omega);have m:(aR s).headD 0=(aR s)[0]'(by omega):=Gu (by omega);have f:jq s=(aR s).all nj:=by
   grind [jq,lowC]
  rw[f];refine⟨λi H'=>H'=H/\∃j:Nat,i=j/\j<=s.size/\∀q (n:q<(aR s).length),q<j->nj (aR s)[q]=true,λi _=>s.size-i.toNat,⟨rfl,0,rfl,by omega,λq _ h=>by omega⟩,?_⟩
  rintro i v ⟨rfl,j,rfl,u,w⟩;refine⟨λa=>?_,λa=>?_⟩
  .have d:j<s.size:=by grind
   have b:j<(aR s).length:=by omega
   refine⟨by omega,?_⟩;rw[VL,tL b];refine⟨λc=>?_,λc=>?_⟩
   .simp only[V4,VY,V5,Wa,VG]at c;rw[all_not b (by grind [nj,lowC])]
    grind
   .rw [aJ (x:=(j:Int)+1)];refine⟨⟨rfl,j+1,by omega,d,λq n t=>?_⟩,by grind⟩
    by_cases hqj:q=j
    .subst hqj;unfold nj lowC;simp only[Bool.and_eq_false_iff,VN,VG,W8,V5]at c
     grind
    grind
  grind
theorem Qp{l:bg}(h:aA H F)(k:∀H',aA H' F->K (.bool (gF l)) H'):CF 200 #[.agg #[.string l.name,.string l.value]] H K:=by
 refine OK ?_;refine h.al λb _ h=>?_
 refine⟨_,h.r 0,λf=>?_,λf=>?_⟩
 .have:gF l=false:=by
   unfold gF
   grind
  rw[<-this];exact k _ h.tl
 .have hs:l.value.size<=64:=by grind
  have B:=ko l.value;refine⟨λi H'=>∃j:Nat,i=j/\j<=l.value.size/\(∀q (n:q<(aR l.value).length),q<j->ld (aR l.value)[q]=true)/\aA H' (cellsA b [.string l.name,.string l.value] 48::F),λi _=>l.value.size-i.toNat,⟨0,rfl,by omega,λq _ h=>by omega,h⟩,?_⟩
  rintro i s ⟨j,rfl,A,y,h⟩;refine⟨_,h.r 0,λf=>?_,λf=>?_⟩
  .have m:j<l.value.size:=by grind
   have c:j<(aR l.value).length:=by omega
   refine⟨_,h.r 0,by omega,?_⟩;intro w t;rw[VL,tL c];have a:w (!ld (aR l.value)[j]) s:=by
    refine t _ _ ?_;refine⟨λd=>?_,λd=>?_⟩
    .have:gF l=false:=by
      grind [gF]
     rw[<-this];exact k _ h.tl
    .rw [aJ (x:=(j:Int)+1)];refine⟨⟨j+1,by omega,m,λq n u=>?_,h⟩,by dsimp only;omega⟩
     by_cases hqj:q=j
     .subst hqj;simpa using d
     .exact y q n (by omega)
   refine⟨λd=>?_,λd=>?_⟩
   .simp only[VN,VG]at d;refine zn ⟨_,rfl,?_⟩;have:decide (0<=cI (((aR l.value)[j].toNat:Int).toNat.toUInt8) (aR ⟨#[44,61,123,125]⟩))=!ld (aR l.value)[j]:=by
     rw[Wd,V5,idxU_mem];have e:((aR l.value)[j].toNat:Int).toNat.toUInt8=(aR l.value)[j]:=by simp
     grind [ld]
    dsimp only;rw[this];exact a
   .have:ld (aR l.value)[j]=false:=by
     grind [ld]
    rw[this]at a;exact a
  .have v:l.value.size<=j:=by grind
   refine⟨_,h.r 0,_,Gw,?_⟩;have:gF l=jq l.name:=by
    grind [gF]
   rw[<-this];exact k _ h.tl
theorem oO{name:Eq}{a:Xa}{c:Nat}{labs:List bg}(h:aA H F)(n:∀H,aA H F->aN H a (aF aZ labs))
  (k:∀H',aA H' F->K (.bool (df name labs)) H'):CF 122 #[.agg #[.string name,.slice a labs.length c]] H K:=by
 refine OS ?_;refine h.al λb _ h=>?_
 refine⟨_,h.r 0,_,Gw,_,_,_,λ_=>h.r 0,λe=>?_,λe=>?_⟩
 .have:df name labs=false:=by
   unfold df
   grind
  rw[<-this];exact k _ h.tl
 .simp only[VN,W8,VG]at e;obtain⟨c1,c2⟩:=e;have C:df name labs=(List.range labs.length).all (qi labs):=by
   grind [df]
  refine⟨_,_,_,h.r 0,?_⟩;refine⟨λi H'=>∃j:Nat,i=j/\j<=labs.length/\(∀q,q<j->qi labs q=true)/\aA H' (cellsA b [.string name,.slice a labs.length c] 37::F),λi _=>labs.length-i.toNat,⟨0,rfl,by omega,λq h=>by omega,h⟩,?_⟩
  rintro i y ⟨j,rfl,w,D,h⟩;refine⟨λe=>?_,λe=>?_⟩
  .have d:j<labs.length:=by grind
   have f:=n _ h.tl;refine⟨by omega,_,_,f.some dB (by omega) d,_,_,f.els dB d,?_⟩;refine h.al λb2 _ h=>?_
   refine h.st 0 rfl rfl ?_;intro B h;refine⟨_,_,h.q 0,?_⟩;refine Qp (l:=labs[j]) h λA h=>⟨_,rfl,?_⟩
   have f:=n _ h.tl.tl;have s:0<j->i64.wrap ((j:Int)-1)=((j-1:Nat):Int):=λh=>by grind [aJ]
   have hs:qi labs j=(gF labs[j]&&(decide (j=0)||Op.bytesLess (labs.getD (j-1) bg.z).name.toList labs[j].name.toList)):=by
    grind [qi]
   refine⟨a,labs.length,c,λ_=>h.r 1,λm=>?_,_,_,λm=>f.some dB (by omega) d,(labs.getD (j-1) bg.z).name,λm=>?_,labs[j].name,λ_=>h.r 0,λe=>?_,λe=>?_⟩
   .have v:=V3 m.2;rw[s (by omega)];omega
   .have v:=V3 m.2;rw[s (by omega),VL];exact f.el0 dB (k:=j-1) (by omega) (by rw[wh bg.z (by omega)];rfl)
   .have:df name labs=false:=by
     grind
    rw[<-this];exact k _ h.tl.tl
   .rw [aJ (x:=(j:Int)+1)];refine⟨⟨j+1,by omega,d,λq t=>?_,h.tl⟩,by grind⟩
    grind
  .have u:labs.length<=j:=by grind
   have:df name labs=true:=by grind
   rw[<-this];exact k _ h.tl
end
def dV(l:bg):Eq:=(l.name++(⟨#[61]⟩:Eq))++l.value
def iV(labs:List bg):Eq:=⟨(Go.Lib.join ((labs.map dV).map aR) [44]).toArray⟩
def dv(name:Eq)(labs:List bg):Eq:=
 if df name labs then (if labs=[] then name else ((name++(⟨#[123]⟩:Eq))++iV labs)++(⟨#[125]⟩:Eq)) else ⟨#[]⟩
theorem Qq{α:Type}(f:α->Value)(z:Value)(l:List α)(j:Nat)(h:j<l.length) :
  cq ((l.take j).map f++List.replicate (l.length-j) z) j [f l[j]]=(l.take (j+1)).map f++List.replicate (l.length-(j+1)) z:=by
 have e:l.length-j=(l.length-(j+1))+1:=by omega
 rw[e,List.replicate_succ];have a:((l.take j).map f).length=j:=by grind
 have:=tq [f l[j]] ((l.take j).map f) (z::List.replicate (l.length-(j+1)) z) 0;simp only[a,Wk]at this
 grind [List.take_succ_eq_append_getElem,cq]
theorem join_le{n:Nat}:∀{xs:List (List UInt8)},(∀x∈xs,x.length<=n)->(Go.Lib.join xs [44]).length<=(n+1)*xs.length
 | [],_=>by simp[Go.Lib.join,List.intercalate]
 | x::r,h=>by
  rw[Go.Lib.join_length];have:∀{l:List (List UInt8)},(∀x∈l,x.length<=n)->Go.Lib.lens l<=n*l.length:=by
   intro l
   induction l with
   | nil=>grind [Go.Lib.lens]
   | cons y l ih=>
    grind [Go.Lib.lens,Nat.mul_succ]
  grind
theorem rJ(x y:Eq):(x++y).size=x.size+y.size:=ByteArray.size_append
theorem tM{s:Eq}(h:jq s=true):s.size<=64/\1<=s.size:=by
 unfold jq at h
 grind
theorem tN{l:bg}(h:gF l=true):l.name.size<=64/\l.value.size<=64:=by
 unfold gF at h;simp only[V4,V5]at h
 grind [tM]
theorem Qr(l:bg):(dV l).size=l.name.size+1+l.value.size:=by
 unfold dV;rw[rJ,rJ];rfl
structure RightP(name:Eq)(labs:List bg):Prop where
 named:jq name=true
 len:labs.length<=8
 val:∀l∈labs,gF l=true
 step:∀i,i<labs.length->qi labs i=true
theorem lX{name:Eq}{labs:List bg}(h:df name labs=true):RightP name labs:=by
 unfold df at h;simp only[V4,V5,Qo]at h;refine⟨h.1.1,h.1.2,λl a=>?_,h.2⟩
 obtain⟨i,hi,rfl⟩:=Wu a;have:=h.2 i hi;unfold qi at this
 grind
theorem joinL_le{labs:List bg}(h:∀l∈labs,gF l=true):(Go.Lib.join ((labs.map dV).map aR) [44]).length<=130*labs.length:=by
 have:=join_le (n:=129) (xs:=(labs.map dV).map aR) (by
  intro x a;rw[Wg,V8]at a;obtain⟨l,b,rfl⟩:=a;have:=tN (h l b);show (aR (dV l)).length<=129
  grind [ko,Qr])
 grind
theorem Qs{labs:List bg}:(iV labs).size=(Go.Lib.join ((labs.map dV).map aR) [44]).length:=by
 unfold iV;show Array.size _=_;simp
theorem Gx{H:aC}{a:Xa}{cs:Xb}(h:aN H a cs)(b:0<cs.length):a=some ⟨aW a,aT a,none⟩:=(h 0 _ (vj b)).1
theorem Tryz.joinX:Builder.Extra Tryz.prog Tryz.joinA_ren where
 sizeBuilder:=by kernel_rfl
 liesBuilder:=by kernel_rfl
 t5:=Tryz.underlying5
 a5:=Tryz.isAgg5
 z5:=Tryz.sizeOf5
 v5:=Tryz.zeroValue5
 infoByte:=by kernel_rfl
 cellsByte:=by kernel_rfl
 sizeByte:=by kernel_rfl
 neB5:=by decide
section
variable {F L:List aD}{H:aC}{K:KQ}
theorem Join_spec{a:Xa}{c:Nat}{xs:List Eq}(h:aA H L)(d:aN H a (xs.map λs=>.string s))(n:0<xs.length)(u:xs.length<=1000000)(m:xs.length<=c)
  (i:(Go.Lib.join (xs.map aR) [44]).length<=1000000000)
  (k:∀H',aA H' L->K (.string ⟨(Go.Lib.join (xs.map aR) [44]).toArray⟩) H'):CF 43 #[.slice a xs.length c,.string ⟨#[44]⟩] H K:=by
 refine .mk λw t=>?_
 subst t;have hs:=Gx d (by grind);rw[hs]at d ⊢;have b:∀(j:Nat) x,xs[j]?=some x->w.cell? ⟨aW a,aT a+j,none⟩=some (.string x):=by
  intro j x v;rw[cell?_cellAt];exact (d j (.string x) (by grind [fJ])).2
 have f:aW a<w.heap.size:=by
  have:=b 0 xs[0] (List.getElem?_eq_getElem n)
  grind [cell?_cellAt,aM]
 refine ib (Any.strings_Join Tryz.joinA Tryz.joinX (aW a) (aT a) c xs ⟨#[44]⟩ w b f (by omega) m (by grind)) ?_;rintro e y ⟨rfl,hb⟩;exact⟨_,rfl,ru hb,k _ (h.grow (rq hb))⟩
theorem sl294:SlT Tryz.prog 69 9 1 16:=eG (by kernel_rfl)
theorem zo{name:Eq}{a:Xa}{c:Nat}{labs:List bg}(h:aA H F)(x:∀H,aA H F->aN H a (aF aZ labs))
  (k:∀H',aA H' F->K (.string (dv name labs)) H'):CF 63 #[.agg #[.string name,.slice a labs.length c]] H K:=by
 refine cN 63 0x1dd121561239925144c [[(22,sI)]] ?_;refine h.al λb _ h=>?_
 refine⟨_,_,_,_,h.q 0,?_⟩;refine oO h (λH h=>x H h.tl) λE h=>⟨_,rfl,λe=>?_,λe=>?_⟩
 .have:dv name labs=⟨#[]⟩:=by unfold dv;grind
  rw[<-this];exact k _ h.tl
 .simp only[W8]at e;have m:=lX e;refine⟨_,_,_,h.r 0,λf=>?_,λf=>?_⟩
  .have f:=V3 f;have N:labs=[]:=W5.1 (by omega);refine⟨_,h.r 0,?_⟩;have:dv name labs=name:=by unfold dv;grind
   rw[<-this];exact k _ h.tl
  .have f:=V2 f;have G:=m.len;refine⟨_,_,_,h.r 0,?_⟩;refine h.mk1 sl294 (z0:=.string ⟨#[]⟩) (by kernel_rfl) (by kernel_rfl) (by omega) (by omega) λpa H2 h=>?_
   refine⟨_,_,_,rfl,_,_,_,h.r 1,?_⟩;refine⟨λi H'=>∃j:Nat,i=j/\j<=labs.length/\aA H' (slA 9 1 pa labs.length labs.length ((labs.take j).map (λl=>.string (dV l))++List.replicate (labs.length-j) (Value.string ⟨#[]⟩))::cellsA b [.string name,.slice a labs.length c] 37::F),
    λi _=>labs.length-i.toNat,⟨0,rfl,by omega,by simpa using h⟩,?_⟩
   rintro i E ⟨j,rfl,D,h⟩;refine⟨λe=>?_,λe=>?_⟩
   .have d:j<labs.length:=by grind
    have w:=x _ h.tl.tl;have M:=tN (m.val _ (V7 d));refine⟨by omega,_,_,w.some dB (by omega) d,_,_,w.els dB d,?_⟩;refine h.al λb2 _ h=>?_
    refine h.st 0 rfl rfl ?_;intro Q h;refine⟨_,h.r 0,?_,_,h.r 0,?_,by omega,?_⟩
    .show (((labs[j].name.size+1:Nat)):Int)<=9223372036854775807;omega
    .show ((((labs[j].name++(⟨#[61]⟩:Eq)).size+labs[j].value.size:Nat)):Int)<=9223372036854775807;rw[rJ];show ((labs[j].name.size+1+labs[j].value.size:Nat):Int)<=9223372036854775807;omega
    .have C:((labs.take j).map (λl=>Value.string (dV l))++List.replicate (labs.length-j) (Value.string ⟨#[]⟩)).length=labs.length:=by
      grind
     obtain⟨B,J,u⟩:=h.sl_set 1 rfl j [.string (dV labs[j])] (by grind) (by simp);rw[Qq (λl=>Value.string (dV l)) _ labs j d]at u
     have y:i64.wrap ((j:Int)+1)=((j+1:Nat):Int):=by rw[aJ];omega
     refine⟨_,_,B,J,?_⟩;intro O A;refine⟨⟨j+1,y,d,?_⟩,by rw[y];dsimp only;omega⟩;rw[A];exact u.tl
   .have s:labs.length<=j:=by grind
    have e1:labs.take j=labs:=VM s;have e2:labs.length-j=0:=by omega
    rw[e1,e2,List.replicate_zero,VQ]at h;have D:=joinL_le m.val;have I:=Qs (labs:=labs);have L:=tM m.named;refine⟨_,h.r 1,?_,?_⟩
    .show (((name.size+1:Nat)):Int)<=9223372036854775807;omega
    have t:=h.sl_rd 0 rfl;have n:(labs.map dV).length=labs.length:=VP ..;rw[<-n];refine Join_spec (xs:=labs.map dV) h (by rw[Wg];exact t) (by omega) (by omega) (by omega) (by omega) λP h=>⟨_,rfl,h.r 1,?_,?_,?_⟩
    .show (((name++(⟨#[123]⟩:Eq)).size+(iV labs).size:Nat):Int)<=9223372036854775807;rw[rJ];show (((name.size+1)+(iV labs).size:Nat):Int)<=9223372036854775807;omega
    .show ((((name++(⟨#[123]⟩:Eq))++iV labs).size+1:Nat):Int)<=9223372036854775807;rw[rJ,rJ];show (((name.size+1)+(iV labs).size+1:Nat):Int)<=9223372036854775807;omega
    .have:dv name labs=((name++(⟨#[123]⟩:Eq))++iV labs)++(⟨#[125]⟩:Eq):=by
      unfold dv
      grind
     have v:=k _ h.tl.tl;rw[this]at v;exact v
end
theorem zp{α:Type}{p:α->Bool}:∀{l:List α} {j:Nat},(∀i (h:i<l.length),i<j->p l[i]=true)->(∀h:j<l.length,p l[j]=false)->l.takeWhile p=l.take j
 | [],j,_,_=>by simp
 | a::r,0,_,h2=>by
  simp_all
 | a::r,j+1,h1,h2=>by
  have e:p a=true:=h1 0 (by simp) (by omega);simp only[List.takeWhile,e,WS];rw[zp (λi h hi=>h1 (i+1) (by simpa using h) (by omega)) λh=>h2 (by simpa using h)]
theorem Qt(m:CM)(l r:List Ot):kZ m (l++r)=kZ (kZ m l) r:=by grind [kZ]
section
variable {sb mb:Nat}{most:Int}{m:CM}{F L:List aD}{H:aC}{K:KQ}
def clA(sb mb b b1 b2 l:Nat)(most:Int)(m:CM)(before:Int)(R:Loop)(j:Nat)(p:Prop):aD:=exS λq:Xa×Nat=>
 star [cellsA b [PA sb 0] 311,cellsA b1 [aB before] 2,cellsA b2 [.slice q.1 ((bP m).take j).length q.2] 283,slA 288 74 q.1 ((bP m).take j).length q.2 (aF cW ((bP m).take j)),
  shC sb mb most,cB mb (kZ m ((bP m).take j)),pt l (.loop R),pur p]
abbrev tO(m:CM)(before:Int)(j:Nat):Prop:=∀i (h:i<(bP m).length),i<j->(bP m)[i].1.win<before
theorem Qu(D:m.length<=1000000){d:Int}(h:aA H (shC sb mb most::cB mb m::F))
  (k:∀a c H',aA H' (slA 288 74 a (iy m d).length c (aF cW (iy m d))::shC sb mb most::cB mb (ni m d)::F)->K (.slice a (iy m d).length c) H') :
  CF 366 #[PA sb 0,aB d] H K:=by
 refine Oq ?_;have C:(bP m).length=m.length:=wg m;refine h.al λb _ h=>h.al λb1 _ h=>h.al λb2 _ h=>⟨_,h.r 2,?_⟩
 refine Gs h λc0 n h=>⟨_,_,rfl,rfl,λR u t I=>?_⟩
 have h:=h.rng R;have h:=h.sl_nil 288 74;refine Gt (m:=m) (sb:=sb) (mb:=mb) (most:=most) D (λj=>clA sb mb b b1 b2 (n.size+1) most m d R j (tO m d j))
  (λj=>clA sb mb b b1 b2 (n.size+1) most m d { R with state:=.done,pending:=some (.exit 0) } j (tO m d j/\∀h:j<(bP m).length,¬(bP m)[j].1.win<d))
  (star [slA 288 74 none 0 0 [],cellsA b2 [.slice none 0 0] 283,cellsA b1 [aB d] 2,cellsA b [PA sb 0] 311,pt (n.size+1) (.loop R)]) (F:=pt n.size (.deferred (some []))::F) ?_ ?_ ?_ ?_ ?_
 .have h:=aA.shut [_,_,_,_,_] (h.o [0,4,5,6,1,3,7,8,2] 9);exact h.o [1,2,3,0,4] 5
 .intro G H' h;have h:=(aA.open (A:=[_,_,_,_,_]) (h.o [2,0,1] 3)).pur (p:=tO m d 0) (λi _ hi=>V0 hi (Nat.not_lt_zero i))
  exact cy.2 ⟨(none,0),aA.shut [_,_,_,_,_,_,_,_] (h.o [4,3,2,1,6,7,5,0] 8)⟩
 .intro j v G w U h L E;obtain⟨⟨a,c⟩,h⟩:=cy.1 h;have h:=aA.open (A:=[_,_,_,_,_,_,_,_]) h;have f:=(aA.consP (h.o [7] 8)).1;refine I _ _ _ ?_;refine⟨_,_,_,_,_,_,_,_,_,_,rfl,h.getO 6 rfl,?_⟩;refine h.al λb3 _ h=>?_
  refine h.sta 0 rfl rfl λH2 h=>?_
  refine h.al λb4 _ h=>?_
  refine h.sta 0 rfl (by rw[kh];exact (kh Cl.z).symm) λV h=>⟨h.getO 8 rfl,h.stl 8 rfl λW h=>?_⟩
  refine⟨_,h.r 1,_,h.r 3,λs=>?_,λs=>?_⟩
  .have O:=V3 s;refine⟨h.getO 8 rfl,E _ ?_⟩;have h:=h.setO 8 rfl (.loop { R with state:=.done,pending:=some (.exit 0) });have e:tO m d j/\∀h:j<(bP m).length,¬(bP m)[j].1.win<d:=⟨f,λ_=>by omega⟩
   have h:=(h.o [2,3,4,5,6,7,8] 10).pur e;exact cy.2 ⟨(a,c),aA.shut [_,_,_,_,_,_,_,_] (h.o [1,2,3,4,5,6,7,0] 8)⟩
  .have J:=V2 s;refine⟨_,_,_,h.r 4,_,_,h.rda 1 rfl,_,_,_,_,_,_,_,_,h.rda 0 rfl,?_⟩;rintro b5 _ rfl rfl;have N:((bP m).take j).length<=1000000:=by grind
   refine h.append1 (ws:=cW (bP m)[j]) sl86 5 rfl (iU _) (tK _) (by omega) (by omega) λy M S h=>⟨_,_,_,rfl,?_⟩
   refine h.sta 4 rfl rfl λT h=>⟨_,h.r 2,dX ⟨_,h.r 6,_,_,h.rda 1 rfl,?_⟩⟩
   refine h.mp_delete (x:=(bP m)[j].1) mtC koK 7 rfl λQ h=>⟨h.getO 8 rfl,L _ ?_⟩
   have h:=h.setO 8 rfl (.loop R);have e:tO m d (j+1):=λi hi P=>by
    grind
   have h:=(h.o [2,3,4,5,6,7,8] 10).pur e;refine cy.2 ⟨(y,M),aA.shut [_,_,_,_,_,_,_,_] ?_⟩;rw[VU v,gx,lL,Qt,V6];exact h.o [1,2,3,4,5,6,7,0] 8
 .intro w h;obtain⟨⟨a,c⟩,h⟩:=cy.1 h;have h:=aA.open (A:=[_,_,_,_,_,_,_,_]) h;have f:=(aA.consP (h.o [7] 8)).1;have ec:iy m d=(bP m).take (bP m).length:=zp (λi h hi=>WI (f i h hi)) λh=>V0 h (Nat.lt_irrefl _)
  unfold ni at k;rw[ec]at k;refine⟨.ready,none,by decide,by rw[kT u t];exact h.getO 6 rfl,h.stl 6 rfl λB h=>.inl ⟨rfl,?_⟩⟩
  refine⟨_,_,_,h.r 2,h.getO 8 rfl,?_⟩;have h:=h.setO 8 rfl (.deferred none);exact k a c _ (h.o [3,4,5] 9)
 .intro j w v h;obtain⟨⟨a,c⟩,h⟩:=cy.1 h;have h:=aA.open (A:=[_,_,_,_,_,_,_,_]) h;have f:=(aA.consP (h.o [7] 8)).1;have ec:iy m d=(bP m).take j:=zp (λi h hi=>WI (f.1 i h hi)) λh=>decide_eq_false (f.2 h)
  unfold ni at k;rw[ec]at k;refine⟨.done,some (.exit 0),by decide,h.getO 6 rfl,h.stl 6 rfl λB h=>.inr ⟨rfl,?_⟩⟩
  refine⟨_,_,_,h.r 2,h.getO 8 rfl,?_⟩;have h:=h.setO 8 rfl (.deferred none);exact k a c _ (h.o [3,4,5] 9)
end
theorem u64in(x:Int):0<=u64.wrap x/\u64.wrap x<18446744073709551616:=by
 grind [IntKind.wrap,IntKind.bits,IntKind.signed]
theorem i64in(x:Int):aG (i64.wrap x):=by
 unfold aG
 grind [IntKind.wrap,IntKind.bits,IntKind.signed]
def tQ(v:Int):Int:=aX .xor .u64 (u64.wrap ((u64.wrap v)*2^(min (Int.toNat 1) (u64.bits)))) (u64.wrap (Int.fdiv v (2^(min (Int.toNat 63) (i64.bits)))))
def zq(u:Int):Int:=aX .xor .i64 (i64.wrap (Int.fdiv u (2^(min (Int.toNat 1) (u64.bits))))) (i64.wrap (0-(i64.wrap (aX .and .u64 u 1))))
theorem Gy(v:Int):0<=tQ v/\tQ v<18446744073709551616:=u64in _
theorem zr(u:Int):aG (zq u):=i64in _
def turnN(v:Int):Nat:=(tQ v).toNat
theorem Gz(v:Int):(turnN v:Int)=tQ v:=Int.toNat_of_nonneg (Gy v).1
theorem G0(v:Int):turnN v<18446744073709551616:=by have b:=Gz v;have a:=Gy v;omega
def fT(l:List Nat):List Int:=l.flatMap cA
def dG(l:List Int):List Int:=l.flatMap λv=>cA (turnN v)
def dM(s:Eq):List Int:=cA s.size++gk s
def eH(l:List Eq):List Int:=l.flatMap dM
theorem dY{a b:List Int}(c:aP a)(hb:aP b):aP (a++b):=λx d=>(VJ.1 d).elim (c x) (hb x)
theorem kr{α:Type}{f:α->List Int}{l:List α}(h:∀x∈l,aP (f x)):aP (l.flatMap f):=λx a=>by
 obtain⟨y,b,a⟩:=WK.1 a;exact h y b x a
theorem nX:aP []:=λx a=>by cases a
theorem wi(l:List Int):aP (dG l):=kr λ_ _=>pV _
theorem rK(s:Eq):aP (dM s):=dY (pV _) (NZ s)
theorem Qv(l:List Eq):aP (eH l):=kr λ_ _=>rK _
theorem tR:∀{l:List Nat},(∀u∈l,u<18446744073709551616)->(fT l).length<=10*l.length
 | [],_=>by simp[fT]
 | u::r,h=>by
  have c:=nU (h u VI);have b:=tR (l:=r) λx a=>h x (VF _ a)
  simp only[fT,Wo,V6,VA]at b ⊢;omega
theorem lY:∀(l:List Int),(dG l).length<=10*l.length
 | []=>by simp[dG]
 | v::r=>by
  have b:=nU (G0 v);have a:=lY r;simp only[dG,Wo,V6,VA]at a ⊢;omega
theorem nk{s:Eq}(h:s.size<18446744073709551616):(dM s).length<=10+s.size:=by
 grind [nU,dM,vw]
theorem jr{α β:Type}{f:α->List β}{l:List α}{i:Nat}(h:i<l.length):(l.take (i+1)).flatMap f=(l.take i).flatMap f++f l[i]:=by
 grind [List.take_add_one]
def bN(s:RS):Nat×RS:=if s.e≠0 then (0,s) else match rdU 0 0 s.bs with
 | .ok u n=>(u,⟨0,s.bs.drop n⟩)
 | .form=>(0,⟨10,s.bs⟩)
 | .ended=>(0,⟨15,s.bs⟩)
def dZ(s:RS):Int×RS:=(zq (bN s).1,(bN s).2)
def jM(s:RS):RS:=if s.bs=[] then s else if s.e≠0 then s else ⟨10,s.bs⟩
theorem wj{bs:List Int}(n:Nat)(h:aP bs):aP (bs.drop n):=λx a=>h x (W3 a)
theorem lf{s:RS}(h:aP s.bs):aP (bN s).2.bs:=by
 unfold bN
 split
 .exact h
 .split
  .exact wj _ h
  .exact h
  .exact h
theorem nl(s:RS):(bN s).2.bs.length<=s.bs.length:=by
 unfold bN
 grind
theorem zu{s:RS}(h:aP s.bs):(bN s).1<18446744073709551616:=by
 unfold bN
 split
 .grind
 .split
  .rename_i u n a;exact (rF h a).2.2
  .grind
  grind
theorem wk{s:RS}{m:Int}(h:aP s.bs):aP (bY m s).2.bs:=by
 unfold bY
 split
 .exact h
 .split
  .split
   .exact h
   .exact wj _ h
  .exact h
  .exact h
theorem wm(s:RS)(m:Int):(bY m s).2.bs.length<=s.bs.length:=by
 unfold bY
 grind
theorem qj{s:RS}{m:Int}(h:aP s.bs):aP (bH m s).2.bs/\aP (bH m s).1:=by
 unfold bH
 split
 .grind [nX]
 .split
  .split
   .grind [nX]
   .split
    .grind [nX]
    .exact⟨wj _ h,λx a=>wj _ h x (Ww a)⟩
  .grind [nX]
  grind [nX]
theorem qk(s:RS)(m:Int):(bH m s).2.bs.length<=s.bs.length/\(bH m s).1.length<=s.bs.length:=by
 unfold bH
 grind
section
variable {F L:List aD}{H:aC}{K:KQ}
theorem Qw{v:Int}:bO Tryz.prog 385 #[.int .i64 v] H (.int .u64 (tQ v)):=by
 refine cM 385 28 ?_;exact⟨by decide,by decide,rfl,rfl⟩
theorem Qx{u:Int}:bO Tryz.prog 193 #[.int .u64 u] H (.int .i64 (zq u)):=by
 refine cM 193 28 ?_;exact⟨by decide,rfl,rfl⟩
theorem ql{a:Xa}{c:Nat}{us:List Nat}(h:aA H F)(v:∀H,aA H F->aN H a (us.map λu=>.int .u64 (u:Nat)))(x:∀u∈us,u<18446744073709551616)(D:us.length<=1000000)
  (k:∀d f H',aA H' (slA 5 1 d (fT us).length f ((fT us).map U8)::F)->K (.slice d (fT us).length f) H') :
  CF 343 #[.slice a us.length c] H K:=by
 refine cN 343 0x1121561239925144c [[(3,sS),(8,sI)]] ?_;refine⟨λd y f i H'=>∃j:Nat,i=j/\j<=us.length/\y=(fT (us.take j)).length/\aA H' (slA 5 1 d (fT (us.take j)).length f ((fT (us.take j)).map U8)::F),λ_ _ _ i _=>us.length-i.toNat,
  ⟨0,rfl,VE _,rfl,h.sl_nil 5 1⟩,?_⟩
 rintro a1 n1 c1 i C ⟨j,rfl,B,rfl,m⟩;refine⟨λw=>?_,λw=>?_⟩
 .have b:j<us.length:=by grind
  have s:=(v _ m.tl).at b;refine⟨⟨by omega,by omega⟩,_,_,s.1,us[j],s.2,?_⟩;have A:i64.wrap ((j:Int)+1)=((j+1:Nat):Int):=by grind [aJ]
  have e:fT (us.take (j+1))=fT (us.take j)++cA us[j]:=jr b;have hb:(fT (us.take j)).length<=1099511627776:=by
   grind [tR]
  refine vH m hb (x _ (V7 b)) λd f H' t=>⟨_,_,_,rfl,⟨j+1,A,b,by rw[e],?_⟩,by grind⟩
  rw[e];exact t
 .have n:us.length<=j:=by grind
  have e:us.take j=us:=VM n;rw[e]at m ⊢;exact k _ _ _ m
theorem G3{a:Xa}{c:Nat}{vs:List Int}(h:aA H F)(u:∀H,aA H F->aN H a (vs.map λv=>.int .i64 v))(C:vs.length<=1000000)
  (k:∀d f H',aA H' (slA 5 1 d (dG vs).length f ((dG vs).map U8)::F)->K (.slice d (dG vs).length f) H') :
  CF 293 #[.slice a vs.length c] H K:=by
 refine cN 293 0x1121561239925144c [[(3,sS),(8,sI)]] ?_;refine⟨λd x f i H'=>∃j:Nat,i=j/\j<=vs.length/\x=(dG (vs.take j)).length/\aA H' (slA 5 1 d (dG (vs.take j)).length f ((dG (vs.take j)).map U8)::F),λ_ _ _ i _=>vs.length-i.toNat,
  ⟨0,rfl,VE _,rfl,h.sl_nil 5 1⟩,?_⟩
 rintro a1 n1 c1 i B ⟨j,rfl,A,rfl,m⟩;refine⟨λw=>?_,λw=>?_⟩
 .have b:j<vs.length:=by grind
  have s:=(u _ m.tl).at b;refine⟨⟨by omega,by omega⟩,_,_,s.1,vs[j],s.2,_,Qw,?_⟩;have y:i64.wrap ((j:Int)+1)=((j+1:Nat):Int):=by grind [aJ]
  have e:dG (vs.take (j+1))=dG (vs.take j)++cA (turnN vs[j]):=jr b;have hb:(dG (vs.take j)).length<=1099511627776:=by
   grind [lY]
  conv=>whnf
  rw[<-Gz];refine vH m hb (G0 _) λd f H' t=>⟨_,_,_,rfl,⟨j+1,y,b,by rw[e],?_⟩,by grind⟩
  rw[e];exact t
 .have n:vs.length<=j:=by grind
  have e:vs.take j=vs:=VM n;rw[e]at m ⊢;exact k _ _ _ m
theorem wo{a:Xa}{c:Nat}{ts:List Eq}(h:aA H F)(D:∀H,aA H F->aN H a (ts.map λs=>.string s))(hs:∀i,(eH (ts.take i)).length<=1000000000)(C:∀s∈ts,s.size<=1000000000)(J:ts.length<=1000000)
  (k:∀d m H',aA H' (slA 5 1 d (eH ts).length m ((eH ts).map U8)::F)->K (.slice d (eH ts).length m) H') :
  CF 345 #[.slice a ts.length c] H K:=by
 refine cN 345 0x1121561239925144c [[(3,sS),(8,sI)]] ?_;refine⟨λd G m i H'=>∃j:Nat,i=j/\j<=ts.length/\G=(eH (ts.take j)).length/\aA H' (slA 5 1 d (eH (ts.take j)).length m ((eH (ts.take j)).map U8)::F),λ_ _ _ i _=>ts.length-i.toNat,
  ⟨0,rfl,VE _,rfl,h.sl_nil 5 1⟩,?_⟩
 rintro a1 n1 c1 i M ⟨j,rfl,L,rfl,n⟩;refine⟨λA=>?_,λA=>?_⟩
 .have b:j<ts.length:=by grind
  have w:=(D _ n.tl).at b;have B:=C _ (V7 b);refine⟨⟨by omega,by omega⟩,_,_,w.1,ts[j],w.2,?_⟩;have I:i64.wrap ((j:Int)+1)=((j+1:Nat):Int):=by grind [aJ]
  have t:u64.wrap ((ts[j].size:Nat):Int)=((ts[j].size:Nat):Int):=u64w (by omega) (by omega);have e:eH (ts.take (j+1))=(eH (ts.take j)++cA ts[j].size)++gk ts[j]:=by
   rw[VX];exact jr (f:=dM) b
  have hb:=hs j;have x:=nU (u:=ts[j].size) (by omega)
  conv=>whnf
  rw[t];refine vH n (by omega) (by omega) λd m H' y=>⟨_,_,_,rfl,?_⟩
  refine y.appendS sl32 (ts:=9) (by kernel_rfl) 0 rfl (by grind) (by grind) λa2 c2 N E=>⟨_,_,_,rfl,⟨j+1,I,b,?_,?_⟩,by grind⟩
  .grind [vw]
  .rw [e,V6 (bs:=gk ts[j]),vw,VS (l₂:=gk ts[j])];exact E
 .have v:ts.length<=j:=by grind
  have e:ts.take j=ts:=VM v;rw[e]at n ⊢;exact k _ _ _ n
theorem nY{b:Nat}{s:RS}(h:aA H (crdA b s::F))(hb:aP s.bs)(t:s.bs.length<=1099511627776)
  (k:∀H',aA H' (crdA b (bN s).2::F)->K (.int .u64 ((bN s).1:Nat)) H') :
  CF 114 #[.pointer (some ⟨b,0,none⟩)] H K:=by
 obtain⟨e,bs⟩:=s;dsimp only at hb t;obtain⟨a,c,h⟩:=gB.1 h;dsimp only at h;have x:=h.sl_rd 1 rfl;have w:=h.sl_nc 1 rfl;refine cM 114 4572 ?_;have d:=EE (c:=c) x hb t
 by_cases he:e=0
 .subst he
  cases hu:rdU 0 0 bs with
  | ok u n=>
   obtain⟨A,v,y⟩:=rF hb hu;rw[hu]at d;unfold firV at d;dsimp only at d;refine⟨_,_,_,h.r 0,_,_,_,d,?_⟩;have ec:bN ⟨0,bs⟩=(u,⟨0,bs.drop n⟩):=by grind [bN]
   rw[ec]at k;refine zc h v w λH' i=>⟨_,rfl,(λf=>by cases f),λ_=>k _ ?_⟩
   have m:=i.sl_drop 1 rfl n v;rw[Wn,<-List.map_drop]at m;refine gB.2 ⟨bM a n c 1,c-n,?_⟩;dsimp only;rw[Wb];exact m
  | form=>
   rw[hu]at d;have ec:bN ⟨0,bs⟩=(0,⟨10,bs⟩):=by grind [bN]
   rw[ec]at k;refine⟨_,_,_,h.r 0,_,_,_,d,?_⟩;exact mZ h (by decide) λH' i=>⟨_,rfl,λ_=>k _ (gB.2 ⟨_,_,i⟩),λf=>by cases f⟩
  | ended=>
   rw[hu]at d;have ec:bN ⟨0,bs⟩=(0,⟨15,bs⟩):=by grind [bN]
   rw[ec]at k;refine⟨_,_,_,h.r 0,_,_,_,d,?_⟩;exact mZ h (by decide) λH' i=>⟨_,rfl,λ_=>k _ (gB.2 ⟨_,_,i⟩),λf=>by cases f⟩
 .have ec:bN ⟨e,bs⟩=(0,⟨e,bs⟩):=by grind [bN]
  rw[ec]at k;have j:∃r r1 r2:Int,firV (rdU 0 0 bs)=.tuple #[.int .u64 r,.int .i64 r1,.int .i64 r2]:=by
   unfold firV
   split <;> exact⟨_,_,_,rfl⟩
  obtain⟨r,r1,r2,j⟩:=j;rw[j]at d;refine⟨_,_,_,h.r 0,_,_,_,d,?_⟩;exact vI h he ⟨_,rfl,λ_=>k _ (gB.2 ⟨_,_,h⟩),λf=>by cases f⟩
theorem zv{b:Nat}{s:RS}(h:aA H (crdA b s::F))(hb:aP s.bs)(c:s.bs.length<=1099511627776)
  (k:∀H',aA H' (crdA b (dZ s).2::F)->K (.int .i64 (dZ s).1) H') :
  CF 115 #[.pointer (some ⟨b,0,none⟩)] H K:=by
 refine cM 115 28 ?_;exact nY h hb c λH' a=>⟨_,rfl,_,Qx,k _ a⟩
theorem G4{b:Nat}{s:RS}(h:aA H (crdA b s::F))
  (k:∀H',aA H' (crdA b (jM s)::F)->K (.int .i64 (jM s).e) H') :
  CF 118 #[.pointer (some ⟨b,0,none⟩)] H K:=by
 obtain⟨e,bs⟩:=s;obtain⟨a,c,h⟩:=gB.1 h;dsimp only at h;refine cN 118 18969756 [[]] ?_;refine⟨_,_,_,h.r 0,λn d=>⟨λm=>?_,λm=>?_⟩⟩
 .have j:bs≠[]:=by
   grind
  by_cases f:e=0
  .subst f;have ec:jM ⟨0,bs⟩=⟨10,bs⟩:=by grind [jM]
   rw[ec]at k;refine mZ h (by decide) λH' i=>⟨_,rfl,d _ ?_⟩
   exact⟨_,i.r 0,k _ (gB.2 ⟨_,_,i⟩)⟩
  .have ec:jM ⟨e,bs⟩=⟨e,bs⟩:=by grind [jM]
   rw[ec]at k;refine vI h f ⟨_,rfl,d _ ?_⟩;exact⟨_,h.r 0,k _ (gB.2 ⟨_,_,h⟩)⟩
 .have f:bs=[]:=by
   simp_all
  have ec:jM ⟨e,bs⟩=⟨e,bs⟩:=by grind [jM]
  rw[ec]at k;refine d _ ?_;exact⟨_,h.r 0,k _ (gB.2 ⟨_,_,h⟩)⟩
end
def wNat(z:Int)(p:Nat):Nat:=if p<8 then (whi z%B64).toNat/2^(8*(7-p))%256 else (wlo z).toNat/2^(8*(15-p))%256
def iW(z:Int):List Int:=(List.range 16).map λp=>(wNat z p:Int)
def gG(z:Int)(t:Nat):List Int:=(List.range 16).map λp=>if (p<=7/\7<p+t)\/(8<=p/\15<p+t) then (wNat z p:Int) else 0
theorem Qy(z:Int)(t:Nat):(gG z t).length=16:=by simp[gG]
theorem zw(z:Int):(iW z).length=16:=by simp[iW]
theorem Qz(z:Int):gG z 0=List.replicate 16 0:=by
 refine WJ (by simp[gG]) λi b a=>?_
 have:i<16:=by grind
 simp only[gG,List.getElem_map,List.getElem_range,List.getElem_replicate]
 grind
theorem Q7(z:Int):gG z 8=iW z:=by
 refine WJ (by simp[gG,iW]) λi b a=>?_
 have:i<16:=by grind [gG]
 simp only[gG,iW,List.getElem_map,List.getElem_range]
 grind
theorem Q8(z:Int){t:Nat}(a:t<8):((gG z t).set (7-t) (wNat z (7-t):Int)).set (15-t) (wNat z (15-t):Int)=gG z (t+1):=by
 refine WJ (by simp[gG]) λi c b=>?_
 have hi:i<16:=by grind [gG]
 simp only[List.getElem_set,gG,List.getElem_map,List.getElem_range]
 grind
def lZ(l:List Int):Nat:=l.foldl (λa b=>a*256%18446744073709551616+b.toNat) 0
theorem zz(l:List Int)(b:Int):lZ (l++[b])=lZ l*256%18446744073709551616+b.toNat:=by grind [lZ]
theorem G5{l:List Int}(h:aP l):lZ l<18446744073709551616:=by
 rcases List.eq_nil_or_concat l with rfl|⟨r,b,rfl⟩
 .exact Nat.le_of_ble_eq_true rfl
 .rw [List.concat_eq_append]at h ⊢;rw[zz];have:=h b (by simp);omega
def jt(bs:List Int):Int:=i64.wrap (lZ (bs.take 8):Nat)*B64+(lZ (bs.drop 8):Nat)
theorem G6{a:Nat}{b:Int}(e:0<=b)(d:b<256):aX .or .u64 (u64.wrap ((a:Int)*2^(min (Int.toNat 8) (u64.bits)))) (u64.wrap b)=((a*256%18446744073709551616+b.toNat:Nat):Int):=by
 have e1:u64.wrap ((a:Int)*2^(min (Int.toNat 8) (u64.bits)))=((a*256%18446744073709551616:Nat):Int):=by
  show u64.wrap ((a:Int)*256)=_
  grind [fw]
 have e2:u64.wrap b=((b.toNat:Nat):Int):=by grind [fw]
 rw[e1,e2,or64 (by omega) (by omega)];congr 1;have c:a*256%18446744073709551616=2^8*(a%72057594037927936):=by omega
 rw[c];exact (WZ (by grind) _).symm
theorem Q9{bs:List Int}(h:aP bs):whi (jt bs)=i64.wrap (lZ (bs.take 8):Nat)/\wlo (jt bs)=(lZ (bs.drop 8):Nat):=by
 have b:=G5 (l:=bs.drop 8) λx a=>h x (W3 a)
 unfold jt whi wlo B64
 grind
theorem QB(bs:List Int)(h:aP bs):fQ (jt bs):=by
 have c:=G5 (l:=bs.drop 8) λx a=>h x (W3 a)
 have b:aG (i64.wrap (lZ (bs.take 8):Nat)):=pP _;unfold aG at b;unfold jt fQ B64;omega
section
variable {F L:List aD}{H:aC}{K:KQ}
theorem G7{x:Int}(b:0<=x){t:Nat}(a:t<8):u8.wrap (Int.fdiv x (2^(min (Int.toNat (i64.wrap (8*(t:Int)))) (u64.bits))))=((x.toNat/2^(8*t)%256:Nat):Int):=by
 rw[aJ (x:=8*(t:Int))];have e1:min (Int.toNat (8*(t:Int))) u64.bits=8*t:=by show min _ 64=_;omega
 obtain⟨n,rfl⟩:∃n:Nat,x=n:=⟨x.toNat,by omega⟩;rw[e1,r8,pW,VL]
theorem QC{z:Int}(v:fQ z)(h:aA H F)(k:∀a c H',aA H' (slA 5 1 a 16 c ((iW z).map U8)::F)->K (.slice a 16 c) H') :
  CF 347 #[kg z] H K:=by
 refine O0 ?_;refine h.al λb _ h=>?_
 refine aA.mk1 (c:=16) sl32 (z0:=U8 0) (by kernel_rfl) rfl h (by decide) (by decide) λa s h=>⟨_,_,_,rfl,?_⟩
 have e0:List.replicate 16 (U8 0)=(gG z 0).map U8:=by rw[Qz];rfl
 rw[e0]at h;refine⟨λi H'=>∃t:Nat,i=t/\t<=8/\aA H' (slA 5 1 a 16 16 ((gG z t).map U8)::cellsA b [aB (whi z),.int .u64 (wlo z)] 155::F),λi _=>8-i.toNat,⟨0,rfl,by omega,h⟩,?_⟩
 rintro i H2 ⟨t,rfl,n,h⟩;refine⟨λj=>?_,λj=>?_⟩
 .have d:t<8:=by grind
  have f:((gG z t).map U8).length=16:=by grind [Qy]
  have e7:i64.wrap (7-(t:Int))=((7-t:Nat):Int):=by grind [aJ]
  have e:i64.wrap (15-(t:Int))=((15-t:Nat):Int):=by grind [aJ]
  have e8:i64.wrap (8*(t:Int))=8*(t:Int):=aJ;have m:u64.wrap (whi z)=whi z%B64:=fw _;have hm:0<=whi z%B64:=by grind
  have q1:(whi z%B64).toNat/2^(8*t)%256=wNat z (7-t):=by unfold wNat;grind
  have q2:(wlo z).toNat/2^(8*t)%256=wNat z (15-t):=by unfold wNat;grind
  refine⟨_,h.r 1,by grind,?_⟩;rw[m,G7 hm d,q1,e7,e];obtain⟨s1,s2,s3⟩:=h.sl_set 0 rfl (7-t) [U8 (wNat z (7-t))] (by grind) (by simp);refine⟨⟨by omega,by omega⟩,_,_,s1,?_⟩;rw[VL];refine⟨s2,?_⟩;rintro w rfl;have h:=s3;refine⟨_,h.r 1,by grind,⟨by omega,by omega⟩,_,_,s1,?_⟩;rw[VL,G7 (qe z).1 d,q2];obtain⟨_,t2,t3⟩:=h.sl_set 0 rfl (15-t) [U8 (wNat z (15-t))] (by grind [oH]) (by simp);refine⟨t2,?_⟩;rintro u rfl;rw[show i64.wrap ((t:Int)+1)=((t+1:Nat):Int) by grind [aJ]];refine⟨⟨t+1,rfl,d,?_⟩,by grind⟩;have es:cq (cq ((gG z t).map U8) (7-t) [U8 (wNat z (7-t))]) (15-t) [U8 (wNat z (15-t))]=(gG z (t+1)).map U8:=by
   rw[<-Q8 z d,List.map_set,List.map_set];rfl
  rw[<-es];exact t3
 .have:t=8:=by grind
  subst this;rw[Q7]at h;exact k _ _ _ (h.o [0] 2)
theorem QD{a:Xa}{c n:Nat}{bs:List Int}(u:bs.length=n)(hb:aP bs)(h:aA H F)(k:∀H,aA H F->aN H a (bs.map U8))(x:n<=10000000000)
  (k1:n≠16->∀H',aA H' F->K (.tuple #[kg 0,.bool false]) H')
  (k2:n=16->∀H',aA H' F->K (.tuple #[kg (jt bs),.bool true]) H'):CF 119 #[.slice a n c] H K:=by
 subst u;refine OT ?_;refine h.al λb _ h=>⟨λs=>?_,λs=>?_⟩
 .have d:bs.length≠16:=by
   grind
  refine h.sta 0 rfl rfl λm h=>⟨_,_,h.rda 0 rfl,k1 d _ h.tl⟩
 .have v:bs.length=16:=by grind
  refine⟨λhi lo i H'=>∃t:Nat,i=t/\t<=8/\hi=(lZ (bs.take t):Nat)/\lo=(lZ ((bs.drop 8).take t):Nat)/\aA H' (cellsA b [aB 0,.int .u64 0] 155::F),λ_ _ i _=>8-i.toNat,⟨0,rfl,by omega,rfl,rfl,h⟩,?_⟩
  rintro hi lo i H2 ⟨t,rfl,w,rfl,rfl,h⟩;refine⟨λe=>?_,λe=>?_⟩
  .have f:t<8:=by grind
   have e8:i64.wrap (8+(t:Int))=((8+t:Nat):Int):=by grind [aJ]
   have r1:=(k _ h.tl).at (j:=t) (by omega);have r2:=(k _ h.tl).at (j:=8+t) (by omega);have b1:=hb _ (V7 (show t<bs.length by omega));have b2:=hb _ (V7 (show 8+t<bs.length by omega));rw[e8];refine⟨by decide,⟨by omega,by omega⟩,_,_,r1.1,_,r1.2,by decide,⟨by omega,by omega⟩,_,_,r2.1,_,r2.2,?_⟩;dsimp only;rw[G6 b1.1 b1.2,G6 b2.1 b2.2];rw[show i64.wrap ((t:Int)+1)=((t+1:Nat):Int) by grind [aJ]];refine⟨⟨t+1,rfl,f,?_,?_,h⟩,by grind⟩
   .grind [List.take_succ_eq_append_getElem,zz]
   grind [List.take_succ_eq_append_getElem,zz]
  .have:t=8:=by grind
   subst this;have e2:(bs.drop 8).take 8=bs.drop 8:=VM (by grind);rw[e2];obtain⟨w1,w2⟩:=Q9 hb;rw[<-w1,<-w2];refine h.sta 0 rfl rfl λm h=>⟨_,_,h.rda 0 rfl,k2 v _ h.tl⟩
end
def gq(h:Nat->Int)(n:Nat):List Nat:=(List.range n).flatMap λi=>if h i=0 then [] else [i,(h i).toNat]
theorem zA(h:Nat->Int)(n:Nat):gq h (n+1)=gq h n++(if h n=0 then [] else [n,(h n).toNat]):=by
 grind [gq,List.range_succ]
theorem wp(h:Nat->Int):∀n,(gq h n).length<=2*n
 | 0=>by simp[gq]
 | n+1=>by
  rw[zA,V6];have:=wp h n
  split
  .simp only[VV];omega
  .simp only[VA,VV];omega
theorem G8{h:Nat->Int}(b:wfH h)(n:Nat)(c:n<=65):∀u∈gq h n,u<18446744073709551616:=by
 intro u a;obtain⟨i,hi,a⟩:=WK.1 a;have hi:=Wh.1 hi;have:=b i (by omega);unfold aG at this
 grind
def iX(c:Cl):List Int:=if gD c then fT [c.n.toNat,c.cer.toNat,c.pos.toNat]++dG [c.mn,c.mx]++dM (cw (iW c.sum))++fT [(gq c.h 65).length/2]++fT (gq c.h 65) else []
theorem G9{c:Cl}(h:gD c=true):0<=c.n/\0<=c.cer/\0<=c.pos/\(∀i,i<65->0<=c.h i):=by
 unfold gD at h;simp only[V4,Wa,VN,VG]at h
 grind [qf]
theorem tS(l:List Int):(cw l).size=l.length:=Go.strOfNums_size l
theorem wq{c:Cl}(wc:WC c):(iX c).length<=4096:=by
 unfold iX
 split
 .rename_i d;obtain⟨p1,p2,p3,p4⟩:=G9 d;have a:=wc.n;have b:=wc.cer;have e:=wc.pos;unfold aG at a b e;have l1:(fT [c.n.toNat,c.cer.toNat,c.pos.toNat]).length<=30:=tR (by
   grind)
  have l2:=lY [c.mn,c.mx];have i:(dM (cw (iW c.sum))).length<=26:=by
   grind [nk,tS,zw]
  have f:=wp c.h 65;have k:(fT [(gq c.h 65).length/2]).length<=10:=tR (by
   grind)
  have j:=tR (G8 wc.h 65 (VD _))
  grind
 .simp
theorem sl285:SlT Tryz.prog 535 153 1 8:=eG (by kernel_rfl)
abbrev U64(n:Nat):Value:=.int .u64 (n:Int)
section
variable {F L:List aD}{H:aC}{K:KQ}
theorem wr{v:Int}(a:0<=v)(h:aG v):u64.wrap v=((v.toNat:Nat):Int):=by grind [aG,fw]
theorem dd{a a2:Xa}{n c m c2 i:Nat}{x y:List Int}(h:aA H L)(f:aS i L=slA 5 1 a n c (x.map U8))(e:n=x.length)(hm:y.length=m)(j:aN H a2 (y.map U8))(s:x.length+y.length<=100000000000)
  (k:∀b d H',aA H' (put i (slA 5 1 b (x++y).length d ((x++y).map U8)) L)->K (.slice b (x++y).length d) H') :
  bS Tryz.prog (Builtin.append_ #[38,38] 38 #[.slice a n c,.slice a2 m c2]) H K:=by
 subst e hm;refine h.append sl32 i f j (by simp) (DO _ _) (by omega) (by omega) λb d H' h=>?_
 have:=k b d H';rw[V6,VS]at this;exact this h
theorem GB{c:Cl}(wc:WC c)(h:aA H F)
  (k:∀a w H',aA H' (slA 5 1 a (iX c).length w ((iX c).map U8)::F)->K (.slice a (iX c).length w) H') :
  CF 247 #[aggC c] H K:=by
 refine cL 247 (.r (.seq (.r (.cond (.r .no) .no)) (.r (.r (.r (.r (.seq (.r (.blk (.rng [sI,sI] [none] (.r .reg) (.blk .reg)))) (.r (.r .no))))))))) ?_;have d:=wq wc;unfold iX at k d;refine h.al λb _ h=>⟨_,_,_,_,_,_,_,_,h.rda 0 rfl,?_⟩
 refine vW wc h λH1 h=>⟨_,rfl,λS=>?_,λS=>?_⟩
 .rw [Vz (by grind)]at k;exact k none 0 _ (h.tl.sl_nil 5 1)
 have M:gD c=true:=by grind
 rw[V1 M]at k d;obtain⟨p1,p2,p3,p4⟩:=G9 M;simp only[V6]at d;have N:=wc.n;have s:=wc.cer;have v:=wc.pos;refine⟨_,h.r 0,_,h.r 0,_,h.r 0,?_⟩;dsimp only
 conv=>whnf
 rw[wr p1 N,wr p2 s,wr p3 v];unfold aG at N s v;refine h.al λb1 _ h=>?_
 refine ql (us:=[c.n.toNat,c.cer.toNat,c.pos.toNat]) h (λH h=>h.ce_rd 0 rfl) (by
   grind) (by simp) λa1 c1 H3 h=>⟨_,_,_,rfl,?_⟩
 refine⟨_,h.r 2,_,h.r 2,?_⟩;refine h.al λb2 _ h=>?_
 refine G3 (vs:=[c.mn,c.mx]) h (λH h=>h.ce_rd 0 rfl) (by simp) λa2 c2 H5 h=>⟨_,_,_,rfl,?_⟩
 refine dd h (i:=2) rfl rfl rfl (h.sl_rd 0 rfl) (by omega) λa3 c3 H6 h=>⟨_,_,_,rfl,?_⟩
 refine⟨_,_,h.rdv (l:=[_]) (vs:=[_,_]) 4 rfl rfl,?_⟩;refine QC wc.sum h λa4 c4 H7 h=>⟨_,_,_,rfl,?_⟩
 have hs:=pY (c:=c4) (bs:=iW c.sum) (slB_is (k:=0) (c:=c4) h |> λhh=>by
  rcases (jF (F:=star _) h).2 with ⟨h2,_⟩|⟨b,h6,post,e',fr,h2,_⟩
  .grind
  grind) (h.sl_rd 0 rfl)
 rw[zw]at hs;refine⟨_,hs,?_⟩;refine h.al λb3 _ h=>?_
 have h3:(cw (iW c.sum)).size=16:=by rw[tS,zw]
 have x:eH [cw (iW c.sum)]=dM (cw (iW c.sum)):=by simp[eH]
 have Y:(dM (cw (iW c.sum))).length<=26:=by grind [nk]
 refine wo (ts:=[cw (iW c.sum)]) h (λH h=>h.ce_rd 0 rfl) (λi=>by
   rcases Nat.eq_zero_or_pos i with rfl|hi
   .simp [eH]
   grind [List.take_of_length_le]) (by grind) (by simp) λa5 c5 H9 h=>⟨_,_,_,rfl,?_⟩
 rw[x]at h ⊢;refine dd h (i:=5) rfl rfl rfl (h.sl_rd 0 rfl) (by grind) λa6 c6 V h=>⟨_,_,_,rfl,?_⟩
 refine h.al λb4 _ h=>⟨c.h,h.rdt (l:=[_,_,_,_,_,_,_]) 8 rfl rfl,?_⟩
 have h:=h.o [0,6] 9;refine Gc h λfb u h=>⟨_,_,rfl,rfl,λR E y hy=>?_⟩
 have h:=h.rng R;have h:=h.sl_nil 153 1;refine Ge (f:=c.h) (λj=>exS λp:Xa×Nat=>star [cellsA b4 [.slice p.1 (gq c.h j).length p.2] 535,slA 153 1 p.1 (gq c.h j).length p.2 ((gq c.h j).map U64),pt (u.size+1) (.loop R)]) (pur False)
  (F:=pt u.size (.deferred (some []))::slA 5 1 a6 (fT [c.n.toNat,c.cer.toNat,c.pos.toNat]++dG [c.mn,c.mx]++dM (cw (iW c.sum))).length c6 ((fT [c.n.toNat,c.cer.toNat,c.pos.toNat]++dG [c.mn,c.mx]++dM (cw (iW c.sum))).map U8)::F) ?_ ?_ ?_ ?_ ?_
 .exact cy.2 ⟨(none,0),aA.shut [_,_,_] (h.o [4,0,1,3,2,5] 6)⟩
 .intro j I hz;rw[show gq c.h (j+1)=gq c.h j by rw[zA,V1 hz,VQ]]
 .intro j I B G t K1 h U _;obtain⟨⟨a,w⟩,h⟩:=cy.1 h;have h:=aA.open (A:=[_,_,_]) h;refine hy _ _ _ ?_;have D:=wp c.h j;have J:=wc.h j I;have L:=p4 j I;refine⟨_,_,rfl,h.getO 2 rfl,h.getO 2 rfl,h.stl 2 rfl λP h=>⟨_,_,_,h.r 0,?_⟩⟩
  conv=>whnf
  rw[wr L J,u64n (show j<18446744073709551616 by omega)];refine h.al λb5 _ h=>?_
  refine h.append (m:=2) (ws:=[U64 j,U64 (c.h j).toNat]) sl285 2 rfl (h.ce_rd 0 rfl) rfl rfl (by omega) (by omega) λO C h5 h=>⟨_,_,_,rfl,?_⟩
  refine h.sta 1 rfl rfl λh4 h=>⟨h.getO 3 rfl,U _ ?_⟩
  have h:=h.setO 3 rfl (.loop R);refine cy.2 ⟨(O,C),aA.shut [_,_,_] ?_⟩;rw[zA,Vz B,V6,VS];exact h.o [1,2,3] 4
 .intro t h;obtain⟨⟨a,w⟩,h⟩:=cy.1 h;have h:=aA.open (A:=[_,_,_]) h;refine⟨.ready,none,by decide,by rw[kT E y];exact h.getO 2 rfl,h.stl 2 rfl λT h=>⟨rfl,?_⟩⟩
  refine⟨_,_,_,h.r 0,by decide,?_⟩;have D:=wp c.h 65;have e:u64.wrap (i64.wrap (Int.tdiv ((gq c.h 65).length:Int) 2))=(((gq c.h 65).length/2:Nat):Int):=by
   rw[show Int.tdiv ((gq c.h 65).length:Int) 2=(((gq c.h 65).length/2:Nat):Int) from rfl,aJ,u64n (by omega)]
  conv=>whnf
  rw[e];refine h.al λb6 _ h=>?_
  refine ql (us:=[(gq c.h 65).length/2]) h (λH h=>h.ce_rd 0 rfl) (by
    grind) (by simp) λa7 c7 h1 h=>⟨_,_,_,rfl,?_⟩
  refine dd h (i:=7) rfl rfl rfl (h.sl_rd 0 rfl) (by grind) λa8 c8 h7 h=>⟨_,_,_,rfl,?_⟩
  refine⟨_,_,_,h.r 2,?_⟩;refine ql (us:=gq c.h 65) h (λH h=>h.sl_rd 3 rfl) (G8 wc.h 65 (VD _)) (by omega) λa9 c9 Q h=>⟨_,_,_,rfl,?_⟩
  refine dd h (i:=8) rfl rfl rfl (h.sl_rd 0 rfl) (by grind) λh0 Z W h=>⟨_,_,_,rfl,h.getO 7 rfl,?_⟩
  have h:=h.setO 7 rfl (.deferred none);exact k _ _ _ (h.o [8] 9)
 .intro t h;exact (aA.consP h).1.elim
end
abbrev lg(l:bg):List Int:=dM l.name++dM l.value
def serB(name:Eq)(labs:List bg):List Int:=(dM name++cA labs.length)++labs.flatMap lg
def ju(name:Eq)(labs:List bg):List Int:=if df name labs then serB name labs else []
theorem QF(name:Eq)(labs:List bg):aP (serB name labs):=
 dY (dY (rK _) (pV _)) (kr λ_ _=>dY (rK _) (rK _))
theorem zB(name:Eq)(labs:List bg):aP (ju name labs):=by
 unfold ju;split
 .exact QF _ _
 .exact nX
theorem GD(s:Eq):eH [s]=dM s:=by simp[eH]
theorem wt(n:Nat):fT [n]=cA n:=by simp[fT]
theorem GE(l:bg):eH [l.name,l.value]=lg l:=by simp[eH,lg]
theorem GL{l:bg}(h:gF l=true):(lg l).length<=148:=by
 grind [tN,nk]
theorem GM{labs:List bg}:(∀l∈labs,gF l=true)->(labs.flatMap lg).length<=148*labs.length:=by
 induction labs with
 | nil=>grind
 | cons a l ih=>
  grind [GL]
def dC:Nat->RS->List bg×RS
 | 0,s=>([],s)
 | n+1,s=>((dC n s).1++[⟨cw (bH 64 (dC n s).2).1,cw (bH 64 (bH 64 (dC n s).2).2).1⟩],(bH 64 (bH 64 (dC n s).2).2).2)
structure SRes where
 name:Eq
 labs:List bg
 e:Int
 rest:RS
def dg(s:RS):SRes:=
 if (dC (bY 8 (bH 64 s).2).1.toNat (bY 8 (bH 64 s).2).2).2.e≠0 then ⟨⟨#[]⟩,[],(dC (bY 8 (bH 64 s).2).1.toNat (bY 8 (bH 64 s).2).2).2.e,(dC (bY 8 (bH 64 s).2).1.toNat (bY 8 (bH 64 s).2).2).2⟩
 else if df (cw (bH 64 s).1) (dC (bY 8 (bH 64 s).2).1.toNat (bY 8 (bH 64 s).2).2).1 then ⟨cw (bH 64 s).1,(dC (bY 8 (bH 64 s).2).1.toNat (bY 8 (bH 64 s).2).2).1,0,(dC (bY 8 (bH 64 s).2).1.toNat (bY 8 (bH 64 s).2).2).2⟩
 else ⟨⟨#[]⟩,[],10,(dC (bY 8 (bH 64 s).2).1.toNat (bY 8 (bH 64 s).2).2).2⟩
theorem zC{s:RS}(h:aP s.bs):∀n,aP (dC n s).2.bs
 | 0=>h
 | n+1=>(qj (qj (zC h n)).1).1
theorem zD(s:RS):∀n,(dC n s).2.bs.length<=s.bs.length
 | 0=>VD _
 | n+1=>W2 (qk _ _).1 (W2 (qk _ _).1 (zD s n))
theorem zG(s:RS):∀n,(dC n s).1.length=n
 | 0=>rfl
 | n+1=>by unfold dC;rw[V6,zG s n];rfl
theorem cRes_le(s:RS):0<=(bY 8 s).1/\(bY 8 s).1<=8:=by
 grind [bY]
theorem QG{s:RS}(h:aP s.bs):aP (dg s).rest.bs:=by
 have:=zC (wk (m:=8) (qj (m:=64) h).1) (bY 8 (bH 64 s).2).1.toNat
 unfold dg;split
 .exact this
 .split <;> exact this
theorem QH(s:RS):(dg s).rest.bs.length<=s.bs.length:=by
 grind [zD,wm,qk,dg]
theorem GN{s:RS}(h:(dg s).e=0):df (dg s).name (dg s).labs=true:=by
 unfold dg at h ⊢
 grind
theorem GU{name:Eq}{labs:List bg}(h:RightP name labs):(serB name labs).length<=1300:=by
 have c:=tM h.named;have b:=nk (s:=name) (by omega);have a:=nU (u:=labs.length) (by have:=h.len;omega);have d:=GM h.val;have e:=h.len
 grind [serB]
theorem wu(name:Eq)(labs:List bg):(ju name labs).length<=1300:=by
 grind [ju,GU,lX]
section
variable {F L:List aD}{H:aC}{K:KQ}
theorem wv{a:Xa}{c:Nat}{s:Eq}(h:aA H F)(e:∀H,aA H F->aN H a [.string s])(hs:s.size<=100000000)
  (k:∀b d H',aA H' (slA 5 1 b (dM s).length d ((dM s).map U8)::F)->K (.slice b (dM s).length d) H') :
  CF 345 #[.slice a 1 c] H K:=by
 have f:=nk (s:=s) (by omega);refine wo (ts:=[s]) h e (λi=>?_) (λx j=>by grind) (by simp) ?_
 .rcases Nat.eq_zero_or_pos i with rfl|hi
  .simp [eH]
  grind [List.take_of_length_le,GD]
 .rw [GD];exact k
theorem zH{name:Eq}{a:Xa}{c:Nat}{labs:List bg}(h:aA H F)(C:∀H,aA H F->aN H a (aF aZ labs))
  (k:∀n v H',aA H' (slA 5 1 n (ju name labs).length v ((ju name labs).map U8)::F)->K (.slice n (ju name labs).length v) H') :
  CF 344 #[.agg #[.string name,.slice a labs.length c]] H K:=by
 refine cN 344 0x1d2821561239925144c [[(3,sS),(23,sI)],[(3,sS)]] ?_;refine h.al λb _ h=>?_
 refine⟨_,_,_,_,h.q 0,?_⟩;refine oO h (λH h=>C H h.tl) λI h=>⟨_,rfl,λt=>?_,λt=>?_⟩
 .have e:ju name labs=[]:=by unfold ju;grind
  rw[e]at k;exact k none 0 _ (h.tl.sl_nil 5 1)
 .simp only[W8]at t;have m:=lX t;have e:ju name labs=serB name labs:=by unfold ju;grind
  rw[e]at k;have Y:=m.len;have M:=tM m.named;have N:=GU m;have S:=nk (s:=name) (by omega);have V:=nU (u:=labs.length) (by omega);intro R P;have f:∀(ba:Xa) (bc:Nat) H2,aA H2 (slA 5 1 ba (dM name++cA labs.length).length bc ((dM name++cA labs.length).map U8)::cellsA b [.string name,.slice a labs.length c] 37::F)->R ba (dM name++cA labs.length).length bc H2:=by
   intro ba bc H2 h;refine P _ _ _ _ ?_;refine⟨_,_,_,h.r 1,?_⟩;refine⟨λn O v i H'=>∃j:Nat,i=j/\j<=labs.length/\O=((dM name++cA labs.length)++(labs.take j).flatMap lg).length/\
    aA H' (slA 5 1 n ((dM name++cA labs.length)++(labs.take j).flatMap lg).length v (((dM name++cA labs.length)++(labs.take j).flatMap lg).map U8)::cellsA b [.string name,.slice a labs.length c] 37::F),
    λ_ _ _ i _=>labs.length-i.toNat,⟨0,rfl,by omega,by simp,by simpa using h⟩,?_⟩
   rintro a1 n1 c1 i I ⟨j,rfl,U,rfl,h⟩;refine⟨λt=>?_,λt=>?_⟩
   .have d:j<labs.length:=by grind
    have B:=C _ h.tl.tl;have T:=tN (m.val _ (V7 d));have L:=GL (m.val _ (V7 d));have G:=GM (labs:=labs.take j) λl E=>m.val l (Ww E)
    have J:(labs.take j).length<=labs.length:=by grind
    refine⟨by omega,_,_,B.some dB (by omega) d,_,_,B.els dB d,?_⟩;refine h.al λb2 _ h=>?_
    refine h.st 0 rfl rfl ?_;intro y h;refine⟨_,h.r 0,_,h.r 0,?_⟩;refine h.al λb3 _ h=>?_
    refine wo (ts:=[labs[j].name,labs[j].value]) h (λH h=>h.ce_rd 0 rfl) (λi=>?_) ?_ (by simp) λn v W h=>?_
    .grind [eH,List.take_append_drop,GE]
    .grind
    .rw [GE]at h ⊢;refine⟨_,_,_,rfl,?_⟩;refine dd h (i:=3) rfl rfl rfl (h.sl_rd 0 rfl) (by grind) λa3 c3 w h=>⟨_,_,_,rfl,?_⟩
     conv=>whnf
     rw[aJ (x:=(j:Int)+1)];have e5:((dM name++cA labs.length)++(labs.take (j+1)).flatMap lg)=((dM name++cA labs.length)++(labs.take j).flatMap lg)++lg labs[j]:=by
      rw[jr d,VX _ _ (lg labs[j])]
     refine⟨⟨j+1,by omega,d,by rw[e5],?_⟩,by grind⟩;rw[e5];exact h.o [3,4] 5
   .have A:labs.length<=j:=by grind
    have e1:labs.take j=labs:=VM A;rw[e1]at h ⊢;exact k _ _ _ (h.o [0] 2)
  have Q:u64.wrap ((labs.length:Nat):Int)=((labs.length:Nat):Int):=by grind [fw]
  refine⟨_,h.r 0,_,_,_,h.r 0,?_⟩;dsimp only
  conv=>whnf
  rw[Q];refine⟨?_,?_⟩
  .refine h.al λb4 _ h=>⟨h.r 1,?_,?_⟩
   .refine wv h (λH h=>h.ce_rd 0 rfl) (by omega) λa1 c1 y h=>⟨_,_,_,rfl,h.r 2,?_⟩
    refine h.al λb5 _ h=>?_
    refine ql (us:=[labs.length]) h (λH h=>h.ce_rd 0 rfl) (by simp;omega) (by simp) λa2 c2 D h=>⟨_,_,_,rfl,?_⟩
    rw[wt]at h ⊢;refine dd h (i:=2) rfl rfl rfl (h.sl_rd 0 rfl) (by omega) λa3 c3 w h=>⟨_,_,_,rfl,?_⟩
    exact f _ _ _ (h.o [2,4] 5)
   .refine h.al λb5 _ h=>?_
    refine wv h (λH h=>h.ce_rd 1 rfl) (by omega) λa1 c1 y h=>⟨_,_,_,rfl,?_⟩
    refine ql (us:=[labs.length]) h (λH h=>h.ce_rd 1 rfl) (by simp;omega) (by simp) λa2 c2 D h=>⟨_,_,_,rfl,?_⟩
    rw[wt]at h ⊢;refine dd h (i:=1) rfl rfl rfl (h.sl_rd 0 rfl) (by omega) λa3 c3 w h=>⟨_,_,_,rfl,?_⟩
    exact f _ _ _ (h.o [1,4] 5)
  .refine h.al λb5 _ h=>⟨h.r 1,?_⟩
   refine h.al λb4 _ h=>?_
   refine wv h (λH h=>h.ce_rd 0 rfl) (by omega) λa1 c1 y h=>⟨_,_,_,rfl,?_⟩
   refine ql (us:=[labs.length]) h (λH h=>h.ce_rd 2 rfl) (by simp;omega) (by simp) λa2 c2 D h=>⟨_,_,_,rfl,?_⟩
   rw[wt]at h ⊢;refine dd h (i:=1) rfl rfl rfl (h.sl_rd 0 rfl) (by omega) λa3 c3 w h=>⟨_,_,_,rfl,?_⟩
   exact f _ _ _ (h.o [1,4] 5)
theorem QI{rb:Nat}{s:RS}(h:aA H (crdA rb s::F))(hb:aP s.bs)(N:s.bs.length<=1099511627776)
  (k:∀a c H',aA H' (crdA rb (dg s).rest::slA 48 2 a (dg s).labs.length c (aF aZ (dg s).labs)::F)->
   K (.tuple #[.agg #[.string (dg s).name,.slice a (dg s).labs.length c],aB (dg s).e]) H'):CF 309 #[PA rb 0] H K:=by
 refine cN 309 0x112156123992514421bdc [[(12,sI)]] ?_;refine h.al λb _ h=>?_
 have h:=h.o [1,0] 2;refine rG (most:=64) h hb N (by unfold aG;decide) λI h=>⟨_,rfl,?_⟩
 have d:=(qj (m:=64) hb).1;have P:=(qk s 64).1;refine h.al λb1 _ h=>?_
 refine h.st 0 rfl rfl ?_;intro T h;have h:=h.o [1,0,2] 3;refine vL (most:=8) h d (by omega) (by unfold aG;decide) λY h=>⟨_,rfl,?_⟩
 have B:=wk (m:=8) d;have L:=wm (bH 64 s).2 8;have S:=cRes_le (bH 64 s).2;unfold dg at k;generalize hcr:bY 8 (bH 64 s).2=C at *;obtain⟨cn,s1⟩:=C;dsimp only at *;obtain⟨n,rfl⟩:∃n:Nat,cn=n:=⟨cn.toNat,by omega⟩;rw[VL]at k;refine⟨λi H'=>∃j:Nat,i=j/\j<=n/\∃a c,aA H' (crdA rb (dC j s1).2::slA 48 2 a j c (aF aZ (dC j s1).1)::cellsA b1 [.string (cw (bH 64 s).1),.slice a j c] 37::cellsA b [.string ⟨#[]⟩,.slice none 0 0] 37::F),
  λi _=>n-i.toNat,⟨0,rfl,by omega,none,0,((h.sl_nil 48 2).o [1,0,2,3] 4)⟩,?_⟩
 rintro i I ⟨j,rfl,W,a,c,h⟩;have f:=zC B j;have O:=zD s1 j;refine⟨λM=>?_,λM=>?_⟩
 .have D:j<n:=by grind
  refine rG (most:=64) h f (by omega) (by unfold aG;decide) λH2 h=>⟨_,rfl,_,_,_,h.r 2,?_⟩
  have A:=(qj (m:=64) f).1;have U:=(qk (dC j s1).2 64).1;refine rG (most:=64) h A (by omega) (by unfold aG;decide) λT h=>⟨_,rfl,h.r 2,?_⟩
  refine h.al λb2 _ h=>⟨h.r 3,?_⟩
  have v:=zG s1 j;refine h.append (m:=1) (ws:=aZ ⟨cw (bH 64 (dC j s1).2).1,cw (bH 64 (bH 64 (dC j s1).2).2).1⟩) sl91 2 rfl (h.ce_rd 0 rfl) rfl (zh _) (by omega) (by omega) λJ R Z h=>⟨_,_,_,rfl,?_⟩
  refine h.st 3 rfl rfl ?_;intro w h
  conv=>whnf
  rw[aJ (x:=(j:Int)+1)];refine⟨⟨j+1,by omega,D,J,R,?_⟩,by grind⟩;have e:aF aZ (dC (j+1) s1).1=aF aZ (dC j s1).1++aZ ⟨cw (bH 64 (dC j s1).2).1,cw (bH 64 (bH 64 (dC j s1).2).2).1⟩:=by
   show aF aZ (_++[_])=_
   grind [aF]
  rw[e];exact h.o [1,2,3,4] 5
 .have E:j=n:=by grind
  subst E;have v:=zG s1 j;refine⟨_,pX h,λt=>?_,λt=>?_⟩
  .have t:(dC j s1).2.e≠0:=by grind
   rw[V1 t]at k;refine h.st 3 rfl rfl ?_;intro w h;refine⟨_,_,_,_,h.q 3,?_⟩;exact k none 0 _ (((h.sl_nil 48 2).o [1,0] 5))
  .have t:¬(dC j s1).2.e≠0:=by grind
   rw[Vz t]at k;refine⟨_,_,_,_,h.q 2,?_⟩;have G:CF 122 #[.agg #[.string (cw (bH 64 s).1),.slice a (dC j s1).1.length c]] I (λu H'=>u=.bool (df (cw (bH 64 s).1) (dC j s1).1)/\aA H' (crdA rb (dC j s1).2::slA 48 2 a j c (aF aZ (dC j s1).1)::cellsA b1 [.string (cw (bH 64 s).1),.slice a j c] 37::cellsA b [.string ⟨#[]⟩,.slice none 0 0] 37::F)):=
    oO h (λH h=>h.sl_rd 1 rfl) λH' h=>⟨rfl,h⟩
   rw[v]at G;refine G.mono ?_;rintro u V ⟨rfl,h⟩;refine⟨_,rfl,λQ=>?_,λQ=>?_⟩
   .rw [Vz (by grind)]at k;refine h.st 3 rfl rfl ?_;intro w h;refine⟨_,_,_,_,h.q 3,?_⟩;exact k none 0 _ (((h.sl_nil 48 2).o [1,0] 5))
   .rw [V1 (by grind)]at k;refine⟨_,_,_,_,h.q 2,?_⟩;refine h.st 3 rfl rfl ?_;intro w h;refine⟨_,_,_,_,h.q 3,?_⟩;have y:=k a c _ (by dsimp only;rw[v];exact h.o [0,1] 4);dsimp only at y;rw[v]at y;exact y
end
def fe(c:UInt8)(s:Eq):Eq×Eq×Bool:=
 if 0<=cI c (aR s) then (s.extract 0 (cI c (aR s)).toNat,s.extract ((cI c (aR s)).toNat+1) s.size,true) else (s,⟨#[]⟩,false)
def md(c:UInt8)(s:Eq):Eq×Bool:=
 if decide (1<=s.size)&&((s.extract (s.size-1) s.size).toList == (⟨#[c]⟩:Eq).toList) then (s.extract 0 (s.size-1),true) else (s,false)
def il:Nat->Eq->List Eq
 | 0,s=>[s]
 | n+1,s=>if cI 44 (aR s)<0 then [s] else s.extract 0 (cI 44 (aR s)).toNat::il n (s.extract ((cI 44 (aR s)).toNat+1) s.size)
def fU(s:Eq):List Eq:=il s.size s
def rL(acc:Option (List bg))(p:Eq):Option (List bg):=match acc with
 | none=>none
 | some labs=>if (fe 61 p).2.2 && !decide (labs.length=8) then some (labs++[⟨(fe 61 p).1,(fe 61 p).2.1⟩]) else none
def jN(ps:List Eq):Option (List bg):=ps.foldl rL (some [])
def gH(t:Eq):Eq×List bg×Bool:=
 if (fe 123 t).2.2 then
  if (md 125 (fe 123 t).2.1).2 then match jN (fU (md 125 (fe 123 t).2.1).1) with
   | none=>(⟨#[]⟩,[],false)
   | some labs=>if df (fe 123 t).1 labs then ((fe 123 t).1,labs,true) else (⟨#[]⟩,[],false)
  else (⟨#[]⟩,[],false)
 else if df (fe 123 t).1 [] then ((fe 123 t).1,[],true) else (⟨#[]⟩,[],false)
theorem GV(c:UInt8)(s:Eq):-1<=cI c (aR s)/\cI c (aR s)<s.size:=by
 have:=idxU_ge c (aR s)
 simp_all
theorem QJ(ps:List Eq):ps.foldl rL none=none:=by
 induction ps with
 | nil=>rfl
 | cons p r ih=>exact ih
theorem QK{ps:List Eq}{j:Nat}(h:j<ps.length):jN (ps.take (j+1))=rL (jN (ps.take j)) ps[j]:=by
 grind [jN,List.take_succ_eq_append_getElem]
theorem QL{ps:List Eq}{j:Nat}(h:jN (ps.take j)=none):jN ps=none:=by
 grind [List.take_append_drop,jN,QJ]
theorem GW:∀(n:Nat) (s p:Eq),p∈il n s->p.size<=s.size
 | 0,s,p,h=>by
  have:p=s:=VH.1 h
  grind
 | n+1,s,p,h=>by
  unfold il at h
  split at h
  .grind
  .rcases V9.1 h with h|h
   .grind [ByteArray.size_extract]
   .have:=GW n _ p h
    grind [ByteArray.size_extract]
theorem GZ(n:Nat)(s:Eq):il n s≠[]:=by
 cases n with
 | zero=>simp[il]
 | succ n=>grind [il]
section
variable {F L:List aD}{H:aC}{K:KQ}
theorem Ia{s:Eq}{c:UInt8}(k:K (aB (cI c (aR s))) H):CF 137 #[.string s,.string ⟨#[c]⟩] H K:=by
 refine OQ ⟨λa=>?_,λa=>⟨λhd=>?_,λhd=>?_⟩⟩
 .simp only[VY,V5]at a
  rcases a with a|a
  .exact V0 a (by show ¬((1:Int)=0);omega)
  .have e:(⟨#[c]⟩:Eq)=s:=ba_ext (by grind);have:cI c (aR s)=0:=by
    grind [cI]
   rw[<-this];exact k
 .refine⟨⟨by omega,by grind⟩,?_⟩;refine cM 216 28 ⟨_,natIdx,_,rfl,?_⟩;have:(bAt (⟨#[c]⟩:Eq) 0).toNat.toUInt8=c:=by
   show ((c.toNat:Int)).toNat.toUInt8=c;simp
  rw[this];exact k
 .exact V0 (V2 hd) (by show ¬¬((1:Int)=1);omega)
theorem Ib{s:Eq}{c:UInt8}(hs:s.size<=1099511627776)(k:K (.tuple #[.string (fe c s).1,.string (fe c s).2.1,.bool (fe c s).2.2]) H) :
  CF 129 #[.string s,.string ⟨#[c]⟩] H K:=by
 refine cM 129 28 (OI ?_);refine Ia ⟨_,rfl,λa=>?_,λa=>?_⟩
 .have a:=V3 a;have hi:=GV c s;have b:i64.wrap (cI c (aR s)+(((⟨#[c]⟩:Eq).size:Nat):Int))=cI c (aR s)+1:=by
   show i64.wrap (cI c (aR s)+1)=_
   grind [aJ]
  rw[b];refine⟨by omega,by omega,_,_,_,rfl,?_⟩;unfold fe at k;rw[V1 a]at k;rw[show (cI c (aR s)+1).toNat=(cI c (aR s)).toNat+1 by omega];exact k
 .have a:=V2 a;unfold fe at k;rw[Vz a]at k;exact⟨_,_,_,rfl,k⟩
theorem QM{s:Eq}{c:UInt8}(hs:s.size<=1099511627776):bO Tryz.prog 130 #[.string s,.string ⟨#[c]⟩] H (.tuple #[.string (md c s).1,.bool (md c s).2]):=by
 have b:(((⟨#[c]⟩:Eq).size:Nat):Int)=1:=rfl;have d:∀h:1<=s.size,i64.wrap ((s.size:Int)-1)=((s.size-1:Nat):Int):=λh=>by grind [aJ]
 refine cM 130 28 ⟨_,_,OH ⟨decide (1<=s.size)&&((s.extract (s.size-1) s.size).toList == (⟨#[c]⟩:Eq).toList),O5 ⟨λa=>?_,?_,rfl⟩,λa=>?_,λa=>?_⟩,rfl,rfl⟩
 .have a:=V3 a;rw[b]at a ⊢;rw[d (by omega)];omega
 .rw [b]
  by_cases e:1<=s.size
  .grind [Int.toNat_natCast]
  grind
 .unfold md
  grind
 .have a:(decide (1<=s.size)&&((s.extract (s.size-1) s.size).toList == (⟨#[c]⟩:Eq).toList))=true:=by grind
  have e:1<=s.size:=by
   grind
  unfold md
  grind
theorem QN{l c0 c1 c2:Nat}{s:Eq}(hs:s.size<=1099511627776)(A:Nat->aD)(E:Nat->aD)
  (h:aA H (A 0::cellsA c0 [.string ⟨#[44]⟩] 9::cellsA c1 [.string s] 9::cellsA c2 [aB 0] 3::F))
  (D:∀j (Q:j<(fU s).length) (G:List aD) (i:aC) (y:KQ),aA i (A j::G)->(∀H2,aA H2 (A (j+1)::G)->y (.bool true) H2)->(∀H2,aA H2 (E j::G)->y (.bool false) H2)->
   eK Tryz.prog l [.string (fU s)[j]] i y)
  (k:∀H',aA H' (A (fU s).length::F)->K (.tuple #[]) H')
  (I:∀j H',j<(fU s).length->aA H' (E j::F)->K (.tuple #[]) H') :
  CF 328 #[.func (.yield l) #[] #[],PA c0 0,PA c1 0,PA c2 0] H K:=by
 refine O4 ?_;refine⟨_,h.r 1,λc=>V0 (V3 c) (by show ¬((1:Int)=0);omega),λc=>?_⟩
 refine⟨λH'=>∃(j n:Nat) (r:Eq),j<(fU s).length/\(fU s).drop j=il n r/\r.size<=n/\n<=s.size/\aA H' (A j::cellsA c0 [.string ⟨#[44]⟩] 9::cellsA c1 [.string r] 9::cellsA c2 [aB 0] 3::F),
  λH'=>match aM H' c1 0 with|some (.string r)=>r.size|_=>0,⟨0,s.size,s,WT.2 (GZ _ _),rfl,VD _,VD _,h⟩,?_⟩
 rintro i ⟨j,n,r,b,hd,O,P,h⟩;have w:=h.rd 2 rfl 0;refine⟨_,h.r 2,_,h.r 1,?_⟩;have hi:=GV 44 r;have J:(fU s)[j]=(il n r)[0]'(by grind):=by
  grind
 refine cM 85 28 (Ia ⟨_,rfl,_,rfl,λc=>?_,λc=>?_⟩)
 .have c:=V3 c;have e:il n r=[r]:=by
   cases n with
   | zero=>rfl
   | succ n=>unfold il;grind
  have f:(fU s).length=j+1:=by
   grind
  have e0:(fU s)[j]=r:=by grind
  refine⟨_,h.r 2,?_⟩;have a:=D j b (cellsA c0 [.string ⟨#[44]⟩] 9::cellsA c1 [.string r] 9::cellsA c2 [aB 0] 3::F) i (λu3 B=>∃r4,u3=.bool r4/\K (.tuple #[]) B) h
   (λH2 h=>⟨true,rfl,k _ (by rw[f];exact h.o [0] 4)⟩)
   (λH2 h=>⟨false,rfl,I j _ b (h.o [0] 4)⟩)
  rw[e0]at a;exact a
 .have c:=V2 c;have v:∃m,n=m+1:=⟨n-1,by omega⟩;obtain⟨m,rfl⟩:=v;have e:il (m+1) r=r.extract 0 (cI 44 (aR r)).toNat::il m (r.extract ((cI 44 (aR r)).toNat+1) r.size):=by
   show (if _ then _ else _)=_
   grind
  have M:i64.wrap (cI 44 (aR r)+0)=cI 44 (aR r):=by grind [aJ]
  have x:i64.wrap (cI 44 (aR r)+(((⟨#[44]⟩:Eq).size:Nat):Int))=cI 44 (aR r)+1:=by
   show i64.wrap (cI 44 (aR r)+1)=_
   grind [aJ]
  have e0:(fU s)[j]=r.extract 0 (cI 44 (aR r)).toNat:=by grind
  have u:(fU s).drop (j+1)=il m (r.extract ((cI 44 (aR r)).toNat+1) r.size):=by
   rw[<-List.drop_drop,hd,e];rfl
  have t:j+1<(fU s).length:=by
   have N:=WT.2 (GZ m (r.extract ((cI 44 (aR r)).toNat+1) r.size))
   grind
  refine⟨_,h.r 2,_,h.r 3,?_⟩;dsimp only;rw[M];refine⟨by omega,?_⟩;have a:=D j b (cellsA c0 [.string ⟨#[44]⟩] 9::cellsA c1 [.string r] 9::cellsA c2 [aB 0] 3::F) i;rw[e0]at a;refine a _ h (λH2 h=>⟨true,rfl,λC=>V0 C (by simp),λ_=>?_⟩) (λH2 h=>⟨false,rfl,λ_=>I j _ b (h.o [0] 4),λC=>V0 C (by simp)⟩)
  refine⟨_,h.r 2,_,h.r 1,?_⟩;dsimp only;rw[x];refine⟨by omega,?_⟩;have L:(r.extract ((cI 44 (aR r)).toNat+1) r.size).size=r.size-((cI 44 (aR r)).toNat+1):=by
   simp_all
  refine h.st 2 rfl rfl ?_;intro R h;rw[show (cI 44 (aR r)+1).toNat=(cI 44 (aR r)).toNat+1 by omega]at h;refine⟨⟨j+1,m,_,t,u,by omega,by omega,h⟩,?_⟩;have d:=h.rd 2 rfl 0;rw[w,d];show ByteArray.size _<ByteArray.size _
  grind
theorem Ic{t:Eq}(N:t.size<=1099511627776)(h:aA H F)
  (k:∀a c H',aA H' (slA 48 2 a (gH t).2.1.length c (aF aZ (gH t).2.1)::F)->K (.tuple #[.agg #[.string (gH t).1,.slice a (gH t).2.1.length c],.bool (gH t).2.2]) H') :
  CF 72 #[.string t] H K:=by
 refine cL 72 (.r (.r (.r (.seq (.r (.cond (.r (.seq (.r (.cond (.r .no) .no)) (.r (.blk (.rng [sT] [none,(some .ret)] .reg (.blk (.r (.seq (.r (.cond (.r .no) .no)) .reg)))))))) .no)) (.seq (.r (.cond (.r .no) .no)) (.r .no)))))) ?_;refine h.al λb _ h=>?_
 refine h.al λb1 _ h=>?_
 refine Ib N ⟨_,_,_,rfl,?_⟩;refine h.al λb2 _ h=>?_
 refine h.st 0 rfl rfl ?_;intro Z h;have V:(fe 123 t).2.1.size<=t.size:=by
  unfold fe;split
  .simp_all
  .exact VE _
 unfold gH at k;generalize hC:fe 123 t=C at *;obtain⟨nm,rest,ok⟩:=C;dsimp only at *;refine⟨λi=>?_,λi=>?_⟩
 .subst i;rw[V1 rfl]at k;refine⟨_,_,QM (by omega),λi=>?_,λi=>?_⟩
  .rw [Vz (by grind)]at k;refine h.st 2 rfl rfl ?_;intro H2 h;refine h.st 1 rfl rfl ?_;intro H3 h;refine⟨_,_,_,_,h.q 2,_,h.r 1,?_⟩;exact k none 0 _ ((h.sl_nil 48 2).o [0] 4)
  .rw [V1 (by grind)]at k;have O:(md 125 rest).1.size<=rest.size:=by
    unfold md;split
    .simp_all
    grind
   generalize hf:(md 125 rest).1=f at *;refine cM 131 28 (cM 215 28 ?_);refine h.al λc1 _ h=>?_
   refine h.al λc0 _ h=>?_
   refine h.al λc2 y h=>⟨_,_,rfl,_,_,rfl,rfl,λR B x Q=>?_⟩
   have h:=h.rng R;refine QN (s:=f) (by omega)
    (λj=>exS λp:(Xa×Nat)×List bg=>star [cellsA b2 [.string nm,.slice p.1.1 p.2.length p.1.2] 37,slA 48 2 p.1.1 p.2.length p.1.2 (aF aZ p.2),cellsA b1 [.bool false] 4,cellsA b [.string ⟨#[]⟩,.slice none 0 0] 37,pt (y.size+1) (.loop R),pur (jN ((fU f).take j)=some p.2/\p.2.length<=8)])
    (λj=>star [cellsA b1 [.bool false] 4,cellsA b [.string ⟨#[]⟩,.slice none 0 0] 37,pt (y.size+1) (.loop { R with state:=.done,pending:=some .ret }),pur (jN ((fU f).take (j+1))=none)])
    (F:=pt y.size (.deferred (some []))::F) ?_ ?_ ?_ ?_
   .refine cy.2 ⟨((none,0),[]),aA.shut [_,_,_,_,_,_] ?_⟩;exact ((h.sl_nil 48 2).pur (p:=jN ((fU f).take 0)=some []/\([]:List bg).length<=8) ⟨rfl,by simp⟩).o [7,1,8,9,2,0,5,6,4,3] 10
   .intro j E G I Y h T P;obtain⟨⟨⟨a,c⟩,labs⟩,h⟩:=cy.1 h;have h:=aA.open (A:=[_,_,_,_,_,_]) h;have v:=(aA.consP (h.o [5,0,1,2,3,4] 6)).1;dsimp only at h;have S:=GW f.size f _ (V7 (l:=fU f) E);have d:=QK E;rw[v.1]at d;dsimp only at v;unfold rL at d;dsimp only at d;refine Q _ _ _ ?_;refine⟨_,rfl,h.getO 4 rfl,h.getO 4 rfl,h.stl 4 rfl λJ h=>?_⟩
    refine Ib (by omega) ?_;generalize fe 61 (fU f)[j]=D at *;obtain⟨d1,d2,d3⟩:=D;dsimp only at d ⊢;refine⟨_,_,_,rfl,a,labs.length,c,λ_=>h.r 0,λi=>?_,λi=>?_⟩
    .rw [Vz (by
      grind)]at d
     refine h.st 3 rfl rfl ?_;intro w h;refine h.st 2 rfl rfl ?_;intro n h;refine⟨h.getO 4 rfl,P _ ?_⟩;have h:=h.setO 4 rfl (.loop { R with state:=.done,pending:=some .ret });refine aA.shut [_,_,_,_] ?_;exact (h.pur d).o [3,4,5,0] 7
    .simp only[VN,W8,VG]at i;rw[V1 (by
      grind)]at d
     refine⟨_,_,_,h.r 0,?_⟩;refine h.al λb3 _ h=>?_
     refine h.append (m:=1) (ws:=aZ ⟨d1,d2⟩) sl91 2 rfl (h.ce_rd 0 rfl) rfl (zh _) (by omega) (by omega) λL U M h=>⟨_,_,_,rfl,?_⟩
     refine h.st 1 rfl rfl ?_;intro W h;refine⟨h.getO 5 rfl,T _ ?_⟩;have h:=h.setO 5 rfl (.loop R);refine cy.2 ⟨((L,U),labs++[⟨d1,d2⟩]),aA.shut [_,_,_,_,_,_] ?_⟩;have e:aF aZ (labs++[⟨d1,d2⟩])=aF aZ labs++aZ ⟨d1,d2⟩:=by
      grind [aF]
     dsimp only;rw[e,V6];exact (h.pur (p:=jN ((fU f).take (j+1))=some (labs++[⟨d1,d2⟩])/\labs.length+[(⟨d1,d2⟩:bg)].length<=8) ⟨d,by simp;omega⟩).o [2,3,4,5,6,0] 8
   .intro I h;obtain⟨⟨⟨a,c⟩,labs⟩,h⟩:=cy.1 h;have h:=aA.open (A:=[_,_,_,_,_,_]) h;have v:=(aA.consP (h.o [5,0,1,2,3,4] 6)).1;rw[VO]at v;rw[v.1]at k;dsimp only at h k;refine⟨.ready,none,by decide,by rw[kT B x];exact h.getO 4 rfl,h.stl 4 rfl λJ h=>.inl ⟨rfl,?_⟩⟩
    refine⟨_,_,_,_,h.q 0,?_⟩;refine oO h (λH h=>h.sl_rd 1 rfl) λw h=>⟨_,rfl,λi=>?_,λi=>?_⟩
    .rw [Vz (by grind)]at k;refine h.st 3 rfl rfl ?_;intro n h;refine h.st 2 rfl rfl ?_;intro u h;refine⟨h.getO 6 rfl,?_⟩;have h:=h.setO 6 rfl (.deferred none);refine⟨_,_,_,_,h.q 3,_,h.r 2,?_⟩;exact k none 0 _ ((h.sl_nil 48 2).o [0] 8)
    .rw [V1 (by grind)]at k;refine⟨_,_,_,_,h.q 0,?_⟩;refine h.st 3 rfl rfl ?_;intro n h;refine h.st 2 rfl rfl ?_;intro u h;refine⟨h.getO 6 rfl,?_⟩;have h:=h.setO 6 rfl (.deferred none);refine⟨_,_,_,_,h.q 3,_,h.r 2,?_⟩;exact k a c _ (h.o [1] 7)
   .intro j I E h;have h:=aA.open (A:=[_,_,_,_]) h;have v:=(aA.consP (h.o [3,0,1,2] 4)).1;rw[QL v]at k;refine⟨.done,some .ret,by decide,h.getO 2 rfl,h.stl 2 rfl λJ h=>.inr ⟨rfl,h.getO 4 rfl,?_⟩⟩
    have h:=h.setO 4 rfl (.deferred none);refine⟨_,_,_,_,h.q 1,_,h.r 0,?_⟩;exact k none 0 _ ((h.sl_nil 48 2).o [0] 6)
 .subst i;rw[Vz (by simp)]at k;refine⟨_,_,_,_,h.q 0,?_⟩;refine oO (labs:=[]) h (λH h=>fK H none) λw h=>⟨_,rfl,λi=>?_,λi=>?_⟩
  .rw [Vz (by grind)]at k;refine h.st 2 rfl rfl ?_;intro n h;refine h.st 1 rfl rfl ?_;intro u h;refine⟨_,_,_,_,h.q 2,_,h.r 1,?_⟩;exact k none 0 _ ((h.sl_nil 48 2).o [0] 4)
  .rw [V1 (by grind)]at k;refine⟨_,_,_,_,h.q 0,?_⟩;refine h.st 2 rfl rfl ?_;intro n h;refine h.st 1 rfl rfl ?_;intro u h;refine⟨_,_,_,_,h.q 2,_,h.r 1,?_⟩;exact k none 0 _ ((h.sl_nil 48 2).o [0] 4)
end
def evOk(e:Ev):Bool:=decide (0<=e.stamp)&&decide (e.stamp<=4611686018427387903)&&df e.name e.labs
def gI(next:Int)(evs:List Ev):Bool:=decide (1<=evs.length)&&decide (evs.length<=64)&&decide (next<=1099511627776-evs.length)&&evs.all evOk
structure me(F:List aD)(a:Xa)(evs:List Ev):Prop where
 rd:∀H,aA H F->aN H a (aF bT evs)
 labs:∀e∈evs,∀H,aA H F->aN H e.la (aF aZ e.labs)
theorem me.cons{F:List aD}{a:Xa}{evs:List Ev}(h:me F a evs)(A:aD):me (A::F) a evs:=
 ⟨λH b=>h.rd H b.tl,λe c H b=>h.labs e c H b.tl⟩
theorem zI(x:Eq):nW x x=0:=by
 unfold nW;have h:Op.bytesLess x.toList x.toList=false:=by
  have:=ltKy ⟨0,x⟩ ⟨0,x⟩
  grind [rI]
 grind
section
variable {F L:List aD}{H:aC}{K:KQ}
theorem zJ{x y:Eq}:bO Tryz.prog 437 #[.string x,.string y] H (aB (nW x y)):=by
 unfold bO;refine .mk λw a=>?_
 subst a;refine ib (cmp183 x y w) ?_;rintro e b ⟨rfl,rfl⟩;exact⟨_,rfl,⟨rfl,rfl,rfl⟩,rfl,rfl⟩
theorem Ie{b:Nat}{x y:Int}(h:aA H F)(i:Nat)(d:aS i F=cellsA b [aB x,aB y] 3):bO Tryz.prog 307 #[.slice (some ⟨b,0,none⟩) 2 2] H (aB (if x≠0 then x else y)):=by
 refine cN 307 0x11215612399251b4c [[(8,sI)]] ?_;refine⟨λi H'=>H'=H/\(i=0\/i=1/\x=0\/i=2/\x=0/\y=0),λi _=>2-i.toNat,⟨rfl,.inl rfl⟩,?_⟩
 rintro j m ⟨rfl,f⟩;refine⟨λa=>?_,λa=>?_⟩
 .have a:=V3 a;refine⟨by omega,b,0,rfl,?_⟩
  rcases f with rfl|⟨rfl,k⟩|⟨rfl,_⟩
  .refine⟨x,h.rd i d 0,λc=>?_,λc=>?_⟩
   .rw [V1 (by grind)];exact⟨rfl,rfl⟩
   .exact⟨⟨rfl,.inr (.inl ⟨rfl,by grind⟩)⟩,by dsimp only;decide⟩
  .refine⟨y,h.rd i d 1,λc=>?_,λc=>?_⟩
   .rw [Vz (by grind)];exact⟨rfl,rfl⟩
   .exact⟨⟨rfl,.inr (.inr ⟨rfl,k,by grind⟩)⟩,by dsimp only;decide⟩
  .exact V0 a (by decide)
 .have a:=V2 a;have e:x=0/\y=0:=by
   grind
  rw[e.1,e.2];exact⟨rfl,rfl⟩
theorem QO{l:bg}(h:aA H F)(k:∀H',aA H' F->K (aB 0) H'):CF 479 #[.agg #[.string l.name,.string l.value],.agg #[.string l.name,.string l.value]] H K:=by
 refine cM 479 28 ?_;refine h.al λb _ h=>?_
 refine h.al λb1 _ h=>⟨_,h.r 1,_,h.r 0,_,zJ,?_⟩
 rw[zI];exact k _ h.tl.tl
theorem QP{l:bg}(h:aA H F)(k:∀H',aA H' F->K (aB 0) H'):CF 448 #[.agg #[.string l.name,.string l.value],.agg #[.string l.name,.string l.value]] H K:=by
 refine cM 448 28 ?_;refine h.al λb _ h=>?_
 refine h.al λb1 _ h=>⟨_,_,h.q 1,_,_,h.q 0,_,h.r 1,_,h.r 0,?_⟩
 refine QO h λH2 h=>⟨_,rfl,h.r 0,h.r 1,_,zJ,?_⟩
 rw[zI];refine h.al λb2 _ h=>⟨_,Ie h 0 rfl,?_⟩
 exact k _ h.tl.tl.tl
theorem QQ{a:Xa}{c n:Nat}{labs:List bg}(h:aA H F)(m:∀H,aA H F->aN H a (aF aZ labs))(v:labs.length<=1000000)(k:∀H',aA H' F->K (aB 0) H') :
  CF 447 #[.slice a labs.length c,.slice a labs.length n,.func (.func 448) #[] #[]] H K:=by
 refine cN 447 0x1215612399251d11b4dc [[(13,sI)]] ?_;refine⟨λi H'=>∃j:Nat,i=j/\j<=labs.length/\aA H' F,λi _=>labs.length-i.toNat,⟨0,rfl,by omega,h⟩,?_⟩
 rintro i t ⟨j,rfl,s,h⟩;refine⟨λe=>?_,λe=>⟨λe=>V0 (V3 e) (by omega),λ_=>k _ h⟩⟩
 have d:j<labs.length:=by grind
 have f:=m _ h;refine⟨by omega,_,_,f.some dB (by omega) d,_,_,f.els dB d,?_⟩;refine h.al λb _ h=>?_
 refine h.st 0 rfl rfl ?_;intro H2 h;have f:=m _ h.tl;refine⟨λe=>V0 (V3 e) (by omega),λ_=>⟨by omega,_,_,f.some dB (by omega) d,_,_,f.els dB d,?_⟩⟩
 refine h.al λb1 _ h=>?_
 refine h.st 0 rfl rfl ?_;intro w h;refine⟨_,_,h.q 1,_,_,h.q 0,rfl,?_⟩;refine QP (l:=labs[j]) h λu h=>⟨_,rfl,λe=>V0 e (by simp),λ_=>?_⟩
 conv=>whnf
 rw[aJ (x:=(j:Int)+1)];exact⟨⟨j+1,by omega,d,h.tl.tl⟩,by grind⟩
theorem zK{name:Eq}{a:Xa}{c f:Nat}{labs:List bg}(h:aA H F)(d:∀H,aA H F->aN H a (aF aZ labs))(e:labs.length<=1000000)(k:∀H',aA H' F->K (aB 0) H') :
  CF 403 #[.agg #[.string name,.slice a labs.length c],.agg #[.string name,.slice a labs.length f]] H K:=by
 refine cM 403 28 ?_;refine h.al λb _ h=>?_
 refine h.al λb1 _ h=>⟨_,h.r 1,_,h.r 0,_,zJ,_,_,_,h.r 1,_,_,_,h.r 0,?_⟩
 rw[zI];refine QQ h (λH h=>d H h.tl.tl) e λH2 h=>⟨_,rfl,?_⟩
 refine h.al λb2 _ h=>⟨_,Ie h 0 rfl,?_⟩
 exact k _ h.tl.tl.tl
theorem QR{e:Ev}(h:aA H F)(d:∀H,aA H F->aN H e.la (aF aZ e.labs))(f:e.labs.length<=1000000)(k:∀H',aA H' F->K (.bool true) H'):CF 402 #[aggV e,aggV e] H K:=by
 refine cN 402 4745 [[(4,sB)]] ?_;refine h.al λb _ h=>?_
 refine h.al λb1 _ h=>?_
 intro i a;have e1:(decide (e.stamp=e.stamp)&&decide (e.value=e.value))=true:=by simp
 refine⟨_,h.r 1,_,h.r 0,_,λ_=>h.r 1,_,λ_=>h.r 0,_,_,_,_,λ_=>h.q 1,_,_,_,_,λ_=>h.q 0,λ_=>?_,λc=>V0 e1 c⟩
 refine zK h (λH h=>d H h.tl.tl) f λH2 h=>⟨_,rfl,a _ _ ?_⟩
 exact k _ h.tl.tl
theorem If{a:Xa}{c t:Nat}{evs:List Ev}(h:aA H F)(n:me F a evs)(y:evs.length<=1000000)(s:∀e∈evs,e.labs.length<=1000000)(k:∀H',aA H' F->K (.bool true) H') :
  CF 401 #[.slice a evs.length c,.slice a evs.length t,.func (.func 402) #[] #[]] H K:=by
 refine cN 401 0x1d2156123992511b4c [[(17,sI)]] ?_;refine⟨λf=>V0 f (by simp),λ_=>?_⟩
 refine⟨λi H'=>∃j:Nat,i=j/\j<=evs.length/\aA H' F,λi _=>evs.length-i.toNat,⟨0,rfl,by omega,h⟩,?_⟩
 rintro i v ⟨j,rfl,u,h⟩;refine⟨λf=>?_,λf=>k _ h⟩
 have d:j<evs.length:=by grind
 have m:=n.rd _ h;refine⟨by omega,_,_,m.some dF (by omega) d,_,_,_,_,_,_,m.els dF d,?_⟩;refine h.al λb _ h=>?_
 refine h.st 0 rfl rfl ?_;intro H2 h;have m:=n.rd _ h.tl;refine⟨by omega,_,_,m.some dF (by omega) d,_,_,_,_,_,_,m.els dF d,?_⟩;refine h.al λb1 _ h=>?_
 refine h.st 0 rfl rfl ?_;intro A h;refine⟨_,_,_,_,_,_,h.q 1,_,_,_,_,_,_,h.q 0,rfl,?_⟩;refine QR (e:=evs[j]) h (λH h=>n.labs _ (V7 d) H h.tl.tl) (s _ (V7 d)) λw h=>⟨_,rfl,λf=>V0 f (by simp),λ_=>?_⟩
 conv=>whnf
 rw[aJ (x:=(j:Int)+1)];exact⟨⟨j+1,by omega,d,h.tl.tl⟩,by grind⟩
theorem Ig{next:Int}{a:Xa}{c:Nat}{evs:List Ev}(h:aA H F)(t:me F a evs)(G:evs.length<=1099511627776)(k:∀H',aA H' F->K (.bool (gI next evs)) H') :
  CF 310 #[aB next,.slice a evs.length c] H K:=by
 refine cN 310 0x1d215612399251283c94c [[(41,sB)],[(24,sI)]] ?_;have B:i64.wrap (1099511627776-(evs.length:Int))=1099511627776-(evs.length:Int):=aJ
 conv=>whnf
 rw[B];refine⟨λf=>?_,λf=>?_⟩
 .have:gI next evs=false:=by
   simp only[VY,V5]at f
   cases e:gI next evs
   .rfl
   .unfold gI at e
    grind
  rw[this]at k;exact k _ h
 .simp only[VN,VG]at f;have I:gI next evs=evs.all evOk:=by
   grind [gI]
  refine⟨λi H'=>∃j:Nat,i=j/\j<=evs.length/\(∀q (w:q<evs.length),q<j->evOk evs[q]=true)/\aA H' F,λi _=>evs.length-i.toNat,⟨0,rfl,by omega,λq _ h=>by omega,h⟩,?_⟩
  rintro i E ⟨j,rfl,D,J,h⟩;refine⟨λf=>?_,λf=>?_⟩
  .have d:j<evs.length:=by grind
   have u:=t.rd _ h;refine⟨by omega,_,_,u.some dF (by omega) d,_,_,_,_,_,_,u.els dF d,?_⟩;refine h.al λb _ h=>?_
   refine h.st 0 rfl rfl ?_;intro H2 h;intro C v;have m:∀n,aA n F->C (!evOk evs[j]) n:=by
    intro n h;refine v _ _ ?_;refine⟨λs=>?_,λs=>?_⟩
    .have:gI next evs=false:=by grind
     rw[this]at k;exact k _ h
    .conv=>whnf
     rw[aJ (x:=(j:Int)+1)];refine⟨⟨j+1,by omega,d,λq w y=>?_,h⟩,by grind⟩
     grind
   refine⟨_,h.r 0,_,λ_=>h.r 0,_,_,_,_,λ_=>h.q 0,λs=>?_,λs=>?_⟩
   .refine oO h (λH h=>t.labs _ (V7 d) H h.tl) λn h=>⟨_,rfl,?_⟩
    have e:evOk evs[j]=df evs[j].name evs[j].labs:=by
     grind [evOk]
    rw[<-e];exact m _ h.tl
   .have e:evOk evs[j]=false:=by
     grind [evOk]
    have:=m _ h.tl;rw[e]at this;exact this
  .have A:evs.length<=j:=by grind
   have:gI next evs=true:=by grind [all_at]
   conv=>whnf
   rw[this]at k;exact k _ h
end
abbrev fbC(ag ep next:Int)(a:Xa)(n c:Nat):Xb:=
 [aB 5,aB ag,aB ep,aB 0,aB 0,aB 0,aB 0,aB next,aB 0,aB 0,.slice a n c,.string (⟨#[]⟩:Eq),.slice none 0 0,.slice none 0 0]
section
variable {F L:List aD}{H:aC}{K:KQ}
theorem ww{f0 f1 f2 f3 f4 f5 f6 f7 f8 f9:Int}{a:Xa}{i m:Nat}{s:Eq}{j:Xa}{n f:Nat}{e:Xa}{c d:Nat}(h:aA H F)
  (k:∀H',aA H' F->K (.agg #[aB f3,aB f4,aB f5,aB f6,aB f7,aB f8,aB f9]) H') :
  CF 400 ⟨[(.agg #[(aB f0),(aB f1),(aB f2),(aB f3),(aB f4),(aB f5),(aB f6),(aB f7),(aB f8),(aB f9),(.slice a i m),(.string s),(.slice j n f),(.slice e c d)])]⟩ H K:=by
 refine cM 400 28 ?_;refine h.al λb _ h=>?_
 refine h.al λb1 _ h=>?_
 refine⟨_,h.r 1,_,h.r 1,_,h.r 1,_,h.r 1,_,h.r 1,_,h.r 1,_,h.r 1,?_⟩;refine h.st 0 rfl rfl ?_;intro H2 h;exact⟨_,_,_,_,_,_,_,h.q 0,k _ h.tl.tl⟩
theorem eq314{a b c d e f g:Int}:fH Tryz.prog .eql 316 (.agg #[aB a,aB b,aB c,aB d,aB e,aB f,aB g]) (.agg #[aB a,aB b,aB c,aB d,aB e,aB f,aB g]) true:=by
 have h:=(tz (P:=Tryz.prog) (t:=316) (xs:=[aB a,aB b,aB c,aB d,aB e,aB f,aB g]) (ys:=[aB a,aB b,aB c,aB d,aB e,aB f,aB g])
  (r:=(a == a&&(b == b&&(c == c&&(d == d&&(e == e&&(f == f&&(g == g&&true)))))))) (by kernel_rfl)).1
 simpa using h
theorem eq102{a b c:Int}:fH Tryz.prog .eql 147 (.agg #[aB a,aB b,aB c]) (.agg #[aB a,aB b,aB c]) true:=by
 have h:=(rz (P:=Tryz.prog) (t:=147) (xs:=[aB a,aB b,aB c]) (ys:=[aB a,aB b,aB c]) (r:=(a == a&&(b == b&&(c == c&&true)))) (by kernel_rfl)).1;simpa using h
theorem Ih{a b:Xa}{c d:Nat}{xs ys:List Int}(h:a=none\/∃k o,a=some ⟨k,o,none⟩)(e:b=none\/∃k o,b=some ⟨k,o,none⟩)(f:aN H a (xs.map U8))(hb:aN H b (ys.map U8))
  (k:K (.bool ((cw xs).toList == (cw ys).toList)) H):CF 244 #[.slice a xs.length c,.slice b ys.length d] H K:=
 cM 244 28 ⟨_,pY h f,_,pY e hb,k⟩
theorem QS{ag ep next:Int}{a:Xa}{c:Nat}{evs:List Ev}(h:aA H F)(i:me F a evs)(j:evs.length<=1000000)(f:∀e∈evs,e.labs.length<=1000000)(k:∀H',aA H' F->K (.bool true) H') :
  CF 311 #[.agg ⟨fbC ag ep next a evs.length c⟩,.agg ⟨fbC ag ep next a evs.length c⟩] H K:=by
 refine cN 311 4745 [[(4,sB)]] ?_;refine h.al λb _ h=>?_
 refine h.al λb1 _ h=>?_
 intro u m;refine⟨_,_,_,h.q 1,_,_,_,h.q 0,true,eq102,_,_,_,_,_,_,_,_,_,_,_,_,_,_,_,_,_,_,_,_,λ_=>h.q 1,_,_,_,_,_,_,_,_,_,_,_,_,_,_,_,_,_,_,_,_,λ_=>h.q 0,λ_=>?_,λd=>V0 rfl d⟩
 refine ww h λH2 h=>⟨_,_,_,_,_,_,_,rfl,λ_=>h.q 0,?_⟩
 refine ww h λt h=>⟨_,_,_,_,_,_,_,rfl,true,eq314,_,_,_,λ_=>h.r 1,_,_,_,λ_=>h.r 0,λ_=>?_,λd=>V0 rfl d⟩
 refine If h ((i.cons _).cons _) j f λn h=>⟨_,rfl,_,_,_,_,λ_=>h.q 1,_,_,_,_,λ_=>h.q 0,λ_=>?_,λd=>V0 rfl d⟩
 refine zK (labs:=[]) h (λH h=>fK H none) (by simp) λs h=>⟨_,rfl,_,_,_,λ_=>h.r 1,_,_,_,λ_=>h.r 0,λ_=>?_,λd=>V0 (by simp) d⟩
 refine Ih (xs:=[]) (ys:=[]) (.inl rfl) (.inl rfl) (fK _ none) (fK _ none) ⟨_,rfl,m _ _ ?_⟩;have:=k _ h.tl.tl;have e:((cw []).toList == (cw []).toList)=true:=by simp
 rw[e];exact this
theorem Ii{b o:Nat}{e:Nat}{cs:Xb}(h:aA H F)(i:Nat)(d:aS i F=cellsA b cs e)(a:aI cs 0=some (aB 5))
  (k:∀p H',aA H' (cellsA p [PA b 1,PA b 2,PA b 7] 90::F)->K (.slice (some ⟨p,0,none⟩) 3 3) H'):CF 185 #[PA b 0] H K:=by
 refine cN 185 0x121513c13c13c13c217943c13cbc [[(68,sB)]] ?_;refine⟨5,(h.rd i d 0).trans a,λa=>V0 a (by decide),λ_=>⟨λa=>V0 a (by decide),λ_=>⟨λa=>V0 a (by decide),λ_=>⟨λa=>V0 a (by decide),λ_=>?_⟩⟩⟩⟩
 intro f c;refine⟨λ_=>c _ _ ?_,λa=>V0 a (by decide)⟩
 refine⟨λ_=>?_,λa=>V0 a (by decide)⟩
 refine h.al λp _ h=>?_
 exact k _ _ h
def mf(next:Int)(evs:List Ev):Bool:=decide (0<=next)&&decide (next<=4611686018427387903)&&gI next evs
theorem QU{next:Int}{evs:List Ev}:mf next evs=(decide (0<=next)&&gI next evs):=by
 unfold mf gI
 grind
theorem QV{next:Int}{a:Xa}{c:Nat}{evs:List Ev}(h:aA H F)(t:me F a evs)(v:evs.length<=1099511627776)(k:∀H',aA H' F->K (.bool (mf next evs)) H') :
  CF 190 #[.agg ⟨fbC 0 0 next a evs.length c⟩] H K:=by
 refine cN 190 0x11d11215612399251d4421517b171b217947b171b9c [[],[],[(88,sB)],[],[],[(43,sI)]] ?_;refine h.al λb _ h=>?_
 refine Ii (o:=0) h 0 rfl rfl λp E h=>⟨_,_,_,rfl,_,λ_=>h.r 1,_,λ_=>h.r 1,_,λ_=>h.r 1,_,λ_=>h.r 1,λd=>V0 d (by simp),λ_=>⟨_,h.r 1,?_⟩⟩
 refine h.al λb1 _ h=>?_
 refine h.st 0 rfl rfl ?_;intro H2 h;refine Ii (o:=0) h 0 rfl rfl λp1 I h=>⟨_,_,_,rfl,?_⟩
 refine⟨λi H'=>(i=0\/i=1\/i=2\/i=3)/\((i=3->0<=next/\next<=4611686018427387903))/\
  aA H' (cellsA p1 [PA b1 1,PA b1 2,PA b1 7] 90::cellsA b1 (fbC 0 0 (if i=3 then next else 0) none 0 0) 150::cellsA p [PA b 1,PA b 2,PA b 7] 90::cellsA b (fbC 0 0 next a evs.length c) 150::F),
  λi _=>3-i.toNat,⟨.inl rfl,λh=>V0 h (by decide),h⟩,?_⟩
 rintro i G ⟨hi,u,h⟩;refine⟨λd=>?_,λd=>?_⟩
 .have d:=V3 d
  rcases hi with rfl|rfl|rfl|rfl
  .refine⟨by decide,_,_,rfl,_,h.rd 2 rfl _,⟨_,h.r 3,λ_=>trivial,_,λ_=>h.r 3,λd=>V0 d (by decide),λ_=>⟨by decide,_,_,rfl,_,h.rd 0 rfl _,⟨_,h.r 3,?_⟩⟩⟩⟩
   refine h.st 1 rfl rfl ?_;intro n h;exact⟨⟨.inr (.inl (by decide)),λh=>V0 h (by decide),h⟩,by dsimp only;decide⟩
  .refine⟨by decide,_,_,rfl,_,h.rd 2 rfl _,⟨_,h.r 3,λ_=>trivial,_,λ_=>h.r 3,λd=>V0 d (by decide),λ_=>⟨by decide,_,_,rfl,_,h.rd 0 rfl _,⟨_,h.r 3,?_⟩⟩⟩⟩
   refine h.st 1 rfl rfl ?_;intro n h;exact⟨⟨.inr (.inr (.inl (by decide))),λh=>V0 h (by decide),h⟩,by dsimp only;decide⟩
  .refine⟨by decide,_,_,rfl,_,h.rd 2 rfl _,⟨_,h.r 3,λ_=>trivial,_,λ_=>h.r 3,λd=>?_,λd=>⟨by decide,_,_,rfl,_,h.rd 0 rfl _,⟨_,h.r 3,?_⟩⟩⟩⟩
   .have:mf next evs=false:=by
     simp only[VY,V5]at d
     grind [mf]
    rw[this]at k;exact k _ h.tl.tl.tl.tl
   .simp only[VN,VG]at d;refine h.st 1 rfl rfl ?_;intro n h;exact⟨⟨.inr (.inr (.inr (by decide))),λ_=>by omega,h⟩,by dsimp only;decide⟩
  .exact V0 d (by decide)
 .have d:=V2 d;have s:i=3:=by
   grind
  subst s;have u:=u rfl;rw[V1 rfl]at h;have x:mf next evs=gI next evs:=by
   grind [mf]
  refine⟨_,h.r 3,?_⟩;intro J A;refine⟨λd=>V0 d (by decide),λ_=>?_⟩
  intro w f;refine⟨λ_=>⟨_,_,_,h.r 3,?_⟩,λd=>V0 d (by decide)⟩
  refine h.st 1 rfl rfl ?_;intro n h;refine⟨_,h.r 3,_,_,_,h.r 3,?_⟩;refine Ig h ((((t.cons _).cons _).cons _).cons _) v λC h=>⟨_,rfl,λd=>?_,λd=>?_⟩
  .have:mf next evs=false:=by grind
   rw[this]at k;exact k _ h.tl.tl.tl.tl
  .have hb:gI next evs=true:=by grind
   refine f _ (A _ ?_);refine⟨_,_,_,_,_,_,_,_,_,_,_,_,_,_,_,_,_,_,_,_,h.q 3,_,_,_,_,_,_,_,_,_,_,_,_,_,_,_,_,_,_,_,_,h.q 1,?_⟩;have y:evs.length<=64:=by
    unfold gI at hb
    grind
   have m:∀e∈evs,e.labs.length<=1000000:=by
    intro e B;unfold gI at hb;rw[V4,VK]at hb;have j:=hb.2 e B;unfold evOk at j;rw[V4]at j;have:=(lX j.2).len;omega
   refine QS h ((((t.cons _).cons _).cons _).cons _) (by omega) m λD h=>⟨_,rfl,?_⟩
   have:mf next evs=true:=by rw[x,hb]
   conv=>whnf
   rw[this]at k;exact k _ h.tl.tl.tl.tl
end
section
variable {F L:List aD}{H:aC}{K:KQ}
theorem QW{a:Xa}{c:Nat}{l:List Ev}(h:aA H F)(i:∀H,aA H F->aN H a (aF bT l))(v:l.length<=1000000)
  (k:∀d e H',aA H' (slA 258 4 d l.length e (aF bT l)::F)->K (.slice d l.length e) H'):CF 420 #[.slice a l.length c] H K:=by
 refine cM 420 476 ⟨λj=>?_,λj=>?_⟩
 .have:a=none:=by simp_all
  subst this;have u:=nR (i H h);have:l=[]:=by
   have:=congrArg List.length u;rw[dT dF]at this;exact Wi (by grind)
  subst this;exact k none 0 H (h.sl_nil 258 4)
 .refine h.al λb _ h=>?_
  have t:=i _ h.tl;have s:=aA.sl_pt (cs:=[]) h 4 0 rfl
  conv=>whnf
  refine aA.append (m:=l.length) sl44 s 0 rfl t (dT dF l) (kS zi l) (by omega) (by omega) λd e H' n=>⟨_,_,_,rfl,?_⟩
  have f:aA H' (slA 258 4 d (0+l.length) e ([]++aF bT l)::F):=n;rw[VB,VZ]at f;have:=k d e H' f;rw[<-VB l.length]at this;exact this
theorem Ij{a:Xa}{c:Nat}{l:List Ot}(h:aA H F)(i:∀H,aA H F->aN H a (aF cW l))(v:l.length<=1000000)
  (k:∀d e H',aA H' (slA 288 74 d l.length e (aF cW l)::F)->K (.slice d l.length e) H'):CF 245 #[.slice a l.length c] H K:=by
 refine cM 245 476 ⟨λj=>?_,λj=>?_⟩
 .have:a=none:=by simp_all
  subst this;have u:=nR (i H h);have:l=[]:=by
   have:=congrArg List.length u;rw[dT iU]at this;exact Wi (by grind)
  subst this;exact k none 0 H (h.sl_nil 288 74)
 .refine h.al λb _ h=>?_
  have t:=i _ h.tl;have s:=aA.sl_pt (cs:=[]) h 74 0 rfl
  conv=>whnf
  refine aA.append (m:=l.length) sl86 s 0 rfl t (dT iU l) (kS tK l) (by omega) (by omega) λd e H' n=>⟨_,_,_,rfl,?_⟩
  have f:aA H' (slA 288 74 d (0+l.length) e ([]++aF cW l)::F):=n;rw[VB,VZ]at f;have:=k d e H' f;rw[<-VB l.length]at this;exact this
theorem QX{a:Xa}{c:Nat}{l:List Ot}{j:Nat}(u:j<=l.length)(h:aA H (slA 288 74 a l.length c (aF cW l)::F))
  (k:∀H',aA H' (slA 288 74 a (l.length-j) c (aF cW (l.drop j))::F)->K (.slice a (l.length-j) c) H'):CF 260 #[.slice a l.length c,aB 0,aB j] H K:=by
 have t:=h.sl_nc 0 rfl;refine cM 260 18682140 ?_;refine⟨⟨by omega,by omega,by omega,by omega⟩,λm=>?_,λm=>?_⟩
 .have:j=0:=by grind
  subst this;exact k H h
 .have s:0<j:=by grind
  refine⟨⟨by omega,by omega,by omega⟩,⟨by omega,by omega,by omega⟩,?_⟩;have f:=h.sl_rd 0 rfl;have hs:=f.some iU (by omega) (k:=0) (by omega);have e0:bM a 0 c 74=a:=by
   unfold bM;rw[nO,hs,VT,fu];simp
  have e:=f.subK (k:=j) (c:=c) (sz:=74) (by rw[dT iU];omega);rw[ry iU]at e;have d:=h.sl_take 0 rfl 0 (by omega);simp only[WG,W9]at d;show bS Tryz.prog (Builtin.append_ #[283,283] 283 #[.slice (bM a 0 c 74) 0 c,.slice (bM a j c 74) (l.length-j) (c-j)]) H _;rw[e0];refine aA.appendIn sl86 d 0 rfl e (by rw[dT iU,Wb]) (kS tK _) (by omega) λH' n=>⟨_,_,_,rfl,⟨by omega,by omega,by omega⟩,?_⟩
  rw[VB];have b:aA H' (slA 288 74 a (0+(l.length-j)) c ([]++aF cW (l.drop j))::F):=n;rw[VB,VZ]at b;exact aA.clearS sl86 (by kernel_rfl) b 0 rfl (by omega) λ_ v i=>k _ i
theorem QY{a:Xa}{c:Nat}{l:List bg}(h:aA H F)(i:∀H,aA H F->aN H a (aF aZ l))(v:l.length<=1000000)
  (k:∀d e H',aA H' (slA 48 2 d l.length e (aF aZ l)::F)->K (.slice d l.length e) H'):CF 274 #[.slice a l.length c] H K:=by
 refine cM 274 476 ⟨λj=>?_,λj=>?_⟩
 .have:a=none:=by simp_all
  subst this;have u:=nR (i H h);have:l=[]:=by
   have:=congrArg List.length u;rw[dT dB]at this;exact Wi (by grind)
  subst this;exact k none 0 H (h.sl_nil 48 2)
 .refine h.al λb _ h=>?_
  have t:=i _ h.tl;have s:=aA.sl_pt (cs:=[]) h 2 0 rfl
  conv=>whnf
  refine aA.append (m:=l.length) sl91 s 0 rfl t (dT dB l) (kS zh l) (by omega) (by omega) λd e H' n=>⟨_,_,_,rfl,?_⟩
  have f:aA H' (slA 48 2 d (0+l.length) e ([]++aF aZ l)::F):=n;rw[VB,VZ]at f;have:=k d e H' f;rw[<-VB l.length]at this;exact this
theorem zL{Q:aD}{a:Xa}{c:Nat}{l:List bg}(h:aA H (Q::F))(e:∀H,aA H (Q::F)->aN H a (aF aZ l))(f:l.length<=1000000)
  (k:∀Q' b d H',aH Q Q'->bB Q' b (aF aZ l)->aA H' (Q'::F)->K (.slice b l.length d) H'):CF 274 #[.slice a l.length c] H K:=
 QY h e f λb d H' h=>k _ b d H' (aH.add _ Q) bB.sl (eX.2 h)
end
structure Pv where
 stamp:Int
 value:Int
 name:Eq
 labs:List bg
def Ev.p(e:Ev):Pv:=⟨e.stamp,e.value,e.name,e.labs⟩
section
variable {α β:Type}
def dW(f:α->β)(l:cx α):cx β:=l.map λp=>(p.1,f p.2)
def mapH(f:α->β)(s:HS α):HS β:=⟨s.next,s.most,dW f s.rows⟩
theorem QZ(f:α->β)(l:cx α):aL (dW f l)=aL l:=by simp[dW,aL,Wg,Function.comp_def]
theorem Ik(f:α->β)(l:cx α):(dW f l).length=l.length:=VP ..
theorem Il(f:α->β)(n:Int)(v:α):∀l:cx α,ins n (f v) (dW f l)=dW f (ins n v l)
 | []=>rfl
 | (a,b)::r=>by
  have c:=Il f n v r;show (if n<a then _ else _)=dW f (if n<a then _ else _)
  split
  .rfl
  .show (a,f b)::ins n (f v) (dW f r)=(a,f b)::dW f (ins n v r);rw[c]
theorem Im(f:α->β)(n:Int):∀l:cx α,aK n (dW f l)=(aK n l).map f
 | []=>rfl
 | (a,b)::r=>by
  have c:=Im f n r;show aK n ((a,f b)::dW f r)=_;unfold aK
  split
  .rfl
  .exact c
theorem Ra(f:α->β)(next most n:Int)(v:α)(s:cx α×Int):dS next most n (f v) (dW f s.1,s.2)=(dW f (dS next most n v s).1,(dS next most n v s).2):=by
 grind [dS,Im,Il]
theorem Io(f:α->β)(next most:Int):∀(l:List α) (n:Int) (s:cx α×Int),eD next most n (l.map f) (dW f s.1,s.2)=(dW f (eD next most n l s).1,(eD next most n l s).2)
 | [],n,s=>rfl
 | v::vs,n,s=>by
  show eD next most (n+1) (vs.map f) (dS next most n (f v) (dW f s.1,s.2))=_;rw[Ra];exact Io f next most vs (n+1) _
theorem Ip(f:α->β):∀(l:cx α) (next:Int),pop next (dW f l)=((pop next l).1.map f,(pop next l).2.1,dW f (pop next l).2.2)
 | [],next=>rfl
 | (n,v)::r,next=>by
  have a:=Ip f r (next+1);have e1:pop next (dW f ((n,v)::r))=if n=next then (f v::(pop (next+1) (dW f r)).1,(pop (next+1) (dW f r)).2) else ([],next,dW f ((n,v)::r)):=rfl
  have e2:pop next ((n,v)::r)=if n=next then (v::(pop (next+1) r).1,(pop (next+1) r).2) else ([],next,(n,v)::r):=rfl
  grind
theorem Rb(f:α->β)(s:HS α)(first:Int)(items:List α):(mapH f s).offer first (items.map f)=(mapH f (s.offer first items).1,(s.offer first items).2.1.map f,(s.offer first items).2.2):=by
 unfold HS.offer
 split
 .simp
 .have h:=Io f s.next s.most items first (s.rows,0)
  grind [mapH,Ip]
theorem wx{f:α->β}{l:cx α}:gw (dW f l)↔gw l:=by
 grind [gw,dW]
theorem Iq{f:α->β}{lo next most:Int}{l:cx α}:jH lo next most (dW f l)↔jH lo next most l:=by
 constructor
 .rintro⟨h1,h2⟩;exact⟨wx.1 h1,λp a=>h2 (p.1,f p.2) (V8.2 ⟨p,a,rfl⟩)⟩
 .rintro⟨h1,h2⟩;refine⟨wx.2 h1,λp a=>?_⟩
  obtain⟨q,b,rfl⟩:=V8.1 a
  grind
theorem ok_mapH{f:α->β}{s:HS α}:(mapH f s).Ok↔s.Ok:=
 ⟨λh=>⟨h.next0,h.most1,h.most2,Iq.1 h.rows⟩,λh=>⟨h.next0,h.most1,h.most2,Iq.2 h.rows⟩⟩
theorem Re{next most n:Int}{v:α}{s:cx α×Int}{p:Int×α}(h:p∈(dS next most n v s).1):p.2=v\/p∈s.1:=by
 unfold dS at h
 split at h
 .grind
 .split at h
  .grind
  .rcases tn.1 h with rfl|h
   .grind
   grind
theorem zM{next most:Int}:∀{l:List α} {n:Int} {s:cx α×Int} {p:Int×α},p∈(eD next most n l s).1->p.2∈l\/p∈s.1
 | [],n,s,p,h=>.inr h
 | v::vs,n,s,p,h=>by
  rcases zM (l:=vs) h with h|h
  .exact .inl (VF _ h)
  .rcases Re h with h|h
   .exact .inl (h▸VI ..)
   .exact .inr h
theorem zN:∀{l:cx α} {next:Int},(∀v∈(pop next l).1,∃p∈l,p.2=v)/\∀p∈(pop next l).2.2,p∈l
 | [],next=>⟨λv h=>V0 h (by simp[pop]),λp h=>V0 h (by simp[pop])⟩
 | (n,v)::r,next=>by
  have a:=zN (l:=r) (next:=next+1);unfold pop
  split
  .simp_all
  grind
theorem wy{s:HS α}{first:Int}{items:List α}:(∀v∈(s.offer first items).2.1,v∈items\/∃p∈s.rows,p.2=v)/\∀p∈(s.offer first items).1.rows,p.2∈items\/p∈s.rows:=by
 unfold HS.offer
 split
 .grind
 .have b:=zN (l:=(eD s.next s.most first items (s.rows,0)).1) (next:=s.next);refine⟨λv c=>?_,λp a=>zM (b.2 p a)⟩
  obtain⟨p,d,rfl⟩:=b.1 v c
  rcases zM d with h|h
  .grind
  grind
theorem Ir:∀{l:cx α} {next:Int},(pop next l).1.length<=l.length
 | [],_=>VD _
 | (n,v)::r,next=>by
  have a:=Ir (l:=r) (next:=next+1);unfold pop
  split
  .show (v::(pop (next+1) r).1).length<=_;simp only[VA];omega
  .simp
theorem Is{next most:Int}:∀{l:List α} {n:Int} {s:cx α×Int},(eD next most n l s).1.length<=s.1.length+l.length
 | [],n,s=>VD _
 | v::vs,n,s=>by
  have b:=Is (next:=next) (most:=most) (l:=vs) (n:=n+1) (s:=dS next most n v s);have a:(dS next most n v s).1.length<=s.1.length+1:=by
   unfold dS
   split
   .omega
   .split
    .dsimp only;omega
    .dsimp only;rw[NJ];omega
  show (eD next most (n+1) vs (dS next most n v s)).1.length<=_;rw[VA];omega
theorem It{s:HS α}{first:Int}{items:List α}:(s.offer first items).2.1.length<=s.rows.length+items.length:=by
 grind [HS.offer,Ir,Is]
end
abbrev gJ(Q:aD)(e:Ev):Prop:=bB Q e.la (aF aZ e.labs)
def hldA(Q:aD)(hb:Nat)(s:HS Pv):aD:=exS λp:Nat×cx Ev=>star [holdC hb p.1 s.next s.most,gp p.1 p.2,pur (dW Ev.p p.2=s.rows/\∀x∈p.2,gJ Q x.2)]
section
variable {Q Q':aD}{hb:Nat}{s:HS Pv}{F L:List aD}{H:aC}{K:KQ}
theorem ku:aA H (hldA Q hb s::F)↔∃mb rows,(dW Ev.p rows=s.rows/\∀x∈rows,gJ Q x.2)/\aA H (holdC hb mb s.next s.most::gp mb rows::F):=by
 constructor
 .intro h;obtain⟨⟨mb,rows⟩,h⟩:=cy.1 h;have h:=aA.open (A:=[_,_,_]) h;have a:=aA.consP (h.o [2,0,1] 3);exact⟨mb,rows,a.1,a.2⟩
 .rintro⟨mb,rows,a,h⟩;refine cy.2 ⟨(mb,rows),aA.shut [_,_,_] ?_⟩;exact (h.pur a).o [1,2,0] 3
theorem Iu(hs:aH Q Q')(h:aA H (hldA Q hb s::F)):aA H (hldA Q' hb s::F):=by
 obtain⟨mb,rows,a,h⟩:=ku.1 h;exact ku.2 ⟨mb,rows,⟨a.1,λx b=>(a.2 x b).sub hs⟩,h⟩
theorem Iv{next most:Int}(h:aA H F)
  (k1:next<0\/1099511627776<next\/most<1\/256<most->K (.tuple #[.pointer none,aB 11]) H)
  (k2:∀hb H',0<=next/\next<=1099511627776/\1<=most/\most<=256->aA H' (hldA Q hb ⟨next,most,[]⟩::F)->K (.tuple #[PA hb 0,aB 0]) H') :
  CF 227 #[aB next,aB most] H K:=
 PE h k1 λhb mb H' a h=>k2 hb H' a (ku.2 ⟨mb,[],⟨rfl,λx b=>V0 b (by simp)⟩,h⟩)
theorem tT(h:aA H (hldA Q hb s::F)):bO Tryz.prog 286 #[PA hb 0] H (aB s.next):=by
 obtain⟨mb,rows,a,h⟩:=ku.1 h;exact PF h 0 rfl
theorem Rf{first:Int}{m:Xa}{u:Nat}{items:List Ev}(h:aA H (hldA Q hb s::F))(ok:s.Ok)(t:s.next<=1125899906842624)
  (A:∀H,aA H F->aN H m (aF bT items)) (n:∀e∈items,gJ Q e) (f:items.length<=1000000)
  (k:∀a c (ready:List Ev) H',ready.map Ev.p=(s.offer first (items.map Ev.p)).2.1->(∀e∈ready,gJ Q e)->
   aA H' (slA 258 4 a ready.length c (aF bT ready)::hldA Q hb (s.offer first (items.map Ev.p)).1::F)->K (.tuple #[.slice a ready.length c,aB (s.offer first (items.map Ev.p)).2.2]) H') :
  CF 360 #[PA hb 0,aB first,.slice m items.length u] H K:=by
 obtain⟨mb,rows,j,h⟩:=ku.1 h;have es:s=mapH Ev.p ⟨s.next,s.most,rows⟩:=by unfold mapH;rw[j.1]
 have d:=Rb Ev.p ⟨s.next,s.most,rows⟩ first items;rw[<-es]at d;rw[d]at k;have i:(⟨s.next,s.most,rows⟩:HS Ev).Ok:=ok_mapH.1 (es▸ok);have hm:=wy (s:=⟨s.next,s.most,rows⟩) (first:=first) (items:=items);have b:((⟨s.next,s.most,rows⟩:HS Ev).offer first items).1.most=s.most:=by grind [HS.offer]
 refine PG (s:=⟨s.next,s.most,rows⟩) h i t A f λa c H' h=>?_
 refine k a c _ H' rfl (λe y=>?_) ?_
 .rcases hm.1 e y with h|⟨p,h,rfl⟩
  .exact n e h
  .exact j.2 p h
 .have h:=h.o [1,2,0] 3;have v:aA H' (hldA Q hb (mapH Ev.p ((⟨s.next,s.most,rows⟩:HS Ev).offer first items).1)::_):=ku.2 ⟨mb,_,⟨rfl,λx w=>by
   rcases hm.2 x w with h|h
   .exact n _ h
   .exact j.2 x h⟩,by
    show aA H' (holdC hb mb _ ((⟨s.next,s.most,rows⟩:HS Ev).offer first items).1.most::_);rw[b];exact h⟩
  exact v.o [1,0] 2
theorem zO(h:aA H (hldA Q hb s::F))(j:gw s.rows)(f:∀p∈s.rows,aG p.1)(m:s.rows.length<=1000000)
  (k:∀a c H',aA H' (slA 2 1 a s.rows.length c ((aL s.rows).map aB)::hldA Q hb s::F)->K (.slice a s.rows.length c) H') :
  CF 287 #[PA hb 0] H K:=by
 obtain⟨mb,rows,i,h⟩:=ku.1 h;rw[<-i.1]at j f m;have b:s.rows.length=rows.length:=by grind [Ik]
 have d:aL s.rows=aL rows:=by grind [QZ]
 refine EV h (wx.1 j) (λp e=>f (p.1,p.2.p) (V8.2 ⟨p,e,rfl⟩)) (by grind) λa c H' h=>?_
 rw[<-b];refine k a c H' ?_;rw[b,d];have h:=h.o [1,2,0] 3;have h:=ku.2 ⟨mb,rows,i,h⟩;exact h.o [1,0] 2
theorem Rg(h:aA H (hldA Q hb s::F))(m:gw s.rows)(j:∀p∈s.rows,aG p.1)(n:s.rows.length<=1000000)
  (k:∀a c (evs:List Ev) H',evs.map Ev.p=s.rows.map (·.2)->(∀e∈evs,gJ Q e)->aA H' (slA 258 4 a evs.length c (aF bT evs)::hldA Q hb s.drain::F)->K (.slice a evs.length c) H') :
  CF 390 #[PA hb 0] H K:=by
 obtain⟨mb,rows,f,h⟩:=ku.1 h;rw[<-f.1]at m j n;refine PI h (wx.1 m) (λp d=>j (p.1,p.2.p) (V8.2 ⟨p,d,rfl⟩)) (by grind [Ik]) λa c H' h=>?_
 have h:=h.o [1,2,0] 3;have t:aA H' (hldA Q hb s.drain::_):=ku.2 ⟨mb,[],⟨rfl,λx v=>V0 v (by simp)⟩,h⟩
 have b:(rows.map (·.2)).length=rows.length:=VP ..;have i:=k a c (rows.map (·.2)) H' (by rw[<-f.1];unfold dW;simp_all) (λe w=>by
  obtain⟨p,u,rfl⟩:=V8.1 w;exact f.2 p u) (by rw[b];exact t.o [1,0] 2)
 rw[b]at i;exact i
theorem Iw(h:aA H (hldA Q hb s::F))
  (k:∀a H',aA H' (hldA Q a s::hldA Q hb s::F)->K (PA a 0) H'):CF 266 #[PA hb 0] H K:=by
 obtain⟨mb,rows,c,h⟩:=ku.1 h;refine PJ h λa b H' h=>k a H' ?_
 have h:=h.o [2,3,0,1] 4;have h:=ku.2 ⟨mb,rows,c,h⟩;have h:=h.o [1,2,0] 3;exact ku.2 ⟨b,rows,c,h⟩
end
def jv(e:Pv):Bool:=decide (0<=e.stamp)&&decide (e.stamp<=4611686018427387903)&&df e.name e.labs
def kv(next:Int)(evs:List Pv):Bool:=decide (0<=next)&&decide (next<=4611686018427387903)&&(decide (1<=evs.length)&&decide (evs.length<=64)&&decide (next<=1099511627776-evs.length)&&evs.all jv)
structure Rp where
 kind:Int
 ag:Int
 ep:Int
 bt:Int
 nx:Int
 st:Int
 nw:Int
 sm:Smp
 evs:List Pv
def cT(k:Int):List Nat:=if k=2 then [1,3,6] else if k=3 then [1,2,7,8,9,10] else if k=4 then [1,2,4,6] else if k=5 then [1,2,4,5,6] else if k=6 then [6] else if k=7 then [4] else []
def zrK(k:Int)(i:Nat)(x:Int):Int:=if i∈cT k then 0 else x
abbrev inM(x least most:Int):Bool:=decide (least<=x)&&decide (x<=most)
def Rp.zeros(r:Rp):Bool:=(decide (zrK r.kind 1 r.ag=0)&&decide (zrK r.kind 2 r.ep=0)&&decide (zrK r.kind 3 r.bt=0)&&decide (zrK r.kind 4 r.nx=0)&&decide (zrK r.kind 5 r.st=0)&&decide (zrK r.kind 6 r.nw=0)) &&
 (decide (zrK r.kind 7 r.sm.asked=0)&&decide (zrK r.kind 8 r.sm.got=0)&&decide (zrK r.kind 9 r.sm.sent=0)&&decide (zrK r.kind 10 r.sm.came=0))
def Rp.lim(r:Rp):Bool:=inM r.ag 0 63&&inM r.ep (if r.kind=3\/r.kind=4\/r.kind=5 then 1 else 0) 1099511627776&&inM r.bt (if r.kind=2 then 1 else 0) 1099511627776&&inM r.nx 0 1099511627776&&inM r.st 0 4611686018427387903&&inM r.nw 0 4611686018427387903&&decide (r.sm.ok)
def Rp.right(r:Rp):Bool:=inM r.kind 1 7&&r.zeros&&(if r.kind=4 then kv r.nx r.evs else decide (r.evs.length=0))&&r.lim
abbrev dH(r:Rp)(a:Xa)(c:Nat):Xb:=[aB r.kind,aB r.ag,aB r.ep,aB r.bt,aB r.nx,aB r.st,aB r.nw,aB r.sm.asked,aB r.sm.got,aB r.sm.sent,aB r.sm.came,.slice a r.evs.length c]
theorem kinds{k:Int}(b:¬k<1)(a:¬7<k):k=1\/k=2\/k=3\/k=4\/k=5\/k=6\/k=7:=by omega
section
variable {F L:List aD}{H:aC}{K:KQ}
theorem zP{next:Int}{evs:List Ev}:mf next evs=kv next (evs.map Ev.p):=by
 unfold mf gI kv;rw[VP,List.all_map];rfl
theorem rM{x a b:Int}:bO Tryz.prog 336 #[aB x,aB a,aB b] H (.bool (inM x a b)):=cM 336 28 ⟨rfl,rfl⟩
theorem Ix{b e:Nat}{k0:Int}{cs:Xb}(h:aA H F)(i:Nat)(j:aS i F=cellsA b cs e)(f:aI cs 0=some (aB k0))
  (k:∀a c H',aA H' (slA 90 1 a (cT k0).length c ((cT k0).map λi=>PA b i)::F)->K (.slice a (cT k0).length c) H'):CF 249 #[PA b 0] H K:=by
 refine cM 249 0x121513c131c13c13c13cbc ?_;have fin:∀(l:List Nat) p H',cT k0=l->aA H' (cellsA p (l.map λi=>PA b i) 90::F)->K (.slice (some ⟨p,0,none⟩) l.length l.length) H':=by
  intro l p H' e h;subst e;refine k _ _ _ ?_;exact aA.sl_pt h 1 _ (by simp)
 refine⟨k0,(h.rd i j 0).trans f,λd=>?_,λd=>⟨λd=>?_,λd=>⟨λd=>?_,λd=>⟨λd=>?_,λd=>⟨λd=>?_,λd=>⟨λd=>?_,λd=>?_⟩⟩⟩⟩⟩⟩
 .have d:=V3 d;subst d;exact h.al λp _ h=>fin [1,3,6] p _ rfl h
 .have d:=V3 d;subst d;exact h.al λp _ h=>fin [1,2,7,8,9,10] p _ rfl h
 .have d:=V3 d;subst d;exact h.al λp _ h=>fin [1,2,4,6] p _ rfl h
 .have d:=V3 d;subst d;exact h.al λp _ h=>fin [1,2,4,5,6] p _ rfl h
 .have d:=V3 d;subst d;exact h.al λp _ h=>fin [6] p _ rfl h
 .have d:=V3 d;subst d;exact h.al λp _ h=>fin [4] p _ rfl h
 .have e:cT k0=[]:=by
   unfold cT
   grind
  have:=k none 0 H (by rw[e];exact h.sl_nil 90 1);rw[e]at this;exact this
def zrL(cs:Xb)(is:List Nat):Xb:=is.foldl (λcs i=>cq cs i [aB 0]) cs
theorem zrL_len(cs:Xb):∀is,(zrL cs is).length=cs.length:=by
 intro is
 induction is generalizing cs with
 | nil=>rfl
 | cons i r ih=>show (zrL (cq cs i [aB 0]) r).length=_;grind [oH]
theorem zrL_take(cs:Xb)(is:List Nat)(j:Nat)(h:j<is.length):zrL cs (is.take (j+1))=cq (zrL cs (is.take j)) is[j] [aB 0]:=by
 grind [zrL,List.take_succ_eq_append_getElem]
theorem Iy{k:Int}:∀i∈cT k,i<11:=by
 grind [cT]
theorem zQ(k:Int):(cT k).length<=6:=by
 unfold cT
 split
 .decide
 split
 .decide
 split
 .decide
 split
 .decide
 grind
theorem zrL_enc{r:Rp}{a:Xa}{c:Nat}(d:¬r.kind<1)(b:¬7<r.kind):zrL (dH r a c) (cT r.kind) =
  [aB r.kind,aB (zrK r.kind 1 r.ag),aB (zrK r.kind 2 r.ep),aB (zrK r.kind 3 r.bt),aB (zrK r.kind 4 r.nx),aB (zrK r.kind 5 r.st),aB (zrK r.kind 6 r.nw),aB (zrK r.kind 7 r.sm.asked),aB (zrK r.kind 8 r.sm.got),aB (zrK r.kind 9 r.sm.sent),aB (zrK r.kind 10 r.sm.came),.slice a r.evs.length c]:=by
 obtain⟨kind,ag,ep,bt,nx,st,nw,sm,evs⟩:=r;dsimp only at d b
 rcases kinds d b with rfl|rfl|rfl|rfl|rfl|rfl|rfl <;> rfl
theorem eq180{a b c d e f:Int}:fH Tryz.prog .neq 538 (.agg #[aB a,aB b,aB c,aB d,aB e,aB f]) (.agg #[aB 0,aB 0,aB 0,aB 0,aB 0,aB 0])
  (!(decide (a=0)&&decide (b=0)&&decide (c=0)&&decide (d=0)&&decide (e=0)&&decide (f=0))):=by
 have h:=(tz (P:=Tryz.prog) (t:=538) (xs:=[aB a,aB b,aB c,aB d,aB e,aB f]) (ys:=[aB 0,aB 0,aB 0,aB 0,aB 0,aB 0])
  (r:=(a == 0&&(b == 0&&(c == 0&&(d == 0&&(e == 0&&(f == 0&&true))))))) (by kernel_rfl)).2
 have e:(a == 0&&(b == 0&&(c == 0&&(d == 0&&(e == 0&&(f == 0&&true))))))=(decide (a=0)&&decide (b=0)&&decide (c=0)&&decide (d=0)&&decide (e=0)&&decide (f=0)):=by
  grind
 rw[e]at h;exact h
theorem eq43{a b c d:Int}:fH Tryz.prog .neq 167 (.agg #[aB a,aB b,aB c,aB d]) (.agg #[aB 0,aB 0,aB 0,aB 0])
  (!(decide (a=0)&&decide (b=0)&&decide (c=0)&&decide (d=0))):=by
 have h:=(rz (P:=Tryz.prog) (t:=167) (xs:=[aB a,aB b,aB c,aB d]) (ys:=[aB 0,aB 0,aB 0,aB 0])
  (r:=(a == 0&&(b == 0&&(c == 0&&(d == 0&&true))))) (by kernel_rfl)).2
 have e:(a == 0&&(b == 0&&(c == 0&&(d == 0&&true))))=(decide (a=0)&&decide (b=0)&&decide (c=0)&&decide (d=0)):=by
  grind
 rw[e]at h;exact h
theorem Iz{r:Rp}{a:Xa}{c:Nat}{evs:List Ev}(N:r.evs=evs.map Ev.p)(h:aA H F)(Y:me F a evs)(Q:evs.length<=1099511627776)
  (k:∀H',aA H' F->K (.bool r.right) H'):CF 251 #[.agg ⟨dH r a c⟩] H K:=by
 have n:r.evs.length=evs.length:=by grind
 refine cN 251 0x1d1215612399251441d2171bb121517421791794749289 [[(2,sB)],[(8,sI)],[(70,sB)],[(70,sB)],[(8,sI),(9,sI)],[],[(21,sI)]] ?_;refine h.al λb _ h=>⟨_,h.r 0,_,λ_=>h.r 0,λA=>?_,λA=>?_⟩
 .have:r.right=false:=by
   unfold Rp.right inM
   grind
  rw[this]at k;exact k _ h.tl
 simp only[VN,VG]at A;have M:inM r.kind 1 7=true:=by grind
 refine⟨_,_,_,_,_,_,_,_,_,_,_,_,_,_,h.q 0,?_⟩;refine h.al λb1 _ h=>?_
 refine h.st 0 rfl rfl ?_;intro H2 h;refine Ix h 0 rfl rfl λp pc H3 h=>⟨_,_,_,rfl,?_⟩
 refine⟨λi H'=>∃j:Nat,i=j/\j<=(cT r.kind).length/\aA H' (slA 90 1 p (cT r.kind).length pc ((cT r.kind).map λi=>PA b1 i)::cellsA b1 (zrL (dH r a c) ((cT r.kind).take j)) 169::cellsA b (dH r a c) 169::F),
  λi _=>(cT r.kind).length-i.toNat,⟨0,rfl,by omega,h⟩,?_⟩
 rintro i H4 ⟨j,rfl,hj,h⟩;refine⟨λe=>?_,λe=>?_⟩
 .have e:j<(cT r.kind).length:=by grind
  have O:=(h.sl_rd 0 rfl).at e;have hi:=Iy _ (V7 e);have ho:=zQ r.kind;refine⟨by omega,_,_,O.1,_,O.2,?_⟩;refine h.st 1 rfl (by rw[zrL_len];exact Nat.ble_eq_true_of_le (by show (cT r.kind)[j]+1<=12;omega)) ?_;intro Z h
  conv=>whnf
  rw[aJ (x:=(j:Int)+1)];refine⟨⟨j+1,by omega,e,?_⟩,by grind⟩;rw[zrL_take _ _ _ e];exact h
 .have I:(cT r.kind).length<=j:=by grind
  rw[VM I,zrL_enc A.1 A.2]at h;refine⟨_,h.r 1,_,h.r 1,_,h.r 1,_,h.r 1,_,h.r 1,_,h.r 1,?_⟩;refine h.al λb3 _ h=>?_
  refine h.st 0 rfl rfl ?_;intro Z h;refine⟨_,_,_,_,_,_,h.q 0,_,eq180,_,_,_,_,λ_=>h.q 2,_,λ_=>eq43,λU=>?_,λU=>?_⟩
  .have:r.right=false:=by
    have:r.zeros=false:=by
     unfold Rp.zeros
     grind
    grind [Rp.right]
   rw[this]at k;exact k _ h.tl.tl.tl.tl
  have S:r.zeros=true:=by
   grind [Rp.zeros]
  have B:r.right=((if r.kind=4 then kv r.nx r.evs else decide (r.evs.length=0))&&r.lim):=by
   grind [Rp.right]
  refine⟨_,h.r 3,?_⟩;intro Jn hJ;have fin:∀m,(if r.kind=4 then kv r.nx r.evs else decide (r.evs.length=0))=true->aA m (cellsA b (dH r a c) 169::F)->Jn m:=by
   intro m hb h;rw[hb,Bool.true_and]at B;refine hJ _ ?_;refine⟨_,h.r 0,?_⟩;intro E C;have f:∀ep bt,ep=(if r.kind=3\/r.kind=4\/r.kind=5 then (1:Int) else 0)->bt=(if r.kind=2 then (1:Int) else 0)->E ep bt m:=by
    rintro _ _ rfl rfl;refine C _ _ _ ?_;intro V w;refine⟨_,h.r 0,_,rM,_,λ_=>h.r 0,_,λ_=>rM,_,λ_=>h.r 0,_,λ_=>rM,_,λ_=>h.r 0,_,λ_=>rM,_,λ_=>h.r 0,_,λ_=>rM,_,λ_=>h.r 0,_,λ_=>rM,_,_,_,_,λ_=>h.q 0,λhw=>?_,λhw=>?_⟩
    .refine zf (s:=r.sm) h λR h=>⟨_,rfl,w _ _ ?_⟩
     have:r.right=decide r.sm.ok:=by
      rw[B];unfold Rp.lim
      grind
     rw[this]at k;exact k _ h.tl
    .refine w _ _ ?_;have:r.right=false:=by
      rw[B];unfold Rp.lim
      grind
     rw[this]at k;exact k _ h.tl
   refine⟨λd=>?_,λd=>?_⟩
   .have d:=V3 d;exact f _ _ (by grind) (by grind)
   intro D G;have h0:=V2 d;have f3:∀t:Bool,t=decide (r.kind=3\/r.kind=4\/r.kind=5)->D t m:=by
    rintro t rfl;refine G _ _ ?_;intro W u;refine⟨λP=>?_,λP=>?_⟩
    .refine u _ _ ?_;exact f _ _ (by grind) (by grind)
    .refine u _ _ ?_;exact f _ _ (by grind) (by grind)
   refine⟨λd=>?_,λd=>?_⟩
   .have L:=V3 d;exact f3 _ (by grind)
   intro T v;have L:=V2 d;refine⟨λd=>?_,λd=>?_⟩
   .have J:=V3 d;refine v _ _ ?_;exact f3 _ (by grind)
   .have J:=V2 d;refine v _ _ ?_;refine f3 _ ?_
    grind
  refine⟨λd=>?_,λd=>?_⟩
  .have d:=V3 d;refine⟨_,h.r 3,_,_,_,h.r 3,?_⟩;refine h.al λb4 _ h=>?_
   refine h.st 0 rfl rfl ?_;intro m h;refine⟨_,_,_,_,_,_,_,_,_,_,_,_,_,_,_,_,_,_,_,_,h.q 0,?_⟩;rw[n]at h ⊢;refine QV (evs:=evs) h (((((Y.cons _).cons _).cons _).cons _).cons _) Q λR h=>⟨_,rfl,λhb=>?_,λhb=>?_⟩
   .have:r.right=false:=by
     rw[B,V1 d,N,<-zP]
     grind
    rw[this]at k;exact k _ h.tl.tl.tl.tl.tl
   .refine fin _ ?_ ?_
    .rw [V1 d,N,<-zP]
     grind
    .rw [<-n]at h;exact h.o [4] 5
  .have d:=V2 d;refine⟨_,_,_,h.r 3,λy=>?_,λy=>?_⟩
   .have y:=V3 y;have:r.right=false:=by
     grind
    rw[this]at k;exact k _ h.tl.tl.tl.tl
   .have y:=V2 y;refine fin _ ?_ (h.o [3] 4)
    grind
end
def u64N(v:Int):Nat:=(u64.wrap v).toNat
def bC(l:List Int):List Int:=l.flatMap λv=>cA (u64N v)
theorem gK(l:List Int):aP (bC l):=kr λ_ _=>pV _
abbrev Rd(α:Type):=RS->Except Int (α×RS)
def okR{α:Type}(s:RS)(x:α):Except Int (α×RS):=if s.e≠0 then .error s.e else .ok (x,s)
def numR:Rd Int:=λs=>okR (bN s).2 ((bN s).1:Int)
def longR:Rd Int:=λs=>okR (bN s).2 (i64.wrap ((bN s).1:Int))
def zR(m:Int):Rd Int:=λs=>okR (bY m s).2 (bY m s).1
def evB(e:Pv):List Int:=(bC [e.stamp]++dG [e.value])++ju e.name e.labs
theorem wA(e:Pv):aP (evB e):=dY (dY (gK _) (wi _)) (zB _ _)
def Rp.nums(r:Rp)(i:Nat):Int:=match i with|1=>r.ag|2=>r.ep|3=>r.bt|4=>r.nx|5=>r.st|6=>r.nw|7=>r.sm.asked|8=>r.sm.got|9=>r.sm.sent|10=>r.sm.came|_=>0
def Rp.bytes(r:Rp):List Int:=if r.right then (bC [r.kind]++(cT r.kind).flatMap (λi=>bC [r.nums i]))++(if r.kind=4 then bC [(r.evs.length:Int)] else [])++r.evs.flatMap evB else []
theorem wB(v:Int):u64N v<18446744073709551616:=by
 have:=u64in v
 grind [u64N]
theorem I0(v:Int):u64.wrap v=(u64N v:Nat):=by
 have:=u64in v
 grind [u64N]
theorem dD(l:List Int):(bC l).length<=10*l.length:=by
 induction l with
 | nil=>simp[bC]
 | cons v r ih=>
  grind [nU,wB,bC]
theorem wC(e:Pv):(evB e).length<=1320:=by
 grind [dD,lY,wu,evB]
section
variable {F L:List aD}{H:aC}{K KP:KQ}{Q:aD}
theorem oP{a:Xa}{c:Nat}{vs:List Int}(h:aA H F)(w:∀H,aA H F->aN H a (vs.map aB))(C:vs.length<=1000000)
  (k:∀d m H',aA H' (slA 5 1 d (bC vs).length m ((bC vs).map U8)::F)->K (.slice d (bC vs).length m) H') :
  CF 268 #[.slice a vs.length c] H K:=by
 refine cN 268 0x1121561239925144c [[(3,sS),(8,sI)]] ?_;refine⟨λd A m i H'=>∃j:Nat,i=j/\j<=vs.length/\A=(bC (vs.take j)).length/\aA H' (slA 5 1 d (bC (vs.take j)).length m ((bC (vs.take j)).map U8)::F),λ_ _ _ i _=>vs.length-i.toNat,
  ⟨0,rfl,VE _,rfl,h.sl_nil 5 1⟩,?_⟩
 rintro a1 n1 c1 i G ⟨j,rfl,E,rfl,h⟩;refine⟨λu=>?_,λu=>?_⟩
 .have b:j<vs.length:=by grind
  have s:=(w _ h.tl).at b;refine⟨by omega,_,_,s.1,vs[j],s.2,?_⟩;dsimp only
  conv=>whnf
  rw[I0];have B:=dD (vs.take j);have t:=nU (wB vs[j]);have y:(vs.take j).length<=vs.length:=by grind
  refine h.al λb1 _ h=>?_
  refine ql (us:=[u64N vs[j]]) h (λH h=>h.ce_rd 0 rfl) (by grind [wB]) (by simp) λa2 c2 I h=>⟨_,_,_,rfl,?_⟩
  rw[wt]at h ⊢
  conv=>whnf
  refine dd h (i:=2) rfl rfl rfl (h.sl_rd 0 rfl) (by omega) λa3 c3 D h=>⟨_,_,_,rfl,?_⟩
  conv=>whnf
  rw[aJ (x:=(j:Int)+1)];have e:bC (vs.take (j+1))=bC (vs.take j)++cA (u64N vs[j]):=jr (f:=λv=>cA (u64N v)) b
  rw[<-e]at h ⊢;exact⟨⟨j+1,by omega,b,rfl,h.o [2] 3⟩,by grind⟩
 .have n:vs.length<=j:=by grind
  have e:vs.take j=vs:=VM n;rw[e]at h ⊢;exact k _ _ _ h
theorem nq{b:Nat}{v:Int}(h:aA H F)(i:Nat)(d:aS i F=cellsA b [aB v] 2)
  (k:∀a c H',aA H' (slA 5 1 a (bC [v]).length c ((bC [v]).map U8)::F)->K (.slice a (bC [v]).length c) H') :
  CF 268 #[.slice (some ⟨b,0,none⟩) 1 1] H K:=
 oP (vs:=[v]) h (λH h=>h.ce_rd i d) (by simp) k
theorem qm{b:Nat}{v:Int}(h:aA H F)(i:Nat)(d:aS i F=cellsA b [aB v] 2)
  (k:∀a c H',aA H' (slA 5 1 a (dG [v]).length c ((dG [v]).map U8)::F)->K (.slice a (dG [v]).length c) H') :
  CF 293 #[.slice (some ⟨b,0,none⟩) 1 1] H K:=
 G3 (vs:=[v]) h (λH h=>h.ce_rd i d) (by simp) k
theorem I1{e:Ev}(h:aA H F)(s:∀H,aA H F->aN H e.la (aF aZ e.labs))
  (k:∀j m H',aA H' (slA 5 1 j (evB e.p).length m ((evB e.p).map U8)::F)->K (.slice j (evB e.p).length m) H') :
  CF 269 #[aggV e] H K:=by
 refine cN 269 4748 [[(3,sS)]] ?_;refine h.al λb _ h=>?_
 intro u t;have l1:=dD [e.stamp];have l2:=lY [e.value];have v:=wu e.name e.labs;simp only[VA,VV]at l1 l2;have d:∀a c H',aA H' (slA 5 1 a (bC [e.stamp]++dG [e.value]).length c ((bC [e.stamp]++dG [e.value]).map U8)::cellsA b (bT e) 258::F)->u a (bC [e.stamp]++dG [e.value]).length c H':=by
  intro a c H' h;refine t _ _ _ _ ?_;refine⟨_,_,_,_,h.q 1,?_⟩;refine zH h (λH h=>s H h.tl.tl) λa2 c2 H2 h=>⟨_,_,_,rfl,?_⟩
  conv=>whnf
  refine dd h (i:=1) rfl rfl rfl (h.sl_rd 0 rfl) (by grind) λa3 c3 f h=>⟨_,_,_,rfl,?_⟩
  exact k _ _ _ (h.o [1] 3)
 refine⟨_,h.r 0,_,h.r 0,?_,?_⟩
 .refine h.al λb1 _ h=>⟨h.r 1,?_,?_⟩
  .refine nq h 0 rfl λa1 c1 H2 h=>⟨_,_,_,rfl,h.r 2,?_⟩
   refine h.al λb2 _ h=>?_
   refine qm h 0 rfl λa2 c2 n h=>⟨_,_,_,rfl,?_⟩
   conv=>whnf
   refine dd h (i:=2) rfl rfl rfl (h.sl_rd 0 rfl) (by omega) λa3 c3 f h=>⟨_,_,_,rfl,?_⟩
   exact d _ _ _ (h.o [2,4] 5)
  .refine h.al λb2 _ h=>?_
   refine nq h 1 rfl λa1 c1 H2 h=>⟨_,_,_,rfl,?_⟩
   refine qm h 1 rfl λa2 c2 n h=>⟨_,_,_,rfl,?_⟩
   conv=>whnf
   refine dd h (i:=1) rfl rfl rfl (h.sl_rd 0 rfl) (by omega) λa3 c3 f h=>⟨_,_,_,rfl,?_⟩
   exact d _ _ _ (h.o [1,4] 5)
 .refine h.al λb2 _ h=>⟨h.r 1,?_⟩
  refine h.al λb1 _ h=>?_
  refine nq h 0 rfl λa1 c1 H2 h=>⟨_,_,_,rfl,?_⟩
  refine qm h 2 rfl λa2 c2 n h=>⟨_,_,_,rfl,?_⟩
  conv=>whnf
  refine dd h (i:=1) rfl rfl rfl (h.sl_rd 0 rfl) (by omega) λa3 c3 f h=>⟨_,_,_,rfl,?_⟩
  exact d _ _ _ (h.o [1,4] 5)
theorem wD{s:RS}(h:(dg s).e=0):(⟨(dg s).e,(dg s).rest.bs⟩:RS)=(dg s).rest:=by
 unfold dg at h ⊢
 split at h
 .grind
 .rename_i a;rw[Vz a];have a:(dC (bY 8 (bH 64 s).2).1.toNat (bY 8 (bH 64 s).2).2).2.e=0:=by grind
  generalize dC (bY 8 (bH 64 s).2).1.toNat (bY 8 (bH 64 s).2).2=W at *;obtain⟨w1,w2,w3⟩:=W
  grind
end
theorem Rp.right_len{r:Rp}(h:r.right=true):r.evs.length<=64:=by
 unfold Rp.right at h;rw[V4,V4,V4]at h;have h:=h.1.2
 split at h
 .unfold kv at h
  grind
 grind
theorem ordK_pos{k:Int}:∀i∈cT k,1<=i:=by
 grind [cT]
theorem encR_get{r:Rp}{a:Xa}{c i:Nat}(d:1<=i)(b:i<11):aI (dH r a c) i=some (aB (r.nums i)):=by
 rcases (by omega:i=1\/i=2\/i=3\/i=4\/i=5\/i=6\/i=7\/i=8\/i=9\/i=10) with rfl|rfl|rfl|rfl|rfl|rfl|rfl|rfl|rfl|rfl <;> rfl
abbrev nmB(r:Rp)(is:List Nat):List Int:=is.flatMap λi=>bC [r.nums i]
theorem I2(r:Rp)(is:List Nat):(nmB r is).length<=10*is.length:=by
 induction is with
 | nil=>simp
 | cons i l ih=>
  have:=dD [r.nums i]
  grind
theorem zS(l:List Pv):(l.flatMap evB).length<=1320*l.length:=by
 induction l with
 | nil=>simp
 | cons i l ih=>
  grind [wC]
section
variable {F L:List aD}{H:aC}{K KP:KQ}{Q:aD}
theorem Rh{r:Rp}{a:Xa}{c:Nat}{evs:List Ev}(D:r.evs=evs.map Ev.p)(h:aA H F)(y:me F a evs)(L:evs.length<=1099511627776)
  (k:∀n f H',aA H' (slA 5 1 n r.bytes.length f (r.bytes.map U8)::F)->K (.slice n r.bytes.length f) H'):CF 154 #[.agg ⟨dH r a c⟩] H K:=by
 have I:r.evs.length=evs.length:=by grind
 refine cN 154 0x1d1215612399251442174921561239925144c [[(3,sS),(42,sI)],[(3,sS)],[(3,sS),(17,sI)]] ?_;refine h.al λb _ h=>⟨_,_,_,_,_,_,_,_,_,_,_,_,_,_,h.q 0,?_⟩
 refine Iz D h (y.cons _) L λH1 h=>⟨_,rfl,λJ=>?_,λJ=>?_⟩
 .have e:r.bytes=[]:=by unfold Rp.bytes;grind
  rw[e]at k;exact k none 0 _ (h.tl.sl_nil 5 1)
 have E:r.right=true:=by grind
 have R:=Rp.right_len E;unfold Rp.bytes at k;rw[V1 E]at k;have Q:=dD [r.kind];have lo:=zQ r.kind;simp only[VA,VV]at Q;refine⟨_,h.r 0,?_⟩;refine h.al λb1 _ h=>?_
 refine nq h 0 rfl λa1 c1 H2 h=>⟨_,_,_,rfl,?_⟩
 refine Ix h 2 rfl rfl λp pc H3 h=>⟨_,_,_,rfl,?_⟩
 refine⟨λn A f i H'=>∃j:Nat,i=j/\j<=(cT r.kind).length/\A=(bC [r.kind]++nmB r ((cT r.kind).take j)).length/\
  aA H' (slA 5 1 n (bC [r.kind]++nmB r ((cT r.kind).take j)).length f ((bC [r.kind]++nmB r ((cT r.kind).take j)).map U8)::slA 90 1 p (cT r.kind).length pc ((cT r.kind).map λi=>PA b i)::cellsA b (dH r a c) 169::F),
  λ_ _ _ i _=>(cT r.kind).length-i.toNat,⟨0,rfl,by omega,by simp,?_⟩,?_⟩
 .rw [show bC [r.kind]++nmB r ((cT r.kind).take 0)=bC [r.kind] by simp[nmB]];exact h.o [1,0,3] 4
 rintro a2 n2 c2 i H4 ⟨j,rfl,N,rfl,h⟩;have u:=I2 r ((cT r.kind).take j);have w:((cT r.kind).take j).length<=(cT r.kind).length:=by grind
 refine⟨λd=>?_,λd=>?_⟩
 .have d:j<(cT r.kind).length:=by grind
  have t:=(h.sl_rd 1 rfl).at d;have hi:=Iy _ (V7 d);have B:=ordK_pos _ (V7 d)
  conv=>whnf
  refine⟨by omega,_,_,t.1,_,t.2,⟨r.nums (cT r.kind)[j],(h.r 2).trans (encR_get B hi),?_⟩⟩;refine h.al λb3 _ h=>?_
  refine nq h 0 rfl λa3 c3 G h=>⟨_,_,_,rfl,?_⟩
  have l1:=dD [r.nums (cT r.kind)[j]];simp only[VA,VV]at l1;refine dd h (i:=2) rfl rfl rfl (h.sl_rd 0 rfl) (by grind) λa4 c4 C h=>⟨_,_,_,rfl,?_⟩
  conv=>whnf
  rw[aJ (x:=(j:Int)+1)];have e:bC [r.kind]++nmB r ((cT r.kind).take (j+1))=(bC [r.kind]++nmB r ((cT r.kind).take j))++bC [r.nums (cT r.kind)[j]]:=by
   unfold nmB
   grind [jr]
  rw[<-e]at h ⊢;exact⟨⟨j+1,by omega,d,rfl,h.o [2,3,4] 5⟩,by grind⟩
 .have m:(cT r.kind).length<=j:=by grind
  rw[VM m]at h u ⊢;have h:=h.o [0,2] 3;refine⟨_,h.r 1,?_⟩;intro T S;have v:∀(O:List Int) a3 f H',O=(bC [r.kind]++nmB r (cT r.kind))++(if r.kind=4 then bC [(r.evs.length:Int)] else [])->aA H' (slA 5 1 a3 O.length f (O.map U8)::cellsA b (dH r a c) 169::F)->T a3 O.length f H':=by
   intro O a3 c3 G P h;refine S _ _ _ _ ?_;have Z:O.length<=80:=by
    grind [dD]
   refine⟨_,_,_,h.r 1,?_⟩;rw[<-P]at k;refine⟨λn A f i H'=>∃j:Nat,i=j/\j<=evs.length/\A=(O++(r.evs.take j).flatMap evB).length/\
    aA H' (slA 5 1 n (O++(r.evs.take j).flatMap evB).length f ((O++(r.evs.take j).flatMap evB).map U8)::cellsA b (dH r a c) 169::F),
    λ_ _ _ i _=>evs.length-i.toNat,⟨0,rfl,by omega,by simp,by simpa using h⟩,?_⟩
   rintro a4 n4 c4 i C ⟨j,rfl,N,rfl,h⟩;have u:=zS (r.evs.take j);have w:(r.evs.take j).length<=r.evs.length:=by grind
   refine⟨λd=>?_,λd=>?_⟩
   .have d:j<evs.length:=by grind
    have t:=y.rd _ h.tl.tl;refine⟨by omega,_,_,t.some dF (by omega) d,_,_,_,_,_,_,t.els dF d,?_⟩;refine h.al λb5 _ h=>?_
    refine h.st 0 rfl rfl ?_;intro W h;refine⟨_,_,_,_,_,_,h.q 0,?_⟩;refine I1 (e:=evs[j]) h (λH h=>y.labs _ (V7 d) H h.tl.tl.tl) λa6 c6 U h=>⟨_,_,_,rfl,?_⟩
    have l1:=wC evs[j].p
    conv=>whnf
    refine dd h (i:=2) rfl rfl rfl (h.sl_rd 0 rfl) (by grind) λa7 c7 V h=>⟨_,_,_,rfl,?_⟩
    conv=>whnf
    rw[aJ (x:=(j:Int)+1)];have M:j<r.evs.length:=by omega
    have Y:r.evs[j]=evs[j].p:=by simp[D]
    have e:O++(r.evs.take (j+1)).flatMap evB=(O++(r.evs.take j).flatMap evB)++evB evs[j].p:=by
     grind [jr]
    rw[<-e]at h ⊢;exact⟨⟨j+1,by omega,d,rfl,h.o [2,3] 4⟩,by grind⟩
   .have m:r.evs.length<=j:=by grind
    rw[VM m]at h ⊢;exact k _ _ _ (h.o [0] 2)
  refine⟨λs=>?_,λs=>?_⟩
  .have s:=V3 s;refine⟨_,_,_,h.r 1,?_⟩;refine h.al λb6 _ h=>?_
   refine nq h 0 rfl λa3 c3 G h=>⟨_,_,_,rfl,?_⟩
   have l1:=dD [(r.evs.length:Int)];simp only[VA,VV]at l1
   conv=>whnf
   refine dd h (i:=2) rfl rfl rfl (h.sl_rd 0 rfl) (by grind) λa4 c4 C h=>⟨_,_,_,rfl,?_⟩
   refine v _ _ _ _ (by grind) (h.o [2,3] 4)
  .have s:=V2 s;refine v _ _ _ _ (by grind) h
end
def nr:Nat->Rd (List Int)
 | 0,s=>.ok ([],s)
 | n+1,s=>match nr n s with
  | .error e=>.error e
  | .ok (vs,s1)=>match longR s1 with
   | .error e=>.error e
   | .ok (v,s2)=>.ok (vs++[v],s2)
theorem I3:∀{n:Nat} {s:RS} {vs:List Int} {s':RS},nr n s=.ok (vs,s')->vs.length=n
 | 0,s,vs,s',h=>by cases h;rfl
 | n+1,s,vs,s',h=>by
  unfold nr at h
  split at h
  .cases h
  .rename_i ws s1 a
   split at h
   .cases h
   .cases h
    rw[V6,I3 a];rfl
theorem I4{s:RS}{e:Int}:∀{n j:Nat},nr j s=.error e->j<=n->nr n s=.error e
 | 0,j,h,hj=>by
  grind
 | n+1,j,h,hj=>by
  rcases W0 n j with a|a
  .grind
  .unfold nr;rw[I4 h a]
section
variable {F L:List aD}{H:aC}{K KP:KQ}{Q:aD}
theorem eqNilZZ:fH Tryz.prog .eql 20 .nilIface .nilIface true:=by
 intro a b w
 cases a <;> cases b <;> kernel_rfl
end
section
variable {F L:List aD}{H:aC}{K KP:KQ}{Q:aD}
theorem I5(s:RS):0<=(bY 64 s).1/\(bY 64 s).1<=64:=by
 grind [bY]
end
end Go.Proofs.YtnjaappmhadfdaaGreatDoor
