/-
  Lemmas for CoreParses: part 3 of what it rests on. Conditions: none.
-/
import Derived.Test.YtfmkddccnjidmaaGreatDoorK2
set_option linter.unusedVariables false
set_option linter.unusedSimpArgs false
set_option maxRecDepth 100000
open Go.IntKind (i64 u64 i8 u8 i32 u32 i16 u16)
namespace Go.Nm
structure Ky where
 win:Int
 ser:ByteArray
deriving DecidableEq
abbrev encK (k:Ky):List Value:=[I64 k.win,.string k.ser]
abbrev aggK (k:Ky):Value:=.agg ⟨encK k⟩
theorem qak (k:Ky):(encK k).length=2:=rfl
abbrev Ot:=Ky × Cl
abbrev encO (o:Ot):List Value:=[I64 o.1.win,.string o.1.ser,I64 o.2.n,I64 (whi o.2.sum),.int .u64 (wlo o.2.sum),I64 o.2.mn,I64 o.2.mx,I64 o.2.cer,I64 o.2.pos]++vecL .i64 o.2.h 65 0
theorem q32 (o:Ot):(encO o).length=74:=by simp [encO,q91]
theorem q7v (o:Ot):q07 (encO o)=true:=q8z rfl (qmo _ _ _ _)
theorem ba_beq (x y:ByteArray):(x.toList == y.toList)=decide (x=y):=by
 rw [z65,beq_iff_eq,z52,ByteArray.toList_eq,ByteArray.toList_eq]
 constructor
 ·intro h
  cases x with|mk a=>cases y with|mk b=>
   cases a; cases b
   simp only at h;rw [h]
 ·intro h; rw [h]
def wins (first last:Int):List Int:=(List.range (last - first+1).toNat).map fun i:Nat=>first+i
abbrev CM:=List (Ky × Cl)
def q20 (m:CM)(k:Ky):Cl:=(q08 k m).getD Cl.z
def q53 (m:CM)(ser:ByteArray)(ws:List Int):Int:=((ws.filter fun w=>(q08 ⟨w,ser⟩ m).isNone).length:Nat)
def qu3 (most:Int)(m:CM)(first last:Int)(ser:ByteArray):Bool:=
 if last < first then false else if most≤last - first then false else decide ((m.length:Int)+q53 m ser (wins first last)≤most)
def q9j (m:CM)(ser:ByteArray)(certain:Bool):List Int→CM × Int
 | []=>([],0)
 | w::r=>if (q98 (q20 m ⟨w,ser⟩) certain).2≠0 then ([],(q98 (q20 m ⟨w,ser⟩) certain).2)
  else ((⟨w,ser⟩,(q98 (q20 m ⟨w,ser⟩) certain).1)::(q9j m ser certain r).1,(q9j m ser certain r).2)
def qhw (l:CM)(m:CM):CM:=l.foldl (fun m p=>mset p.1 p.2 m) m
def qe4 (most:Int)(m:CM)(first last:Int)(ser:ByteArray):CM × Int:=
 if last < first then (m,10) else if qu3 most m first last ser=false then (m,20) else
 if (q9j m ser (decide (first=last)) (wins first last)).2≠0 then (m,(q9j m ser (decide (first=last)) (wins first last)).2)
 else (qhw (q9j m ser (decide (first=last)) (wins first last)).1 m,0)
def qbw (m:CM)(k:Ky)(v:Int):CM × Int:=
 match q08 k m with
 | none=>(m,19)
 | some c=>if (addC c v).2≠0 then (m,(addC c v).2) else (mset k (addC c v).1 m,0)
def setS (most:Int)(m:CM)(k:Ky)(c:Cl):CM × Int:=
 if (q08 k m).isSome then (m,18) else if q43 c=false then (m,10) else if most≤(m.length:Int) then (m,20) else (mset k c m,0)
structure ShOk (most:Int)(m:CM):Prop where
 m1:1≤most
 m2:most≤1024
 nd:(q03 m).Nodup
 wc:∀p∈m,WC p.2
 rt:∀p∈m,q43 p.2=true
 wn:∀p∈m,wf64 p.1.win
 len:(m.length:Int)≤most
theorem ShOk.cell {most:Int}{m:CM}(h:ShOk most m)(k:Ky):WC (q20 m k):=by
 unfold q20
 cases hm:q08 k m with
 | none=>exact WC.z
 | some c=>exact h.wc _ (q0b hm)
end Go.Nm
namespace Go.Proofs.YtfmkddccnjidmaaGreatDoor
open Go.Nm
theorem koK:qo7 Tryz.prog 55 aggK:=qqv Tryz.underlying55 (fun x y h=>by
  cases x; cases y; simp only [List.cons.injEq,Value.int.injEq,Value.string.injEq,and_true,true_and] at h; rw [h.1,h.2])
 (fun x y=>by
  have h:q9h Tryz.prog 55 (encK x) (encK y)=some (x.win == y.win && (x.ser == y.ser && true)):=by kernel_rfl
  rw [h];congr 1;rw [z65];simp only [Bool.and_true,z56,beq_iff_eq,z52,Go.MapKept.bytes_beq]
  cases x; cases y
  simp)
 (fun x=>by kernel_rfl) (fun x n=>by
  have hb:(x.ser == x.ser)=true:=(Go.MapKept.bytes_beq _ _).2 rfl;unfold Instr.sameBits; simp [Instr.sameBits,hb])
theorem mtC:MapT Tryz.prog 198 55 62 aggC Cl.z:=qjs Tryz.underlying198 (by kernel_rfl)
theorem sl86:SlT Tryz.prog 86 64 74 600:=qbf (by kernel_rfl)
abbrev shC (sb mb:Nat)(most:Int):Assn:=cellsA sb [I64 most,.map (some mb)] 200
abbrev mapC (mb:Nat)(m:CM):Assn:=mapA aggK aggC mb m
section
variable {sb mb:Nat} {most:Int} {m:CM} {F L:List Assn} {H:Heap} {K:Value→Heap→Prop}
theorem qms (h:SatL H F)(k1:most < 1∨1024 < most→K (.tuple #[.pointer none,I64 11]) H)
  (k2:∀sb mb H',ShOk most []→SatL H' (shC sb mb most::mapC mb []::F)→K (.tuple #[PA sb 0,I64 0]) H'):CF 55 #[I64 most] H K:=by
 refine qk1.call ⟨fun hc=>k1 (by simpa using hc),fun hc=>?_⟩
 simp only [z5g,z58] at hc;refine h.alm aggK aggC fun mb _ h=>?_
 refine h.al fun sb _ h=>?_
 exact k2 _ _ _ ⟨by omega,by omega,List.nodup_nil,by simp,by simp,by simp,by simp; omega⟩ h
theorem qz0 (h:SatL H F)(i j:Nat)(hA:nth i F=shC sb mb most)(hB:nth j F=mapC mb m):q1o Tryz.prog 63 #[PA sb 0] H (I64 (m.length:Nat)):=
 qk0.call ⟨_,h.rd i hA _,_,h.mp_len mtC j hB,rfl,rfl⟩
theorem u64sub {a b:Int}(ha:wf64 a)(hb:wf64 b)(h:b≤a):u64.wrap (u64.wrap a - u64.wrap b)=a - b:=by
 unfold wf64 at ha hb;rw [u64e,u64e,u64e];omega
theorem qwf {first last:Int}(h:first≤last):((wins first last).length:Int)=last - first+1:=by
 simp only [wins,z5q,List.length_range]; omega
theorem qwg {first last:Int}{j:Nat}(hj:j < (wins first last).length):(wins first last)[j]=first+(j:Nat):=by simp [wins]
theorem z2k (ok:ShOk most m){first last:Int}{ser:ByteArray}(hf:wf64 first)(hl:wf64 last)(h:SatL H (shC sb mb most::mapC mb m::F))
  (k:∀H',SatL H' (shC sb mb most::mapC mb m::F)→K (.bool (qu3 most m first last ser)) H') :
  CF 221 #[PA sb 0,I64 first,I64 last,.string ser] H K:=by
 refine q36.call ?_;unfold q36.code;unfold qu3 at k;have hm1:=ok.m1;have hm2:=ok.m2;have hlen:=ok.len;refine⟨fun hc=>?_,fun hc=>?_⟩
 ·rw [if_pos (z4z hc)] at k;exact k _ h
 have hle:=z54 hc;rw [if_neg hle] at k;have em:u64.wrap most=most:=by rw [u64e]; omega
 have es:=u64sub hl hf (by omega);rw [es];refine⟨_,h.rd 0 rfl _,?_⟩;rw [em];refine⟨fun hc2=>?_,fun hc2=>?_⟩
 ·rw [if_pos (z4z hc2)] at k;exact k _ h
 have hap:=z54 hc2;rw [if_neg hap] at k;have hwl:=qwf (first:=first) (last:=last) (by omega);refine⟨_,h.rd 0 rfl _,_,h.mp_len mtC 1 rfl,?_⟩;refine⟨fun n i H'=>∃j:Nat,i=j∧j≤(wins first last).length∧n=(m.length:Int)+q53 m ser ((wins first last).take j)∧SatL H' (shC sb mb most::mapC mb m::F),fun _ i _=>(wins first last).length - i.toNat,
  ⟨0,rfl,z5s _,by simp [q53],h⟩,?_⟩
 rintro n i H1 ⟨j,rfl,hj,rfl,h⟩;unfold q36.l2;rw [es];have e1:i64.wrap (i64.wrap (last - first)+1)=((wins first last).length:Int):=by rw [w64 (x:=last - first) (by omega) (by omega),w64 (by omega) (by omega),hwl]
 rw [e1];refine⟨fun hc3=>?_,fun hc3=>?_⟩
 ·have hlt:j < (wins first last).length:=by have:=z4z hc3; omega
  unfold wf64 at hf hl;have ew:i64.wrap (first+(j:Nat))=(wins first last)[j]:=by rw [qwg hlt,w64 (by omega) (by omega)]
  have hmis:∀q,q53 m ser ((wins first last).take q)≤q:=fun q=>by
   unfold q53;have h1:=List.length_filter_le (fun w=>(q08 (⟨w,ser⟩:Ky) m).isNone) ((wins first last).take q)
   have h2:((wins first last).take q).length≤q:=by rw [z5n]; omega
   omega
  have hmj:=hmis j;have hm0:0≤q53 m ser ((wins first last).take j):=by unfold q53; omega
  rw [ew];refine⟨_,h.rd 0 rfl _,_,_,_,_,_,_,_,_,_,h.mp_get mtC koK 1 rfl (x:=⟨(wins first last)[j],ser⟩),?_⟩;refine h.al fun b _ h=>?_
  refine h.sta 0 rfl (by rw [q2q]; exact (q2q Cl.z).symm) fun H2 h=>?_
  have e3:i64.wrap ((j:Int)+1)=((j+1:Nat):Int):=by rw [w64 (by omega) (by omega)]; omega
  have emis:q53 m ser ((wins first last).take (j+1))=q53 m ser ((wins first last).take j)+(if (q08 (⟨(wins first last)[j],ser⟩:Ky) m).isNone then 1 else 0):=by
   unfold q53;rw [z6d hlt,List.filter_append,z51]
   by_cases hn:(q08 (⟨(wins first last)[j],ser⟩:Ky) m).isNone=true
   ·simp [hn]
   ·simp [hn]
  have close:∀n2:Int,n2=(m.length:Int)+q53 m ser ((wins first last).take (j+1))→∀H3,SatL H3 (shC sb mb most::mapC mb m::F)→q36.r1 (fun n i H'=>∃j:Nat,i=j∧j≤(wins first last).length∧n=(m.length:Int)+q53 m ser ((wins first last).take j)∧SatL H' (shC sb mb most::mapC mb m::F)) (fun _ i _=>(wins first last).length - i.toNat) ((m.length:Int)+q53 m ser ((wins first last).take j)) (j:Int) H1 n2 H3:=by
   intro n2 e H3 h;unfold q36.r1;rw [e3];exact⟨⟨j+1,rfl,hlt,e,h⟩,by simp only [z5a]; omega⟩
  refine fun Jn hJ=>⟨fun ht=>hJ _ _ (close _ ?_ _ h.tl),fun ht=>hJ _ _ (close _ ?_ _ h.tl)⟩
  ·have:(q08 (⟨(wins first last)[j],ser⟩:Ky) m).isNone=true:=by simpa using ht
   rw [emis,this,w64 (by omega) (by omega)];simp only [if_true]; omega
  ·have:(q08 (⟨(wins first last)[j],ser⟩:Ky) m).isNone=false:=by simpa using ht
   rw [emis,this];simp
 ·have hge:j=(wins first last).length:=by have:=z54 hc3; omega
  subst hge;rw [z5o (z5c _)];refine⟨_,h.rd 0 rfl _,?_⟩;exact k _ h
theorem qr8 (ok:ShOk most m){key:Ky}{v:Int}(hv:wf64 v)(h:SatL H (shC sb mb most::mapC mb m::F))
  (k:∀H',SatL H' (shC sb mb most::mapC mb (qbw m key v).1::F)→K (I64 (qbw m key v).2) H') :
  CF 194 #[PA sb 0,aggK key,I64 v] H K:=by
 refine qaa.call ?_;unfold qaa.code;unfold qbw at k;refine h.al fun b _ h=>?_
 have hg:=h.mp_get mtC koK 2 rfl (x:=key);refine⟨_,h.rd 1 rfl _,_,_,h.rda 0 rfl,_,_,_,_,_,_,_,_,_,hg,?_⟩;refine h.al fun b1 _ h=>⟨h.mp_get mtC koK 3 rfl (x:=key),h.rda 1 rfl,h.rd 2 rfl _,?_⟩
 refine h.sta 0 rfl (by rw [q2q]; exact (q2q Cl.z).symm) fun H2 h=>?_
 cases hm:q08 key m with
 | none=>
  rw [hm] at k;exact⟨fun _=>k _ h.tl.tl,fun hf=>by simp at hf⟩
 | some c=>
  rw [hm] at k h;refine⟨fun hf=>by simp at hf,fun _=>?_⟩
  have wc:WC c:=ok.wc _ (q0b hm);have h:SatL H2 (cellsA b1 (encC c) 62::cellsA b (encK key) 55::shC sb mb most::mapC mb m::F):=h;refine⟨_,_,_,_,_,_,_,_,h.rda 0 rfl,?_⟩;refine z2j wc hv h fun H3 h=>⟨_,_,_,_,_,_,_,_,_,rfl,?_⟩
  refine h.sta 0 rfl (by rw [q2q]; exact (q2q c).symm) fun H4 h=>?_
  dsimp only at k;refine⟨fun he=>?_,fun he=>?_⟩
  ·rw [if_pos (by simpa using he)] at k;exact k _ h.tl.tl
  ·rw [if_neg (by simpa using he)] at k;refine⟨_,h.rd 2 rfl _,_,_,h.rda 1 rfl,_,_,_,_,_,_,_,_,h.rda 0 rfl,?_⟩;refine h.mp_update (x:=key) (v:=(addC c v).1) mtC koK 3 rfl fun H5 h=>?_
   exact k _ h.tl.tl
theorem qz1 (ok:ShOk most m){key:Ky}{c:Cl}(wc:WC c)(h:SatL H (shC sb mb most::mapC mb m::F))
  (k:∀H',SatL H' (shC sb mb most::mapC mb (setS most m key c).1::F)→K (I64 (setS most m key c).2) H') :
  CF 48 #[PA sb 0,aggK key,aggC c] H K:=by
 refine qfg.call ?_;unfold qfg.code;unfold setS at k;refine h.al fun b _ h=>?_
 refine h.al fun b1 _ h=>?_
 have hg:=h.mp_get mtC koK 3 rfl (x:=key);refine⟨_,h.rd 2 rfl _,_,_,h.rda 1 rfl,_,_,_,_,_,_,_,_,_,hg,?_⟩;refine h.al fun b2 _ h=>⟨h.mp_get mtC koK 4 rfl (x:=key),h.rda 2 rfl,h.rd 3 rfl _,?_⟩
 refine h.sta 0 rfl (by rw [q2q]; exact (q2q Cl.z).symm) fun H2 h=>⟨fun ht=>?_,fun ht=>?_⟩
 ·rw [if_pos ht] at k;exact k _ h.tl.tl.tl
 rw [if_neg (by rw [ht]; decide)] at k;have h:SatL H2 (cellsA b2 _ 62::cellsA b1 (encC c) 62::cellsA b (encK key) 55::shC sb mb most::mapC mb m::F):=h;refine⟨_,_,_,_,_,_,_,_,h.rda 1 rfl,?_⟩;refine q8e wc h fun H3 h=>⟨_,rfl,fun hr=>?_,fun hr=>?_⟩
 ·rw [if_pos (by simpa using hr)] at k;exact k _ h.tl.tl.tl
 rw [if_neg (by simpa using hr)] at k;refine⟨_,h.rd 3 rfl _,_,h.mp_len mtC 4 rfl,_,h.rd 3 rfl _,fun hf=>?_,fun hf=>?_⟩
 ·rw [if_pos (z4z hf)] at k;exact k _ h.tl.tl.tl
 rw [if_neg (z54 hf)] at k;refine⟨_,h.rd 3 rfl _,_,_,h.rda 2 rfl,_,_,_,_,_,_,_,_,h.rda 1 rfl,?_⟩;refine h.mp_update (x:=key) (v:=c) mtC koK 4 rfl fun H5 h=>?_
 exact k _ h.tl.tl.tl
end
end Go.Proofs.YtfmkddccnjidmaaGreatDoor
namespace Go.Nm
theorem qr9 (l r:CM)(m:CM):qhw (l++r) m=qhw r (qhw l m):=by unfold qhw; rw [z7k]
end Go.Nm
namespace Go.Proofs.YtfmkddccnjidmaaGreatDoor
open Go.Nm
section
variable {sb mb:Nat} {most:Int} {m:CM} {F L:List Assn} {H:Heap} {K:Value→Heap→Prop}
set_option maxHeartbeats 1000000 in
theorem z2l (ok:ShOk most m){first last:Int}{ser:ByteArray}(hf:wf64 first)(hl:wf64 last)(h:SatL H (shC sb mb most::mapC mb m::F))
  (k:∀H',SatL H' (shC sb mb most::mapC mb (qe4 most m first last ser).1::F)→K (I64 (qe4 most m first last ser).2) H') :
  CF 192 #[PA sb 0,I64 first,I64 last,.string ser] H K:=by
 refine q24.call ?_;unfold q24.code;unfold qe4 at k;have hm2:=ok.m2;refine⟨fun hc=>?_,fun hc=>?_⟩
 ·rw [if_pos (z4z hc)] at k;exact k _ h
 have hle:=z54 hc;rw [if_neg hle] at k;refine z2k ok hf hl h fun H1 h=>⟨_,rfl,fun hr=>?_,fun hr=>?_⟩
 ·rw [if_pos (by simpa using hr)] at k;exact k _ h
 have hroom:qu3 most m first last ser=true:=by simpa using hr
 rw [if_neg (by rw [hroom]; decide)] at k;have hap:last - first < most:=by
  unfold qu3 at hroom;rw [if_neg hle] at hroom
  by_cases h2:most≤last - first
  ·rw [if_pos h2] at hroom; cases hroom
  ·omega
 have hwl:=qwf (first:=first) (last:=last) (by omega);have hw0:=hf;unfold wf64 at hw0;refine⟨fun na nn nc i H'=>∃(j:Nat) (done:CM),i=j∧j≤(wins first last).length∧nn=done.length∧done.length=j∧
   q9j m ser (decide (first=last)) (wins first last)=(done++(q9j m ser (decide (first=last)) ((wins first last).drop j)).1,(q9j m ser (decide (first=last)) ((wins first last).drop j)).2)∧
   SatL H' (slA 64 74 na done.length nc (flat encO done)::shC sb mb most::mapC mb m::F),
  fun _ _ _ i _=>(wins first last).length - i.toNat,⟨0,[],rfl,z5s _,rfl,rfl,rfl,h.sl_nil 64 74⟩,?_⟩
 rintro na nn nc i H2 ⟨j,done,rfl,hj,rfl,hdj,e,h⟩;unfold q24.l3;have e1:i64.wrap (i64.wrap (last - first)+1)=((wins first last).length:Int):=by rw [w64 (x:=last - first) (by omega) (by omega),w64 (by omega) (by omega),hwl]
 rw [e1];refine⟨fun hc3=>?_,fun hc3=>?_⟩
 ·have hlt:j < (wins first last).length:=by have:=z4z hc3; omega
  unfold wf64 at hl;have ew:i64.wrap (first+(j:Nat))=(wins first last)[j]:=by rw [qwg hlt,w64 (by omega) (by omega)]
  rw [ew];rw [z6h hlt,q9j] at e;have wc:=ok.cell ⟨(wins first last)[j],ser⟩;refine h.al fun b _ h=>?_
  refine h.sta 0 rfl rfl fun H3 h=>fun Jn hJ=>?_
  refine⟨_,h.rd 2 rfl _,_,_,h.rda 0 rfl,_,_,_,_,_,_,_,_,h.mp_get1 mtC koK 3 rfl (x:=⟨(wins first last)[j],ser⟩),?_⟩;have fin:∀cb H4,SatL H4 (cellsA cb (encC (q98 (q20 m ⟨(wins first last)[j],ser⟩) (decide (first=last))).1) 62::cellsA b (encK ⟨(wins first last)[j],ser⟩) 55::slA 64 74 na done.length nc (flat encO done)::shC sb mb most::mapC mb m::F)→
    Jn cb 0 (q98 (q20 m ⟨(wins first last)[j],ser⟩) (decide (first=last))).2 H4:=by
   intro cb H4 h;refine hJ _ _ _ _ ?_;unfold q24.r1;refine⟨fun he=>?_,fun he=>?_⟩
   ·have he:(q98 (q20 m ⟨(wins first last)[j],ser⟩) (decide (first=last))).2≠0:=by simpa using he
    rw [if_pos he] at e;rw [e,if_pos he] at k;exact k _ h.tl.tl.tl
   ·have he:¬(q98 (q20 m ⟨(wins first last)[j],ser⟩) (decide (first=last))).2≠0:=by simpa using he
    rw [if_neg he] at e;refine⟨_,_,h.rda 1 rfl,_,_,_,_,_,_,_,_,h.rda 0 rfl,?_⟩;rintro b1 _ rfl rfl;refine h.append1 (ws:=encO (⟨(wins first last)[j],ser⟩,(q98 (q20 m ⟨(wins first last)[j],ser⟩) (decide (first=last))).1)) sl86 2 rfl (q32 _) (q7v _) (by omega) (by omega) fun a' c' H' h=>⟨_,_,_,rfl,?_⟩
    rw [show i64.wrap ((j:Int)+1)=((j+1:Nat):Int) by rw [w64 (by omega) (by omega)]; omega];have h:=h.tl.tl;refine⟨⟨j+1,done++[(⟨(wins first last)[j],ser⟩,(q98 (q20 m ⟨(wins first last)[j],ser⟩) (decide (first=last))).1)],rfl,hlt,by simp,by simp [hdj],?_,?_⟩,by simp only [z5a]; omega⟩
    ·rw [e,z5d]; rfl
    ·rw [q0i,q8y,z51];exact h
  refine⟨?_,?_⟩
  ·refine qmr wc h fun H4 h=>⟨_,_,_,_,_,_,_,_,_,rfl,?_⟩
   refine h.al fun b2 _ h=>?_
   refine h.sta 0 rfl (by rw [q2q]; exact (q2q Cl.z).symm) fun H5 h=>fin _ _ h
  ·refine h.al fun b2 _ h=>⟨h.mp_get1 mtC koK 4 rfl (x:=⟨(wins first last)[j],ser⟩),h.rda 1 rfl,h.rd 3 rfl _,?_⟩
   refine qmr wc h fun H4 h=>⟨_,_,_,_,_,_,_,_,_,rfl,?_⟩
   refine h.sta 0 rfl (by rw [q2q]; exact (q2q Cl.z).symm) fun H5 h=>fin _ _ h
 ·have hge:j=(wins first last).length:=by have:=z54 hc3; omega
  subst hge;rw [z6z,q9j,z61] at e;rw [e,if_neg (fun hh=>hh rfl)] at k
  refine⟨fun i H'=>∃q:Nat,i=q∧q≤done.length∧SatL H' (slA 64 74 na done.length nc (flat encO done)::shC sb mb most::mapC mb (qhw (done.take q) m)::F),fun i _=>done.length - i.toNat,⟨0,rfl,z5s _,h⟩,?_⟩
  rintro i H3 ⟨q,rfl,hq,h⟩;unfold q24.l2;refine⟨fun hc4=>?_,fun hc4=>?_⟩
  ·have hlt:q < done.length:=by have:=z4z hc4; omega
   have hr:=h.sl_rd 0 rfl;have hels:=hr.els q32 hlt;refine⟨⟨by omega,by omega⟩,_,_,hr.some q32 (by omega) hlt,_,_,_,_,_,_,_,_,_,_,hels,?_⟩;refine h.al fun b5 _ h=>?_
   refine h.sta 0 rfl (by rw [q32]; exact (q32 (⟨0,⟨#[]⟩⟩,Cl.z)).symm) fun H4 h=>?_
   have h:SatL H4 (cellsA b5 (encK done[q].1++encC done[q].2) 64::slA 64 74 na done.length nc (flat encO done)::shC sb mb most::mapC mb (qhw (done.take q) m)::F):=h;refine⟨_,h.rd 2 rfl _,_,_,h.rdv (l:=[]) 0 rfl rfl,_,_,_,_,_,_,_,_,h.rdt 0 rfl rfl,?_⟩;refine h.mp_update (x:=done[q].1) (v:=done[q].2) mtC koK 3 rfl fun H5 h=>?_
   rw [show i64.wrap ((q:Int)+1)=((q+1:Nat):Int) by rw [w64 (by omega) (by omega)]; omega];refine⟨⟨q+1,rfl,hlt,?_⟩,by simp only [z5a]; omega⟩;rw [z6d hlt,qr9];exact h.tl
  ·have:q=done.length:=by have:=z54 hc4; omega
   subst this;rw [z5o (z5c _)] at h;exact k _ h.tl
end
open Go.Nm Go.Shelf Go.RowKit Go.Lib Go.Sort
def qk9 (a b:Int):Int:=if a < b then -1 else if b < a then 1 else 0
def qfk (x y:ByteArray):Int:=if Op.bytesLess x.toList y.toList then -1 else if !(Op.bytesLess x.toList y.toList || x.toList == y.toList) then 1 else 0
theorem cmp182 (a b:Int)(W:World):Calls Tryz.prog 182 #[.int .i64 a,.int .i64 b] W fun e w'=>e=.returned (.int .i64 (qk9 a b))∧w'=W:=by
 obtain⟨r,hr⟩:∃r,r=qk9 a b:=⟨_,rfl⟩;rw [← hr];unfold qk9 at hr
 go_enter Tryz.func182,Tryz.ntmps182
 go_wp2
 ·rename_i h;have e:r=-1:=by rw [hr,if_pos h]
  go_ret
  exact⟨by clear hr; subst e; rfl,rfl⟩
 ·rename_i h1 _ _ h2;have e:r=1:=by rw [hr,if_neg (by omega),if_pos h2]
  go_ret
  exact⟨by clear hr; subst e; rfl,rfl⟩
 ·rename_i h1 _ _ h2;have e:r=0:=by rw [hr,if_neg (by omega),if_neg (by omega)]
  go_ret
  exact⟨by clear hr; subst e; rfl,rfl⟩
theorem cmp183 (x y:ByteArray)(W:World):Calls Tryz.prog 183 #[.string x,.string y] W fun e w'=>e=.returned (.int .i64 (qfk x y))∧w'=W:=by
 obtain⟨r,hr⟩:∃r,r=qfk x y:=⟨_,rfl⟩;rw [← hr];unfold qfk at hr
 go_enter Tryz.func183,Tryz.ntmps183
 go_wp2
 ·rename_i h;have e:r=-1:=by rw [hr,if_pos h]
  go_ret
  exact⟨by clear hr; subst e; rfl,rfl⟩
 ·have h1:=‹Op.bytesLess x.toList y.toList=false›;have h2:=‹(!x.toList == y.toList)=true›;have e:r=1:=by rw [hr,h1]; simp only [Bool.false_or,h2,if_true,z7a,if_false]
  go_ret
  exact⟨by clear hr; subst e; rfl,rfl⟩
 ·have h1:=‹Op.bytesLess x.toList y.toList=false›;have h2:=‹(!x.toList == y.toList)=false›;have e:r=0:=by rw [hr,h1]; simp only [Bool.false_or,h2,if_true,z7a,if_false]
  go_ret
  exact⟨by clear hr; subst e; rfl,rfl⟩
def qdc (x y:Nm.Ky):Int:=if qk9 x.win y.win≠0 then qk9 x.win y.win else qfk x.ser y.ser
set_option maxHeartbeats 1000000 in
theorem cmp131 (x y:Nm.Ky)(W:World):Calls Tryz.prog 131 #[.agg #[.int .i64 x.win,.string x.ser],.agg #[.int .i64 y.win,.string y.ser]] W fun e w'=>e=.returned (.int .i64 (qdc x y))∧∃q os',w'=grow (W.drewN q) os':=by
 obtain⟨r,hr⟩:∃r,r=qdc x y:=⟨_,rfl⟩;rw [← hr];unfold qdc at hr;have h1:=fun W'=>cmp182 x.win y.win W'
 have h2:=fun W'=>cmp183 x.ser y.ser W'
 generalize qk9 x.win y.win=ri at *;generalize qfk x.ser y.ser=rs at *
 go_enter Tryz.func131,Tryz.ntmps131
 go_wp2_with (first|(go_at_call 182; refine (h1 _).mono ?_; rintro e w' ⟨rfl,rfl⟩)|(go_at_call 183; refine (h2 _).mono ?_; rintro e w' ⟨rfl,rfl⟩))
 ·rename_i h;have e:r=ri:=by rw [hr,if_pos (by simpa using h)]
  go_ret
  exact⟨by clear hr; subst e; rfl,0,_,by rw [alloc_eq_grow,alloc_eq_grow,grow_grow]; rfl⟩
 ·rename_i h;have e:r=rs:=by rw [hr,if_neg (by simpa using h)]
  go_ret
  exact⟨by clear hr; subst e; rfl,0,_,by rw [alloc_eq_grow,alloc_eq_grow,grow_grow]; rfl⟩
theorem ltKy (x y:Nm.Ky):ltOf qdc x y=(decide (x.win < y.win) || (decide (x.win=y.win) && Op.bytesLess x.ser.toList y.ser.toList)):=by
 unfold ltOf qdc qk9 qfk
 by_cases h1:x.win < y.win
 ·simp [h1]
 ·by_cases h2:y.win < x.win
  ·have:¬x.win=y.win:=by omega
   simp [h1,h2,this]
  ·have:x.win=y.win:=by omega
   rw [if_neg h1,if_neg h2];simp only [ne_eq,not_true_eq_false,if_false]
   by_cases h3:Op.bytesLess x.ser.toList y.ser.toList=true
   ·simp [h1,this,h3]
   ·by_cases h4:(!(Op.bytesLess x.ser.toList y.ser.toList || x.ser.toList == y.ser.toList))=true
    ·rw [if_neg h3,if_pos h4]; simp [h1,h3]
    ·rw [if_neg h3,if_neg h4]; simp [h1,h3]
theorem qz2 (x y:Nm.Ky):ltOf qdc x y=true↔x.win < y.win∨x.win=y.win∧x.ser.toList < y.ser.toList:=by
 rw [ltKy,bytesLess_eq]; simp
theorem swoKy:SWO (ltOf qdc) where
 irrefl x:=by
  rw [z7q];intro h
  rcases (qz2 _ _).1 h with h|h
  ·omega
  ·exact List.lt_irrefl _ h.2
 trans x y z h1 h2:=by
  rw [qz2] at *
  rcases h1 with h1|h1 <;> rcases h2 with h2|h2
  ·exact .inl (by omega)
  ·exact .inl (by omega)
  ·exact .inl (by omega)
  ·exact .inr ⟨by omega,List.lt_trans h1.2 h2.2⟩
 ntrans x y z h1 h2:=by
  rw [z7q] at *;intro h3;rw [Ne,qz2,not_or] at h1 h2;rw [qz2] at h3;have a1:¬(x.win=y.win∧x.ser.toList < y.ser.toList):=h1.2;have a2:¬(y.win=z.win∧y.ser.toList < z.ser.toList):=h2.2
  rcases h3 with h3|h3
  ·omega
  ·have e1:x.win=y.win:=by omega
   have e2:y.win=z.win:=by omega
   have b1:¬x.ser.toList < y.ser.toList:=fun h=>a1 ⟨e1,h⟩
   have b2:¬y.ser.toList < z.ser.toList:=fun h=>a2 ⟨e2,h⟩
   exact List.not_lt.2 (List.le_trans (List.not_lt.1 b2) (List.not_lt.1 b1)) h3.2
theorem totKy (x y:Nm.Ky)(h1:(ltOf qdc) x y=false)(h2:(ltOf qdc) y x=false):x=y:=by
 rw [z7q,Ne,qz2,not_or] at h1 h2;have e:x.win=y.win:=by omega
 have b1:¬x.ser.toList < y.ser.toList:=fun h=>h1.2 ⟨e,h⟩
 have b2:¬y.ser.toList < x.ser.toList:=fun h=>h2.2 ⟨e.symm,h⟩
 have e2:x.ser.toList=y.ser.toList:=List.le_antisymm (List.not_lt.1 b2) (List.not_lt.1 b1);have:=ba_beq x.ser y.ser;rw [e2] at this;have h3:x.ser=y.ser:=by simpa using this
 cases x; cases y
 simp only at e h3;rw [e,h3]
end Go.Proofs.YtfmkddccnjidmaaGreatDoor
namespace Go.Nm
instance:Inhabited Ky:=⟨⟨0,⟨#[]⟩⟩⟩
theorem qow (pre cs post ys:List Value)(hl:ys.length=cs.length) :
  Sort.putCells id pre.length ys.toArray (pre++cs++post).toArray=(pre++ys++post).toArray:=by
 apply Array.ext';apply List.ext_getElem?;intro j;simp only [Sort.putCells,List.size_toArray];rw [Array.getElem?_toList,Array.getElem?_mapIdx,List.getElem?_toArray];rw [z5d,z5d]
 by_cases h1:j < pre.length
 ·have e1:(pre++(cs++post))[j]?=some pre[j]:=by rw [List.getElem?_append_left h1,List.getElem?_eq_getElem h1]
  have e2:(pre++(ys++post))[j]?=some pre[j]:=by rw [List.getElem?_append_left h1,List.getElem?_eq_getElem h1]
  rw [e1,e2];simp only [z62];rw [if_neg (by omega)]
 ·have e1:(pre++(cs++post))[j]?=(cs++post)[j - pre.length]?:=List.getElem?_append_right (by omega);have e2:(pre++(ys++post))[j]?=(ys++post)[j - pre.length]?:=List.getElem?_append_right (by omega);rw [e1,e2]
  by_cases h2:j < pre.length+ys.length
  ·have h3:j - pre.length < cs.length:=by omega
   have h4:j - pre.length < ys.length:=by omega
   have e3:(cs++post)[j - pre.length]?=some cs[j - pre.length]:=by rw [List.getElem?_append_left h3,List.getElem?_eq_getElem h3]
   have e4:(ys++post)[j - pre.length]?=some ys[j - pre.length]:=by rw [List.getElem?_append_left h4,List.getElem?_eq_getElem h4]
   rw [e3,e4];simp only [z62];rw [if_pos ⟨by omega,h2⟩];simp [h4]
  ·have e3:(cs++post)[j - pre.length]?=post[j - pre.length - cs.length]?:=List.getElem?_append_right (by omega);have e4:(ys++post)[j - pre.length]?=post[j - pre.length - cs.length]?:=by rw [List.getElem?_append_right (by omega),hl]
   rw [e3,e4]
   cases hp:post[j - pre.length - cs.length]? with
   | none=>rfl
   | some v=>
    simp only [z62];rw [if_neg (by omega)]
theorem qmt {α:Type}[Inhabited α](enc:α→List Value)(k:Nat)(hk:∀x,(enc x).length=k)(xs:List α):Go.Sort.flatK enc k xs.toArray=(flat enc xs).toArray:=by
 apply Array.ext';apply z6n
 ·simp [q0m hk]
 ·intro t h1 h2;have h1':t < xs.length*k:=by simpa using h1
  have k0:0 < k:=by
   rcases z7x k with h|h
   ·subst h; simp at h1'
   ·exact h
  have hq:t / k < xs.length:=by rw [z78 k0]; exact h1'
  have hm:t % k < k:=z6j _ k0;have hg:=qeu hk hq (t % k) hm;have et:t / k*k+t % k=t:=z7i t k;rw [et,q1c,q1c] at hg;have hl:t % k < (enc xs[t / k]).length:=by rw [hk]; exact hm
  rw [List.getElem?_eq_getElem (by simpa using h2),List.getElem?_eq_getElem hl] at hg;have hg:=Option.some.inj hg;simp only [Array.getElem_toList];rw [hg];simp [Go.Sort.flatK,hq,hl]
def leKy (x y:Ky):Bool:=!(decide (y.win < x.win) || (decide (y.win=x.win) && Op.bytesLess y.ser.toList x.ser.toList))
def q2b (ks:List Ky):List Ky:=ks.mergeSort leKy
theorem q1f (ks:List Ky):(q2b ks).Perm ks:=List.mergeSort_perm _ _
theorem qgs (ks:List Ky):(q2b ks).length=ks.length:=(q1f ks).length_eq
end Go.Nm
namespace Go.Proofs.YtfmkddccnjidmaaGreatDoor
open Go.Nm Go.RowKit Go.Sort
section
variable {L:List Assn} {H:Heap} {K:Value→Heap→Prop}
theorem z2m:∀args w,(callFunc 131 args).run Tryz.prog w=.ok (.enter 131 args) w:=fun args w=>by kernel_rfl
theorem sortK_eq (ks:List Ky):ks.mergeSort (fun x y=>!(ltOf qdc) y x)=q2b ks:=by
 unfold q2b;congr 1;funext x y;rw [ltKy]; rfl
theorem qz3 {a:Option Addr}{c:Nat}{xs:List Ky}(h:SatL H L)(i:Nat)(hA:nth i L=slA 55 2 a xs.length c (flat encK xs))(hsz:xs.length < 4611686018427387904)
  (k:∀H',SatL H' (put i (slA 55 2 a xs.length c (flat encK (q2b xs))) L)→K (.tuple #[]) H') :
  CF 180 #[.slice a xs.length c,.func (.func 131) #[] #[]] H K:=by
 intro w hw;subst hw;have h2:=h.foc i;rw [hA] at h2;obtain⟨hl,⟨rfl,hn,rfl,h3⟩|⟨b,pre,post,e',fr,rfl,hnc,hcap,hfr,h3⟩⟩:=q3r h2
 ·have hx:xs=[]:=z7t.1 hn;subst hx;refine q0z (AnyF.slices_SortFunc_none Tryz.sortKA none 0 _ w) ?_;rintro e w' ⟨rfl,rfl⟩;refine⟨_,rfl,⟨rfl,rfl,rfl⟩,k _ (SatL.back ?_)⟩;rw [show q2b []=[] from by simp [q2b]];exact qjk h3
 ·have hb:=Sat.get h3;have hlt:b < w.heap.size:=Sat.lt h3;have hfl:(flat encK xs).length=xs.length*2:=q0m qak xs;have hsp:=List.Perm.length_eq (q1f xs);have hfl2:(flat encK (q2b xs)).length=xs.length*2:=by rw [q0m qak,hsp]
  have hnc2:xs.length*2≤c*2:=z6c _ hnc;have hH:HoldsK encK 2 w b pre.length xs.toArray:=by
   unfold HoldsK;rw [qmt encK 2 qak];intro j hj;have hj':j < (flat encK xs).length:=by simpa using hj
   refine⟨?_,?_⟩
   case refine_2=>
    have:=hfr (pre.length+j) (by omega) (by omega);simp only [World.frozen?,hb,z6k,z58];omega
   simp only [World.cell?,hb,Option.isSome_none,z7a,if_false,List.getElem?_toArray];rw [z5d,List.getElem?_append_right (by omega),z7m,List.getElem?_append_left hj',List.getElem?_eq_getElem hj'];simp [hj']
  have hcmp:CmpLays Tryz.prog 131 #[] encK 2 qdc b pre.length xs.toArray.size w:=fun m os dk hs x y=>cmp131 x y _
  refine q0z (AnyQ.slices_SortFunc_total Tryz.sortKA 2 Tryz.isAgg55 Tryz.sizeOf55 encK qak (fun x v hv=>by simp [encK] at hv; rcases hv with rfl|rfl <;> rfl) qdc swoKy 131 #[] b pre.length c xs.toArray w z2m hcmp hH hlt (by simpa using hsz) totKy) ?_
  rintro e w' ⟨rfl,n,os,rfl⟩;refine⟨_,rfl,⟨rfl,rfl,rfl⟩,k _ (SatL.back ?_)⟩;have es:(xs.toArray.toList.mergeSort fun x y=>!(ltOf qdc) y x).toArray=(q2b xs).toArray:=by rw [← sortK_eq]
  rw [es];have hup:Sat (w.heap.modify b (onCells (putCells id pre.length (flat encK (q2b xs)).toArray))) (pt b (.cells (pre++flat encK (q2b xs)++post).toArray e' fr)*star (del i L)):=by
   refine Sat.upd h3 ?_ fun j hj=>?_
   ·rw [Array.getElem?_modify,if_pos rfl,hb];simp only [z62,onCells];rw [qow _ _ _ _ (by rw [hfl,hfl2])]
   ·rw [Array.getElem?_modify,if_neg (Ne.symm hj)]
  have hg:Sat (w.heap.modify b (onCells (putCells id pre.length (flat encK (q2b xs)).toArray))++os.toList.toArray) (pt b (.cells (pre++flat encK (q2b xs)++post).toArray e' fr)*star (del i L)):=
   hup.grow fun j hj=>by rw [Array.getElem?_append_left hj]
  have hfin:=hg.frame (B:=slA 55 2 (some ⟨b,pre.length,none⟩) xs.length c (flat encK (q2b xs))) fun p hp=>⟨hfl2,.inr ⟨b,pre,post,e',fr,rfl,hnc,hcap,fun _=>hfr,hp⟩⟩
  simpa [sortWorldK,grow,putRowK,putRow,mapBlock,Sort.ahead,qmt encK 2 qak] using hfin
theorem qu4 {r:Nat}{m:CM}(h:SatL H L)(i:Nat)(hA:nth i L=mapA aggK aggC r m)
  (k:∀r' H',SatL H' (mapA aggK aggC r' m::L)→K (.map (some r')) H') :
  CF 128 #[.map (some r)] H K:=by
 intro w hw;subst hw;have h3:=h.foc i;rw [hA] at h3;obtain⟨hn,es,clock,h4,h5,h6,h7⟩:=q3x h3;have hc:=AnyW.maps_Clone Tryz.cloneA4 r es clock w h7.get;refine q0z hc ?_;rintro e w' ⟨rfl,rfl⟩;refine⟨_,rfl,⟨rfl,rfl,rfl⟩,k _ _ ?_⟩;exact (h.push (.map es clock)).mono fun p hp=>⟨hn,es,clock,h4,h5,h6,hp⟩
end
end Go.Proofs.YtfmkddccnjidmaaGreatDoor
namespace Go.Nm
theorem qim (x y:Ky):leKy x y=true↔x.win < y.win∨x.win=y.win∧x.ser.toList≤y.ser.toList:=by
 unfold leKy;rw [Go.Proofs.bytesLess_eq];simp only [z5k,z5g,z58,z6k,List.not_lt]
 constructor
 ·rintro⟨h1,h2⟩
  by_cases h:x.win < y.win
  ·exact .inl h
  ·rcases h2 with h2|h2
   ·omega
   ·exact .inr ⟨by omega,h2⟩
 ·rintro (h|h)
  ·exact⟨by omega,.inl (by omega)⟩
  ·exact⟨by omega,.inr h.2⟩
theorem qz4 {x y z:Ky}(h1:leKy x y=true)(h2:leKy y z=true):leKy x z=true:=by
 rw [qim] at *
 rcases h1 with h1|h1 <;> rcases h2 with h2|h2
 ·exact .inl (by omega)
 ·exact .inl (by omega)
 ·exact .inl (by omega)
 ·exact .inr ⟨by omega,List.le_trans h1.2 h2.2⟩
theorem qz5 (x y:Ky):(leKy x y || leKy y x)=true:=by
 rw [z5h,qim,qim]
 by_cases h1:x.win < y.win
 ·exact .inl (.inl h1)
 ·by_cases h2:y.win < x.win
  ·exact .inr (.inl h2)
  ·rcases List.le_total x.ser.toList y.ser.toList with h|h
   ·exact .inl (.inr ⟨by omega,h⟩)
   ·exact .inr (.inr ⟨by omega,h⟩)
theorem ba_ext {x y:ByteArray}(h:x.toList=y.toList):x=y:=by
 have:=ba_beq x y;rw [h] at this;simpa using this
theorem qox {x y:Ky}(h1:leKy x y=true)(h2:leKy y x=true):x=y:=by
 rw [qim] at *
 rcases h1 with h1|h1 <;> rcases h2 with h2|h2
 ·omega
 ·omega
 ·omega
 ·have:=ba_ext (List.le_antisymm h1.2 h2.2)
  cases x; cases y
  simp only at this h1;rw [this,h1.1]
theorem q4c (l:List Ky):(q2b l).Pairwise fun a b=>leKy a b=true:=
 List.pairwise_mergeSort (le:=leKy) (fun a b c h1 h2=>qz4 h1 h2) qz5 l
theorem qra {l l':List Ky}(h:l.Perm l'):q2b l=q2b l':=
 List.Perm.eq_of_pairwise (le:=fun a b=>leKy a b=true) (fun a b _ _ h1 h2=>qox h1 h2) (q4c l) (q4c l') (((q1f l).trans h).trans (q1f l').symm)
def q0h (m:CM):List Ot:=(q2b (q03 m)).map fun k=>(k,q20 m k)
theorem q9k (m:CM):(q0h m).length=m.length:=by simp [q0h,qgs,q03]
def q8f (m:CM)(before:Int):List Ot:=(q0h m).takeWhile fun o=>decide (o.1.win < before)
def qhx (m:CM)(l:List Ot):CM:=l.foldl (fun m o=>mdel o.1 m) m
def qdl (m:CM)(before:Int):CM:=qhx m (q8f m before)
end Go.Nm
namespace Go.Proofs.YtfmkddccnjidmaaGreatDoor
open Go.Nm
section
variable {sb mb:Nat} {most:Int} {m:CM} {F L:List Assn} {H:Heap} {K:Value→Heap→Prop}
theorem qz6 (h:SatL H F)(k:∀c0 H',SatL H' (cellsA c0 [.map (some mb)] 198::F)→K (.func (.func 181) #[] #[PA c0 0]) H'):CF 130 #[.map (some mb)] H K:=by
 refine q71.call ?_;unfold q71.code;exact h.al fun c0 _ h=>k _ _ h
theorem qu5 {l c0:Nat}(A:List Ky→Assn)(h:SatL H (A []::cellsA c0 [.map (some mb)] 198::mapC mb m::F))
  (hy:∀dn key (G:List Assn) (H1:Heap) (K1:Value→Heap→Prop),dn.length < m.length→SatL H1 (A dn::G)→(∀H2,SatL H2 (A (dn++[key])::G)→K1 (.bool true) H2)→q33 Tryz.prog l [aggK key] H1 K1)
  (k:∀dn H',dn.Perm (q03 m)→SatL H' (A dn::cellsA c0 [.map (some mb)] 198::mapC mb m::F)→K (.tuple #[]) H') :
  CF 181 #[.func (.yield l) #[] #[],PA c0 0] H K:=by
 refine q1q.call ?_;unfold q1q.code;refine⟨_,h.rd 1 rfl _,?_⟩;refine h.rg_new mtC 2 rfl fun it H1 h=>⟨it,rfl,?_⟩
 refine⟨fun H'=>∃dn:CM,SatL H' (A (q03 dn)::cellsA c0 [.map (some mb)] 198::rngA aggK aggC it mb m dn::F),fun H'=>m.length - qyd H' it,⟨[],h⟩,?_⟩
 rintro H2 ⟨dn,h⟩;unfold q1q.l1;have hcnt:=h.rg_count 2 rfl;refine h.rg_next 2 rfl (fun hp=>.inl ⟨rfl,(fun hf=>by cases hf),fun _=>?_⟩) fun p hpm hpn H3 h=>.inr ⟨_,_,rfl,(fun _=>?_),fun hf=>by cases hf⟩
 ·exact k (q03 dn) _ (hp.map Prod.fst) (h.rg_map 2 rfl)
 ·have hcnt2:=h.rg_count 2 rfl;refine⟨_,_,_,h.rg_entry 2 rfl,?_⟩;refine h.al fun b1 _ h=>?_
  refine h.sta 0 rfl rfl fun H4 h=>⟨_,_,h.rda 0 rfl,?_⟩
  rw [z51] at hcnt2;have hlt:(q03 dn).length < m.length:=by simp only [q03,z5q]; simp at hcnt2; omega
  refine hy (q03 dn) p.1 _ _ _ hlt (h.o [1,0,2,3] 4) fun H5 h=>⟨true,rfl,(fun hf=>by cases hf),fun _=>?_⟩
  have h:SatL H5 (A (q03 dn++[p.1])::cellsA c0 [.map (some mb)] 198::rngA aggK aggC it mb m (dn++[p])::F):=h.o [0,2,3] 4;refine⟨⟨dn++[p],?_⟩,?_⟩
  ·have e:q03 (dn++[p])=q03 dn++[p.1]:=by simp [q03]
   rw [e]; exact h
  ·have:=h.rg_count 2 rfl;rw [z51] at this;simp only [z6x] at this;show m.length - qyd H5 it < m.length - qyd H2 it;omega
theorem sl225:SlT Tryz.prog 225 55 2 24:=qbf (by kernel_rfl)
theorem z2n {c0:Nat}(hl:m.length≤1000000)(h:SatL H (cellsA c0 [.map (some mb)] 198::mapC mb m::F))
  (k:∀dn a c H',dn.Perm (q03 m)→SatL H' (slA 55 2 a dn.length c (flat encK dn)::mapC mb m::F)→K (.slice a dn.length c) H') :
  CF 214 #[.slice none 0 0,.func (.func 181) #[] #[PA c0 0]] H K:=by
 refine q0y.call ?_;unfold q0y.code;refine h.al fun b _ h=>⟨rfl,fun R hR1 hR2 hy=>?_⟩
 rename_i H0;have h:=h.rng R;have h:=h.sl_nil 55 2;refine qu5 (m:=m) (mb:=mb) (fun dn=>exS fun p:Option Addr × Nat=>star [cellsA b [.slice p.1 dn.length p.2] 225,slA 55 2 p.1 dn.length p.2 (flat encK dn),pt (H0.size+1) (.loop R)])
  (F:=pt H0.size (.deferred (some []))::F) ?_ ?_ ?_
 ·have h:=h.o [3,0,1,4,5,2] 6;exact q0r.2 ⟨(none,0),SatL.shut [_,_,_] h⟩
 ·intro dn key G H1 K1 hlt h kt;obtain⟨⟨a,c⟩,h⟩:=q0r.1 h;have h:=SatL.open (A:=[_,_,_]) h;refine hy _ _ _ ?_;unfold q0y.y1;refine⟨_,_,rfl,h.getO 2 rfl,?_⟩;refine h.al fun b1 _ h=>?_
  refine h.sta 0 rfl rfl fun H3 h=>⟨h.getO 3 rfl,h.stl 3 rfl fun H4 h=>?_⟩
  refine⟨_,_,_,h.rd 1 rfl _,_,_,h.rda 0 rfl,?_⟩;rintro b2 _ rfl rfl;refine h.append1 (ws:=encK key) sl225 2 rfl rfl rfl (by omega) (by omega) fun a' c' H5 h=>⟨_,_,_,rfl,?_⟩
  refine h.sta 1 rfl rfl fun H6 h=>⟨h.getO 3 rfl,kt _ ?_⟩
  have h:=h.setO 3 rfl (.loop R);refine q0r.2 ⟨(a',c'),SatL.shut [_,_,_] ?_⟩;rw [q0i,q8y,z51];exact h.o [1,2,3] 4
 ·intro dn H1 hp h;obtain⟨⟨a,c⟩,h⟩:=q0r.1 h;have h:=SatL.open (A:=[_,_,_]) h;refine⟨.ready,none,by decide,by rw [q7p hR1 hR2]; exact h.getO 2 rfl,h.stl 2 rfl fun H9 h=>⟨rfl,?_⟩⟩
  refine⟨_,_,_,h.rd 0 rfl _,h.getO 5 rfl,?_⟩;have h:=h.setO 5 rfl (.deferred none);exact k dn a c _ hp (h.o [1,4] 6)
theorem qrb {c0:Nat}(hl:m.length≤1000000)(h:SatL H (cellsA c0 [.map (some mb)] 198::mapC mb m::F))
  (k:∀a c H',SatL H' (slA 55 2 a m.length c (flat encK (q2b (q03 m)))::mapC mb m::F)→K (.slice a m.length c) H') :
  CF 129 #[.func (.func 181) #[] #[PA c0 0],.func (.func 131) #[] #[]] H K:=by
 refine q2n.call ?_;unfold q2n.code;refine q3t.call ?_;unfold q3t.code;refine z2n hl h fun dn a c H1 hp h=>⟨_,_,_,rfl,_,_,_,rfl,?_⟩
 have hdl:dn.length=m.length:=by rw [hp.length_eq]; simp [q03]
 refine qz3 h 0 rfl (by omega) fun H2 h=>⟨rfl,?_⟩
 rw [hdl,qra hp] at h;rw [hdl];exact k _ _ _ h
theorem qgt (h:SatL H F)(k:∀c0 H',SatL H' (cellsA c0 [PA sb 0] 112::F)→K (.func (.func 127) #[] #[PA c0 0]) H'):CF 64 #[PA sb 0] H K:=by
 refine qff.call ?_;unfold qff.code;exact h.al fun c0 _ h=>k _ _ h
theorem qe5 {l c0:Nat}(hl:m.length≤1000000)(A:Nat→Assn)(Ax:Nat→Assn)(B:Assn)(h:SatL H (cellsA c0 [PA sb 0] 112::shC sb mb most::mapC mb m::B::F))
  (hst:∀G H',SatL H' (shC sb mb most::mapC mb m::B::G)→SatL H' (A 0::G))
  (hy:∀j (hj:j < (q0h m).length) (G:List Assn) (H1:Heap) (K1:Value→Heap→Prop),SatL H1 (A j::G)→(∀H2,SatL H2 (A (j+1)::G)→K1 (.bool true) H2)→(∀H2,SatL H2 (Ax j::G)→K1 (.bool false) H2)→
   q33 Tryz.prog l [aggK (q0h m)[j].1,aggC (q0h m)[j].2] H1 K1)
  (k:∀H',SatL H' (A (q0h m).length::F)→K (.tuple #[]) H')
  (kx:∀j H',j < (q0h m).length→SatL H' (Ax j::F)→K (.tuple #[]) H') :
  CF 127 #[.func (.yield l) #[] #[],PA c0 0] H K:=by
 refine q4z.call ?_;unfold q4z.code;refine⟨_,h.rd 0 rfl _,q02 ⟨_,h.rd 1 rfl _,?_⟩⟩;refine qu4 h 2 rfl fun r H1 h=>⟨_,rfl,?_⟩
 refine qz6 h fun kc H2 h=>⟨_,_,rfl,?_⟩
 refine qrb hl h fun a c H3 h=>⟨_,_,_,rfl,?_⟩
 have hol:(q0h m).length=m.length:=q9k m;have hkl:(q2b (q03 m)).length=m.length:=by rw [qgs]; simp [q03]
 have h:=hst _ _ (h.o [3,4,5,0,1] 6);refine⟨fun t H'=>∃j:Nat,t=j∧j≤m.length∧SatL H' (A j::slA 55 2 a m.length c (flat encK (q2b (q03 m)))::mapC r m::F),fun t _=>m.length - t.toNat,⟨0,rfl,z5s _,h⟩,?_⟩
 rintro t H4 ⟨j,rfl,hj,h⟩;unfold q4z.l1;refine⟨fun hc=>?_,fun hc=>?_⟩
 ·have hlt:j < m.length:=by have:=z4z hc; omega
  have hlt2:j < (q2b (q03 m)).length:=by omega
  have hr:=h.sl_rd 1 rfl;refine⟨⟨by omega,by omega⟩,_,_,hr.some qak (by omega) hlt2,_,_,hr.els qak hlt2,?_⟩;refine h.al fun b1 _ h=>?_
  refine h.sta 0 rfl rfl fun H5 h=>⟨_,_,h.rda 0 rfl,_,_,h.rda 0 rfl,?_⟩
  refine⟨_,_,_,_,_,_,_,_,h.mp_get1 mtC koK 3 rfl (x:=(q2b (q03 m))[j]),?_⟩;have e:(q0h m)[j]'(by omega)=((q2b (q03 m))[j],q20 m (q2b (q03 m))[j]):=by simp [q0h]
  have hyj:=hy j (by omega);rw [e] at hyj;refine hyj _ H5 _ (h.o [1,0,2,3] 4) (fun H6 h=>⟨true,rfl,(fun hf=>by cases hf),fun _=>?_⟩) fun H6 h=>⟨false,rfl,(fun _=>?_),fun hf=>by cases hf⟩
  ·rw [show i64.wrap ((j:Int)+1)=((j+1:Nat):Int) by rw [w64 (by omega) (by omega)]; omega];exact⟨⟨j+1,rfl,hlt,h.o [0,2,3] 4⟩,by simp only [z5a]; omega⟩
  ·exact kx j _ (by omega) (h.o [0] 4)
 ·have:j=m.length:=by have:=z54 hc; omega
  subst this;have:=k H4;rw [hol] at this;exact this (h.o [0] 3)
end
end Go.Proofs.YtfmkddccnjidmaaGreatDoor
namespace Go.Nm
abbrev lsB (s:ByteArray):List UInt8:=s.data.toList
theorem q6o (s:ByteArray):(lsB s).length=s.size:=z6i
theorem qwh {s:ByteArray}{i:Nat}(h:i < (lsB s).length):bAt s i=((lsB s)[i].toNat:Int):=by
 have h':i < s.data.size:=by simpa using h
 unfold bAt;rw [Array.getElem?_eq_getElem h'];simp
def lowC (c:UInt8):Bool:=decide (97≤c.toNat) && decide (c.toNat≤122)
def qrc (c:UInt8):Bool:=lowC c || (decide (48≤c.toNat) && decide (c.toNat≤57)) || decide (c.toNat=95)
def valC (c:UInt8):Bool:=decide (33≤c.toNat) && decide (c.toNat≤126) && decide (c∉[(44:UInt8),61,123,125])
def q8g (s:ByteArray):Bool:=decide (1≤s.size) && decide (s.size≤64) && lowC ((lsB s).headD 0) && (lsB s).all qrc
def Lab.z:Lab:=⟨⟨#[]⟩,⟨#[]⟩⟩
def q59 (l:Lab):Bool:=decide (l.value.size≤64) && (lsB l.value).all valC && q8g l.name
def qhj (labs:List Lab)(i:Nat):Bool:=q59 (labs.getD i Lab.z) && (decide (i=0) || Op.bytesLess (labs.getD (i - 1) Lab.z).name.toList (labs.getD i Lab.z).name.toList)
def q4i (name:ByteArray)(labs:List Lab):Bool:=q8g name && decide (labs.length≤8) && (List.range labs.length).all (qhj labs)
theorem qka {p:Nat→Bool}{n:Nat}:(List.range n).all p=true↔∀i,i < n→p i=true:=by
 rw [z69];exact⟨fun h i hi=>h i (z6q.2 hi),fun h i hi=>h i (z6q.1 hi)⟩
theorem z2o {α:Type}{p:α→Bool}{l:List α}(h:∀i (hi:i < l.length),p l[i]=true):l.all p=true:=by
 rw [z69];intro x hx;obtain⟨i,hi,rfl⟩:=z7d hx;exact h i hi
theorem qu6 {α:Type}{p:α→Bool}{l:List α}{i:Nat}(hi:i < l.length)(h:p l[i]=false):l.all p=false:=by
 cases e:l.all p
 ·rfl
 ·rw [z69] at e;rw [e _ (z5e hi)] at h
  cases h
theorem qal {α:Type}{l:List α}{i:Nat}(d:α)(h:i < l.length):l.getD i d=l[i]:=by
 rw [z82,List.getElem?_eq_getElem h]; rfl
theorem qwi {l:List UInt8}(h:0 < l.length):l.headD 0=l[0]:=by
 cases l with
 | nil=>simp at h
 | cons a l=>rfl
def idxU (c:UInt8)(l:List UInt8):Int:=if l.idxOf c < l.length then (l.idxOf c:Int) else -1
theorem qwj (c:UInt8):∀l:List UInt8,Go.Lib.indexByte l c=idxU c l
 | []=>rfl
 | b::l=>by
  unfold Go.Lib.indexByte;rw [qwj c l];unfold idxU;rw [List.idxOf_cons,z59]
  cases e:(b == c) with
  | true=>simp
  | false=>
   simp only [cond_false,z7a,if_false,Nat.add_lt_add_iff_right]
   split
   ·rename_i h;rw [if_neg (by rw [beq_iff_eq]; omega)];omega
   ·rfl
theorem idxU_ge (c:UInt8)(l:List UInt8):-1≤idxU c l∧idxU c l < l.length:=by
 unfold idxU; split <;> omega
theorem idxU_mem (c:UInt8)(l:List UInt8):0≤idxU c l↔c∈l:=by
 unfold idxU;rw [← List.idxOf_lt_length_iff]
 split <;> rename_i h
 ·exact⟨fun _=>h,fun _=>by omega⟩
 ·exact⟨fun h=>by omega,fun h'=>absurd h' h⟩
end Go.Nm
namespace Go.Proofs.YtfmkddccnjidmaaGreatDoor
open Go.Nm
section
variable {F L:List Assn} {H:Heap} {K:Value→Heap→Prop}
theorem natIdx {s:ByteArray}{c:Int}:qj1 Tryz.prog 283 #[.string s,.int .u8 c] (I64 (idxU c.toNat.toUInt8 (lsB s))):=by
 intro w;have h:(callFunc 283 #[.string s,.int .u8 c]).run Tryz.prog w=(do let v ← Extern.BytealgIndexByte.indexByte #[.string s,.int .u8 c]; pure (Next.value v)).run Tryz.prog w:=by kernel_rfl
 rw [h];have h2:=Go.Lib.run_indexByteString (P:=Tryz.prog) s c w;simp only [Sem.run_bind,h2,qwj];rfl
theorem qlp {s:ByteArray}{c:Int}(k:K (I64 (idxU c.toNat.toUInt8 (lsB s))) H):CF 228 #[.string s,.int .u8 c] H K:=
 q6g.call (q2o.call ⟨_,natIdx,_,rfl,k⟩)
theorem qmu {s:ByteArray}:q1o Tryz.prog 202 #[.string s] H (.bool (q8g s)):=by
 refine q50.call ?_;unfold q50.code;refine⟨fun hc=>?_,fun hc=>?_,fun hc=>?_,fun hc=>?_⟩
 ·simp only [z5g,z58] at hc; omega
 ·simp only [z5g,z58] at hc; omega
 ·have:q8g s=false:=by
   cases e:q8g s
   ·rfl
   ·unfold q8g lowC at e;simp only [z56,z52] at e;simp only [z5h,z52] at hc;obtain⟨⟨⟨e1,e2⟩,e3,e4⟩,-⟩:=e;have hl:=q6o s;have hb:bAt s 0=((lsB s)[0]'(by omega)).toNat:=qwh (by omega);have hh:(lsB s).headD 0=(lsB s)[0]'(by omega):=qwi (by omega);rw [hh] at e3 e4;omega
  rw [this];exact⟨rfl,rfl⟩
 ·simp only [z5g,z58] at hc;obtain⟨⟨⟨c1,c2⟩,c3⟩,c4⟩:=hc;have hl:=q6o s;have hb:bAt s 0=((lsB s)[0]'(by omega)).toNat:=qwh (by omega);have hh:(lsB s).headD 0=(lsB s)[0]'(by omega):=qwi (by omega);have hn:q8g s=(lsB s).all qrc:=by
   unfold q8g;rw [hh];unfold lowC;rw [z5m (by omega),z5m (by omega),z5m (by omega),z5m (by omega)];simp
  rw [hn];refine⟨fun i H'=>H'=H∧∃j:Nat,i=j∧j≤s.size∧∀q (hq:q < (lsB s).length),q < j→qrc (lsB s)[q]=true,fun i _=>s.size - i.toNat,⟨rfl,0,rfl,by omega,fun q _ h=>by omega⟩,?_⟩
  rintro i H1 ⟨rfl,j,rfl,hj,hp⟩;unfold q50.l1;refine⟨fun hc=>?_,fun hc=>?_⟩
  ·have hlt:j < s.size:=by have:=z4z hc; omega
   have hlt':j < (lsB s).length:=by omega
   refine⟨by omega,?_⟩;rw [z5a,qwh hlt'];refine⟨fun hx=>?_,fun hx=>?_⟩
   ·simp only [z56,z5h,z52,z5k,z58] at hx;rw [qu6 hlt' (by unfold qrc lowC; simp only [z5g,z6k,z58]; omega)];exact⟨rfl,rfl⟩
   ·rw [w64 (x:=(j:Int)+1) (by omega) (by omega)];refine⟨⟨rfl,j+1,by omega,hlt,fun q hq hq'=>?_⟩,by dsimp only; omega⟩
    by_cases hqj:q=j
    ·subst hqj;unfold qrc lowC;simp only [z6k,z5g,z58,z67,z52] at hx;simp only [z5h,z56,z52];omega
    ·exact hp q hq (by omega)
  ·have hge:s.size≤j:=by have:=z54 hc; omega
   rw [z2o fun q hq=>hp q hq (by omega)]
   exact⟨rfl,rfl⟩
theorem qz7 {l:Lab}(h:SatL H F)(k:∀H',SatL H' F→K (.bool (q59 l)) H'):CF 203 #[.agg #[.string l.name,.string l.value]] H K:=by
 refine q2v.call ?_;unfold q2v.code;refine h.al fun b _ h=>?_
 refine⟨_,h.rd 0 rfl _,fun hc=>?_,fun hc=>?_⟩
 ·have:q59 l=false:=by
   unfold q59;rw [z6m (by have:=z4z hc; omega)];rfl
  rw [← this];exact k _ h.tl
 ·have hs:l.value.size≤64:=by have:=z54 hc; omega
  have hl:=q6o l.value;refine⟨fun i H'=>∃j:Nat,i=j∧j≤l.value.size∧(∀q (hq:q < (lsB l.value).length),q < j→valC (lsB l.value)[q]=true)∧SatL H' (cellsA b [.string l.name,.string l.value] 267::F),fun i _=>l.value.size - i.toNat,⟨0,rfl,by omega,fun q _ h=>by omega,h⟩,?_⟩
  rintro i H1 ⟨j,rfl,hj,hp,h⟩;unfold q2v.l2;refine⟨_,h.rd 0 rfl _,fun hc=>?_,fun hc=>?_⟩
  ·have hlt:j < l.value.size:=by have:=z4z hc; omega
   have hlt':j < (lsB l.value).length:=by omega
   refine⟨_,h.rd 0 rfl _,by omega,?_⟩;intro Jn hJ;rw [z5a,qwh hlt'];have hJ':Jn (!valC (lsB l.value)[j]) H1:=by
    refine hJ _ _ ?_;unfold q2v.r1;refine⟨fun hx=>?_,fun hx=>?_⟩
    ·have:q59 l=false:=by
      unfold q59;rw [qu6 hlt' (by simpa using hx)];simp
     rw [← this];exact k _ h.tl
    ·rw [w64 (x:=(j:Int)+1) (by omega) (by omega)];refine⟨⟨j+1,by omega,hlt,fun q hq hq'=>?_,h⟩,by dsimp only; omega⟩
     by_cases hqj:q=j
     ·subst hqj; simpa using hx
     ·exact hp q hq (by omega)
   refine⟨fun hx=>?_,fun hx=>?_⟩
   ·simp only [z5g,z58] at hx;refine qlp ⟨_,rfl,?_⟩;have:decide (0≤idxU (((lsB l.value)[j].toNat:Int).toNat.toUInt8) (lsB ⟨#[44,61,123,125]⟩))=!valC (lsB l.value)[j]:=by
     rw [z65,z52,idxU_mem];have e:((lsB l.value)[j].toNat:Int).toNat.toUInt8=(lsB l.value)[j]:=by simp
     rw [e];unfold valC;rw [z5m (by omega),z5m (by omega)];simp
    rw [this];exact hJ'
   ·have:valC (lsB l.value)[j]=false:=by
     unfold valC;simp only [z5g,z58] at hx;simp only [z6k,z58];omega
    rw [this] at hJ';exact hJ'
  ·have hge:l.value.size≤j:=by have:=z54 hc; omega
   refine⟨_,h.rd 0 rfl _,_,qmu,?_⟩;have:q59 l=q8g l.name:=by
    unfold q59;rw [z5m hs,z2o fun q hq=>hp q hq (by omega)]
    simp
   rw [← this];exact k _ h.tl
theorem q6p {name:ByteArray}{a:Option Addr}{c:Nat}{labs:List Lab}(h:SatL H F)(ha:∀H,SatL H F→rdS H a (flat encL labs))
  (k:∀H',SatL H' F→K (.bool (q4i name labs)) H'):CF 164 #[.agg #[.string name,.slice a labs.length c]] H K:=by
 refine q12.call ?_;unfold q12.code;refine h.al fun b _ h=>?_
 refine⟨_,h.rd 0 rfl _,_,qmu,_,_,_,fun _=>h.rd 0 rfl _,fun hc=>?_,fun hc=>?_⟩
 ·have:q4i name labs=false:=by
   unfold q4i;simp only [z5h,z5k,z52] at hc
   rcases hc with hc|hc
   ·rw [hc]; rfl
   ·rw [z6m (p:=labs.length≤8) (by omega)]; simp
  rw [← this];exact k _ h.tl
 ·simp only [z5g,z67,z58] at hc;obtain⟨c1,c2⟩:=hc;have hR:q4i name labs=(List.range labs.length).all (qhj labs):=by
   unfold q4i;rw [c1,z5m (by omega)];simp
  refine⟨_,_,_,h.rd 0 rfl _,?_⟩;refine⟨fun i H'=>∃j:Nat,i=j∧j≤labs.length∧(∀q,q < j→qhj labs q=true)∧SatL H' (cellsA b [.string name,.slice a labs.length c] 93::F),fun i _=>labs.length - i.toNat,⟨0,rfl,by omega,fun q h=>by omega,h⟩,?_⟩
  rintro i H1 ⟨j,rfl,hj,hp,h⟩;unfold q12.l1;refine⟨fun hc=>?_,fun hc=>?_⟩
  ·have hlt:j < labs.length:=by have:=z4z hc; omega
   have hr:=ha _ h.tl;refine⟨by omega,_,_,hr.some q2d (by omega) hlt,_,_,hr.els q2d hlt,?_⟩;refine h.al fun b2 _ h=>?_
   refine h.st 0 rfl rfl ?_;intro H3 h;refine⟨_,_,h.rds 0 rfl rfl,?_⟩;refine qz7 (l:=labs[j]) h fun H4 h=>⟨_,rfl,?_⟩
   have hr:=ha _ h.tl.tl;have hw:0 < j→i64.wrap ((j:Int) - 1)=((j - 1:Nat):Int):=fun h=>by rw [w64 (by omega) (by omega)]; omega
   have hs:qhj labs j=(q59 labs[j] && (decide (j=0) || Op.bytesLess (labs.getD (j - 1) Lab.z).name.toList labs[j].name.toList)):=by
    unfold qhj; rw [qal Lab.z hlt]
   refine⟨a,labs.length,c,fun _=>h.rd 1 rfl _,fun hh=>?_,_,_,fun hh=>hr.some q2d (by omega) hlt,(labs.getD (j - 1) Lab.z).name,fun hh=>?_,labs[j].name,fun _=>h.rd 0 rfl _,fun hc=>?_,fun hc=>?_⟩
   ·have h0:=z4z hh.2;rw [hw (by omega)]; omega
   ·have h0:=z4z hh.2;rw [hw (by omega),z5a];exact hr.el0 q2d (k:=j - 1) (by omega) (by rw [qal Lab.z (by omega)]; rfl)
   ·have:q4i name labs=false:=by
     rw [hR]
     cases e:(List.range labs.length).all (qhj labs)
     ·rfl
     ·rw [qka] at e;have e:=e j hlt;rw [hs] at e;simp only [z5h,z56,z5k,z52] at e hc
      rcases hc with hc|hc
      ·rw [hc] at e; simp at e
      ·rcases e.2 with e2|e2
       ·omega
       ·rw [hc.2] at e2; simp at e2
    rw [← this];exact k _ h.tl.tl
   ·rw [w64 (x:=(j:Int)+1) (by omega) (by omega)];refine⟨⟨j+1,by omega,hlt,fun q hq'=>?_,h.tl⟩,by dsimp only; omega⟩
    by_cases hqj:q=j
    ·subst hqj;rw [hs];simp only [z5g,z6k,z67,z58] at hc;simp only [z5h,z56,z52];refine⟨hc.1,?_⟩
     rcases hc.2 with e|e
     ·left; omega
     ·right; exact e
    ·exact hp q (by omega)
  ·have hge:labs.length≤j:=by have:=z54 hc; omega
   have:q4i name labs=true:=by rw [hR,qka]; exact fun q hq=>hp q (by omega)
   rw [← this];exact k _ h.tl
end
end Go.Proofs.YtfmkddccnjidmaaGreatDoor
namespace Go.Nm
def q7b (l:Lab):ByteArray:=(l.name++(⟨#[61]⟩:ByteArray))++l.value
def qe6 (labs:List Lab):ByteArray:=⟨(Go.Lib.join ((labs.map q7b).map lsB) [44]).toArray⟩
def q8h (name:ByteArray)(labs:List Lab):ByteArray:=
 if q4i name labs then (if labs=[] then name else ((name++(⟨#[123]⟩:ByteArray))++qe6 labs)++(⟨#[125]⟩:ByteArray)) else ⟨#[]⟩
theorem qz8 {α:Type}(f:α→Value)(z:Value)(l:List α)(j:Nat)(h:j < l.length) :
  q2h ((l.take j).map f++List.replicate (l.length - j) z) j [f l[j]]=(l.take (j+1)).map f++List.replicate (l.length - (j+1)) z:=by
 have e:l.length - j=(l.length - (j+1))+1:=by omega
 rw [e,List.replicate_succ];have hl:((l.take j).map f).length=j:=by rw [z5q,z5n]; omega
 have:=q2l [f l[j]] ((l.take j).map f) (z::List.replicate (l.length - (j+1)) z) 0;simp only [hl,z71] at this;rw [this,z6d h,z5v];simp [q2h]
theorem join_le {n:Nat}:∀{xs:List (List UInt8)},(∀x∈xs,x.length≤n)→(Go.Lib.join xs [44]).length≤(n+1)*xs.length
 | [],_=>by simp [Go.Lib.join,List.intercalate]
 | x::r,h=>by
  rw [Go.Lib.join_length];have:∀{l:List (List UInt8)},(∀x∈l,x.length≤n)→Go.Lib.lens l≤n*l.length:=by
   intro l
   induction l with
   | nil=>intro _; simp [Go.Lib.lens]
   | cons y l ih=>
    intro h;have h1:=ih fun x hx=>h x (z5j _ hx)
    have h2:=h y (z5i ..);simp only [Go.Lib.lens,z5y,List.sum_cons,z59,Nat.mul_succ] at h1 ⊢;omega
  have h1:=this h;simp only [z59,z5t,z5p,Nat.one_mul,Nat.mul_succ,z5x] at h1 ⊢;omega
theorem q6q (x y:ByteArray):(x++y).size=x.size+y.size:=ByteArray.size_append
theorem q6r {s:ByteArray}(h:q8g s=true):s.size≤64∧1≤s.size:=by
 unfold q8g at h;simp only [z56,z52] at h;omega
theorem q6s {l:Lab}(h:q59 l=true):l.name.size≤64∧l.value.size≤64:=by
 unfold q59 at h;simp only [z56,z52] at h;exact⟨(q6r h.2).1,h.1.1⟩
theorem qz9 (l:Lab):(q7b l).size=l.name.size+1+l.value.size:=by
 unfold q7b; rw [q6q,q6q]; rfl
structure RightP (name:ByteArray)(labs:List Lab):Prop where
 named:q8g name=true
 len:labs.length≤8
 val:∀l∈labs,q59 l=true
 step:∀i,i < labs.length→qhj labs i=true
theorem q92 {name:ByteArray}{labs:List Lab}(h:q4i name labs=true):RightP name labs:=by
 unfold q4i at h;simp only [z56,z52,qka] at h;refine⟨h.1.1,h.1.2,fun l hl=>?_,h.2⟩
 obtain⟨i,hi,rfl⟩:=z7d hl;have:=h.2 i hi;unfold qhj at this;rw [qal Lab.z hi] at this;simp only [z56] at this;exact this.1
theorem joinL_le {labs:List Lab}(h:∀l∈labs,q59 l=true):(Go.Lib.join ((labs.map q7b).map lsB) [44]).length≤130*labs.length:=by
 have:=join_le (n:=129) (xs:=(labs.map q7b).map lsB) (by
  intro x hx;rw [z68,z5b] at hx;obtain⟨l,hl,rfl⟩:=hx;have:=q6s (h l hl);show (lsB (q7b l)).length≤129;rw [q6o,qz9];omega)
 simpa using this
theorem qza {labs:List Lab}:(qe6 labs).size=(Go.Lib.join ((labs.map q7b).map lsB) [44]).length:=by
 unfold qe6;show Array.size _=_;simp
theorem rdS_some {H:Heap}{a:Option Addr}{cs:List Value}(h:rdS H a cs)(hl:0 < cs.length):a=some ⟨adrB a,adrO a,none⟩:=(h 0 _ (qes hl)).1
end Go.Nm
namespace Go.Proofs.YtfmkddccnjidmaaGreatDoor
open Go.Nm
theorem Tryz.joinX:Builder.Extra Tryz.prog Tryz.joinA_ren where
 sizeBuilder:=by kernel_rfl
 liesBuilder:=by kernel_rfl
 t5:=Tryz.underlying5
 a5:=Tryz.isAgg5
 z5:=Tryz.sizeOf5
 v5:=Tryz.zeroValue5
 infoByte:=by kernel_rfl
 cellsByte:=by kernel_rfl
 sizeByte:=by kernel_rfl
 neB5:=by decide
section
variable {F L:List Assn} {H:Heap} {K:Value→Heap→Prop}
theorem Join_spec {a:Option Addr}{c:Nat}{xs:List ByteArray}(h:SatL H L)(ha:rdS H a (xs.map fun s=>.string s))(h0:0 < xs.length)(hn:xs.length≤1000000)(hc:xs.length≤c)
  (hlen:(Go.Lib.join (xs.map lsB) [44]).length≤1000000000)
  (k:∀H',SatL H' L→K (.string ⟨(Go.Lib.join (xs.map lsB) [44]).toArray⟩) H'):CF 220 #[.slice a xs.length c,.string ⟨#[44]⟩] H K:=by
 intro w hw;subst hw;have hs:=rdS_some ha (by simpa using h0);rw [hs] at ha ⊢;have hcell:∀(j:Nat) x,xs[j]?=some x→w.cell? ⟨adrB a,adrO a+j,none⟩=some (.string x):=by
  intro j x hj;rw [cell?_cellAt];exact (ha j (.string x) (by rw [q1c,List.getElem?_map,hj]; rfl)).2
 have hlt:adrB a < w.heap.size:=by
  have:=hcell 0 xs[0] (List.getElem?_eq_getElem h0);rw [cell?_cellAt] at this;unfold q00 at this
  cases e:w.heap[adrB a]? with
  | none=>rw [e] at this; cases this
  | some o=>exact (Array.getElem?_eq_some_iff.1 e).1
 refine q0z (Any.strings_Join Tryz.joinA Tryz.joinX (adrB a) (adrO a) c xs ⟨#[44]⟩ w hcell hlt (by omega) hc (by show (Go.Lib.join (xs.map lsB) [44]).length≤_; omega)) ?_;rintro e w' ⟨rfl,hb⟩;exact⟨_,rfl,q7o hb,k _ (h.grow (q5g hb))⟩
theorem sl294:SlT Tryz.prog 294 9 1 16:=qbf (by kernel_rfl)
theorem qzb {name:ByteArray}{a:Option Addr}{c:Nat}{labs:List Lab}(h:SatL H F)(ha:∀H,SatL H F→rdS H a (flat encL labs))
  (k:∀H',SatL H' F→K (.string (q8h name labs)) H'):CF 190 #[.agg #[.string name,.slice a labs.length c]] H K:=by
 refine q1e.call ?_;unfold q1e.code;refine h.al fun b _ h=>?_
 refine⟨_,_,_,_,h.rds 0 rfl rfl,?_⟩;refine q6p h (fun H h=>ha H h.tl) fun H1 h=>⟨_,rfl,fun hc=>?_,fun hc=>?_⟩
 ·have:q8h name labs=⟨#[]⟩:=by unfold q8h; rw [if_neg (by simpa using hc)]
  rw [← this];exact k _ h.tl
 ·simp only [z67] at hc;have hp:=q92 hc;refine⟨_,_,_,h.rd 0 rfl _,fun hz=>?_,fun hz=>?_⟩
  ·have hz:=z4z hz;have hn:labs=[]:=z7t.1 (by omega);refine⟨_,h.rd 0 rfl _,?_⟩;have:q8h name labs=name:=by unfold q8h; rw [if_pos hc,if_pos hn]
   rw [← this];exact k _ h.tl
  ·have hz:=z54 hz;have hl8:=hp.len;refine⟨_,_,_,h.rd 0 rfl _,?_⟩;refine h.mk1 sl294 (z0:=.string ⟨#[]⟩) (by kernel_rfl) (by kernel_rfl) (by omega) (by omega) fun pa H2 h=>?_
   refine⟨_,_,_,rfl,_,_,_,h.rd 1 rfl _,?_⟩;refine⟨fun i H'=>∃j:Nat,i=j∧j≤labs.length∧SatL H' (slA 9 1 pa labs.length labs.length ((labs.take j).map (fun l=>.string (q7b l))++List.replicate (labs.length - j) (Value.string ⟨#[]⟩))::cellsA b [.string name,.slice a labs.length c] 93::F),
    fun i _=>labs.length - i.toNat,⟨0,rfl,by omega,by simpa using h⟩,?_⟩
   rintro i H1 ⟨j,rfl,hj,h⟩;unfold q1e.l1;refine⟨fun hc=>?_,fun hc=>?_⟩
   ·have hlt:j < labs.length:=by have:=z4z hc; omega
    have hr:=ha _ h.tl.tl;have hv:=q6s (hp.val _ (z5e hlt));refine⟨by omega,_,_,hr.some q2d (by omega) hlt,_,_,hr.els q2d hlt,?_⟩;refine h.al fun b2 _ h=>?_
    refine h.st 0 rfl rfl ?_;intro H3 h;refine⟨_,h.rd 0 rfl _,?_,_,h.rd 0 rfl _,?_,by omega,?_⟩
    ·show (((labs[j].name.size+1:Nat)):Int)≤9223372036854775807;omega
    ·show ((((labs[j].name++(⟨#[61]⟩:ByteArray)).size+labs[j].value.size:Nat)):Int)≤9223372036854775807;rw [q6q];show ((labs[j].name.size+1+labs[j].value.size:Nat):Int)≤9223372036854775807;omega
    ·have hl1:((labs.take j).map (fun l=>Value.string (q7b l))++List.replicate (labs.length - j) (Value.string ⟨#[]⟩)).length=labs.length:=by
      rw [z51,z5q,z5n,List.length_replicate]; omega
     obtain⟨h1,h2,h3⟩:=h.sl_set 1 rfl j [.string (q7b labs[j])] (by rw [hl1]; simp; omega) (by simp);rw [qz8 (fun l=>Value.string (q7b l)) _ labs j hlt] at h3
     rw [z5a];refine⟨_,_,h1,h2,?_⟩;intro H4 hH;rw [w64 (x:=(j:Int)+1) (by omega) (by omega)];refine⟨⟨j+1,by omega,hlt,?_⟩,by dsimp only; omega⟩;rw [hH];exact h3.tl
   ·have hge:labs.length≤j:=by have:=z54 hc; omega
    have e1:labs.take j=labs:=z5o hge;have e2:labs.length - j=0:=by omega
    rw [e1,e2,List.replicate_zero,z61] at h;have hj:=joinL_le hp.val;have hjs:=qza (labs:=labs);have hns:=q6r hp.named;refine⟨_,h.rd 1 rfl _,?_,?_⟩
    ·show (((name.size+1:Nat)):Int)≤9223372036854775807;omega
    have hrd:=h.sl_rd 0 rfl;have hlm:(labs.map q7b).length=labs.length:=z5q ..;rw [← hlm];refine Join_spec (xs:=labs.map q7b) h (by rw [z68]; exact hrd) (by omega) (by omega) (by omega) (by omega) fun H5 h=>⟨_,rfl,h.rd 1 rfl _,?_,?_,?_⟩
    ·show (((name++(⟨#[123]⟩:ByteArray)).size+(qe6 labs).size:Nat):Int)≤9223372036854775807;rw [q6q];show (((name.size+1)+(qe6 labs).size:Nat):Int)≤9223372036854775807;omega
    ·show ((((name++(⟨#[123]⟩:ByteArray))++qe6 labs).size+1:Nat):Int)≤9223372036854775807;rw [q6q,q6q];show (((name.size+1)+(qe6 labs).size+1:Nat):Int)≤9223372036854775807;omega
    ·have:q8h name labs=((name++(⟨#[123]⟩:ByteArray))++qe6 labs)++(⟨#[125]⟩:ByteArray):=by
      unfold q8h;rw [if_pos (by assumption),if_neg (by intro e; rw [e] at hz; simp at hz)]
     have hk:=k _ h.tl.tl;rw [this] at hk;exact hk
end
end Go.Proofs.YtfmkddccnjidmaaGreatDoor
namespace Go.Nm
theorem qbx {α:Type}{p:α→Bool}:∀{l:List α} {j:Nat},(∀i (h:i < l.length),i < j→p l[i]=true)→(∀h:j < l.length,p l[j]=false)→l.takeWhile p=l.take j
 | [],j,_,_=>by simp
 | a::r,0,_,h2=>by
  have:p a=false:=h2 (by simp);simp [List.takeWhile,this]
 | a::r,j+1,h1,h2=>by
  have e:p a=true:=h1 0 (by simp) (by omega);simp only [List.takeWhile,e,List.take_succ_cons];rw [qbx (fun i h hi=>h1 (i+1) (by simpa using h) (by omega)) fun h=>h2 (by simpa using h)]
theorem qrd (m:CM)(l r:List Ot):qhx m (l++r)=qhx (qhx m l) r:=by unfold qhx; rw [z7k]
end Go.Nm
namespace Go.Proofs.YtfmkddccnjidmaaGreatDoor
open Go.Nm
section
variable {sb mb:Nat} {most:Int} {m:CM} {F L:List Assn} {H:Heap} {K:Value→Heap→Prop}
def clA (sb mb b b1 b2 l:Nat)(most:Int)(m:CM)(before:Int)(R:Loop)(j:Nat)(p:Prop):Assn:=exS fun q:Option Addr × Nat=>
 star [cellsA b [PA sb 0] 112,cellsA b1 [I64 before] 2,cellsA b2 [.slice q.1 ((q0h m).take j).length q.2] 86,slA 64 74 q.1 ((q0h m).take j).length q.2 (flat encO ((q0h m).take j)),
  shC sb mb most,mapC mb (qhx m ((q0h m).take j)),pt l (.loop R),pur p]
abbrev qre (m:CM)(before:Int)(j:Nat):Prop:=∀i (h:i < (q0h m).length),i < j→(q0h m)[i].1.win < before
set_option maxHeartbeats 1000000 in
theorem qzc (hl:m.length≤1000000){before:Int}(h:SatL H (shC sb mb most::mapC mb m::F))
  (k:∀a c H',SatL H' (slA 64 74 a (q8f m before).length c (flat encO (q8f m before))::shC sb mb most::mapC mb (qdl m before)::F)→K (.slice a (q8f m before).length c) H') :
  CF 150 #[PA sb 0,I64 before] H K:=by
 refine q4y.call ?_;unfold q4y.code;have hol:(q0h m).length=m.length:=q9k m;refine h.al fun b _ h=>h.al fun b1 _ h=>h.al fun b2 _ h=>⟨_,h.rd 2 rfl _,?_⟩
 refine qgt h fun c0 H3 h=>⟨_,_,rfl,rfl,fun R hR1 hR2 hy=>?_⟩
 have h:=h.rng R;have h:=h.sl_nil 64 74;refine qe5 (m:=m) (sb:=sb) (mb:=mb) (most:=most) hl (fun j=>clA sb mb b b1 b2 (H3.size+1) most m before R j (qre m before j))
  (fun j=>clA sb mb b b1 b2 (H3.size+1) most m before { R with state:=.done,pending:=some (.exit 0) } j (qre m before j∧∀h:j < (q0h m).length,¬(q0h m)[j].1.win < before))
  (star [slA 64 74 none 0 0 [],cellsA b2 [.slice none 0 0] 86,cellsA b1 [I64 before] 2,cellsA b [PA sb 0] 112,pt (H3.size+1) (.loop R)]) (F:=pt H3.size (.deferred (some []))::F) ?_ ?_ ?_ ?_ ?_
 ·have h:=SatL.shut [_,_,_,_,_] (h.o [0,4,5,6,1,3,7,8,2] 9);exact h.o [1,2,3,0,4] 5
 ·intro G H' h;have h:=(SatL.open (A:=[_,_,_,_,_]) (h.o [2,0,1] 3)).pur (p:=qre m before 0) (fun i _ hi=>absurd hi (Nat.not_lt_zero i))
  exact q0r.2 ⟨(none,0),SatL.shut [_,_,_,_,_,_,_,_] (h.o [4,3,2,1,6,7,5,0] 8)⟩
 ·intro j hj G H1 K1 h kt kf;obtain⟨⟨a,c⟩,h⟩:=q0r.1 h;have h:=SatL.open (A:=[_,_,_,_,_,_,_,_]) h;have hp:=(SatL.consP (h.o [7] 8)).1;refine hy _ _ _ ?_;unfold q4y.y1;refine⟨_,_,_,_,_,_,_,_,_,_,rfl,h.getO 6 rfl,?_⟩;refine h.al fun b3 _ h=>?_
  refine h.sta 0 rfl rfl fun H2 h=>?_
  refine h.al fun b4 _ h=>?_
  refine h.sta 0 rfl (by rw [q2q]; exact (q2q Cl.z).symm) fun H4 h=>⟨h.getO 8 rfl,h.stl 8 rfl fun H5 h=>?_⟩
  refine⟨_,h.rd 1 rfl _,_,h.rd 3 rfl _,fun hc=>?_,fun hc=>?_⟩
  ·have hge:=z4z hc;refine⟨h.getO 8 rfl,kf _ ?_⟩;have h:=h.setO 8 rfl (.loop { R with state:=.done,pending:=some (.exit 0) });have hpp:qre m before j∧∀h:j < (q0h m).length,¬(q0h m)[j].1.win < before:=⟨hp,fun _=>by omega⟩
   have h:=(h.o [2,3,4,5,6,7,8] 10).pur hpp;exact q0r.2 ⟨(a,c),SatL.shut [_,_,_,_,_,_,_,_] (h.o [1,2,3,4,5,6,7,0] 8)⟩
  ·have hlt:=z54 hc;refine⟨_,_,_,h.rd 4 rfl _,_,_,h.rda 1 rfl,_,_,_,_,_,_,_,_,h.rda 0 rfl,?_⟩;rintro b5 _ rfl rfl;have htl:((q0h m).take j).length≤1000000:=by rw [z5n]; omega
   refine h.append1 (ws:=encO (q0h m)[j]) sl86 5 rfl (q32 _) (q7v _) (by omega) (by omega) fun a' c' H6 h=>⟨_,_,_,rfl,?_⟩
   refine h.sta 4 rfl rfl fun H7 h=>⟨_,h.rd 2 rfl _,q02 ⟨_,h.rd 6 rfl _,_,_,h.rda 1 rfl,?_⟩⟩
   refine h.mp_delete (x:=(q0h m)[j].1) mtC koK 7 rfl fun H8 h=>⟨h.getO 8 rfl,kt _ ?_⟩
   have h:=h.setO 8 rfl (.loop R);have hpp:qre m before (j+1):=fun i hi hi2=>by
    rcases z5r i j with h1|h1
    ·exact hp i hi h1
    ·obtain rfl:i=j:=by omega
     omega
   have h:=(h.o [2,3,4,5,6,7,8] 10).pur hpp;refine q0r.2 ⟨(a',c'),SatL.shut [_,_,_,_,_,_,_,_] ?_⟩;rw [z6d hj,q0i,q8y,qrd,z51];exact h.o [1,2,3,4,5,6,7,0] 8
 ·intro H1 h;obtain⟨⟨a,c⟩,h⟩:=q0r.1 h;have h:=SatL.open (A:=[_,_,_,_,_,_,_,_]) h;have hp:=(SatL.consP (h.o [7] 8)).1;have ec:q8f m before=(q0h m).take (q0h m).length:=qbx (fun i h hi=>z5m (hp i h hi)) fun h=>absurd h (Nat.lt_irrefl _)
  unfold qdl at k;rw [ec] at k;refine⟨.ready,none,by decide,by rw [q7p hR1 hR2]; exact h.getO 6 rfl,h.stl 6 rfl fun H9 h=>.inl ⟨rfl,?_⟩⟩
  refine⟨_,_,_,h.rd 2 rfl _,h.getO 8 rfl,?_⟩;have h:=h.setO 8 rfl (.deferred none);exact k a c _ (h.o [3,4,5] 9)
 ·intro j H1 hj h;obtain⟨⟨a,c⟩,h⟩:=q0r.1 h;have h:=SatL.open (A:=[_,_,_,_,_,_,_,_]) h;have hp:=(SatL.consP (h.o [7] 8)).1;have ec:q8f m before=(q0h m).take j:=qbx (fun i h hi=>z5m (hp.1 i h hi)) fun h=>z6m (hp.2 h)
  unfold qdl at k;rw [ec] at k;refine⟨.done,some (.exit 0),by decide,h.getO 6 rfl,h.stl 6 rfl fun H9 h=>.inr ⟨rfl,?_⟩⟩
  refine⟨_,_,_,h.rd 2 rfl _,h.getO 8 rfl,?_⟩;have h:=h.setO 8 rfl (.deferred none);exact k a c _ (h.o [3,4,5] 9)
end
end Go.Proofs.YtfmkddccnjidmaaGreatDoor
namespace Go.Nm
theorem z2p (x:Int):0≤u64.wrap x∧u64.wrap x < 18446744073709551616:=by
 simp only [IntKind.wrap,IntKind.bits,IntKind.signed]
 constructor
 ·simp; omega
 ·simp; omega
theorem i64in (x:Int):wf64 (i64.wrap x):=by
 unfold wf64;simp only [IntKind.wrap,IntKind.bits,IntKind.signed];simp;omega
def qu7 (v:Int):Int:=q0d .xor .u64 (u64.wrap ((u64.wrap v)*2 ^ (min (Int.toNat 1) (u64.bits)))) (u64.wrap (Int.fdiv v (2 ^ (min (Int.toNat 63) (i64.bits)))))
def qgu (u:Int):Int:=q0d .xor .i64 (i64.wrap (Int.fdiv u (2 ^ (min (Int.toNat 1) (u64.bits))))) (i64.wrap (0 - (i64.wrap (q0d .and .u64 u 1))))
theorem qwk (v:Int):0≤qu7 v∧qu7 v < 18446744073709551616:=z2p _
theorem q9l (u:Int):wf64 (qgu u):=i64in _
def turnN (v:Int):Nat:=(qu7 v).toNat
theorem qoy (v:Int):(turnN v:Int)=qu7 v:=z7y (qwk v).1
theorem qfl (v:Int):turnN v < 18446744073709551616:=by have h1:=qoy v; have h2:=qwk v; omega
def q2r (l:List Nat):List Int:=l.flatMap q1x
def q2y (l:List Int):List Int:=l.flatMap fun v=>q1x (turnN v)
def q38 (s:ByteArray):List Int:=q1x s.size++q35 s
def q1i (l:List ByteArray):List Int:=l.flatMap q38
theorem q0a {a b:List Int}(ha:q04 a)(hb:q04 b):q04 (a++b):=fun x hx=>(z6g.1 hx).elim (ha x) (hb x)
theorem q19 {α:Type}{f:α→List Int}{l:List α}(h:∀x∈l,q04 (f x)):q04 (l.flatMap f):=fun x hx=>by
 obtain⟨y,hy,hx⟩:=List.mem_flatMap.1 hx;exact h y hy x hx
theorem q3e:q04 []:=fun x hx=>by cases hx
theorem qby (l:List Nat):q04 (q2r l):=q19 fun _ _=>q87 _
theorem q8i (l:List Int):q04 (q2y l):=q19 fun _ _=>q87 _
theorem q8j (s:ByteArray):q04 (q38 s):=q0a (q87 _) (z1r s)
theorem qrf (l:List ByteArray):q04 (q1i l):=q19 fun _ _=>q8j _
theorem q9m:∀{l:List Nat},(∀u∈l,u < 18446744073709551616)→(q2r l).length≤10*l.length
 | [],_=>by simp [q2r]
 | u::r,h=>by
  have h1:=Go.Proofs.YtfmkddccnjidmaaGreatDoor.uintB_len10 (h u z5i);have h2:=q9m (l:=r) fun x hx=>h x (z5j _ hx)
  simp only [q2r,z6a,z51,z59] at h2 ⊢;omega
theorem q4p:∀(l:List Int),(q2y l).length≤10*l.length
 | []=>by simp [q2y]
 | v::r=>by
  have h1:=Go.Proofs.YtfmkddccnjidmaaGreatDoor.uintB_len10 (qfl v);have h2:=q4p r;simp only [q2y,z6a,z51,z59] at h2 ⊢;omega
theorem q44 {s:ByteArray}(h:s.size < 18446744073709551616):(q38 s).length≤10+s.size:=by
 have:=Go.Proofs.YtfmkddccnjidmaaGreatDoor.uintB_len10 h;rw [q38,z51,q5i];omega
theorem q1a {α β:Type}{f:α→List β}{l:List α}{i:Nat}(h:i < l.length):(l.take (i+1)).flatMap f=(l.take i).flatMap f++f l[i]:=by
 rw [List.take_add_one,List.getElem?_eq_getElem h,z7z];simp
def uRes (s:RS):Nat × RS:=if s.e≠0 then (0,s) else match rdU 0 0 s.bs with
 | .ok u n=>(u,⟨0,s.bs.drop n⟩)
 | .form=>(0,⟨10,s.bs⟩)
 | .ended=>(0,⟨15,s.bs⟩)
def iRes (s:RS):Int × RS:=(qgu (uRes s).1,(uRes s).2)
def q2f (s:RS):RS:=if s.bs=[] then s else if s.e≠0 then s else ⟨10,s.bs⟩
theorem qin {bs:List Int}(n:Nat)(h:q04 bs):q04 (bs.drop n):=fun x hx=>h x (z7c hx)
theorem q10 {s:RS}(h:q04 s.bs):q04 (uRes s).2.bs:=by
 unfold uRes
 split
 ·exact h
 ·split
  ·exact qin _ h
  ·exact h
  ·exact h
theorem q5o (s:RS):(uRes s).2.bs.length≤s.bs.length:=by
 unfold uRes
 split
 ·exact z5c _
 ·split
  ·simp only [z5u]; omega
  ·exact z5c _
  ·exact z5c _
theorem qu8 {s:RS}(h:q04 s.bs):(uRes s).1 < 18446744073709551616:=by
 unfold uRes
 split
 ·exact z7l rfl
 ·split
  ·rename_i u n hu; exact (rdU_size h hu).2.2
  ·exact z7l rfl
  ·exact z7l rfl
theorem q9n {s:RS}{m:Int}(h:q04 s.bs):q04 (cRes m s).2.bs:=by
 unfold cRes
 split
 ·exact h
 ·split
  ·split
   ·exact h
   ·exact qin _ h
  ·exact h
  ·exact h
theorem qfm (s:RS)(m:Int):(cRes m s).2.bs.length≤s.bs.length:=by
 unfold cRes
 split
 ·exact z5c _
 ·split
  ·split
   ·exact z5c _
   ·simp only [z5u]; omega
  ·exact z5c _
  ·exact z5c _
theorem q39 {s:RS}{m:Int}(h:q04 s.bs):q04 (tRes m s).2.bs∧q04 (tRes m s).1:=by
 unfold tRes
 split
 ·exact⟨h,q3e⟩
 ·split
  ·split
   ·exact⟨h,q3e⟩
   ·split
    ·exact⟨h,q3e⟩
    ·exact⟨qin _ h,fun x hx=>qin _ h x (z7j hx)⟩
  ·exact⟨h,q3e⟩
  ·exact⟨h,q3e⟩
theorem q5p (s:RS)(m:Int):(tRes m s).2.bs.length≤s.bs.length∧(tRes m s).1.length≤s.bs.length:=by
 unfold tRes
 split
 ·exact⟨z5c _,z5s _⟩
 ·split
  ·split
   ·exact⟨z5c _,z5s _⟩
   ·split
    ·exact⟨z5c _,z5s _⟩
    ·simp only [z5u,z5n]; omega
  ·exact⟨z5c _,z5s _⟩
  ·exact⟨z5c _,z5s _⟩
end Go.Nm
namespace Go.Proofs.YtfmkddccnjidmaaGreatDoor
open Go.Nm
section
variable {F L:List Assn} {H:Heap} {K:Value→Heap→Prop}
theorem z2q {v:Int}:q1o Tryz.prog 119 #[.int .i64 v] H (.int .u64 (qu7 v)):=by
 refine qf2.call ?_;unfold qf2.code;exact⟨by decide,by decide,rfl,rfl⟩
theorem qu9 {u:Int}:q1o Tryz.prog 167 #[.int .u64 u] H (.int .i64 (qgu u)):=by
 refine qa2.call ?_;unfold qa2.code;exact⟨by decide,rfl,rfl⟩
theorem q6t {a:Option Addr}{c:Nat}{us:List Nat}(h:SatL H F)(ha:∀H,SatL H F→rdS H a (us.map fun u=>.int .u64 (u:Nat)))(hu:∀u∈us,u < 18446744073709551616)(hl:us.length≤1000000)
  (k:∀a' c' H',SatL H' (slA 5 1 a' (q2r us).length c' ((q2r us).map U8)::F)→K (.slice a' (q2r us).length c') H') :
  CF 117 #[.slice a us.length c] H K:=by
 refine q6c.call ?_;unfold q6c.code;refine⟨fun a' n' c' i H'=>∃j:Nat,i=j∧j≤us.length∧n'=(q2r (us.take j)).length∧SatL H' (slA 5 1 a' (q2r (us.take j)).length c' ((q2r (us.take j)).map U8)::F),fun _ _ _ i _=>us.length - i.toNat,
  ⟨0,rfl,z5s _,rfl,h.sl_nil 5 1⟩,?_⟩
 rintro a1 n1 c1 i H1 ⟨j,rfl,hj,rfl,h1⟩;unfold q6c.l1;refine⟨fun hc=>?_,fun hc=>?_⟩
 ·have hlt:j < us.length:=by simpa using hc
  have hr:=(ha _ h1.tl).at hlt;refine⟨⟨by omega,by omega⟩,_,_,hr.1,us[j],hr.2,?_⟩;have hw:i64.wrap ((j:Int)+1)=((j+1:Nat):Int):=by rw [w64 (by omega) (by omega)]; omega
  have e:q2r (us.take (j+1))=q2r (us.take j)++q1x us[j]:=q1a hlt;have hb:(q2r (us.take j)).length≤1099511627776:=by
   have:=q9m (l:=us.take j) fun u hu'=>hu u (z7j hu')
   rw [z5n] at this;omega
  rw [hw];refine qok h1 hb (hu _ (z5e hlt)) fun a' c' H' h3=>⟨_,_,_,rfl,⟨j+1,rfl,hlt,by rw [e],?_⟩,by simp only [z5a]; omega⟩
  rw [e]; exact h3
 ·have hge:us.length≤j:=by simpa using hc
  have e:us.take j=us:=z5o hge;rw [e] at h1 ⊢;exact k _ _ _ h1
theorem qrg {a:Option Addr}{c:Nat}{vs:List Int}(h:SatL H F)(ha:∀H,SatL H F→rdS H a (vs.map fun v=>.int .i64 v))(hl:vs.length≤1000000)
  (k:∀a' c' H',SatL H' (slA 5 1 a' (q2y vs).length c' ((q2y vs).map U8)::F)→K (.slice a' (q2y vs).length c') H') :
  CF 59 #[.slice a vs.length c] H K:=by
 refine q85.call ?_;unfold q85.code;refine⟨fun a' n' c' i H'=>∃j:Nat,i=j∧j≤vs.length∧n'=(q2y (vs.take j)).length∧SatL H' (slA 5 1 a' (q2y (vs.take j)).length c' ((q2y (vs.take j)).map U8)::F),fun _ _ _ i _=>vs.length - i.toNat,
  ⟨0,rfl,z5s _,rfl,h.sl_nil 5 1⟩,?_⟩
 rintro a1 n1 c1 i H1 ⟨j,rfl,hj,rfl,h1⟩;unfold q85.l1;refine⟨fun hc=>?_,fun hc=>?_⟩
 ·have hlt:j < vs.length:=by simpa using hc
  have hr:=(ha _ h1.tl).at hlt;refine⟨⟨by omega,by omega⟩,_,_,hr.1,vs[j],hr.2,_,z2q,?_⟩;have hw:i64.wrap ((j:Int)+1)=((j+1:Nat):Int):=by rw [w64 (by omega) (by omega)]; omega
  have e:q2y (vs.take (j+1))=q2y (vs.take j)++q1x (turnN vs[j]):=q1a hlt;have hb:(q2y (vs.take j)).length≤1099511627776:=by
   have:=q4p (vs.take j);rw [z5n] at this;omega
  rw [hw,← qoy];refine qok h1 hb (qfl _) fun a' c' H' h3=>⟨_,_,_,rfl,⟨j+1,rfl,hlt,by rw [e],?_⟩,by simp only [z5a]; omega⟩
  rw [e]; exact h3
 ·have hge:vs.length≤j:=by simpa using hc
  have e:vs.take j=vs:=z5o hge;rw [e] at h1 ⊢;exact k _ _ _ h1
theorem qd2 {a:Option Addr}{c:Nat}{ts:List ByteArray}(h:SatL H F)(ha:∀H,SatL H F→rdS H a (ts.map fun s=>.string s))(hs:∀i,(q1i (ts.take i)).length≤1000000000)(hz:∀s∈ts,s.size≤1000000000)(hl:ts.length≤1000000)
  (k:∀a' c' H',SatL H' (slA 5 1 a' (q1i ts).length c' ((q1i ts).map U8)::F)→K (.slice a' (q1i ts).length c') H') :
  CF 132 #[.slice a ts.length c] H K:=by
 refine q69.call ?_;unfold q69.code;refine⟨fun a' n' c' i H'=>∃j:Nat,i=j∧j≤ts.length∧n'=(q1i (ts.take j)).length∧SatL H' (slA 5 1 a' (q1i (ts.take j)).length c' ((q1i (ts.take j)).map U8)::F),fun _ _ _ i _=>ts.length - i.toNat,
  ⟨0,rfl,z5s _,rfl,h.sl_nil 5 1⟩,?_⟩
 rintro a1 n1 c1 i H1 ⟨j,rfl,hj,rfl,h1⟩;unfold q69.l1;refine⟨fun hc=>?_,fun hc=>?_⟩
 ·have hlt:j < ts.length:=by simpa using hc
  have hr:=(ha _ h1.tl).at hlt;have hsz:=hz _ (z5e hlt);refine⟨⟨by omega,by omega⟩,_,_,hr.1,ts[j],hr.2,?_⟩;have hw:i64.wrap ((j:Int)+1)=((j+1:Nat):Int):=by rw [w64 (by omega) (by omega)]; omega
  have hw2:u64.wrap ((ts[j].size:Nat):Int)=((ts[j].size:Nat):Int):=u64w (by omega) (by omega);have e:q1i (ts.take (j+1))=(q1i (ts.take j)++q1x ts[j].size)++q35 ts[j]:=by
   rw [z5d];exact q1a (f:=q38) hlt
  have hb:=hs j;have hu10:=uintB_len10 (u:=ts[j].size) (by omega);rw [hw,hw2];refine qok h1 (by omega) (by omega) fun a' c' H' h3=>⟨_,_,_,rfl,?_⟩
  refine h3.appendS sl32 (ts:=9) (by kernel_rfl) 0 rfl (by rw [z51]; omega) (by rw [z51]; omega) fun a2 c2 H4 h4=>⟨_,_,_,rfl,⟨j+1,rfl,hlt,?_,?_⟩,by simp only [z5a]; omega⟩
  ·rw [e,z51 (bs:=q35 ts[j]),q5i]
  ·rw [e,z51 (bs:=q35 ts[j]),q5i,z5v (l₂:=q35 ts[j])];exact h4
 ·have hge:ts.length≤j:=by simpa using hc
  have e:ts.take j=ts:=z5o hge;rw [e] at h1 ⊢;exact k _ _ _ h1
theorem q8k {b:Nat}{s:RS}(h:SatL H (crdA b s::F))(hb:q04 s.bs)(hl:s.bs.length≤1099511627776)
  (k:∀H',SatL H' (crdA b (uRes s).2::F)→K (.int .u64 ((uRes s).1:Nat)) H') :
  CF 114 #[.pointer (some ⟨b,0,none⟩)] H K:=by
 obtain⟨e,bs⟩:=s;dsimp only at hb hl;obtain⟨a,c,h⟩:=q1y.1 h;dsimp only at h;have hr:=h.sl_rd 1 rfl;have hn:=h.sl_nc 1 rfl;refine q4s.call ?_;unfold q4s.code;have hq:=qmg (c:=c) hr hb hl
 by_cases he:e=0
 ·subst he
  cases hu:rdU 0 0 bs with
  | ok u n=>
   obtain⟨h1,h2,h3⟩:=rdU_size hb hu;rw [hu] at hq;unfold firV at hq;dsimp only at hq;refine⟨_,_,_,h.rd 0 rfl _,_,_,_,hq,?_⟩;have ec:uRes ⟨0,bs⟩=(u,⟨0,bs.drop n⟩):=by unfold uRes; simp [hu]
   rw [ec] at k;refine qts h h2 hn fun H' h'=>⟨_,rfl,(fun hf=>by cases hf),fun _=>k _ ?_⟩
   have h4:=h'.sl_drop 1 rfl n h2;rw [z6w,← List.map_drop] at h4;refine q1y.2 ⟨slB a n c 1,c - n,?_⟩;dsimp only;rw [z5u];exact h4
  | form=>
   rw [hu] at hq;have ec:uRes ⟨0,bs⟩=(0,⟨10,bs⟩):=by unfold uRes; simp [hu]
   rw [ec] at k;refine⟨_,_,_,h.rd 0 rfl _,_,_,_,hq,?_⟩;exact q6y h (by decide) fun H' h'=>⟨_,rfl,fun _=>k _ (q1y.2 ⟨_,_,h'⟩),fun hf=>by cases hf⟩
  | ended=>
   rw [hu] at hq;have ec:uRes ⟨0,bs⟩=(0,⟨15,bs⟩):=by unfold uRes; simp [hu]
   rw [ec] at k;refine⟨_,_,_,h.rd 0 rfl _,_,_,_,hq,?_⟩;exact q6y h (by decide) fun H' h'=>⟨_,rfl,fun _=>k _ (q1y.2 ⟨_,_,h'⟩),fun hf=>by cases hf⟩
 ·have ec:uRes ⟨e,bs⟩=(0,⟨e,bs⟩):=by unfold uRes; simp [he]
  rw [ec] at k;have hv:∃r r1 r2:Int,firV (rdU 0 0 bs)=.tuple #[.int .u64 r,.int .i64 r1,.int .i64 r2]:=by
   unfold firV
   split <;> exact⟨_,_,_,rfl⟩
  obtain⟨r,r1,r2,hv⟩:=hv;rw [hv] at hq;refine⟨_,_,_,h.rd 0 rfl _,_,_,_,hq,?_⟩;exact qi8 h he ⟨_,rfl,fun _=>k _ (q1y.2 ⟨_,_,h⟩),fun hf=>by cases hf⟩
theorem qoz {b:Nat}{s:RS}(h:SatL H (crdA b s::F))(hb:q04 s.bs)(hl:s.bs.length≤1099511627776)
  (k:∀H',SatL H' (crdA b (iRes s).2::F)→K (.int .i64 (iRes s).1) H') :
  CF 101 #[.pointer (some ⟨b,0,none⟩)] H K:=by
 refine q5m.call ?_;unfold q5m.code;exact q8k h hb hl fun H' h'=>⟨_,rfl,_,qu9,k _ h'⟩
theorem qp0 {b:Nat}{s:RS}(h:SatL H (crdA b s::F))
  (k:∀H',SatL H' (crdA b (q2f s)::F)→K (.int .i64 (q2f s).e) H') :
  CF 50 #[.pointer (some ⟨b,0,none⟩)] H K:=by
 obtain⟨e,bs⟩:=s;obtain⟨a,c,h⟩:=q1y.1 h;dsimp only at h;refine q11.call ?_;unfold q11.code;refine⟨_,_,_,h.rd 0 rfl _,fun Jn hJ=>⟨fun hc=>?_,fun hc=>?_⟩⟩
 ·have hne:bs≠[]:=by
   rintro rfl
   cases hc
  by_cases he:e=0
  ·subst he;have ec:q2f ⟨0,bs⟩=⟨10,bs⟩:=by unfold q2f; simp [hne]
   rw [ec] at k;refine q6y h (by decide) fun H' h'=>⟨_,rfl,hJ _ ?_⟩
   unfold q11.r1;exact⟨_,h'.rd 0 rfl _,k _ (q1y.2 ⟨_,_,h'⟩)⟩
  ·have ec:q2f ⟨e,bs⟩=⟨e,bs⟩:=by unfold q2f; simp [hne,he]
   rw [ec] at k;refine qi8 h he ⟨_,rfl,hJ _ ?_⟩;unfold q11.r1;exact⟨_,h.rd 0 rfl _,k _ (q1y.2 ⟨_,_,h⟩)⟩
 ·have he:bs=[]:=by
   cases bs with
   | nil=>rfl
   | cons x r=>exfalso; simp at hc
  have ec:q2f ⟨e,bs⟩=⟨e,bs⟩:=by unfold q2f; simp [he]
  rw [ec] at k;refine hJ _ ?_;unfold q11.r1;exact⟨_,h.rd 0 rfl _,k _ (q1y.2 ⟨_,_,h⟩)⟩
end
end Go.Proofs.YtfmkddccnjidmaaGreatDoor
namespace Go.Nm
def wNat (z:Int)(p:Nat):Nat:=if p < 8 then (whi z % B64).toNat / 2 ^ (8*(7 - p)) % 256 else (wlo z).toNat / 2 ^ (8*(15 - p)) % 256
def q4j (z:Int):List Int:=(List.range 16).map fun p=>(wNat z p:Int)
def q9o (z:Int)(t:Nat):List Int:=(List.range 16).map fun p=>if (p≤7∧7 < p+t)∨(8≤p∧15 < p+t) then (wNat z p:Int) else 0
theorem z2r (z:Int)(t:Nat):(q9o z t).length=16:=by simp [q9o]
theorem q9p (z:Int):(q4j z).length=16:=by simp [q4j]
theorem qua (z:Int):q04 (q4j z):=by
 intro x hx;obtain⟨p,_,rfl⟩:=z5b.1 hx;unfold wNat
 split <;> omega
theorem qzd (z:Int):q9o z 0=List.replicate 16 0:=by
 refine z6n (by simp [q9o]) fun i h1 h2=>?_
 have:i < 16:=by simpa [q9o] using h1
 simp only [q9o,z6o,z80,List.getElem_replicate];rw [if_neg (by omega)]
theorem z2s (z:Int):q9o z 8=q4j z:=by
 refine z6n (by simp [q9o,q4j]) fun i h1 h2=>?_
 have:i < 16:=by simpa [q9o] using h1
 simp only [q9o,q4j,z6o,z80];rw [if_pos (by omega)]
theorem qze (z:Int){t:Nat}(ht:t < 8):((q9o z t).set (7 - t) (wNat z (7 - t):Int)).set (15 - t) (wNat z (15 - t):Int)=q9o z (t+1):=by
 refine z6n (by simp [q9o]) fun i h1 h2=>?_
 have hi:i < 16:=by simpa [q9o] using h1
 simp only [List.getElem_set,q9o,z6o,z80]
 by_cases e1:15 - t=i
 ·rw [if_pos e1,if_pos (by omega),e1]
 ·rw [if_neg e1]
  by_cases e2:7 - t=i
  ·rw [if_pos e2,if_pos (by omega),e2]
  ·rw [if_neg e2]
   by_cases e3:(i≤7∧7 < i+t)∨(8≤i∧15 < i+t)
   ·rw [if_pos e3,if_pos (by omega)]
   ·rw [if_neg e3,if_neg (by omega)]
def accB (l:List Int):Nat:=l.foldl (fun a b=>a*256 % 18446744073709551616+b.toNat) 0
theorem qam (l:List Int)(b:Int):accB (l++[b])=accB l*256 % 18446744073709551616+b.toNat:=by unfold accB; rw [z7k]; rfl
theorem z2t {l:List Int}(h:q04 l):accB l < 18446744073709551616:=by
 rcases List.eq_nil_or_concat l with rfl|⟨r,b,rfl⟩
 ·exact z7l rfl
 ·rw [List.concat_eq_append] at h ⊢;rw [qam];have:=h b (by simp);omega
def q7c (bs:List Int):Int:=i64.wrap (accB (bs.take 8):Nat)*B64+(accB (bs.drop 8):Nat)
theorem qwl {a:Nat}{b:Int}(h0:0≤b)(h1:b < 256):q0d .or .u64 (u64.wrap ((a:Int)*2 ^ (min (Int.toNat 8) (u64.bits)))) (u64.wrap b)=((a*256 % 18446744073709551616+b.toNat:Nat):Int):=by
 have e1:u64.wrap ((a:Int)*2 ^ (min (Int.toNat 8) (u64.bits)))=((a*256 % 18446744073709551616:Nat):Int):=by
  show u64.wrap ((a:Int)*256)=_;rw [u64e]; omega
 have e2:u64.wrap b=((b.toNat:Nat):Int):=by rw [u64e]; omega
 rw [e1,e2,or64 (by omega) (by omega)];congr 1;have hq:a*256 % 18446744073709551616=2 ^ 8*(a % 72057594037927936):=by omega
 rw [hq];exact (Nat.two_pow_add_eq_or_of_lt (by show b.toNat < 256; omega) _).symm
theorem qzf {bs:List Int}(h:q04 bs):whi (q7c bs)=i64.wrap (accB (bs.take 8):Nat)∧wlo (q7c bs)=(accB (bs.drop 8):Nat):=by
 have h1:=z2t (l:=bs.drop 8) fun x hx=>h x (z7c hx)
 unfold q7c whi wlo B64;generalize i64.wrap _=q;omega
theorem qrh (bs:List Int)(h:q04 bs):q8d (q7c bs):=by
 have h1:=z2t (l:=bs.drop 8) fun x hx=>h x (z7c hx)
 have h2:wf64 (i64.wrap (accB (bs.take 8):Nat)):=qtm _;unfold wf64 at h2;unfold q7c q8d B64;omega
end Go.Nm
namespace Go.Proofs.YtfmkddccnjidmaaGreatDoor
open Go.Nm
section
variable {F L:List Assn} {H:Heap} {K:Value→Heap→Prop}
theorem z2u {x:Int}(h0:0≤x){t:Nat}(ht:t < 8):u8.wrap (Int.fdiv x (2 ^ (min (Int.toNat (i64.wrap (8*(t:Int)))) (u64.bits))))=((x.toNat / 2 ^ (8*t) % 256:Nat):Int):=by
 rw [w64 (x:=8*(t:Int)) (by omega) (by omega)];have e1:min (Int.toNat (8*(t:Int))) u64.bits=8*t:=by show min _ 64=_; omega
 obtain⟨n,rfl⟩:∃n:Nat,x=n:=⟨x.toNat,by omega⟩;rw [e1,qye,u8_of,z5a]
theorem qub {z:Int}(hz:q8d z)(h:SatL H F)(k:∀a c H',SatL H' (slA 5 1 a 16 c ((q4j z).map U8)::F)→K (.slice a 16 c) H') :
  CF 184 #[aggW z] H K:=by
 refine q6e.call ?_;unfold q6e.code;refine h.al fun b _ h=>?_
 refine SatL.mk1 (c:=16) sl32 (z0:=U8 0) (by kernel_rfl) rfl h (by decide) (by decide) fun a H1 h=>⟨_,_,_,rfl,?_⟩
 have e0:List.replicate 16 (U8 0)=(q9o z 0).map U8:=by rw [qzd]; rfl
 rw [e0] at h;refine⟨fun i H'=>∃t:Nat,i=t∧t≤8∧SatL H' (slA 5 1 a 16 16 ((q9o z t).map U8)::cellsA b [I64 (whi z),.int .u64 (wlo z)] 58::F),fun i _=>8 - i.toNat,⟨0,rfl,by omega,h⟩,?_⟩
 rintro i H2 ⟨t,rfl,ht,h⟩;unfold q6e.l1;refine⟨fun hc=>?_,fun hc=>?_⟩
 ·have hlt:t < 8:=by have:=z4z hc; omega
  have hl16:((q9o z t).map U8).length=16:=by rw [z5q,z2r]
  have e7:i64.wrap (7 - (t:Int))=((7 - t:Nat):Int):=by rw [w64 (by omega) (by omega)]; omega
  have e15:i64.wrap (15 - (t:Int))=((15 - t:Nat):Int):=by rw [w64 (by omega) (by omega)]; omega
  have e8:i64.wrap (8*(t:Int))=8*(t:Int):=w64 (by omega) (by omega);have eu:u64.wrap (whi z)=whi z % B64:=u64e _;have hm:0≤whi z % B64:=by unfold B64; omega
  have q1:(whi z % B64).toNat / 2 ^ (8*t) % 256=wNat z (7 - t):=by unfold wNat; rw [if_pos (by omega),show 7 - (7 - t)=t by omega]
  have q2:(wlo z).toNat / 2 ^ (8*t) % 256=wNat z (15 - t):=by unfold wNat; rw [if_neg (by omega),show 15 - (15 - t)=t by omega]
  refine⟨_,h.rd 1 rfl _,by rw [e8]; omega,?_⟩;rw [eu,z2u hm hlt,q1,e7,e15];obtain⟨s1,s2,s3⟩:=h.sl_set 0 rfl (7 - t) [U8 (wNat z (7 - t))] (by rw [hl16]; simp; omega) (by simp);refine⟨⟨by omega,by omega⟩,_,_,s1,?_⟩;rw [z5a];refine⟨s2,?_⟩;rintro H3 rfl;have h:=s3;refine⟨_,h.rd 1 rfl _,by rw [e8]; omega,⟨by omega,by omega⟩,_,_,s1,?_⟩;rw [z5a,z2u (q79 z).1 hlt,q2];obtain⟨_,t2,t3⟩:=h.sl_set 0 rfl (15 - t) [U8 (wNat z (15 - t))] (by rw [q76,hl16]; show 15 - t+1≤16; omega) (by simp);refine⟨t2,?_⟩;rintro H4 rfl;rw [show i64.wrap ((t:Int)+1)=((t+1:Nat):Int) by rw [w64 (by omega) (by omega)]; omega];refine⟨⟨t+1,rfl,hlt,?_⟩,by simp only [z5a]; omega⟩;have es:q2h (q2h ((q9o z t).map U8) (7 - t) [U8 (wNat z (7 - t))]) (15 - t) [U8 (wNat z (15 - t))]=(q9o z (t+1)).map U8:=by
   rw [← qze z hlt,List.map_set,List.map_set]; rfl
  rw [← es];exact t3
 ·have:t=8:=by have:=z54 hc; omega
  subst this;rw [z2s] at h;exact k _ _ _ (h.o [0] 2)
theorem qzg {a:Option Addr}{c n:Nat}{bs:List Int}(hn:bs.length=n)(hb:q04 bs)(h:SatL H F)(ha:∀H,SatL H F→rdS H a (bs.map U8))(hl:n≤1000000000)
  (k1:n≠16→∀H',SatL H' F→K (.tuple #[aggW 0,.bool false]) H')
  (k2:n=16→∀H',SatL H' F→K (.tuple #[aggW (q7c bs),.bool true]) H'):CF 173 #[.slice a n c] H K:=by
 subst hn;refine q89.call ?_;unfold q89.code;refine h.al fun b _ h=>⟨fun hc=>?_,fun hc=>?_⟩
 ·have hne:bs.length≠16:=by
   intro e;rw [e] at hc;simp at hc
  refine h.sta 0 rfl rfl fun H1 h=>⟨_,_,h.rda 0 rfl,k1 hne _ h.tl⟩
 ·have he:bs.length=16:=by simp at hc; omega
  refine⟨fun hi lo i H'=>∃t:Nat,i=t∧t≤8∧hi=(accB (bs.take t):Nat)∧lo=(accB ((bs.drop 8).take t):Nat)∧SatL H' (cellsA b [I64 0,.int .u64 0] 58::F),fun _ _ i _=>8 - i.toNat,⟨0,rfl,by omega,rfl,rfl,h⟩,?_⟩
  rintro hi lo i H2 ⟨t,rfl,ht,rfl,rfl,h⟩;unfold q89.l1;refine⟨fun hc2=>?_,fun hc2=>?_⟩
  ·have hlt:t < 8:=by have:=z4z hc2; omega
   have e8:i64.wrap (8+(t:Int))=((8+t:Nat):Int):=by rw [w64 (by omega) (by omega)]; omega
   have r1:=(ha _ h.tl).at (j:=t) (by omega);have r2:=(ha _ h.tl).at (j:=8+t) (by omega);have b1:=hb _ (z5e (show t < bs.length by omega));have b2:=hb _ (z5e (show 8+t < bs.length by omega));rw [e8];refine⟨by decide,⟨by omega,by omega⟩,_,_,r1.1,_,r1.2,by decide,⟨by omega,by omega⟩,_,_,r2.1,_,r2.2,?_⟩;rw [qwl b1.1 b1.2,qwl b2.1 b2.2];rw [show i64.wrap ((t:Int)+1)=((t+1:Nat):Int) by rw [w64 (by omega) (by omega)]; omega];refine⟨⟨t+1,rfl,hlt,?_,?_,h⟩,by simp only [z5a]; omega⟩
   ·rw [z6d (by omega),qam]
   ·have hd:t < (bs.drop 8).length:=by rw [z5u]; omega
    rw [z6d hd,qam,List.getElem_drop]
  ·have:t=8:=by have:=z54 hc2; omega
   subst this;have e2:(bs.drop 8).take 8=bs.drop 8:=z5o (by rw [z5u]; omega);rw [e2];obtain⟨w1,w2⟩:=qzf hb;rw [← w1,← w2];refine h.sta 0 rfl rfl fun H1 h=>⟨_,_,h.rda 0 rfl,k2 he _ h.tl⟩
end
end Go.Proofs.YtfmkddccnjidmaaGreatDoor
namespace Go.Nm
def q99 (h:Nat→Int)(n:Nat):List Nat:=(List.range n).flatMap fun i=>if h i=0 then [] else [i,(h i).toNat]
theorem qgv (h:Nat→Int)(n:Nat):q99 h (n+1)=q99 h n++(if h n=0 then [] else [n,(h n).toNat]):=by
 unfold q99;rw [List.range_succ,z7z];simp
theorem qfn (h:Nat→Int):∀n,(q99 h n).length≤2*n
 | 0=>by simp [q99]
 | n+1=>by
  rw [qgv,z51];have:=qfn h n
  split
  ·simp only [z5t]; omega
  ·simp only [z59,z5t]; omega
theorem qwm {h:Nat→Int}(hh:wfH h)(n:Nat)(hn:n≤65):∀u∈q99 h n,u < 18446744073709551616:=by
 intro u hu;obtain⟨i,hi,hu⟩:=List.mem_flatMap.1 hu;have hi:=z6q.1 hi;have:=hh i (by omega);unfold wf64 at this
 split at hu
 ·cases hu
 ·rcases z5l.1 hu with rfl|hu
  ·omega
  ·rw [z60] at hu;omega
def q3q (c:Cl):List Int:=if q43 c then q2r [c.n.toNat,c.cer.toNat,c.pos.toNat]++q2y [c.mn,c.mx]++q38 (strB (q4j c.sum))++q2r [(q99 c.h 65).length / 2]++q2r (q99 c.h 65) else []
theorem qgw {c:Cl}(h:q43 c=true):0≤c.n∧0≤c.cer∧0≤c.pos∧(∀i,i < 65→0≤c.h i):=by
 unfold q43 at h;simp only [z56,z5k,z5g,z58] at h;obtain⟨⟨⟨⟨⟨⟨h1,h2⟩,h3⟩,h4⟩,h5⟩,h6⟩,h7⟩:=h;exact⟨by omega,by omega,by omega,q6n.1 h5⟩
theorem quc (c:Cl):q04 (q3q c):=by
 unfold q3q
 split
 ·exact q0a (q0a (q0a (q0a (qby _) (q8i _)) (q8j _)) (qby _)) (qby _)
 ·exact q3e
theorem q4q (l:List Int):(strB l).size=l.length:=Go.strOfNums_size l
theorem qfo {c:Cl}(wc:WC c):(q3q c).length≤5000:=by
 unfold q3q
 split
 ·rename_i hr;obtain⟨p1,p2,p3,p4⟩:=qgw hr;have hn:=wc.n; have hc:=wc.cer; have hp:=wc.pos;unfold wf64 at hn hc hp;have l1:(q2r [c.n.toNat,c.cer.toNat,c.pos.toNat]).length≤30:=q9m (by
   intro u hu;simp only [z5l,z7r,or_false] at hu;omega)
  have l2:=q4p [c.mn,c.mx];have l3:(q38 (strB (q4j c.sum))).length≤26:=by
   have:=q44 (s:=strB (q4j c.sum)) (by rw [q4q,q9p]; decide);rw [q4q,q9p] at this;omega
  have hfl:=qfn c.h 65;have l4:(q2r [(q99 c.h 65).length / 2]).length≤10:=q9m (by
   intro u hu;simp only [z5l,z7r,or_false] at hu;omega)
  have l5:=q9m (qwm wc.h 65 (z5c _));simp only [z51,z59,z5t] at *;omega
 ·simp
end Go.Nm
namespace Go.Proofs.YtfmkddccnjidmaaGreatDoor
open Go.Nm
theorem sl285:SlT Tryz.prog 285 56 1 8:=qbf (by kernel_rfl)
abbrev U64 (n:Nat):Value:=.int .u64 (n:Int)
section
variable {F L:List Assn} {H:Heap} {K:Value→Heap→Prop}
theorem qwn {v:Int}(h0:0≤v)(h:wf64 v):u64.wrap v=((v.toNat:Nat):Int):=by unfold wf64 at h; rw [u64e]; omega
theorem appB {a a2:Option Addr}{n c m c2 i:Nat}{x y:List Int}(h:SatL H L)(hA:nth i L=slA 5 1 a n c (x.map U8))(hn:n=x.length)(hm:y.length=m)(hw:rdS H a2 (y.map U8))(hl:x.length+y.length≤1000000000)
  (k:∀a' c' H',SatL H' (put i (slA 5 1 a' (x++y).length c' ((x++y).map U8)) L)→K (.slice a' (x++y).length c') H') :
  RunW Tryz.prog (Builtin.append_ #[24,24] 24 #[.slice a n c,.slice a2 m c2]) H K:=by
 subst hn hm;refine h.append sl32 i hA hw (by simp) (qmd _ _) (by omega) (by omega) fun a' c' H' h=>?_
 have:=k a' c' H';rw [z51,z5v] at this;exact this h
set_option maxHeartbeats 1000000 in
theorem qud {c:Cl}(wc:WC c)(h:SatL H F)
  (k:∀a c' H',SatL H' (slA 5 1 a (q3q c).length c' ((q3q c).map U8)::F)→K (.slice a (q3q c).length c') H') :
  CF 133 #[aggC c] H K:=by
 refine q6f.call ?_;unfold q6f.code;have hcl:=qfo wc;unfold q3q at k hcl;refine h.al fun b _ h=>⟨_,_,_,_,_,_,_,_,h.rda 0 rfl,?_⟩
 refine q8e wc h fun H1 h=>⟨_,rfl,fun hc=>?_,fun hc=>?_⟩
 ·rw [if_neg (by simpa using hc)] at k;exact k none 0 _ (h.tl.sl_nil 5 1)
 have hr:q43 c=true:=by simpa using hc
 rw [if_pos hr] at k hcl;obtain⟨p1,p2,p3,p4⟩:=qgw hr;simp only [z51] at hcl;have hn:=wc.n; have hce:=wc.cer; have hpo:=wc.pos;refine⟨_,h.rd 0 rfl _,_,h.rd 0 rfl _,_,h.rd 0 rfl _,?_⟩;rw [qwn p1 hn,qwn p2 hce,qwn p3 hpo];unfold wf64 at hn hce hpo;refine h.al fun b1 _ h=>?_
 refine q6t (us:=[c.n.toNat,c.cer.toNat,c.pos.toNat]) h (fun H h=>h.ce_rd 0 rfl) (by
   intro u hu;simp only [z5l,z7r,or_false] at hu;omega) (by simp) fun a1 c1 H3 h=>⟨_,_,_,rfl,?_⟩
 refine⟨_,h.rd 2 rfl _,_,h.rd 2 rfl _,?_⟩;refine h.al fun b2 _ h=>?_
 refine qrg (vs:=[c.mn,c.mx]) h (fun H h=>h.ce_rd 0 rfl) (by simp) fun a2 c2 H5 h=>⟨_,_,_,rfl,?_⟩
 refine appB h (i:=2) rfl rfl rfl (h.sl_rd 0 rfl) (by omega) fun a3 c3 H6 h=>⟨_,_,_,rfl,?_⟩
 refine⟨_,_,h.rdv (l:=[_]) (vs:=[_,_]) 4 rfl rfl,?_⟩;refine qub wc.sum h fun a4 c4 H7 h=>⟨_,_,_,rfl,?_⟩
 have hs:=qf7 (c:=c4) (bs:=q4j c.sum) (slB_is (k:=0) (c:=c4) h |> fun hh=>by
  rcases (q3r (F:=star _) h).2 with ⟨h2,_⟩|⟨b,pre,post,e',fr,h2,_⟩
  ·exact .inl h2
  ·exact .inr ⟨_,_,h2⟩) (h.sl_rd 0 rfl)
 rw [q9p] at hs;refine⟨_,hs,?_⟩;refine h.al fun b3 _ h=>?_
 have hsz:(strB (q4j c.sum)).size=16:=by rw [q4q,q9p]
 have etb:q1i [strB (q4j c.sum)]=q38 (strB (q4j c.sum)):=by simp [q1i]
 have htl:(q38 (strB (q4j c.sum))).length≤26:=by have:=q44 (s:=strB (q4j c.sum)) (by omega); omega
 refine qd2 (ts:=[strB (q4j c.sum)]) h (fun H h=>h.ce_rd 0 rfl) (fun i=>by
   rcases z7x i with rfl|hi
   ·simp [q1i]
   ·rw [z5o (show [strB (q4j c.sum)].length≤i from hi),etb]; omega) (by intro s hs'; rw [z60] at hs'; rw [hs',hsz]; decide) (by simp) fun a5 c5 H9 h=>⟨_,_,_,rfl,?_⟩
 rw [etb] at h ⊢;refine appB h (i:=5) rfl rfl rfl (h.sl_rd 0 rfl) (by simp only [z51]; omega) fun a6 c6 H10 h=>⟨_,_,_,rfl,?_⟩
 refine h.al fun b4 _ h=>⟨c.h,h.rdt (l:=[_,_,_,_,_,_,_]) 8 rfl rfl,?_⟩
 have h:=h.o [0,6] 9;refine qr7 h fun fb H12 h=>⟨_,_,rfl,rfl,fun R hR1 hR2 hy=>?_⟩
 have h:=h.rng R;have h:=h.sl_nil 56 1;refine qmq (f:=c.h) (fun j=>exS fun p:Option Addr × Nat=>star [cellsA b4 [.slice p.1 (q99 c.h j).length p.2] 285,slA 56 1 p.1 (q99 c.h j).length p.2 ((q99 c.h j).map U64),pt (H12.size+1) (.loop R)]) (pur False)
  (F:=pt H12.size (.deferred (some []))::slA 5 1 a6 (q2r [c.n.toNat,c.cer.toNat,c.pos.toNat]++q2y [c.mn,c.mx]++q38 (strB (q4j c.sum))).length c6 ((q2r [c.n.toNat,c.cer.toNat,c.pos.toNat]++q2y [c.mn,c.mx]++q38 (strB (q4j c.sum))).map U8)::F) ?_ ?_ ?_ ?_ ?_
 ·exact q0r.2 ⟨(none,0),SatL.shut [_,_,_] (h.o [4,0,1,3,2,5] 6)⟩
 ·intro j hj hz;rw [show q99 c.h (j+1)=q99 c.h j by rw [qgv,if_pos hz,z61]]
 ·intro j hj hne G H13 K1 h kt _;obtain⟨⟨a,c'⟩,h⟩:=q0r.1 h;have h:=SatL.open (A:=[_,_,_]) h;refine hy _ _ _ ?_;unfold q6f.y1;have hfl:=qfn c.h j;have hhj:=wc.h j hj;have hpj:=p4 j hj;refine⟨_,_,rfl,h.getO 2 rfl,h.getO 2 rfl,h.stl 2 rfl fun H14 h=>⟨_,_,_,h.rd 0 rfl _,?_⟩⟩
  rw [qwn hpj hhj,u64n (show j < 18446744073709551616 by omega)];refine h.al fun b5 _ h=>?_
  refine h.append (m:=2) (ws:=[U64 j,U64 (c.h j).toNat]) sl285 2 rfl (h.ce_rd 0 rfl) rfl rfl (by omega) (by omega) fun a' c'' H16 h=>⟨_,_,_,rfl,?_⟩
  refine h.sta 1 rfl rfl fun H17 h=>⟨h.getO 3 rfl,kt _ ?_⟩
  have h:=h.setO 3 rfl (.loop R);refine q0r.2 ⟨(a',c''),SatL.shut [_,_,_] ?_⟩;rw [qgv,if_neg hne,z51,z5v];exact h.o [1,2,3] 4
 ·intro H13 h;obtain⟨⟨a,c'⟩,h⟩:=q0r.1 h;have h:=SatL.open (A:=[_,_,_]) h;refine⟨.ready,none,by decide,by rw [q7p hR1 hR2]; exact h.getO 2 rfl,h.stl 2 rfl fun H19 h=>⟨rfl,?_⟩⟩
  refine⟨_,_,_,h.rd 0 rfl _,by decide,?_⟩;have hfl:=qfn c.h 65;have ehalf:u64.wrap (i64.wrap (Int.tdiv ((q99 c.h 65).length:Int) 2))=(((q99 c.h 65).length / 2:Nat):Int):=by
   rw [show Int.tdiv ((q99 c.h 65).length:Int) 2=(((q99 c.h 65).length / 2:Nat):Int) from rfl,w64 (by omega) (by omega),u64n (by omega)]
  rw [ehalf];refine h.al fun b6 _ h=>?_
  refine q6t (us:=[(q99 c.h 65).length / 2]) h (fun H h=>h.ce_rd 0 rfl) (by
    intro u hu;rw [z60] at hu;omega) (by simp) fun a7 c7 H21 h=>⟨_,_,_,rfl,?_⟩
  refine appB h (i:=7) rfl rfl rfl (h.sl_rd 0 rfl) (by simp only [z51]; omega) fun a8 c8 H22 h=>⟨_,_,_,rfl,?_⟩
  refine⟨_,_,_,h.rd 2 rfl _,?_⟩;refine q6t (us:=q99 c.h 65) h (fun H h=>h.sl_rd 3 rfl) (qwm wc.h 65 (z5c _)) (by omega) fun a9 c9 H23 h=>⟨_,_,_,rfl,?_⟩
  refine appB h (i:=8) rfl rfl rfl (h.sl_rd 0 rfl) (by simp only [z51]; omega) fun a10 c10 H24 h=>⟨_,_,_,rfl,h.getO 7 rfl,?_⟩
  have h:=h.setO 7 rfl (.deferred none);exact k _ _ _ (h.o [8] 9)
 ·intro H13 h;exact (SatL.consP h).1.elim
end
end Go.Proofs.YtfmkddccnjidmaaGreatDoor
namespace Go.Nm
abbrev labB (l:Lab):List Int:=q38 l.name++q38 l.value
def serB (name:ByteArray)(labs:List Lab):List Int:=(q38 name++q1x labs.length)++labs.flatMap labB
def serR (name:ByteArray)(labs:List Lab):List Int:=if q4i name labs then serB name labs else []
theorem qzh (name:ByteArray)(labs:List Lab):q04 (serB name labs):=
 q0a (q0a (q8j _) (q87 _)) (q19 fun _ _=>q0a (q8j _) (q8j _))
theorem qzi (name:ByteArray)(labs:List Lab):q04 (serR name labs):=by
 unfold serR; split
 ·exact qzh _ _
 ·exact q3e
theorem z2v (s:ByteArray):q1i [s]=q38 s:=by simp [q1i]
theorem qp1 (n:Nat):q2r [n]=q1x n:=by simp [q2r]
theorem z2w (l:Lab):q1i [l.name,l.value]=labB l:=by simp [q1i,labB]
theorem qwo {l:Lab}(h:q59 l=true):(labB l).length≤148:=by
 have:=q6s h;have h1:=q44 (s:=l.name) (by omega);have h2:=q44 (s:=l.value) (by omega);rw [z51]; omega
theorem qri {labs:List Lab}:(∀l∈labs,q59 l=true)→(labs.flatMap labB).length≤148*labs.length:=by
 induction labs with
 | nil=>intro _; simp
 | cons a l ih=>
  intro h;have h1:=ih fun x hx=>h x (z5j _ hx)
  have h2:=qwo (h a (z5i ..));rw [z6a,z51,z59]; omega
def q4d:Nat→RS→List Lab × RS
 | 0,s=>([],s)
 | n+1,s=>((q4d n s).1++[⟨strB (tRes 64 (q4d n s).2).1,strB (tRes 64 (tRes 64 (q4d n s).2).2).1⟩],(tRes 64 (tRes 64 (q4d n s).2).2).2)
structure SRes where
 name:ByteArray
 labs:List Lab
 e:Int
 rest:RS
def q6u (s:RS):SRes:=
 if (q4d (cRes 8 (tRes 64 s).2).1.toNat (cRes 8 (tRes 64 s).2).2).2.e≠0 then ⟨⟨#[]⟩,[],(q4d (cRes 8 (tRes 64 s).2).1.toNat (cRes 8 (tRes 64 s).2).2).2.e,(q4d (cRes 8 (tRes 64 s).2).1.toNat (cRes 8 (tRes 64 s).2).2).2⟩
 else if q4i (strB (tRes 64 s).1) (q4d (cRes 8 (tRes 64 s).2).1.toNat (cRes 8 (tRes 64 s).2).2).1 then ⟨strB (tRes 64 s).1,(q4d (cRes 8 (tRes 64 s).2).1.toNat (cRes 8 (tRes 64 s).2).2).1,0,(q4d (cRes 8 (tRes 64 s).2).1.toNat (cRes 8 (tRes 64 s).2).2).2⟩
 else ⟨⟨#[]⟩,[],10,(q4d (cRes 8 (tRes 64 s).2).1.toNat (cRes 8 (tRes 64 s).2).2).2⟩
theorem qe7 {s:RS}(h:q04 s.bs):∀n,q04 (q4d n s).2.bs
 | 0=>h
 | n+1=>(q39 (q39 (qe7 h n)).1).1
theorem qkb (s:RS):∀n,(q4d n s).2.bs.length≤s.bs.length
 | 0=>z5c _
 | n+1=>z5f (q5p _ _).1 (z5f (q5p _ _).1 (qkb s n))
theorem que (s:RS):∀n,(q4d n s).1.length=n
 | 0=>rfl
 | n+1=>by unfold q4d; rw [z51,que s n]; rfl
theorem z2x (s:RS):0≤(cRes 8 s).1∧(cRes 8 s).1≤8:=by
 unfold cRes
 split
 ·dsimp only; omega
 ·split
  ·split
   ·dsimp only; omega
   ·dsimp only; omega
  ·dsimp only; omega
  ·dsimp only; omega
theorem qkc {s:RS}(h:q04 s.bs):q04 (q6u s).rest.bs:=by
 have:=qe7 (q9n (m:=8) (q39 (m:=64) h).1) (cRes 8 (tRes 64 s).2).1.toNat
 unfold q6u; split
 ·exact this
 ·split <;> exact this
theorem qrj (s:RS):(q6u s).rest.bs.length≤s.bs.length:=by
 have:=qkb (cRes 8 (tRes 64 s).2).2 (cRes 8 (tRes 64 s).2).1.toNat
 have h2:=qfm (tRes 64 s).2 8;have h3:=(q5p s 64).1;unfold q6u; split
 ·dsimp only; omega
 ·split <;> dsimp only <;> omega
end Go.Nm
namespace Go.Proofs.YtfmkddccnjidmaaGreatDoor
open Go.Nm
theorem qwp {name:ByteArray}{labs:List Lab}(h:RightP name labs):(serB name labs).length≤1300:=by
 have h1:=q6r h.named;have h2:=q44 (s:=name) (by omega);have h3:=uintB_len10 (u:=labs.length) (by have:=h.len; omega);have h4:=qri h.val;have h5:=h.len;unfold serB;rw [z51,z51]; omega
theorem qwq (name:ByteArray)(labs:List Lab):(serR name labs).length≤1300:=by
 unfold serR; split
 ·rename_i h; exact qwp (q92 h)
 ·simp
section
variable {F L:List Assn} {H:Heap} {K:Value→Heap→Prop}
theorem qe8 {a:Option Addr}{c:Nat}{s:ByteArray}(h:SatL H F)(ha:∀H,SatL H F→rdS H a [.string s])(hs:s.size≤100000000)
  (k:∀a' c' H',SatL H' (slA 5 1 a' (q38 s).length c' ((q38 s).map U8)::F)→K (.slice a' (q38 s).length c') H') :
  CF 132 #[.slice a 1 c] H K:=by
 have hl:=q44 (s:=s) (by omega);refine qd2 (ts:=[s]) h ha (fun i=>?_) (fun x hx=>by rw [z60] at hx; subst hx; omega) (by simp) ?_
 ·rcases z7x i with rfl|hi
  ·simp [q1i]
  ·rw [z5o (show [s].length≤i from hi),z2v]; omega
 ·rw [z2v]; exact k
theorem quf {name:ByteArray}{a:Option Addr}{c:Nat}{labs:List Lab}(h:SatL H F)(ha:∀H,SatL H F→rdS H a (flat encL labs))
  (k:∀a' c' H',SatL H' (slA 5 1 a' (serR name labs).length c' ((serR name labs).map U8)::F)→K (.slice a' (serR name labs).length c') H') :
  CF 161 #[.agg #[.string name,.slice a labs.length c]] H K:=by
 refine q0k.call ?_;unfold q0k.code;refine h.al fun b _ h=>?_
 refine⟨_,_,_,_,h.rds 0 rfl rfl,?_⟩;refine q6p h (fun H h=>ha H h.tl) fun H1 h=>⟨_,rfl,fun hc=>?_,fun hc=>?_⟩
 ·have e:serR name labs=[]:=by unfold serR; rw [if_neg (by simpa using hc)]
  rw [e] at k;exact k none 0 _ (h.tl.sl_nil 5 1)
 ·simp only [z67] at hc;have hp:=q92 hc;have e:serR name labs=serB name labs:=by unfold serR; rw [if_pos hc]
  rw [e] at k;have h8:=hp.len;have hns:=q6r hp.named;have hbl:=qwp hp;have ht:=q44 (s:=name) (by omega);have hu:=uintB_len10 (u:=labs.length) (by omega);intro Jn hJ;have hJ':∀(ba:Option Addr) (bc:Nat) H2,SatL H2 (slA 5 1 ba (q38 name++q1x labs.length).length bc ((q38 name++q1x labs.length).map U8)::cellsA b [.string name,.slice a labs.length c] 93::F)→Jn ba (q38 name++q1x labs.length).length bc H2:=by
   intro ba bc H2 h;refine hJ _ _ _ _ ?_;unfold q0k.r2;refine⟨_,_,_,h.rd 1 rfl _,?_⟩;refine⟨fun a' n' c' i H'=>∃j:Nat,i=j∧j≤labs.length∧n'=((q38 name++q1x labs.length)++(labs.take j).flatMap labB).length∧
    SatL H' (slA 5 1 a' ((q38 name++q1x labs.length)++(labs.take j).flatMap labB).length c' (((q38 name++q1x labs.length)++(labs.take j).flatMap labB).map U8)::cellsA b [.string name,.slice a labs.length c] 93::F),
    fun _ _ _ i _=>labs.length - i.toNat,⟨0,rfl,by omega,by simp,by simpa using h⟩,?_⟩
   rintro a1 n1 c1 i H1 ⟨j,rfl,hj,rfl,h⟩;unfold q0k.l1;refine⟨fun hc=>?_,fun hc=>?_⟩
   ·have hlt:j < labs.length:=by have:=z4z hc; omega
    have hr:=ha _ h.tl.tl;have hv:=q6s (hp.val _ (z5e hlt));have hvl:=qwo (hp.val _ (z5e hlt));have hfl:=qri (labs:=labs.take j) fun l hl=>hp.val l (z7j hl)
    have htk:(labs.take j).length≤labs.length:=by rw [z5n]; omega
    refine⟨by omega,_,_,hr.some q2d (by omega) hlt,_,_,hr.els q2d hlt,?_⟩;refine h.al fun b2 _ h=>?_
    refine h.st 0 rfl rfl ?_;intro H3 h;refine⟨_,h.rd 0 rfl _,_,h.rd 0 rfl _,?_⟩;refine h.al fun b3 _ h=>?_
    refine qd2 (ts:=[labs[j].name,labs[j].value]) h (fun H h=>h.ce_rd 0 rfl) (fun i=>?_) ?_ (by simp) fun a' c' H4 h=>?_
    ·have:(q1i ([labs[j].name,labs[j].value].take i)).length≤(q1i [labs[j].name,labs[j].value]).length:=by
      have:[labs[j].name,labs[j].value]=[labs[j].name,labs[j].value].take i++[labs[j].name,labs[j].value].drop i:=(z7o _ _).symm;rw [show (q1i [labs[j].name,labs[j].value]).length=(q1i ([labs[j].name,labs[j].value].take i++[labs[j].name,labs[j].value].drop i)).length by rw [← this]];unfold q1i;rw [z7z,z51]; omega
     rw [z2w] at this;omega
    ·intro s hs;simp only [z5l,z7r,or_false] at hs
     rcases hs with rfl|rfl <;> omega
    ·rw [z2w] at h ⊢;refine⟨_,_,_,rfl,?_⟩;refine appB h (i:=3) rfl rfl rfl (h.sl_rd 0 rfl) (by simp only [z51] at *; omega) fun a3 c3 H6 h=>⟨_,_,_,rfl,?_⟩
     rw [w64 (x:=(j:Int)+1) (by omega) (by omega)];have e5:((q38 name++q1x labs.length)++(labs.take (j+1)).flatMap labB)=((q38 name++q1x labs.length)++(labs.take j).flatMap labB)++labB labs[j]:=by
      rw [q1a hlt,z5d _ _ (labB labs[j])]
     refine⟨⟨j+1,by omega,hlt,by rw [e5],?_⟩,by dsimp only; omega⟩;rw [e5];exact h.o [3,4] 5
   ·have hge:labs.length≤j:=by have:=z54 hc; omega
    have e1:labs.take j=labs:=z5o hge;rw [e1] at h ⊢;exact k _ _ _ (h.o [0] 2)
  have hw:u64.wrap ((labs.length:Nat):Int)=((labs.length:Nat):Int):=by rw [u64e]; omega
  refine⟨_,h.rd 0 rfl _,_,_,_,h.rd 0 rfl _,?_⟩;rw [hw];refine⟨?_,?_⟩
  ·refine h.al fun b4 _ h=>⟨h.rd 1 rfl _,?_,?_⟩
   ·refine qe8 h (fun H h=>h.ce_rd 0 rfl) (by omega) fun a1 c1 H3 h=>⟨_,_,_,rfl,h.rd 2 rfl _,?_⟩
    refine h.al fun b5 _ h=>?_
    refine q6t (us:=[labs.length]) h (fun H h=>h.ce_rd 0 rfl) (by simp; omega) (by simp) fun a2 c2 H5 h=>⟨_,_,_,rfl,?_⟩
    rw [qp1] at h ⊢;refine appB h (i:=2) rfl rfl rfl (h.sl_rd 0 rfl) (by omega) fun a3 c3 H6 h=>⟨_,_,_,rfl,?_⟩
    exact hJ' _ _ _ (h.o [2,4] 5)
   ·refine h.al fun b5 _ h=>?_
    refine qe8 h (fun H h=>h.ce_rd 1 rfl) (by omega) fun a1 c1 H3 h=>⟨_,_,_,rfl,?_⟩
    refine q6t (us:=[labs.length]) h (fun H h=>h.ce_rd 1 rfl) (by simp; omega) (by simp) fun a2 c2 H5 h=>⟨_,_,_,rfl,?_⟩
    rw [qp1] at h ⊢;refine appB h (i:=1) rfl rfl rfl (h.sl_rd 0 rfl) (by omega) fun a3 c3 H6 h=>⟨_,_,_,rfl,?_⟩
    exact hJ' _ _ _ (h.o [1,4] 5)
  ·refine h.al fun b5 _ h=>⟨h.rd 1 rfl _,?_⟩
   refine h.al fun b4 _ h=>?_
   refine qe8 h (fun H h=>h.ce_rd 0 rfl) (by omega) fun a1 c1 H3 h=>⟨_,_,_,rfl,?_⟩
   refine q6t (us:=[labs.length]) h (fun H h=>h.ce_rd 2 rfl) (by simp; omega) (by simp) fun a2 c2 H5 h=>⟨_,_,_,rfl,?_⟩
   rw [qp1] at h ⊢;refine appB h (i:=1) rfl rfl rfl (h.sl_rd 0 rfl) (by omega) fun a3 c3 H6 h=>⟨_,_,_,rfl,?_⟩
   exact hJ' _ _ _ (h.o [1,4] 5)
theorem qzj {rb:Nat}{s:RS}(h:SatL H (crdA rb s::F))(hb:q04 s.bs)(hl:s.bs.length≤1099511627776)
  (k:∀a c H',SatL H' (crdA rb (q6u s).rest::slA 267 2 a (q6u s).labs.length c (flat encL (q6u s).labs)::F)→
   K (.tuple #[.agg #[.string (q6u s).name,.slice a (q6u s).labs.length c],I64 (q6u s).e]) H'):CF 160 #[PA rb 0] H K:=by
 refine q6j.call ?_;unfold q6j.code;refine h.al fun b _ h=>?_
 have h:=h.o [1,0] 2;refine q77 (most:=64) h hb hl (by unfold wf64; decide) fun H1 h=>⟨_,rfl,?_⟩
 have hb1:=(q39 (m:=64) hb).1;have hl1:=(q5p s 64).1;refine h.al fun b1 _ h=>?_
 refine h.st 0 rfl rfl ?_;intro H3 h;have h:=h.o [1,0,2] 3;refine qgl (most:=8) h hb1 (by omega) (by unfold wf64; decide) fun H4 h=>⟨_,rfl,?_⟩
 have hb2:=q9n (m:=8) hb1;have hl2:=qfm (tRes 64 s).2 8;have hc8:=z2x (tRes 64 s).2;unfold q6u at k;generalize hcr:cRes 8 (tRes 64 s).2=C at *;obtain⟨cn,s1⟩:=C;dsimp only at *;obtain⟨n,rfl⟩:∃n:Nat,cn=n:=⟨cn.toNat,by omega⟩;rw [z5a] at k;refine⟨fun i H'=>∃j:Nat,i=j∧j≤n∧∃a c,SatL H' (crdA rb (q4d j s1).2::slA 267 2 a j c (flat encL (q4d j s1).1)::cellsA b1 [.string (strB (tRes 64 s).1),.slice a j c] 93::cellsA b [.string ⟨#[]⟩,.slice none 0 0] 93::F),
  fun i _=>n - i.toNat,⟨0,rfl,by omega,none,0,((h.sl_nil 267 2).o [1,0,2,3] 4)⟩,?_⟩
 rintro i H1 ⟨j,rfl,hj,a,c,h⟩;unfold q6j.l1;have hbj:=qe7 hb2 j;have hlj:=qkb s1 j;refine⟨fun hc=>?_,fun hc=>?_⟩
 ·have hlt:j < n:=by have:=z4z hc; omega
  refine q77 (most:=64) h hbj (by omega) (by unfold wf64; decide) fun H2 h=>⟨_,rfl,_,_,_,h.rd 2 rfl _,?_⟩
  have hb3:=(q39 (m:=64) hbj).1;have hl3:=(q5p (q4d j s1).2 64).1;refine q77 (most:=64) h hb3 (by omega) (by unfold wf64; decide) fun H3 h=>⟨_,rfl,h.rd 2 rfl _,?_⟩
  refine h.al fun b2 _ h=>⟨h.rd 3 rfl _,?_⟩
  have hn:=que s1 j;refine h.append (m:=1) (ws:=encL ⟨strB (tRes 64 (q4d j s1).2).1,strB (tRes 64 (tRes 64 (q4d j s1).2).2).1⟩) sl91 2 rfl (h.ce_rd 0 rfl) rfl (qgr _) (by omega) (by omega) fun a' c' H5 h=>⟨_,_,_,rfl,?_⟩
  refine h.st 3 rfl rfl ?_;intro H6 h;rw [w64 (x:=(j:Int)+1) (by omega) (by omega)];refine⟨⟨j+1,by omega,hlt,a',c',?_⟩,by dsimp only; omega⟩;have e:flat encL (q4d (j+1) s1).1=flat encL (q4d j s1).1++encL ⟨strB (tRes 64 (q4d j s1).2).1,strB (tRes 64 (tRes 64 (q4d j s1).2).2).1⟩:=by
   show flat encL (_++[_])=_;rw [q0i]; simp [flat]
  rw [e];exact h.o [1,2,3,4] 5
 ·have hge:j=n:=by have:=z54 hc; omega
  subst hge;have hn:=que s1 j;refine⟨_,qbp h,fun he=>?_,fun he=>?_⟩
  ·have he:(q4d j s1).2.e≠0:=by simpa using he
   rw [if_pos he] at k;refine h.st 3 rfl rfl ?_;intro H6 h;refine⟨_,_,_,_,h.rds 3 rfl rfl,?_⟩;exact k none 0 _ (((h.sl_nil 267 2).o [1,0] 5))
  ·have he:¬(q4d j s1).2.e≠0:=by simpa using he
   rw [if_neg he] at k;refine⟨_,_,_,_,h.rds 2 rfl rfl,?_⟩;have hL:CF 164 #[.agg #[.string (strB (tRes 64 s).1),.slice a (q4d j s1).1.length c]] H1 (fun u H'=>u=.bool (q4i (strB (tRes 64 s).1) (q4d j s1).1)∧SatL H' (crdA rb (q4d j s1).2::slA 267 2 a j c (flat encL (q4d j s1).1)::cellsA b1 [.string (strB (tRes 64 s).1),.slice a j c] 93::cellsA b [.string ⟨#[]⟩,.slice none 0 0] 93::F)):=
    q6p h (fun H h=>h.sl_rd 1 rfl) fun H' h=>⟨rfl,h⟩
   rw [hn] at hL;refine hL.mono ?_;rintro u H7 ⟨rfl,h⟩;refine⟨_,rfl,fun hr=>?_,fun hr=>?_⟩
   ·rw [if_neg (by simpa using hr)] at k;refine h.st 3 rfl rfl ?_;intro H6 h;refine⟨_,_,_,_,h.rds 3 rfl rfl,?_⟩;exact k none 0 _ (((h.sl_nil 267 2).o [1,0] 5))
   ·rw [if_pos (by simpa using hr)] at k;refine⟨_,_,_,_,h.rds 2 rfl rfl,?_⟩;refine h.st 3 rfl rfl ?_;intro H6 h;refine⟨_,_,_,_,h.rds 3 rfl rfl,?_⟩;have hk:=k a c _ (by dsimp only; rw [hn]; exact h.o [0,1] 4);dsimp only at hk;rw [hn] at hk;exact hk
end
end Go.Proofs.YtfmkddccnjidmaaGreatDoor
namespace Go.Nm
def cutS (c:UInt8)(s:ByteArray):ByteArray × ByteArray × Bool:=
 if 0≤idxU c (lsB s) then (s.extract 0 (idxU c (lsB s)).toNat,s.extract ((idxU c (lsB s)).toNat+1) s.size,true) else (s,⟨#[]⟩,false)
def sufS (c:UInt8)(s:ByteArray):ByteArray × Bool:=
 if decide (1≤s.size) && ((s.extract (s.size - 1) s.size).toList == (⟨#[c]⟩:ByteArray).toList) then (s.extract 0 (s.size - 1),true) else (s,false)
def q5v:Nat→ByteArray→List ByteArray
 | 0,s=>[s]
 | n+1,s=>if idxU 44 (lsB s) < 0 then [s] else s.extract 0 (idxU 44 (lsB s)).toNat::q5v n (s.extract ((idxU 44 (lsB s)).toNat+1) s.size)
def q4r (s:ByteArray):List ByteArray:=q5v s.size s
def qzk (acc:Option (List Lab))(p:ByteArray):Option (List Lab):=match acc with
 | none=>none
 | some labs=>if (cutS 61 p).2.2 && !decide (labs.length=8) then some (labs++[⟨(cutS 61 p).1,(cutS 61 p).2.1⟩]) else none
def q93 (ps:List ByteArray):Option (List Lab):=ps.foldl qzk (some [])
def q8l (t:ByteArray):ByteArray × List Lab × Bool:=
 if (cutS 123 t).2.2 then
  if (sufS 125 (cutS 123 t).2.1).2 then match q93 (q4r (sufS 125 (cutS 123 t).2.1).1) with
   | none=>(⟨#[]⟩,[],false)
   | some labs=>if q4i (cutS 123 t).1 labs then ((cutS 123 t).1,labs,true) else (⟨#[]⟩,[],false)
  else (⟨#[]⟩,[],false)
 else if q4i (cutS 123 t).1 [] then ((cutS 123 t).1,[],true) else (⟨#[]⟩,[],false)
theorem qwr (c:UInt8)(s:ByteArray):-1≤idxU c (lsB s)∧idxU c (lsB s) < s.size:=by
 have:=idxU_ge c (lsB s);rw [q6o] at this;exact this
theorem qzl (ps:List ByteArray):ps.foldl qzk none=none:=by
 induction ps with
 | nil=>rfl
 | cons p r ih=>exact ih
theorem qug {ps:List ByteArray}{j:Nat}(h:j < ps.length):q93 (ps.take (j+1))=qzk (q93 (ps.take j)) ps[j]:=by
 unfold q93;rw [z6d h,z7k]; rfl
theorem quh {ps:List ByteArray}{j:Nat}(h:q93 (ps.take j)=none):q93 ps=none:=by
 have:ps=ps.take j++ps.drop j:=(z7o _ _).symm;rw [this];unfold q93 at h ⊢;rw [z7k,h,qzl]
theorem qkd:∀(n:Nat) (s p:ByteArray),p∈q5v n s→p.size≤s.size
 | 0,s,p,h=>by
  have:p=s:=z60.1 h;subst this; exact z5c _
 | n+1,s,p,h=>by
  unfold q5v at h
  split at h
  ·have:p=s:=z60.1 h;subst this; exact z5c _
  ·rcases z5l.1 h with h|h
   ·rw [h,ByteArray.size_extract]; omega
   ·have:=qkd n _ p h;rw [ByteArray.size_extract,Nat.min_self] at this;omega
theorem qmv (n:Nat)(s:ByteArray):q5v n s≠[]:=by
 cases n with
 | zero=>simp [q5v]
 | succ n=>unfold q5v; split <;> simp
end Go.Nm
namespace Go.Proofs.YtfmkddccnjidmaaGreatDoor
open Go.Nm
section
variable {F L:List Assn} {H:Heap} {K:Value→Heap→Prop}
theorem qmw {s:ByteArray}{c:UInt8}(k:K (I64 (idxU c (lsB s))) H):CF 232 #[.string s,.string ⟨#[c]⟩] H K:=by
 refine q1d.call ⟨fun hc=>?_,fun hc=>⟨fun hd=>?_,fun hd=>?_⟩⟩
 ·simp only [z5h,z52] at hc
  rcases hc with hc|hc
  ·exact absurd hc (by show ¬((1:Int)=0); omega)
  ·have e:(⟨#[c]⟩:ByteArray)=s:=ba_ext (by simpa using hc);have:idxU c (lsB s)=0:=by
    rw [← e];show idxU c [c]=0;unfold idxU;simp
   rw [← this]; exact k
 ·refine⟨⟨by omega,by show (0:Int) < 1; omega⟩,?_⟩;refine q2o.call ⟨_,natIdx,_,rfl,?_⟩;have:(bAt (⟨#[c]⟩:ByteArray) 0).toNat.toUInt8=c:=by
   show ((c.toNat:Int)).toNat.toUInt8=c;simp
  rw [this];exact k
 ·exact absurd (z54 hd) (by show ¬¬((1:Int)=1); omega)
theorem qws {s:ByteArray}{c:UInt8}(hs:s.size≤1099511627776)(k:K (.tuple #[.string (cutS c s).1,.string (cutS c s).2.1,.bool (cutS c s).2.2]) H) :
  CF 170 #[.string s,.string ⟨#[c]⟩] H K:=by
 refine qdy.call (q8a.call ?_);refine qmw ⟨_,rfl,fun hc=>?_,fun hc=>?_⟩
 ·have hc:=z4z hc;have hi:=qwr c s;have hw:i64.wrap (idxU c (lsB s)+(((⟨#[c]⟩:ByteArray).size:Nat):Int))=idxU c (lsB s)+1:=by
   show i64.wrap (idxU c (lsB s)+1)=_;rw [w64 (by omega) (by omega)]
  rw [hw];refine⟨by omega,by omega,_,_,_,rfl,?_⟩;unfold cutS at k;rw [if_pos hc] at k;rw [show (idxU c (lsB s)+1).toNat=(idxU c (lsB s)).toNat+1 by omega];exact k
 ·have hc:=z54 hc;unfold cutS at k;rw [if_neg hc] at k;exact⟨_,_,_,rfl,k⟩
theorem qlq {s:ByteArray}{c:UInt8}(hs:s.size≤1099511627776):q1o Tryz.prog 171 #[.string s,.string ⟨#[c]⟩] H (.tuple #[.string (sufS c s).1,.bool (sufS c s).2]):=by
 have h1:(((⟨#[c]⟩:ByteArray).size:Nat):Int)=1:=rfl;have hw:∀h:1≤s.size,i64.wrap ((s.size:Int) - 1)=((s.size - 1:Nat):Int):=fun h=>by rw [w64 (by omega) (by omega)]; omega
 refine q6h.call ⟨_,_,q41.call ⟨decide (1≤s.size) && ((s.extract (s.size - 1) s.size).toList == (⟨#[c]⟩:ByteArray).toList),q40.call ⟨fun hc=>?_,?_,rfl⟩,fun hc=>?_,fun hc=>?_⟩,rfl,rfl⟩
 ·have hc:=z4z hc;rw [h1] at hc ⊢;rw [hw (by omega)]; omega
 ·rw [h1]
  by_cases hz:1≤s.size
  ·rw [hw hz,z5a,z5m hz,z5m (show (1:Int)≤s.size by omega)]
  ·rw [z6m hz,z6m (show ¬(1:Int)≤s.size by omega),Bool.false_and,Bool.false_and]
 ·unfold sufS;rw [if_neg (by rw [z5k,] at hc; rw [hc]; simp)];exact⟨rfl,rfl⟩
 ·have hc:(decide (1≤s.size) && ((s.extract (s.size - 1) s.size).toList == (⟨#[c]⟩:ByteArray).toList))=true:=by simpa using hc
  have hz:1≤s.size:=by
   rw [z56] at hc;exact z4z hc.1
  unfold sufS;rw [if_pos hc,h1,hw hz];exact⟨by omega,rfl,rfl⟩
theorem qui {l c0 c1 c2:Nat}{s:ByteArray}(hs:s.size≤1099511627776)(A:Nat→Assn)(Ax:Nat→Assn)
  (h:SatL H (A 0::cellsA c0 [.string ⟨#[44]⟩] 9::cellsA c1 [.string s] 9::cellsA c2 [I64 0] 3::F))
  (hy:∀j (hj:j < (q4r s).length) (G:List Assn) (H1:Heap) (K1:Value→Heap→Prop),SatL H1 (A j::G)→(∀H2,SatL H2 (A (j+1)::G)→K1 (.bool true) H2)→(∀H2,SatL H2 (Ax j::G)→K1 (.bool false) H2)→
   q33 Tryz.prog l [.string (q4r s)[j]] H1 K1)
  (k:∀H',SatL H' (A (q4r s).length::F)→K (.tuple #[]) H')
  (kx:∀j H',j < (q4r s).length→SatL H' (Ax j::F)→K (.tuple #[]) H') :
  CF 234 #[.func (.yield l) #[] #[],PA c0 0,PA c1 0,PA c2 0] H K:=by
 refine q0p.call ?_;unfold q0p.code;refine⟨_,h.rd 1 rfl _,fun hc=>absurd (z4z hc) (by show ¬((1:Int)=0); omega),fun hc=>?_⟩
 refine⟨fun H'=>∃(j n:Nat) (r:ByteArray),j < (q4r s).length∧(q4r s).drop j=q5v n r∧r.size≤n∧n≤s.size∧SatL H' (A j::cellsA c0 [.string ⟨#[44]⟩] 9::cellsA c1 [.string r] 9::cellsA c2 [I64 0] 3::F),
  fun H'=>match q00 H' c1 0 with|some (.string r)=>r.size|_=>0,⟨0,s.size,s,List.length_pos_iff.2 (qmv _ _),rfl,z5c _,z5c _,h⟩,?_⟩
 rintro H1 ⟨j,n,r,hjl,hd,hr,hn,h⟩;unfold q0p.l2;have hmu:=h.rd 2 rfl 0;refine⟨_,h.rd 2 rfl _,_,h.rd 1 rfl _,?_⟩;have hi:=qwr 44 r;have hdj:(q4r s)[j]=(q5v n r)[0]'(by rw [← hd,z5u]; omega):=by
  simp only [← hd,List.getElem_drop,z71]
 refine qag.call (qmw ⟨_,rfl,_,rfl,fun hc=>?_,fun hc=>?_⟩)
 ·have hc:=z4z hc;have e:q5v n r=[r]:=by
   cases n with
   | zero=>rfl
   | succ n=>unfold q5v; rw [if_pos hc]
  have hlen:(q4r s).length=j+1:=by
   have:=congrArg List.length hd;rw [e,z5u] at this;simp at this;omega
  have e0:(q4r s)[j]=r:=by rw [hdj]; simp only [e]; rfl
  refine⟨_,h.rd 2 rfl _,?_⟩;have hy':=hy j hjl (cellsA c0 [.string ⟨#[44]⟩] 9::cellsA c1 [.string r] 9::cellsA c2 [I64 0] 3::F) H1 (fun u3 H_6=>∃r4,u3=.bool r4∧K (.tuple #[]) H_6) h
   (fun H2 h=>⟨true,rfl,k _ (by rw [hlen]; exact h.o [0] 4)⟩)
   (fun H2 h=>⟨false,rfl,kx j _ hjl (h.o [0] 4)⟩)
  rw [e0] at hy';exact hy'
 ·have hc:=z54 hc;have hn0:∃m,n=m+1:=⟨n - 1,by omega⟩;obtain⟨m,rfl⟩:=hn0;have e:q5v (m+1) r=r.extract 0 (idxU 44 (lsB r)).toNat::q5v m (r.extract ((idxU 44 (lsB r)).toNat+1) r.size):=by
   show (if _ then _ else _)=_
   rw [if_neg hc]
  have hw:i64.wrap (idxU 44 (lsB r)+0)=idxU 44 (lsB r):=by rw [w64 (by omega) (by omega)]; omega
  have hw1:i64.wrap (idxU 44 (lsB r)+(((⟨#[44]⟩:ByteArray).size:Nat):Int))=idxU 44 (lsB r)+1:=by
   show i64.wrap (idxU 44 (lsB r)+1)=_;rw [w64 (by omega) (by omega)]
  have e0:(q4r s)[j]=r.extract 0 (idxU 44 (lsB r)).toNat:=by rw [hdj]; simp only [e]; rfl
  have hd2:(q4r s).drop (j+1)=q5v m (r.extract ((idxU 44 (lsB r)).toNat+1) r.size):=by
   rw [← List.drop_drop,hd,e]; rfl
  have hl2:j+1 < (q4r s).length:=by
   have h1:=List.length_pos_iff.2 (qmv m (r.extract ((idxU 44 (lsB r)).toNat+1) r.size));rw [← hd2,z5u] at h1;omega
  refine⟨_,h.rd 2 rfl _,_,h.rd 3 rfl _,?_⟩;rw [hw];refine⟨by omega,?_⟩;have hy':=hy j hjl (cellsA c0 [.string ⟨#[44]⟩] 9::cellsA c1 [.string r] 9::cellsA c2 [I64 0] 3::F) H1;rw [e0] at hy';refine hy' _ h (fun H2 h=>⟨true,rfl,fun hf=>absurd hf (by simp),fun _=>?_⟩) (fun H2 h=>⟨false,rfl,fun _=>kx j _ hjl (h.o [0] 4),fun hf=>absurd hf (by simp)⟩)
  refine⟨_,h.rd 2 rfl _,_,h.rd 1 rfl _,?_⟩;rw [hw1];refine⟨by omega,?_⟩;have hsz:(r.extract ((idxU 44 (lsB r)).toNat+1) r.size).size=r.size - ((idxU 44 (lsB r)).toNat+1):=by
   rw [ByteArray.size_extract,Nat.min_self]
  refine h.st 2 rfl rfl ?_;intro H3 h;rw [show (idxU 44 (lsB r)+1).toNat=(idxU 44 (lsB r)).toNat+1 by omega] at h;refine⟨⟨j+1,m,_,hl2,hd2,by omega,by omega,h⟩,?_⟩;have hmu2:=h.rd 2 rfl 0;dsimp only;rw [hmu,hmu2];show ByteArray.size _ < ByteArray.size _;rw [hsz]; omega
set_option maxHeartbeats 2000000 in
theorem quj {t:ByteArray}(ht:t.size≤1099511627776)(h:SatL H F)
  (k:∀a c H',SatL H' (slA 267 2 a (q8l t).2.1.length c (flat encL (q8l t).2.1)::F)→K (.tuple #[.agg #[.string (q8l t).1,.slice a (q8l t).2.1.length c],.bool (q8l t).2.2]) H') :
  CF 112 #[.string t] H K:=by
 refine q51.call ?_;unfold q51.code;refine h.al fun b _ h=>?_
 refine h.al fun b1 _ h=>?_
 refine qws ht ⟨_,_,_,rfl,?_⟩;refine h.al fun b2 _ h=>?_
 refine h.st 0 rfl rfl ?_;intro H1 h;have hcs:(cutS 123 t).2.1.size≤t.size:=by
  unfold cutS; split
  ·dsimp only; rw [ByteArray.size_extract]; omega
  ·exact z5s _
 unfold q8l at k;generalize hC:cutS 123 t=C at *;obtain⟨nm,rest,ok⟩:=C;dsimp only at *;refine⟨fun hc=>?_,fun hc=>?_⟩
 ·subst hc;rw [if_pos rfl] at k;refine⟨_,_,qlq (by omega),fun hc=>?_,fun hc=>?_⟩
  ·rw [if_neg (by simpa using hc)] at k;refine h.st 2 rfl rfl ?_;intro H2 h;refine h.st 1 rfl rfl ?_;intro H3 h;refine⟨_,_,_,_,h.rds 2 rfl rfl,_,h.rd 1 rfl _,?_⟩;exact k none 0 _ ((h.sl_nil 267 2).o [0] 4)
  ·rw [if_pos (by simpa using hc)] at k;have hfs:(sufS 125 rest).1.size≤rest.size:=by
    unfold sufS; split
    ·dsimp only; rw [ByteArray.size_extract]; omega
    ·exact z5c _
   generalize hf:(sufS 125 rest).1=f at *;refine q7g.call (q7f.call ?_);refine h.al fun c1 _ h=>?_
   refine h.al fun c0 _ h=>?_
   refine h.al fun c2 H7 h=>⟨_,_,rfl,_,_,rfl,rfl,fun R hR1 hR2 hy=>?_⟩
   have h:=h.rng R;refine qui (s:=f) (by omega)
    (fun j=>exS fun p:(Option Addr × Nat) × List Lab=>star [cellsA b2 [.string nm,.slice p.1.1 p.2.length p.1.2] 93,slA 267 2 p.1.1 p.2.length p.1.2 (flat encL p.2),cellsA b1 [.bool false] 4,cellsA b [.string ⟨#[]⟩,.slice none 0 0] 93,pt (H7.size+1) (.loop R),pur (q93 ((q4r f).take j)=some p.2∧p.2.length≤8)])
    (fun j=>star [cellsA b1 [.bool false] 4,cellsA b [.string ⟨#[]⟩,.slice none 0 0] 93,pt (H7.size+1) (.loop { R with state:=.done,pending:=some .ret }),pur (q93 ((q4r f).take (j+1))=none)])
    (F:=pt H7.size (.deferred (some []))::F) ?_ ?_ ?_ ?_
   ·refine q0r.2 ⟨((none,0),[]),SatL.shut [_,_,_,_,_,_] ?_⟩;exact ((h.sl_nil 267 2).pur (p:=q93 ((q4r f).take 0)=some []∧([]:List Lab).length≤8) ⟨rfl,by simp⟩).o [7,1,8,9,2,0,5,6,4,3] 10
   ·intro j hj G H8 K1 h kt kf;obtain⟨⟨⟨a,c⟩,labs⟩,h⟩:=q0r.1 h;have h:=SatL.open (A:=[_,_,_,_,_,_]) h;have hp:=(SatL.consP (h.o [5,0,1,2,3,4] 6)).1;dsimp only at h;have hps:=qkd f.size f _ (z5e (l:=q4r f) hj);have hpt:=qug hj;rw [hp.1] at hpt;dsimp only at hp;unfold qzk at hpt;dsimp only at hpt;refine hy _ _ _ ?_;unfold q51.y1;refine⟨_,rfl,h.getO 4 rfl,h.getO 4 rfl,h.stl 4 rfl fun H9 h=>?_⟩
    refine qws (by omega) ?_;generalize cutS 61 (q4r f)[j]=D at *;obtain⟨d1,d2,d3⟩:=D;dsimp only at hpt ⊢;refine⟨_,_,_,rfl,a,labs.length,c,fun _=>h.rd 0 rfl _,fun hc=>?_,fun hc=>?_⟩
    ·rw [if_neg (by
      intro e;simp only [z56,z5k,z58] at e;simp only [z5h,z5k,z52] at hc
      rcases hc with hc|hc
      ·rw [hc] at e; simp at e
      ·omega)] at hpt
     refine h.st 3 rfl rfl ?_;intro H10 h;refine h.st 2 rfl rfl ?_;intro H11 h;refine⟨h.getO 4 rfl,kf _ ?_⟩;have h:=h.setO 4 rfl (.loop { R with state:=.done,pending:=some .ret });refine SatL.shut [_,_,_,_] ?_;exact (h.pur hpt).o [3,4,5,0] 7
    ·simp only [z5g,z67,z58] at hc;rw [if_pos (by
      simp only [z56,z5k,z58];exact⟨hc.1,by omega⟩)] at hpt
     refine⟨_,_,_,h.rd 0 rfl _,?_⟩;refine h.al fun b3 _ h=>?_
     refine h.append (m:=1) (ws:=encL ⟨d1,d2⟩) sl91 2 rfl (h.ce_rd 0 rfl) rfl (qgr _) (by omega) (by omega) fun a' c' H14 h=>⟨_,_,_,rfl,?_⟩
     refine h.st 1 rfl rfl ?_;intro H15 h;refine⟨h.getO 5 rfl,kt _ ?_⟩;have h:=h.setO 5 rfl (.loop R);refine q0r.2 ⟨((a',c'),labs++[⟨d1,d2⟩]),SatL.shut [_,_,_,_,_,_] ?_⟩;have e:flat encL (labs++[⟨d1,d2⟩])=flat encL labs++encL ⟨d1,d2⟩:=by
      rw [q0i]; simp [flat]
     dsimp only;rw [e,z51];exact (h.pur (p:=q93 ((q4r f).take (j+1))=some (labs++[⟨d1,d2⟩])∧labs.length+[(⟨d1,d2⟩:Lab)].length≤8) ⟨hpt,by simp; omega⟩).o [2,3,4,5,6,0] 8
   ·intro H8 h;obtain⟨⟨⟨a,c⟩,labs⟩,h⟩:=q0r.1 h;have h:=SatL.open (A:=[_,_,_,_,_,_]) h;have hp:=(SatL.consP (h.o [5,0,1,2,3,4] 6)).1;rw [z6p] at hp;rw [hp.1] at k;dsimp only at h k;refine⟨.ready,none,by decide,by rw [q7p hR1 hR2]; exact h.getO 4 rfl,h.stl 4 rfl fun H9 h=>.inl ⟨rfl,?_⟩⟩
    refine⟨_,_,_,_,h.rds 0 rfl rfl,?_⟩;refine q6p h (fun H h=>h.sl_rd 1 rfl) fun H10 h=>⟨_,rfl,fun hc=>?_,fun hc=>?_⟩
    ·rw [if_neg (by simpa using hc)] at k;refine h.st 3 rfl rfl ?_;intro H11 h;refine h.st 2 rfl rfl ?_;intro H12 h;refine⟨h.getO 6 rfl,?_⟩;have h:=h.setO 6 rfl (.deferred none);refine⟨_,_,_,_,h.rds 3 rfl rfl,_,h.rd 2 rfl _,?_⟩;exact k none 0 _ ((h.sl_nil 267 2).o [0] 8)
    ·rw [if_pos (by simpa using hc)] at k;refine⟨_,_,_,_,h.rds 0 rfl rfl,?_⟩;refine h.st 3 rfl rfl ?_;intro H11 h;refine h.st 2 rfl rfl ?_;intro H12 h;refine⟨h.getO 6 rfl,?_⟩;have h:=h.setO 6 rfl (.deferred none);refine⟨_,_,_,_,h.rds 3 rfl rfl,_,h.rd 2 rfl _,?_⟩;exact k a c _ (h.o [1] 7)
   ·intro j H8 hj h;have h:=SatL.open (A:=[_,_,_,_]) h;have hp:=(SatL.consP (h.o [3,0,1,2] 4)).1;rw [quh hp] at k;refine⟨.done,some .ret,by decide,h.getO 2 rfl,h.stl 2 rfl fun H9 h=>.inr ⟨rfl,h.getO 4 rfl,?_⟩⟩
    have h:=h.setO 4 rfl (.deferred none);refine⟨_,_,_,_,h.rds 1 rfl rfl,_,h.rd 0 rfl _,?_⟩;exact k none 0 _ ((h.sl_nil 267 2).o [0] 6)
 ·subst hc;rw [if_neg (by simp)] at k;refine⟨_,_,_,_,h.rds 0 rfl rfl,?_⟩;refine q6p (labs:=[]) h (fun H h=>qa0 H none) fun H10 h=>⟨_,rfl,fun hc=>?_,fun hc=>?_⟩
  ·rw [if_neg (by simpa using hc)] at k;refine h.st 2 rfl rfl ?_;intro H11 h;refine h.st 1 rfl rfl ?_;intro H12 h;refine⟨_,_,_,_,h.rds 2 rfl rfl,_,h.rd 1 rfl _,?_⟩;exact k none 0 _ ((h.sl_nil 267 2).o [0] 4)
  ·rw [if_pos (by simpa using hc)] at k;refine⟨_,_,_,_,h.rds 0 rfl rfl,?_⟩;refine h.st 2 rfl rfl ?_;intro H11 h;refine h.st 1 rfl rfl ?_;intro H12 h;refine⟨_,_,_,_,h.rds 2 rfl rfl,_,h.rd 1 rfl _,?_⟩;exact k none 0 _ ((h.sl_nil 267 2).o [0] 4)
end
end Go.Proofs.YtfmkddccnjidmaaGreatDoor
namespace Go.Nm
def evOk (e:Ev):Bool:=decide (0≤e.stamp) && decide (e.stamp≤4611686018427387903) && q4i e.name e.labs
def q94 (next:Int)(evs:List Ev):Bool:=decide (1≤evs.length) && decide (evs.length≤64) && decide (next≤1099511627776 - evs.length) && evs.all evOk
structure EvRd (F:List Assn)(a:Option Addr)(evs:List Ev):Prop where
 rd:∀H,SatL H F→rdS H a (flat encV evs)
 labs:∀e∈evs,∀H,SatL H F→rdS H e.la (flat encL e.labs)
theorem EvRd.cons {F:List Assn}{a:Option Addr}{evs:List Ev}(h:EvRd F a evs)(A:Assn):EvRd (A::F) a evs:=
 ⟨fun H hh=>h.rd H hh.tl,fun e he H hh=>h.labs e he H hh.tl⟩
end Go.Nm
namespace Go.Proofs.YtfmkddccnjidmaaGreatDoor
open Go.Nm
theorem qe9 (x:ByteArray):qfk x x=0:=by
 unfold qfk;have h:Op.bytesLess x.toList x.toList=false:=by
  have:=ltKy ⟨0,x⟩ ⟨0,x⟩
  cases e:Op.bytesLess x.toList x.toList
  ·rfl
  ·exfalso;have h1:=(qz2 ⟨0,x⟩ ⟨0,x⟩).1 (by rw [this,e]; simp)
   rcases h1 with h1|⟨-,h1⟩
   ·exact absurd h1 (by show ¬(0:Int) < 0; omega)
   ·exact List.lt_irrefl _ h1
 rw [h]; simp
section
variable {F L:List Assn} {H:Heap} {K:Value→Heap→Prop}
theorem qke {x y:ByteArray}:q1o Tryz.prog 183 #[.string x,.string y] H (I64 (qfk x y)):=by
 intro w hw;subst hw;refine q0z (cmp183 x y w) ?_;rintro e w' ⟨rfl,rfl⟩;exact⟨_,rfl,⟨rfl,rfl,rfl⟩,rfl,rfl⟩
theorem qwt {b:Nat}{x y:Int}(h:SatL H F)(i:Nat)(hA:nth i F=cellsA b [I64 x,I64 y] 3):q1o Tryz.prog 229 #[.slice (some ⟨b,0,none⟩) 2 2] H (I64 (if x≠0 then x else y)):=by
 refine q65.call ?_;unfold q65.code;refine⟨fun i H'=>H'=H∧(i=0∨i=1∧x=0∨i=2∧x=0∧y=0),fun i _=>2 - i.toNat,⟨rfl,.inl rfl⟩,?_⟩
 rintro j H1 ⟨rfl,hj⟩;unfold q65.l1;refine⟨fun hc=>?_,fun hc=>?_⟩
 ·have hc:=z4z hc;refine⟨by omega,b,0,rfl,?_⟩
  rcases hj with rfl|⟨rfl,hx⟩|⟨rfl,_⟩
  ·refine⟨x,h.rd i hA 0,fun hv=>?_,fun hv=>?_⟩
   ·rw [if_pos (by simpa using hv)]; exact⟨rfl,rfl⟩
   ·exact⟨⟨rfl,.inr (.inl ⟨rfl,by simpa using hv⟩)⟩,by dsimp only; decide⟩
  ·refine⟨y,h.rd i hA 1,fun hv=>?_,fun hv=>?_⟩
   ·rw [if_neg (by simpa using hx)]; exact⟨rfl,rfl⟩
   ·exact⟨⟨rfl,.inr (.inr ⟨rfl,hx,by simpa using hv⟩)⟩,by dsimp only; decide⟩
  ·exact absurd hc (by decide)
 ·have hc:=z54 hc;have h2:x=0∧y=0:=by
   rcases hj with rfl|⟨rfl,hx⟩|⟨rfl,hx⟩
   ·exact absurd (by decide) hc
   ·exact absurd (by decide) hc
   ·exact hx
  rw [h2.1,h2.2];exact⟨rfl,rfl⟩
theorem qzm {l:Lab}(h:SatL H F)(k:∀H',SatL H' F→K (I64 0) H'):CF 266 #[.agg #[.string l.name,.string l.value],.agg #[.string l.name,.string l.value]] H K:=by
 refine q5n.call ?_;refine h.al fun b _ h=>?_
 refine h.al fun b1 _ h=>⟨_,h.rd 1 rfl _,_,h.rd 0 rfl _,_,qke,?_⟩
 rw [qe9];exact k _ h.tl.tl
theorem z2y {l:Lab}(h:SatL H F)(k:∀H',SatL H' F→K (I64 0) H'):CF 231 #[.agg #[.string l.name,.string l.value],.agg #[.string l.name,.string l.value]] H K:=by
 refine qad.call ?_;refine h.al fun b _ h=>?_
 refine h.al fun b1 _ h=>⟨_,_,h.rds 1 rfl rfl,_,_,h.rds 0 rfl rfl,_,h.rd 1 rfl _,_,h.rd 0 rfl _,?_⟩
 refine qzm h fun H2 h=>⟨_,rfl,h.rd 0 rfl _,h.rd 1 rfl _,_,qke,?_⟩
 rw [qe9];refine h.al fun b2 _ h=>⟨_,qwt h 0 rfl,?_⟩
 exact k _ h.tl.tl.tl
theorem z2z {a:Option Addr}{c c':Nat}{labs:List Lab}(h:SatL H F)(ha:∀H,SatL H F→rdS H a (flat encL labs))(hl:labs.length≤1000000)(k:∀H',SatL H' F→K (I64 0) H') :
  CF 230 #[.slice a labs.length c,.slice a labs.length c',.func (.func 231) #[] #[]] H K:=by
 refine q0j.call ?_;unfold q0j.code;refine⟨fun i H'=>∃j:Nat,i=j∧j≤labs.length∧SatL H' F,fun i _=>labs.length - i.toNat,⟨0,rfl,by omega,h⟩,?_⟩
 rintro i H1 ⟨j,rfl,hj,h⟩;unfold q0j.l1;refine⟨fun hc=>?_,fun hc=>⟨fun hc=>absurd (z4z hc) (by omega),fun _=>k _ h⟩⟩
 have hlt:j < labs.length:=by have:=z4z hc; omega
 have hr:=ha _ h;refine⟨by omega,_,_,hr.some q2d (by omega) hlt,_,_,hr.els q2d hlt,?_⟩;refine h.al fun b _ h=>?_
 refine h.st 0 rfl rfl ?_;intro H2 h;have hr:=ha _ h.tl;refine⟨fun hc=>absurd (z4z hc) (by omega),fun _=>⟨by omega,_,_,hr.some q2d (by omega) hlt,_,_,hr.els q2d hlt,?_⟩⟩
 refine h.al fun b1 _ h=>?_
 refine h.st 0 rfl rfl ?_;intro H3 h;refine⟨_,_,h.rds 1 rfl rfl,_,_,h.rds 0 rfl rfl,rfl,?_⟩;refine z2y (l:=labs[j]) h fun H4 h=>⟨_,rfl,fun hc=>absurd hc (by simp),fun _=>?_⟩
 rw [w64 (x:=(j:Int)+1) (by omega) (by omega)];exact⟨⟨j+1,by omega,hlt,h.tl.tl⟩,by dsimp only; omega⟩
theorem qfp {name:ByteArray}{a:Option Addr}{c c':Nat}{labs:List Lab}(h:SatL H F)(ha:∀H,SatL H F→rdS H a (flat encL labs))(hl:labs.length≤1000000)(k:∀H',SatL H' F→K (I64 0) H') :
  CF 207 #[.agg #[.string name,.slice a labs.length c],.agg #[.string name,.slice a labs.length c']] H K:=by
 refine qae.call ?_;refine h.al fun b _ h=>?_
 refine h.al fun b1 _ h=>⟨_,h.rd 1 rfl _,_,h.rd 0 rfl _,_,qke,_,_,_,h.rd 1 rfl _,_,_,_,h.rd 0 rfl _,?_⟩
 rw [qe9];refine z2z h (fun H h=>ha H h.tl.tl) hl fun H2 h=>⟨_,rfl,?_⟩
 refine h.al fun b2 _ h=>⟨_,qwt h 0 rfl,?_⟩
 exact k _ h.tl.tl.tl
theorem qzn {e:Ev}(h:SatL H F)(ha:∀H,SatL H F→rdS H e.la (flat encL e.labs))(hl:e.labs.length≤1000000)(k:∀H',SatL H' F→K (.bool true) H'):CF 206 #[aggV e,aggV e] H K:=by
 refine q3g.call ?_;refine h.al fun b _ h=>?_
 refine h.al fun b1 _ h=>?_
 intro Jn hJ;have e1:(decide (e.stamp=e.stamp) && decide (e.value=e.value))=true:=by simp
 refine⟨_,h.rd 1 rfl _,_,h.rd 0 rfl _,_,fun _=>h.rd 1 rfl _,_,fun _=>h.rd 0 rfl _,_,_,_,_,fun _=>h.rds 1 rfl rfl,_,_,_,_,fun _=>h.rds 0 rfl rfl,fun _=>?_,fun hn=>absurd e1 hn⟩
 refine qfp h (fun H h=>ha H h.tl.tl) hl fun H2 h=>⟨_,rfl,hJ _ _ ?_⟩
 exact k _ h.tl.tl
theorem EqF_self {a:Option Addr}{c c':Nat}{evs:List Ev}(h:SatL H F)(ha:EvRd F a evs)(hl:evs.length≤1000000)(hll:∀e∈evs,e.labs.length≤1000000)(k:∀H',SatL H' F→K (.bool true) H') :
  CF 205 #[.slice a evs.length c,.slice a evs.length c',.func (.func 206) #[] #[]] H K:=by
 refine q0n.call ?_;unfold q0n.code;refine⟨fun hc=>absurd hc (by simp),fun _=>?_⟩
 refine⟨fun i H'=>∃j:Nat,i=j∧j≤evs.length∧SatL H' F,fun i _=>evs.length - i.toNat,⟨0,rfl,by omega,h⟩,?_⟩
 rintro i H1 ⟨j,rfl,hj,h⟩;unfold q0n.l1;refine⟨fun hc=>?_,fun hc=>k _ h⟩
 have hlt:j < evs.length:=by have:=z4z hc; omega
 have hr:=ha.rd _ h;refine⟨by omega,_,_,hr.some q14 (by omega) hlt,_,_,_,_,_,_,hr.els q14 hlt,?_⟩;refine h.al fun b _ h=>?_
 refine h.st 0 rfl rfl ?_;intro H2 h;have hr:=ha.rd _ h.tl;refine⟨by omega,_,_,hr.some q14 (by omega) hlt,_,_,_,_,_,_,hr.els q14 hlt,?_⟩;refine h.al fun b1 _ h=>?_
 refine h.st 0 rfl rfl ?_;intro H3 h;refine⟨_,_,_,_,_,_,h.rds 1 rfl rfl,_,_,_,_,_,_,h.rds 0 rfl rfl,rfl,?_⟩;refine qzn (e:=evs[j]) h (fun H h=>ha.labs _ (z5e hlt) H h.tl.tl) (hll _ (z5e hlt)) fun H4 h=>⟨_,rfl,fun hc=>absurd hc (by simp),fun _=>?_⟩
 rw [w64 (x:=(j:Int)+1) (by omega) (by omega)];exact⟨⟨j+1,by omega,hlt,h.tl.tl⟩,by dsimp only; omega⟩
theorem qzo {next:Int}{a:Option Addr}{c:Nat}{evs:List Ev}(h:SatL H F)(ha:EvRd F a evs)(hl:evs.length≤1099511627776)(k:∀H',SatL H' F→K (.bool (q94 next evs)) H') :
  CF 163 #[I64 next,.slice a evs.length c] H K:=by
 refine q2w.call ?_;unfold q2w.code;have hw:i64.wrap (1099511627776 - (evs.length:Int))=1099511627776 - (evs.length:Int):=w64 (by omega) (by omega);rw [hw];refine⟨fun hc=>?_,fun hc=>?_⟩
 ·have:q94 next evs=false:=by
   simp only [z5h,z52] at hc
   cases e:q94 next evs
   ·rfl
   ·unfold q94 at e;simp only [z56,z52] at e;omega
  rw [← this];exact k _ h
 ·simp only [z5g,z58] at hc;have hB:q94 next evs=evs.all evOk:=by
   unfold q94;rw [z5m (by omega),z5m (by omega),z5m (by omega)];simp
  refine⟨fun i H'=>∃j:Nat,i=j∧j≤evs.length∧(∀q (hq:q < evs.length),q < j→evOk evs[q]=true)∧SatL H' F,fun i _=>evs.length - i.toNat,⟨0,rfl,by omega,fun q _ h=>by omega,h⟩,?_⟩
  rintro i H1 ⟨j,rfl,hj,hp,h⟩;unfold q2w.l2;refine⟨fun hc=>?_,fun hc=>?_⟩
  ·have hlt:j < evs.length:=by have:=z4z hc; omega
   have hr:=ha.rd _ h;refine⟨by omega,_,_,hr.some q14 (by omega) hlt,_,_,_,_,_,_,hr.els q14 hlt,?_⟩;refine h.al fun b _ h=>?_
   refine h.st 0 rfl rfl ?_;intro H2 h;intro Jn hJ;have hJ':∀H3,SatL H3 F→Jn (!evOk evs[j]) H3:=by
    intro H3 h;refine hJ _ _ ?_;unfold q2w.r1;refine⟨fun hx=>?_,fun hx=>?_⟩
    ·have:q94 next evs=false:=by rw [hB]; exact qu6 hlt (by simpa using hx)
     rw [← this];exact k _ h
    ·rw [w64 (x:=(j:Int)+1) (by omega) (by omega)];refine⟨⟨j+1,by omega,hlt,fun q hq hq'=>?_,h⟩,by dsimp only; omega⟩
     by_cases hqj:q=j
     ·subst hqj; simpa using hx
     ·exact hp q hq (by omega)
   refine⟨_,h.rd 0 rfl _,_,fun _=>h.rd 0 rfl _,_,_,_,_,fun _=>h.rds 0 rfl rfl,fun hx=>?_,fun hx=>?_⟩
   ·refine q6p h (fun H h=>ha.labs _ (z5e hlt) H h.tl) fun H3 h=>⟨_,rfl,?_⟩
    have e:evOk evs[j]=q4i evs[j].name evs[j].labs:=by
     simp only [z5g,z58] at hx;unfold evOk;rw [z5m (by omega),z5m (by omega)];simp
    rw [← e];exact hJ' _ h.tl
   ·have e:evOk evs[j]=false:=by
     unfold evOk;simp only [z5g,z58] at hx;simp only [z6k,z58];omega
    have:=hJ' _ h.tl;rw [e] at this;exact this
  ·have hge:evs.length≤j:=by have:=z54 hc; omega
   have:q94 next evs=true:=by rw [hB]; exact z2o fun q hq=>hp q hq (by omega)
   rw [← this];exact k _ h
end
open Go.Nm
abbrev fbC (ag ep next:Int)(a:Option Addr)(n c:Nat):List Value:=
 [I64 5,I64 ag,I64 ep,I64 0,I64 0,I64 0,I64 0,I64 next,I64 0,I64 0,.slice a n c,.string (⟨#[]⟩:ByteArray),.slice none 0 0,.slice none 0 0]
section
variable {F L:List Assn} {H:Heap} {K:Value→Heap→Prop}
theorem qhk {f0 f1 f2 f3 f4 f5 f6 f7 f8 f9:Int}{f10a:Option Addr}{f10n f10c:Nat}{f11:ByteArray}{f12a:Option Addr}{f12n f12c:Nat}{f13a:Option Addr}{f13n f13c:Nat}(h:SatL H F)
  (k:∀H',SatL H' F→K (.agg #[I64 f3,I64 f4,I64 f5,I64 f6,I64 f7,I64 f8,I64 f9]) H') :
  CF 204 ⟨[(.agg #[(I64 f0),(I64 f1),(I64 f2),(I64 f3),(I64 f4),(I64 f5),(I64 f6),(I64 f7),(I64 f8),(I64 f9),(.slice f10a f10n f10c),(.string f11),(.slice f12a f12n f12c),(.slice f13a f13n f13c)])]⟩ H K:=by
 refine qaf.call ?_;refine h.al fun b _ h=>?_
 refine h.al fun b1 _ h=>?_
 refine⟨_,h.rd 1 rfl _,_,h.rd 1 rfl _,_,h.rd 1 rfl _,_,h.rd 1 rfl _,_,h.rd 1 rfl _,_,h.rd 1 rfl _,_,h.rd 1 rfl _,?_⟩;refine h.st 0 rfl rfl ?_;intro H2 h;exact⟨_,_,_,_,_,_,_,h.rds 0 rfl rfl,k _ h.tl.tl⟩
theorem eq314 {a b c d e f g:Int}:q7d Tryz.prog .eql 314 (.agg #[I64 a,I64 b,I64 c,I64 d,I64 e,I64 f,I64 g]) (.agg #[I64 a,I64 b,I64 c,I64 d,I64 e,I64 f,I64 g]) true:=by
 have h:=(qjw (P:=Tryz.prog) (t:=314) (xs:=[I64 a,I64 b,I64 c,I64 d,I64 e,I64 f,I64 g]) (ys:=[I64 a,I64 b,I64 c,I64 d,I64 e,I64 f,I64 g])
  (r:=(a == a && (b == b && (c == c && (d == d && (e == e && (f == f && (g == g && true)))))))) (by kernel_rfl)).1
 simpa using h
theorem eq102 {a b c:Int}:q7d Tryz.prog .eql 102 (.agg #[I64 a,I64 b,I64 c]) (.agg #[I64 a,I64 b,I64 c]) true:=by
 have h:=(qcl (P:=Tryz.prog) (t:=102) (xs:=[I64 a,I64 b,I64 c]) (ys:=[I64 a,I64 b,I64 c]) (r:=(a == a && (b == b && (c == c && true)))) (by kernel_rfl)).1;simpa using h
theorem qkf {a b:Option Addr}{c d:Nat}{xs ys:List Int}(hA:a=none∨∃k o,a=some ⟨k,o,none⟩)(hB:b=none∨∃k o,b=some ⟨k,o,none⟩)(ha:rdS H a (xs.map U8))(hb:rdS H b (ys.map U8))
  (k:K (.bool ((strB xs).toList == (strB ys).toList)) H):CF 51 #[.slice a xs.length c,.slice b ys.length d] H K:=
 qdx.call ⟨_,qf7 hA ha,_,qf7 hB hb,k⟩
set_option maxHeartbeats 1000000 in
theorem qzp {ag ep next:Int}{a:Option Addr}{c:Nat}{evs:List Ev}(h:SatL H F)(ha:EvRd F a evs)(hl:evs.length≤1000000)(hll:∀e∈evs,e.labs.length≤1000000)(k:∀H',SatL H' F→K (.bool true) H') :
  CF 165 #[.agg ⟨fbC ag ep next a evs.length c⟩,.agg ⟨fbC ag ep next a evs.length c⟩] H K:=by
 refine q6i.call ?_;unfold q6i.code;refine h.al fun b _ h=>?_
 refine h.al fun b1 _ h=>?_
 intro Jn hJ;refine⟨_,_,_,h.rds 1 rfl rfl,_,_,_,h.rds 0 rfl rfl,true,eq102,_,_,_,_,_,_,_,_,_,_,_,_,_,_,_,_,_,_,_,_,fun _=>h.rds 1 rfl rfl,_,_,_,_,_,_,_,_,_,_,_,_,_,_,_,_,_,_,_,_,fun _=>h.rds 0 rfl rfl,fun _=>?_,fun hn=>absurd rfl hn⟩
 refine qhk h fun H2 h=>⟨_,_,_,_,_,_,_,rfl,fun _=>h.rds 0 rfl rfl,?_⟩
 refine qhk h fun H3 h=>⟨_,_,_,_,_,_,_,rfl,true,eq314,_,_,_,fun _=>h.rd 1 rfl _,_,_,_,fun _=>h.rd 0 rfl _,fun _=>?_,fun hn=>absurd rfl hn⟩
 refine EqF_self h ((ha.cons _).cons _) hl hll fun H4 h=>⟨_,rfl,_,_,_,_,fun _=>h.rds 1 rfl rfl,_,_,_,_,fun _=>h.rds 0 rfl rfl,fun _=>?_,fun hn=>absurd rfl hn⟩
 refine qfp (labs:=[]) h (fun H h=>qa0 H none) (by simp) fun H5 h=>⟨_,rfl,_,_,_,fun _=>h.rd 1 rfl _,_,_,_,fun _=>h.rd 0 rfl _,fun _=>?_,fun hn=>absurd (by simp) hn⟩
 refine qkf (xs:=[]) (ys:=[]) (.inl rfl) (.inl rfl) (qa0 _ none) (qa0 _ none) ⟨_,rfl,hJ _ _ ?_⟩;have:=k _ h.tl.tl;unfold q6i.r1;have e:((strB []).toList == (strB []).toList)=true:=by simp
 rw [e];exact this
theorem qkg {b o:Nat}{e:Nat}{cs:List Value}(h:SatL H F)(i:Nat)(hA:nth i F=cellsA b cs e)(hc:lget cs 0=some (I64 5))
  (k:∀p H',SatL H' (cellsA p [PA b 1,PA b 2,PA b 7] 177::F)→K (.slice (some ⟨p,0,none⟩) 3 3) H'):CF 162 #[PA b 0] H K:=by
 refine q42.call ?_;unfold q42.code;refine⟨5,(h.rd i hA 0).trans hc,fun hc=>absurd hc (by decide),fun _=>⟨fun hc=>absurd hc (by decide),fun _=>⟨fun hc=>absurd hc (by decide),fun _=>⟨fun hc=>absurd hc (by decide),fun _=>?_⟩⟩⟩⟩
 intro Jn hJ;refine⟨fun _=>hJ _ _ ?_,fun hc=>absurd hc (by decide)⟩
 unfold q42.r1;refine⟨fun _=>?_,fun hc=>absurd hc (by decide)⟩
 refine h.al fun p _ h=>?_
 exact k _ _ h
def qfq (next:Int)(evs:List Ev):Bool:=decide (0≤next) && decide (next≤4611686018427387903) && q94 next evs
set_option maxHeartbeats 2000000 in
theorem qkh {next:Int}{a:Option Addr}{c:Nat}{evs:List Ev}(h:SatL H F)(ha:EvRd F a evs)(hl:evs.length≤1099511627776)(k:∀H',SatL H' F→K (.bool (qfq next evs)) H') :
  CF 96 #[.agg ⟨fbC 0 0 next a evs.length c⟩] H K:=by
 refine q0o.call ?_;unfold q0o.code;refine h.al fun b _ h=>?_
 refine qkg (o:=0) h 0 rfl rfl fun p H1 h=>⟨_,_,_,rfl,_,fun _=>h.rd 1 rfl _,_,fun _=>h.rd 1 rfl _,_,fun _=>h.rd 1 rfl _,_,fun _=>h.rd 1 rfl _,fun hc=>absurd hc (by simp),fun _=>⟨_,h.rd 1 rfl _,?_⟩⟩
 refine h.al fun b1 _ h=>?_
 refine h.st 0 rfl rfl ?_;intro H2 h;refine qkg (o:=0) h 0 rfl rfl fun p1 H3 h=>⟨_,_,_,rfl,?_⟩
 refine⟨fun i H'=>(i=0∨i=1∨i=2∨i=3)∧((i=3→0≤next∧next≤4611686018427387903))∧
  SatL H' (cellsA p1 [PA b1 1,PA b1 2,PA b1 7] 177::cellsA b1 (fbC 0 0 (if i=3 then next else 0) none 0 0) 104::cellsA p [PA b 1,PA b 2,PA b 7] 177::cellsA b (fbC 0 0 next a evs.length c) 104::F),
  fun i _=>3 - i.toNat,⟨.inl rfl,fun h=>absurd h (by decide),h⟩,?_⟩
 rintro i H4 ⟨hi,hn,h⟩;unfold q0o.l6;refine⟨fun hc=>?_,fun hc=>?_⟩
 ·have hc:=z4z hc
  rcases hi with rfl|rfl|rfl|rfl
  ·refine⟨by decide,_,_,rfl,_,h.rd 2 rfl _,q02 ⟨_,h.rd 3 rfl _,fun _=>trivial,_,fun _=>h.rd 3 rfl _,fun hc=>absurd hc (by decide),fun _=>⟨by decide,_,_,rfl,_,h.rd 0 rfl _,q02 ⟨_,h.rd 3 rfl _,q02 ?_⟩⟩⟩⟩
   refine h.st 1 rfl rfl ?_;intro H5 h;exact⟨⟨.inr (.inl (by decide)),fun h=>absurd h (by decide),h⟩,by dsimp only; decide⟩
  ·refine⟨by decide,_,_,rfl,_,h.rd 2 rfl _,q02 ⟨_,h.rd 3 rfl _,fun _=>trivial,_,fun _=>h.rd 3 rfl _,fun hc=>absurd hc (by decide),fun _=>⟨by decide,_,_,rfl,_,h.rd 0 rfl _,q02 ⟨_,h.rd 3 rfl _,q02 ?_⟩⟩⟩⟩
   refine h.st 1 rfl rfl ?_;intro H5 h;exact⟨⟨.inr (.inr (.inl (by decide))),fun h=>absurd h (by decide),h⟩,by dsimp only; decide⟩
  ·refine⟨by decide,_,_,rfl,_,h.rd 2 rfl _,q02 ⟨_,h.rd 3 rfl _,fun _=>trivial,_,fun _=>h.rd 3 rfl _,fun hc=>?_,fun hc=>⟨by decide,_,_,rfl,_,h.rd 0 rfl _,q02 ⟨_,h.rd 3 rfl _,q02 ?_⟩⟩⟩⟩
   ·have:qfq next evs=false:=by
     simp only [z5h,z52] at hc;unfold qfq;simp only [z6k,z58];omega
    rw [← this];exact k _ h.tl.tl.tl.tl
   ·simp only [z5g,z58] at hc;refine h.st 1 rfl rfl ?_;intro H5 h;exact⟨⟨.inr (.inr (.inr (by decide))),fun _=>by omega,h⟩,by dsimp only; decide⟩
  ·exact absurd hc (by decide)
 ·have hc:=z54 hc;have hi3:i=3:=by
   rcases hi with rfl|rfl|rfl|rfl
   ·exact absurd (by decide) hc
   ·exact absurd (by decide) hc
   ·exact absurd (by decide) hc
   ·rfl
  subst hi3;have hn:=hn rfl;rw [if_pos rfl] at h;have hF:qfq next evs=q94 next evs:=by
   unfold qfq;rw [z5m hn.1,z5m hn.2];simp
  refine⟨_,h.rd 3 rfl _,?_⟩;intro Jn hJ;refine⟨fun hc=>absurd hc (by decide),fun _=>?_⟩
  intro Jn1 hJ1;refine⟨fun _=>⟨_,_,_,h.rd 3 rfl _,?_⟩,fun hc=>absurd hc (by decide)⟩
  refine h.st 1 rfl rfl ?_;intro H5 h;refine⟨_,h.rd 3 rfl _,_,_,_,h.rd 3 rfl _,?_⟩;refine qzo h ((((ha.cons _).cons _).cons _).cons _) hl fun H6 h=>⟨_,rfl,fun hc=>?_,fun hc=>?_⟩
  ·have:qfq next evs=false:=by rw [hF]; simpa using hc
   rw [← this];exact k _ h.tl.tl.tl.tl
  ·have hb:q94 next evs=true:=by simpa using hc
   refine hJ1 _ (hJ _ ?_);unfold q0o.r1;refine⟨_,_,_,_,_,_,_,_,_,_,_,_,_,_,_,_,_,_,_,_,h.rds 3 rfl rfl,_,_,_,_,_,_,_,_,_,_,_,_,_,_,_,_,_,_,_,_,h.rds 1 rfl rfl,?_⟩;have h64:evs.length≤64:=by
    unfold q94 at hb;simp only [z56,z52] at hb;omega
   have hll:∀e∈evs,e.labs.length≤1000000:=by
    intro e he;unfold q94 at hb;rw [z56,z69] at hb;have h1:=hb.2 e he;unfold evOk at h1;rw [z56] at h1;have:=(q92 h1.2).len;omega
   refine qzp h ((((ha.cons _).cons _).cons _).cons _) (by omega) hll fun H7 h=>⟨_,rfl,?_⟩
   have:qfq next evs=true:=by rw [hF,hb]
   rw [← this];exact k _ h.tl.tl.tl.tl
end
open Go.Nm
section
variable {F L:List Assn} {H:Heap} {K:Value→Heap→Prop}
theorem qzq {a:Option Addr}{c:Nat}{l:List Ev}(h:SatL H F)(ha:∀H,SatL H F→rdS H a (flat encV l))(hl:l.length≤1000000)
  (k:∀a' c' H',SatL H' (slA 95 4 a' l.length c' (flat encV l)::F)→K (.slice a' l.length c') H'):CF 188 #[.slice a l.length c] H K:=by
 refine q5k.call ⟨fun hc=>?_,fun hc=>?_⟩
 ·have:a=none:=by simpa using hc
  subst this;have hz:=qcm (ha H h);have:l=[]:=by
   have:=congrArg List.length hz;rw [q0m q14] at this;exact z6r (by simp at this; omega)
  subst this;exact k none 0 H (h.sl_nil 95 4)
 ·refine h.al fun b _ h=>?_
  have hr:=ha _ h.tl;have h1:=SatL.sl_pt (cs:=[]) h 4 0 rfl;refine SatL.append (m:=l.length) sl44 h1 0 rfl hr (q0m q14 l) (q64 qmn l) (by omega) (by omega) fun a' c' H' h2=>⟨_,_,_,rfl,?_⟩
  have h3:SatL H' (slA 95 4 a' (0+l.length) c' ([]++flat encV l)::F):=h2;rw [z5p,z6l] at h3;have:=k a' c' H' h3;simpa using this
theorem qzr {a:Option Addr}{c:Nat}{l:List Ot}(h:SatL H F)(ha:∀H,SatL H F→rdS H a (flat encO l))(hl:l.length≤1000000)
  (k:∀a' c' H',SatL H' (slA 64 74 a' l.length c' (flat encO l)::F)→K (.slice a' l.length c') H'):CF 85 #[.slice a l.length c] H K:=by
 refine q7e.call ⟨fun hc=>?_,fun hc=>?_⟩
 ·have:a=none:=by simpa using hc
  subst this;have hz:=qcm (ha H h);have:l=[]:=by
   have:=congrArg List.length hz;rw [q0m q32] at this;exact z6r (by simp at this; omega)
  subst this;exact k none 0 H (h.sl_nil 64 74)
 ·refine h.al fun b _ h=>?_
  have hr:=ha _ h.tl;have h1:=SatL.sl_pt (cs:=[]) h 74 0 rfl;refine SatL.append (m:=l.length) sl86 h1 0 rfl hr (q0m q32 l) (q64 q7v l) (by omega) (by omega) fun a' c' H' h2=>⟨_,_,_,rfl,?_⟩
  have h3:SatL H' (slA 64 74 a' (0+l.length) c' ([]++flat encO l)::F):=h2;rw [z5p,z6l] at h3;have:=k a' c' H' h3;simpa using this
theorem qrk {a:Option Addr}{c:Nat}{l:List Ot}{j:Nat}(hj:j≤l.length)(h:SatL H (slA 64 74 a l.length c (flat encO l)::F))
  (k:∀H',SatL H' (slA 64 74 a (l.length - j) c (flat encO (l.drop j))::F)→K (.slice a (l.length - j) c) H'):CF 74 #[.slice a l.length c,I64 0,I64 j] H K:=by
 have hnc:=h.sl_nc 0 rfl;refine q49.call ?_;unfold q49.code;refine⟨⟨by omega,by omega,by omega,by omega⟩,fun hc=>?_,fun hc=>?_⟩
 ·have:j=0:=by simp only [z52] at hc; omega
  subst this;exact k H h
 ·have hj0:0 < j:=by simp only [z58] at hc; omega
  refine⟨⟨by omega,by omega,by omega⟩,⟨by omega,by omega,by omega⟩,?_⟩;have hr:=h.sl_rd 0 rfl;have hs:=hr.some q32 (by omega) (k:=0) (by omega);have e0:slB a 0 c 74=a:=by
   unfold slB;rw [if_neg (by omega),hs,z62,q47]; simp
  have hw:=hr.subK (k:=j) (c:=c) (sz:=74) (by rw [q0m q32]; omega);rw [qjp q32] at hw;have ht:=h.sl_take 0 rfl 0 (by omega);simp only [Nat.zero_mul,List.take_zero] at ht;rw [e0];show RunW Tryz.prog (Builtin.append_ #[86,86] 86 #[.slice a 0 c,.slice (slB a j c 74) (l.length - j) (c - j)]) H _;refine SatL.appendIn sl86 ht 0 rfl hw (by rw [q0m q32,z5u]) (q64 q7v _) (by omega) fun H' h2=>⟨_,_,_,rfl,⟨by omega,by omega,by omega⟩,?_⟩
  rw [z5p];have h3:SatL H' (slA 64 74 a (0+(l.length - j)) c ([]++flat encO (l.drop j))::F):=h2;rw [z5p,z6l] at h3;exact SatL.clearS sl86 (by kernel_rfl) h3 0 rfl (by omega) fun _ H4 h4=>k _ h4
theorem qzs {a:Option Addr}{c:Nat}{l:List Lab}(h:SatL H F)(ha:∀H,SatL H F→rdS H a (flat encL l))(hl:l.length≤1000000)
  (k:∀a' c' H',SatL H' (slA 267 2 a' l.length c' (flat encL l)::F)→K (.slice a' l.length c') H'):CF 189 #[.slice a l.length c] H K:=by
 refine q5j.call ⟨fun hc=>?_,fun hc=>?_⟩
 ·have:a=none:=by simpa using hc
  subst this;have hz:=qcm (ha H h);have:l=[]:=by
   have:=congrArg List.length hz;rw [q0m q2d] at this;exact z6r (by simp at this; omega)
  subst this;exact k none 0 H (h.sl_nil 267 2)
 ·refine h.al fun b _ h=>?_
  have hr:=ha _ h.tl;have h1:=SatL.sl_pt (cs:=[]) h 2 0 rfl;refine SatL.append (m:=l.length) sl91 h1 0 rfl hr (q0m q2d l) (q64 qgr l) (by omega) (by omega) fun a' c' H' h2=>⟨_,_,_,rfl,?_⟩
  have h3:SatL H' (slA 267 2 a' (0+l.length) c' ([]++flat encL l)::F):=h2;rw [z5p,z6l] at h3;have:=k a' c' H' h3;simpa using this
theorem quk {Q:Assn}{a:Option Addr}{c:Nat}{l:List Lab}(h:SatL H (Q::F))(ha:∀H,SatL H (Q::F)→rdS H a (flat encL l))(hl:l.length≤1000000)
  (k:∀Q' a' c' H',Sub Q Q'→KIn Q' a' (flat encL l)→SatL H' (Q'::F)→K (.slice a' l.length c') H'):CF 189 #[.slice a l.length c] H K:=
 qzs h ha hl fun a' c' H' h=>k _ a' c' H' (Sub.add _ Q) KIn.sl (q2m.2 h)
end
end Go.Proofs.YtfmkddccnjidmaaGreatDoor
namespace Go.Nm
structure Pv where
 stamp:Int
 value:Int
 name:ByteArray
 labs:List Lab
def Ev.p (e:Ev):Pv:=⟨e.stamp,e.value,e.name,e.labs⟩
section
variable {α β:Type}
def mapR (f:α→β)(l:RowL α):RowL β:=l.map fun p=>(p.1,f p.2)
def mapH (f:α→β)(s:HS α):HS β:=⟨s.next,s.most,mapR f s.rows⟩
theorem z30 (f:α→β)(l:RowL α):q03 (mapR f l)=q03 l:=by simp [mapR,q03,z68,Function.comp_def]
theorem qp2 (f:α→β)(l:RowL α):(mapR f l).length=l.length:=z5q ..
theorem qwu (f:α→β)(n:Int)(v:α):∀l:RowL α,ins n (f v) (mapR f l)=mapR f (ins n v l)
 | []=>rfl
 | (a,b)::r=>by
  have ih:=qwu f n v r;show (if n < a then _ else _)=mapR f (if n < a then _ else _)
  split
  ·rfl
  ·show (a,f b)::ins n (f v) (mapR f r)=(a,f b)::mapR f (ins n v r);rw [ih]
theorem qmx (f:α→β)(n:Int):∀l:RowL α,q08 n (mapR f l)=(q08 n l).map f
 | []=>rfl
 | (a,b)::r=>by
  have ih:=qmx f n r;show q08 n ((a,f b)::mapR f r)=_;unfold q08
  split
  ·rfl
  ·exact ih
theorem qul (f:α→β)(next most n:Int)(v:α)(s:RowL α × Int):q2e next most n (f v) (mapR f s.1,s.2)=(mapR f (q2e next most n v s).1,(q2e next most n v s).2):=by
 unfold q2e;have e:(q08 n (mapR f s.1)).isSome=(q08 n s.1).isSome:=by rw [qmx]; simp
 simp only [e]
 split
 ·rfl
 ·split
  ·rfl
  ·dsimp only; rw [qwu]
theorem qki (f:α→β)(next most:Int):∀(l:List α) (n:Int) (s:RowL α × Int),q34 next most n (l.map f) (mapR f s.1,s.2)=(mapR f (q34 next most n l s).1,(q34 next most n l s).2)
 | [],n,s=>rfl
 | v::vs,n,s=>by
  show q34 next most (n+1) (vs.map f) (q2e next most n (f v) (mapR f s.1,s.2))=_;rw [qul];exact qki f next most vs (n+1) _
theorem qwv (f:α→β):∀(l:RowL α) (next:Int),pop next (mapR f l)=((pop next l).1.map f,(pop next l).2.1,mapR f (pop next l).2.2)
 | [],next=>rfl
 | (n,v)::r,next=>by
  have ih:=qwv f r (next+1);have e1:pop next (mapR f ((n,v)::r))=if n=next then (f v::(pop (next+1) (mapR f r)).1,(pop (next+1) (mapR f r)).2) else ([],next,mapR f ((n,v)::r)):=rfl
  have e2:pop next ((n,v)::r)=if n=next then (v::(pop (next+1) r).1,(pop (next+1) r).2) else ([],next,(n,v)::r):=rfl
  rw [e1,e2,ih]
  split <;> rfl
theorem qzt (f:α→β)(s:HS α)(first:Int)(items:List α):(mapH f s).offer first (items.map f)=(mapH f (s.offer first items).1,(s.offer first items).2.1.map f,(s.offer first items).2.2):=by
 unfold HS.offer
 split
 ·simp
 ·have h:=qki f s.next s.most items first (s.rows,0);simp only [mapH,h,qwv]
theorem qan {f:α→β}{l:RowL α}:q4n (mapR f l)↔q4n l:=by
 unfold q4n mapR;rw [z7n]
theorem qmy {f:α→β}{lo next most:Int}{l:RowL α}:q4w lo next most (mapR f l)↔q4w lo next most l:=by
 constructor
 ·rintro⟨h1,h2⟩;exact⟨qan.1 h1,fun p hp=>h2 (p.1,f p.2) (z5b.2 ⟨p,hp,rfl⟩)⟩
 ·rintro⟨h1,h2⟩;refine⟨qan.2 h1,fun p hp=>?_⟩
  obtain⟨q,hq,rfl⟩:=z5b.1 hp;exact h2 q hq
theorem ok_mapH {f:α→β}{s:HS α}:(mapH f s).Ok↔s.Ok:=
 ⟨fun h=>⟨h.next0,h.most1,h.most2,qmy.1 h.rows⟩,fun h=>⟨h.next0,h.most1,h.most2,qmy.2 h.rows⟩⟩
theorem qzu {next most n:Int}{v:α}{s:RowL α × Int}{p:Int × α}(h:p∈(q2e next most n v s).1):p.2=v∨p∈s.1:=by
 unfold q2e at h
 split at h
 ·exact .inr h
 ·split at h
  ·exact .inr h
  ·rcases qjo.1 h with rfl|h
   ·exact .inl rfl
   ·exact .inr h
theorem qgx {next most:Int}:∀{l:List α} {n:Int} {s:RowL α × Int} {p:Int × α},p∈(q34 next most n l s).1→p.2∈l∨p∈s.1
 | [],n,s,p,h=>.inr h
 | v::vs,n,s,p,h=>by
  rcases qgx (l:=vs) h with h|h
  ·exact .inl (z5j _ h)
  ·rcases qzu h with h|h
   ·exact .inl (h▸z5i ..)
   ·exact .inr h
theorem qum:∀{l:RowL α} {next:Int},(∀v∈(pop next l).1,∃p∈l,p.2=v)∧∀p∈(pop next l).2.2,p∈l
 | [],next=>⟨fun v h=>absurd h (by simp [pop]),fun p h=>absurd h (by simp [pop])⟩
 | (n,v)::r,next=>by
  have ih:=qum (l:=r) (next:=next+1);unfold pop
  split
  ·refine⟨fun x hx=>?_,fun p hp=>z5j _ (ih.2 p hp)⟩
   rcases z5l.1 hx with rfl|hx
   ·exact⟨_,z5i ..,rfl⟩
   ·obtain⟨p,hp,e⟩:=ih.1 x hx;exact⟨p,z5j _ hp,e⟩
  ·exact⟨fun x hx=>absurd hx (by simp),fun p hp=>hp⟩
theorem qbz {s:HS α}{first:Int}{items:List α}:(∀v∈(s.offer first items).2.1,v∈items∨∃p∈s.rows,p.2=v)∧∀p∈(s.offer first items).1.rows,p.2∈items∨p∈s.rows:=by
 unfold HS.offer
 split
 ·exact⟨fun v h=>absurd h (by simp),fun p h=>.inr h⟩
 ·have hp:=qum (l:=(q34 s.next s.most first items (s.rows,0)).1) (next:=s.next);refine⟨fun v hv=>?_,fun p hpp=>qgx (hp.2 p hpp)⟩
  obtain⟨p,h1,rfl⟩:=hp.1 v hv
  rcases qgx h1 with h|h
  ·exact .inl h
  ·exact .inr ⟨p,h,rfl⟩
theorem z34:∀{l:RowL α} {next:Int},(pop next l).1.length≤l.length
 | [],_=>z5c _
 | (n,v)::r,next=>by
  have ih:=z34 (l:=r) (next:=next+1);unfold pop
  split
  ·show (v::(pop (next+1) r).1).length≤_;simp only [z59]; omega
  ·simp
theorem qmz {next most:Int}:∀{l:List α} {n:Int} {s:RowL α × Int},(q34 next most n l s).1.length≤s.1.length+l.length
 | [],n,s=>z5c _
 | v::vs,n,s=>by
  have ih:=qmz (next:=next) (most:=most) (l:=vs) (n:=n+1) (s:=q2e next most n v s);have h1:(q2e next most n v s).1.length≤s.1.length+1:=by
   unfold q2e
   split
   ·omega
   ·split
    ·dsimp only; omega
    ·dsimp only; rw [qy8]; omega
  show (q34 next most (n+1) vs (q2e next most n v s)).1.length≤_;rw [z59]; omega
theorem qp3 {s:HS α}{first:Int}{items:List α}:(s.offer first items).2.1.length≤s.rows.length+items.length:=by
 unfold HS.offer
 split
 ·simp
 ·exact z5f z34 qmz
end
abbrev q8m (Q:Assn)(e:Ev):Prop:=KIn Q e.la (flat encL e.labs)
end Go.Nm
namespace Go.Proofs.YtfmkddccnjidmaaGreatDoor
open Go.Nm
def hldA (Q:Assn)(hb:Nat)(s:HS Pv):Assn:=exS fun p:Nat × RowL Ev=>star [holdC hb p.1 s.next s.most,mapV p.1 p.2,pur (mapR Ev.p p.2=s.rows∧∀x∈p.2,q8m Q x.2)]
section
variable {Q Q':Assn} {hb:Nat} {s:HS Pv} {F L:List Assn} {H:Heap} {K:Value→Heap→Prop}
theorem q4e:SatL H (hldA Q hb s::F)↔∃mb rows,(mapR Ev.p rows=s.rows∧∀x∈rows,q8m Q x.2)∧SatL H (holdC hb mb s.next s.most::mapV mb rows::F):=by
 constructor
 ·intro h;obtain⟨⟨mb,rows⟩,h⟩:=q0r.1 h;have h:=SatL.open (A:=[_,_,_]) h;have hp:=SatL.consP (h.o [2,0,1] 3);exact⟨mb,rows,hp.1,hp.2⟩
 ·rintro⟨mb,rows,hp,h⟩;refine q0r.2 ⟨(mb,rows),SatL.shut [_,_,_] ?_⟩;exact (h.pur hp).o [1,2,0] 3
theorem qp4 (hs:Sub Q Q')(h:SatL H (hldA Q hb s::F)):SatL H (hldA Q' hb s::F):=by
 obtain⟨mb,rows,hp,h⟩:=q4e.1 h;exact q4e.2 ⟨mb,rows,⟨hp.1,fun x hx=>(hp.2 x hx).sub hs⟩,h⟩
theorem qkj {next most:Int}(h:SatL H F)
  (k1:next < 0∨1099511627776 < next∨most < 1∨256 < most→K (.tuple #[.pointer none,I64 11]) H)
  (k2:∀hb H',0≤next∧next≤1099511627776∧1≤most∧most≤256→SatL H' (hldA Q hb ⟨next,most,[]⟩::F)→K (.tuple #[PA hb 0,I64 0]) H') :
  CF 56 #[I64 next,I64 most] H K:=
 z2f h k1 fun hb mb H' hc h=>k2 hb H' hc (q4e.2 ⟨mb,[],⟨rfl,fun x hx=>absurd hx (by simp)⟩,h⟩)
theorem q9q (h:SatL H (hldA Q hb s::F)):q1o Tryz.prog 82 #[PA hb 0] H (I64 s.next):=by
 obtain⟨mb,rows,hp,h⟩:=q4e.1 h;exact qyu h 0 rfl
theorem qkk {first:Int}{ia:Option Addr}{ic:Nat}{items:List Ev}(h:SatL H (hldA Q hb s::F))(ok:s.Ok)(hn:s.next≤1125899906842624)
  (hF:∀H,SatL H F→rdS H ia (flat encV items)) (hk:∀e∈items,q8m Q e) (hlen:items.length≤1000000)
  (k:∀a c (ready:List Ev) H',ready.map Ev.p=(s.offer first (items.map Ev.p)).2.1→(∀e∈ready,q8m Q e)→
   SatL H' (slA 95 4 a ready.length c (flat encV ready)::hldA Q hb (s.offer first (items.map Ev.p)).1::F)→K (.tuple #[.slice a ready.length c,I64 (s.offer first (items.map Ev.p)).2.2]) H') :
  CF 145 #[PA hb 0,I64 first,.slice ia items.length ic] H K:=by
 obtain⟨mb,rows,hp,h⟩:=q4e.1 h;have es:s=mapH Ev.p ⟨s.next,s.most,rows⟩:=by unfold mapH; rw [hp.1]
 have hof:=qzt Ev.p ⟨s.next,s.most,rows⟩ first items;rw [← es] at hof;rw [hof] at k;have hok:(⟨s.next,s.most,rows⟩:HS Ev).Ok:=ok_mapH.1 (es▸ok);have hm:=qbz (s:=⟨s.next,s.most,rows⟩) (first:=first) (items:=items);have hmost:((⟨s.next,s.most,rows⟩:HS Ev).offer first items).1.most=s.most:=by unfold HS.offer; split <;> rfl
 refine qyv (s:=⟨s.next,s.most,rows⟩) h hok hn hF hlen fun a c H' h=>?_
 refine k a c _ H' rfl (fun e he=>?_) ?_
 ·rcases hm.1 e he with h|⟨p,h,rfl⟩
  ·exact hk e h
  ·exact hp.2 p h
 ·have h:=h.o [1,2,0] 3;have h2:SatL H' (hldA Q hb (mapH Ev.p ((⟨s.next,s.most,rows⟩:HS Ev).offer first items).1)::_):=q4e.2 ⟨mb,_,⟨rfl,fun x hx=>by
   rcases hm.2 x hx with h|h
   ·exact hk _ h
   ·exact hp.2 x h⟩,by
    show SatL H' (holdC hb mb _ ((⟨s.next,s.most,rows⟩:HS Ev).offer first items).1.most::_);rw [hmost]; exact h⟩
  exact h2.o [1,0] 2
theorem qao (h:SatL H (hldA Q hb s::F))(hr:q4n s.rows)(hw:∀p∈s.rows,wf64 p.1)(hl:s.rows.length≤1000000)
  (k:∀a c H',SatL H' (slA 2 1 a s.rows.length c ((q03 s.rows).map I64)::hldA Q hb s::F)→K (.slice a s.rows.length c) H') :
  CF 83 #[PA hb 0] H K:=by
 obtain⟨mb,rows,hp,h⟩:=q4e.1 h;rw [← hp.1] at hr hw hl;have hlen:s.rows.length=rows.length:=by rw [← hp.1,qp2]
 have hkk:q03 s.rows=q03 rows:=by rw [← hp.1,z30]
 refine qhi h (qan.1 hr) (fun p hp'=>hw (p.1,p.2.p) (z5b.2 ⟨p,hp',rfl⟩)) (by rw [qp2] at hl; exact hl) fun a c H' h=>?_
 rw [← hlen];refine k a c H' ?_;rw [hlen,hkk];have h:=h.o [1,2,0] 3;have h:=q4e.2 ⟨mb,rows,hp,h⟩;exact h.o [1,0] 2
theorem qun (h:SatL H (hldA Q hb s::F))(hr:q4n s.rows)(hw:∀p∈s.rows,wf64 p.1)(hl:s.rows.length≤1000000)
  (k:∀a c (evs:List Ev) H',evs.map Ev.p=s.rows.map (·.2)→(∀e∈evs,q8m Q e)→SatL H' (slA 95 4 a evs.length c (flat encV evs)::hldA Q hb s.drain::F)→K (.slice a evs.length c) H') :
  CF 126 #[PA hb 0] H K:=by
 obtain⟨mb,rows,hp,h⟩:=q4e.1 h;rw [← hp.1] at hr hw hl;refine qyw h (qan.1 hr) (fun p hp'=>hw (p.1,p.2.p) (z5b.2 ⟨p,hp',rfl⟩)) (by rw [qp2] at hl; exact hl) fun a c H' h=>?_
 have h:=h.o [1,2,0] 3;have h2:SatL H' (hldA Q hb s.drain::_):=q4e.2 ⟨mb,[],⟨rfl,fun x hx=>absurd hx (by simp)⟩,h⟩
 have hlm:(rows.map (·.2)).length=rows.length:=z5q ..;have hk:=k a c (rows.map (·.2)) H' (by rw [← hp.1]; unfold mapR; rw [z68,z68]; rfl) (fun e he=>by
  obtain⟨p,h1,rfl⟩:=z5b.1 he;exact hp.2 p h1) (by rw [hlm]; exact h2.o [1,0] 2)
 rw [hlm] at hk;exact hk
theorem qup (h:SatL H (hldA Q hb s::F))
  (k:∀hb' H',SatL H' (hldA Q hb' s::hldA Q hb s::F)→K (PA hb' 0) H'):CF 90 #[PA hb 0] H K:=by
 obtain⟨mb,rows,hp,h⟩:=q4e.1 h;refine qu2 h fun hb' mb' H' h=>k hb' H' ?_
 have h:=h.o [2,3,0,1] 4;have h:=q4e.2 ⟨mb,rows,hp,h⟩;have h:=h.o [1,2,0] 3;exact q4e.2 ⟨mb',rows,hp,h⟩
end
end Go.Proofs.YtfmkddccnjidmaaGreatDoor
namespace Go.Nm
def q9a (e:Pv):Bool:=decide (0≤e.stamp) && decide (e.stamp≤4611686018427387903) && q4i e.name e.labs
def q5w (next:Int)(evs:List Pv):Bool:=decide (0≤next) && decide (next≤4611686018427387903) && (decide (1≤evs.length) && decide (evs.length≤64) && decide (next≤1099511627776 - evs.length) && evs.all q9a)
structure Rp where
 kind:Int
 ag:Int
 ep:Int
 bt:Int
 nx:Int
 st:Int
 nw:Int
 sm:Smp
 evs:List Pv
def ordK (k:Int):List Nat:=if k=2 then [1,3,6] else if k=3 then [1,2,7,8,9,10] else if k=4 then [1,2,4,6] else if k=5 then [1,2,4,5,6] else if k=6 then [6] else if k=7 then [4] else []
def zrK (k:Int)(i:Nat)(x:Int):Int:=if i∈ordK k then 0 else x
abbrev inM (x least most:Int):Bool:=decide (least≤x) && decide (x≤most)
def Rp.zeros (r:Rp):Bool:=(decide (zrK r.kind 1 r.ag=0) && decide (zrK r.kind 2 r.ep=0) && decide (zrK r.kind 3 r.bt=0) && decide (zrK r.kind 4 r.nx=0) && decide (zrK r.kind 5 r.st=0) && decide (zrK r.kind 6 r.nw=0)) &&
 (decide (zrK r.kind 7 r.sm.asked=0) && decide (zrK r.kind 8 r.sm.got=0) && decide (zrK r.kind 9 r.sm.sent=0) && decide (zrK r.kind 10 r.sm.came=0))
def Rp.lim (r:Rp):Bool:=inM r.ag 0 63 && inM r.ep (if r.kind=3∨r.kind=4∨r.kind=5 then 1 else 0) 1099511627776 && inM r.bt (if r.kind=2 then 1 else 0) 1099511627776 && inM r.nx 0 1099511627776 && inM r.st 0 4611686018427387903 && inM r.nw 0 4611686018427387903 && decide (r.sm.ok)
def Rp.right (r:Rp):Bool:=inM r.kind 1 7 && r.zeros && (if r.kind=4 then q5w r.nx r.evs else decide (r.evs.length=0)) && r.lim
abbrev encR (r:Rp)(a:Option Addr)(c:Nat):List Value:=[I64 r.kind,I64 r.ag,I64 r.ep,I64 r.bt,I64 r.nx,I64 r.st,I64 r.nw,I64 r.sm.asked,I64 r.sm.got,I64 r.sm.sent,I64 r.sm.came,.slice a r.evs.length c]
theorem kinds {k:Int}(h1:¬k < 1)(h2:¬7 < k):k=1∨k=2∨k=3∨k=4∨k=5∨k=6∨k=7:=by omega
end Go.Nm
namespace Go.Proofs.YtfmkddccnjidmaaGreatDoor
open Go.Nm
section
variable {F L:List Assn} {H:Heap} {K:Value→Heap→Prop}
theorem qp5 {next:Int}{evs:List Ev}:qfq next evs=q5w next (evs.map Ev.p):=by
 unfold qfq q94 q5w;rw [z5q,List.all_map];rfl
theorem q3f {x a b:Int}:q1o Tryz.prog 97 #[I64 x,I64 a,I64 b] H (.bool (inM x a b)):=qdz.call ⟨rfl,rfl⟩
theorem qgy {b e:Nat}{k0:Int}{cs:List Value}(h:SatL H F)(i:Nat)(hA:nth i F=cellsA b cs e)(hc:lget cs 0=some (I64 k0))
  (k:∀a c H',SatL H' (slA 177 1 a (ordK k0).length c ((ordK k0).map fun i=>PA b i)::F)→K (.slice a (ordK k0).length c) H'):CF 93 #[PA b 0] H K:=by
 refine qig.call ?_;unfold qig.code;have fin:∀(l:List Nat) p H',ordK k0=l→SatL H' (cellsA p (l.map fun i=>PA b i) 177::F)→K (.slice (some ⟨p,0,none⟩) l.length l.length) H':=by
  intro l p H' e h;subst e;refine k _ _ _ ?_;exact SatL.sl_pt h 1 _ (by simp)
 refine⟨k0,(h.rd i hA 0).trans hc,fun hk=>?_,fun hk=>⟨fun hk=>?_,fun hk=>⟨fun hk=>?_,fun hk=>⟨fun hk=>?_,fun hk=>⟨fun hk=>?_,fun hk=>⟨fun hk=>?_,fun hk=>?_⟩⟩⟩⟩⟩⟩
 ·have hk:=z4z hk;subst hk;exact h.al fun p _ h=>fin [1,3,6] p _ rfl h
 ·have hk:=z4z hk;subst hk;exact h.al fun p _ h=>fin [1,2,7,8,9,10] p _ rfl h
 ·have hk:=z4z hk;subst hk;exact h.al fun p _ h=>fin [1,2,4,6] p _ rfl h
 ·have hk:=z4z hk;subst hk;exact h.al fun p _ h=>fin [1,2,4,5,6] p _ rfl h
 ·have hk:=z4z hk;subst hk;exact h.al fun p _ h=>fin [6] p _ rfl h
 ·have hk:=z4z hk;subst hk;exact h.al fun p _ h=>fin [4] p _ rfl h
 ·have e:ordK k0=[]:=by
   unfold ordK;simp only [z58] at *;simp only [*,if_false]
  have:=k none 0 H (by rw [e]; exact h.sl_nil 177 1);rw [e] at this;exact this
def zrL (cs:List Value)(is:List Nat):List Value:=is.foldl (fun cs i=>q2h cs i [I64 0]) cs
theorem zrL_len (cs:List Value):∀is,(zrL cs is).length=cs.length:=by
 intro is
 induction is generalizing cs with
 | nil=>rfl
 | cons i r ih=>show (zrL (q2h cs i [I64 0]) r).length=_; rw [ih,q76]
theorem zrL_take (cs:List Value)(is:List Nat)(j:Nat)(h:j < is.length):zrL cs (is.take (j+1))=q2h (zrL cs (is.take j)) is[j] [I64 0]:=by
 unfold zrL;rw [z6d h,z7k]; rfl
theorem quq {k:Int}:∀i∈ordK k,i < 11:=by
 unfold ordK
 split
 ·decide
 split
 ·decide
 split
 ·decide
 split
 ·decide
 split
 ·decide
 split
 ·decide
 ·decide
theorem qp6 (k:Int):(ordK k).length≤6:=by
 unfold ordK
 split
 ·decide
 split
 ·decide
 split
 ·decide
 split
 ·decide
 split
 ·decide
 split
 ·decide
 ·decide
theorem zrL_enc {r:Rp}{a:Option Addr}{c:Nat}(h1:¬r.kind < 1)(h2:¬7 < r.kind):zrL (encR r a c) (ordK r.kind) =
  [I64 r.kind,I64 (zrK r.kind 1 r.ag),I64 (zrK r.kind 2 r.ep),I64 (zrK r.kind 3 r.bt),I64 (zrK r.kind 4 r.nx),I64 (zrK r.kind 5 r.st),I64 (zrK r.kind 6 r.nw),I64 (zrK r.kind 7 r.sm.asked),I64 (zrK r.kind 8 r.sm.got),I64 (zrK r.kind 9 r.sm.sent),I64 (zrK r.kind 10 r.sm.came),.slice a r.evs.length c]:=by
 obtain⟨kind,ag,ep,bt,nx,st,nw,sm,evs⟩:=r;dsimp only at h1 h2
 rcases kinds h1 h2 with rfl|rfl|rfl|rfl|rfl|rfl|rfl <;> rfl
theorem eq180 {a b c d e f:Int}:q7d Tryz.prog .neq 180 (.agg #[I64 a,I64 b,I64 c,I64 d,I64 e,I64 f]) (.agg #[I64 0,I64 0,I64 0,I64 0,I64 0,I64 0])
  (!(decide (a=0) && decide (b=0) && decide (c=0) && decide (d=0) && decide (e=0) && decide (f=0))):=by
 have h:=(qjw (P:=Tryz.prog) (t:=180) (xs:=[I64 a,I64 b,I64 c,I64 d,I64 e,I64 f]) (ys:=[I64 0,I64 0,I64 0,I64 0,I64 0,I64 0])
  (r:=(a == 0 && (b == 0 && (c == 0 && (d == 0 && (e == 0 && (f == 0 && true))))))) (by kernel_rfl)).2
 have e:(a == 0 && (b == 0 && (c == 0 && (d == 0 && (e == 0 && (f == 0 && true))))))=(decide (a=0) && decide (b=0) && decide (c=0) && decide (d=0) && decide (e=0) && decide (f=0)):=by
  rw [z65];simp only [z56,beq_iff_eq,z52,Bool.and_true]
  constructor
  ·rintro⟨h1,h2,h3,h4,h5,h6⟩; exact⟨⟨⟨⟨⟨h1,h2⟩,h3⟩,h4⟩,h5⟩,h6⟩
  ·rintro⟨⟨⟨⟨⟨h1,h2⟩,h3⟩,h4⟩,h5⟩,h6⟩; exact⟨h1,h2,h3,h4,h5,h6⟩
 rw [e] at h;exact h
theorem eq43 {a b c d:Int}:q7d Tryz.prog .neq 43 (.agg #[I64 a,I64 b,I64 c,I64 d]) (.agg #[I64 0,I64 0,I64 0,I64 0])
  (!(decide (a=0) && decide (b=0) && decide (c=0) && decide (d=0))):=by
 have h:=(qcl (P:=Tryz.prog) (t:=43) (xs:=[I64 a,I64 b,I64 c,I64 d]) (ys:=[I64 0,I64 0,I64 0,I64 0])
  (r:=(a == 0 && (b == 0 && (c == 0 && (d == 0 && true))))) (by kernel_rfl)).2
 have e:(a == 0 && (b == 0 && (c == 0 && (d == 0 && true))))=(decide (a=0) && decide (b=0) && decide (c=0) && decide (d=0)):=by
  rw [z65];simp only [z56,beq_iff_eq,z52,Bool.and_true]
  constructor
  ·rintro⟨h1,h2,h3,h4⟩; exact⟨⟨⟨h1,h2⟩,h3⟩,h4⟩
  ·rintro⟨⟨⟨h1,h2⟩,h3⟩,h4⟩; exact⟨h1,h2,h3,h4⟩
 rw [e] at h;exact h
set_option maxHeartbeats 2000000 in
theorem qap {r:Rp}{a:Option Addr}{c:Nat}{evs:List Ev}(he:r.evs=evs.map Ev.p)(h:SatL H F)(ha:EvRd F a evs)(hl:evs.length≤1099511627776)
  (k:∀H',SatL H' F→K (.bool r.right) H'):CF 34 #[.agg ⟨encR r a c⟩] H K:=by
 have hel:r.evs.length=evs.length:=by rw [he,z5q]
 refine q0s.call ?_;unfold q0s.code;refine h.al fun b _ h=>⟨_,h.rd 0 rfl _,_,fun _=>h.rd 0 rfl _,fun hc=>?_,fun hc=>?_⟩
 ·have:r.right=false:=by
   unfold Rp.right inM;simp only [z5h,z52] at hc;have:(decide (1≤r.kind) && decide (r.kind≤7))=false:=by
    simp only [z6k,z58]; omega
   rw [this]; simp
  rw [← this];exact k _ h.tl
 simp only [z5g,z58] at hc;have hk17:inM r.kind 1 7=true:=by unfold inM; rw [z5m (by omega),z5m (by omega)]; rfl
 refine⟨_,_,_,_,_,_,_,_,_,_,_,_,_,_,h.rds 0 rfl rfl,?_⟩;refine h.al fun b1 _ h=>?_
 refine h.st 0 rfl rfl ?_;intro H2 h;refine qgy h 0 rfl rfl fun p pc H3 h=>⟨_,_,_,rfl,?_⟩
 refine⟨fun i H'=>∃j:Nat,i=j∧j≤(ordK r.kind).length∧SatL H' (slA 177 1 p (ordK r.kind).length pc ((ordK r.kind).map fun i=>PA b1 i)::cellsA b1 (zrL (encR r a c) ((ordK r.kind).take j)) 46::cellsA b (encR r a c) 46::F),
  fun i _=>(ordK r.kind).length - i.toNat,⟨0,rfl,by omega,h⟩,?_⟩
 rintro i H4 ⟨j,rfl,hj,h⟩;unfold q0s.l7;refine⟨fun hlt=>?_,fun hlt=>?_⟩
 ·have hlt:j < (ordK r.kind).length:=by have:=z4z hlt; omega
  have hr:=(h.sl_rd 0 rfl).at hlt;have hi:=quq _ (z5e hlt);have ho:=qp6 r.kind;refine⟨by omega,_,_,hr.1,_,hr.2,q02 ?_⟩;refine h.st 1 rfl (by rw [zrL_len]; exact Nat.ble_eq_true_of_le (by show (ordK r.kind)[j]+1≤12; omega)) ?_;intro H5 h;rw [w64 (x:=(j:Int)+1) (by omega) (by omega)];refine⟨⟨j+1,by omega,hlt,?_⟩,by dsimp only; omega⟩;rw [zrL_take _ _ _ hlt];exact h
 ·have hge:(ordK r.kind).length≤j:=by have:=z54 hlt; omega
  rw [z5o hge,zrL_enc hc.1 hc.2] at h;refine⟨_,h.rd 1 rfl _,_,h.rd 1 rfl _,_,h.rd 1 rfl _,_,h.rd 1 rfl _,_,h.rd 1 rfl _,_,h.rd 1 rfl _,?_⟩;refine h.al fun b3 _ h=>?_
  refine h.st 0 rfl rfl ?_;intro H5 h;refine⟨_,_,_,_,_,_,h.rds 0 rfl rfl,_,eq180,_,_,_,_,fun _=>h.rds 2 rfl rfl,_,fun _=>eq43,fun hz=>?_,fun hz=>?_⟩
  ·have:r.right=false:=by
    have:r.zeros=false:=by
     unfold Rp.zeros;rw [z6k];rw [z5h,z5k,z5k] at hz;exact hz
    unfold Rp.right;rw [this]; simp
   rw [← this];exact k _ h.tl.tl.tl.tl
  have hzs:r.zeros=true:=by
   rw [z5g,z67,z67] at hz;unfold Rp.zeros;rw [hz.1,hz.2]; rfl
  have hR:r.right=((if r.kind=4 then q5w r.nx r.evs else decide (r.evs.length=0)) && r.lim):=by
   unfold Rp.right;rw [hk17,hzs]; simp
  refine⟨_,h.rd 3 rfl _,?_⟩;intro Jn hJ;have fin:∀H6,(if r.kind=4 then q5w r.nx r.evs else decide (r.evs.length=0))=true→SatL H6 (cellsA b (encR r a c) 46::F)→Jn H6:=by
   intro H6 hb h;rw [hb,Bool.true_and] at hR;refine hJ _ ?_;unfold q0s.r6;refine⟨_,h.rd 0 rfl _,?_⟩;intro Jn1 hJ1;have fin2:∀ep bt,ep=(if r.kind=3∨r.kind=4∨r.kind=5 then (1:Int) else 0)→bt=(if r.kind=2 then (1:Int) else 0)→Jn1 ep bt H6:=by
    rintro _ _ rfl rfl;refine hJ1 _ _ _ ?_;unfold q0s.r2;intro Jn2 hJ2;refine⟨_,h.rd 0 rfl _,_,q3f,_,fun _=>h.rd 0 rfl _,_,fun _=>q3f,_,fun _=>h.rd 0 rfl _,_,fun _=>q3f,_,fun _=>h.rd 0 rfl _,_,fun _=>q3f,_,fun _=>h.rd 0 rfl _,_,fun _=>q3f,_,fun _=>h.rd 0 rfl _,_,fun _=>q3f,_,_,_,_,fun _=>h.rds 0 rfl rfl,fun hw=>?_,fun hw=>?_⟩
    ·refine qaj (s:=r.sm) h fun H7 h=>⟨_,rfl,hJ2 _ _ ?_⟩
     have:r.right=decide r.sm.ok:=by
      rw [hR];unfold Rp.lim;rw [hw,Bool.true_and]
     unfold q0s.r1;rw [← this];exact k _ h.tl
    ·refine hJ2 _ _ ?_;have:r.right=false:=by
      rw [hR];unfold Rp.lim;rw [Bool.not_eq_true] at hw;rw [hw,Bool.false_and]
     unfold q0s.r1;rw [← this];exact k _ h.tl
   refine⟨fun hk=>?_,fun hk=>?_⟩
   ·have hk:=z4z hk;exact fin2 _ _ (by rw [if_neg (by omega)]) (by rw [if_pos hk])
   intro Jn3 hJ3;have hk2:=z54 hk;have f3:∀t:Bool,t=decide (r.kind=3∨r.kind=4∨r.kind=5)→Jn3 t H6:=by
    rintro t rfl;refine hJ3 _ _ ?_;unfold q0s.r4;intro Jn4 hJ4;refine⟨fun ht=>?_,fun ht=>?_⟩
    ·refine hJ4 _ _ ?_;unfold q0s.r3;exact fin2 _ _ (by rw [if_pos (z4z ht)]) (by rw [if_neg hk2])
    ·refine hJ4 _ _ ?_;unfold q0s.r3;exact fin2 _ _ (by rw [if_neg (z54 ht)]) (by rw [if_neg hk2])
   refine⟨fun hk=>?_,fun hk=>?_⟩
   ·have hk3:=z4z hk;exact f3 _ (by rw [z5m hk3,z5m (.inl hk3)])
   intro Jn5 hJ5;have hk3:=z54 hk;refine⟨fun hk=>?_,fun hk=>?_⟩
   ·have hk4:=z4z hk;refine hJ5 _ _ ?_;unfold q0s.r5;exact f3 _ (by rw [z5m hk4,z5m (.inr (.inl hk4))])
   ·have hk4:=z54 hk;refine hJ5 _ _ ?_;unfold q0s.r5;refine f3 _ ?_;rw [z65,z52,z52];omega
  refine⟨fun hk=>?_,fun hk=>?_⟩
  ·have hk:=z4z hk;refine⟨_,h.rd 3 rfl _,_,_,_,h.rd 3 rfl _,?_⟩;refine h.al fun b4 _ h=>?_
   refine h.st 0 rfl rfl ?_;intro H6 h;refine⟨_,_,_,_,_,_,_,_,_,_,_,_,_,_,_,_,_,_,_,_,h.rds 0 rfl rfl,?_⟩;rw [hel] at h ⊢;refine qkh (evs:=evs) h (((((ha.cons _).cons _).cons _).cons _).cons _) hl fun H7 h=>⟨_,rfl,fun hb=>?_,fun hb=>?_⟩
   ·have:r.right=false:=by
     rw [hR,if_pos hk,he,← qp5];rw [z5k] at hb;rw [hb]; rfl
    rw [← this];exact k _ h.tl.tl.tl.tl.tl
   ·refine fin _ ?_ ?_
    ·rw [if_pos hk,he,← qp5];simpa using hb
    ·rw [← hel] at h;exact h.o [4] 5
  ·have hk:=z54 hk;refine⟨_,_,_,h.rd 3 rfl _,fun hn=>?_,fun hn=>?_⟩
   ·have hn:=z4z hn;have:r.right=false:=by
     rw [hR,if_neg hk,z6m (by omega)]; rfl
    rw [← this];exact k _ h.tl.tl.tl.tl
   ·have hn:=z54 hn;refine fin _ ?_ (h.o [3] 4);rw [if_neg hk,z5m (by omega)]
end
end Go.Proofs.YtfmkddccnjidmaaGreatDoor
namespace Go.Nm
def u64N (v:Int):Nat:=(u64.wrap v).toNat
def usB (l:List Int):List Int:=l.flatMap fun v=>q1x (u64N v)
theorem q3a (l:List Int):q04 (usB l):=q19 fun _ _=>q87 _
abbrev Rd (α:Type):=RS→Except Int (α × RS)
def okR {α:Type}(s:RS)(x:α):Except Int (α × RS):=if s.e≠0 then .error s.e else .ok (x,s)
def numR:Rd Int:=fun s=>okR (uRes s).2 ((uRes s).1:Int)
def q1u:Rd Int:=fun s=>okR (uRes s).2 (i64.wrap ((uRes s).1:Int))
def q7h:Rd Int:=fun s=>okR (iRes s).2 (iRes s).1
def q23 (m:Int):Rd Int:=fun s=>okR (cRes m s).2 (cRes m s).1
def upR (m:Int):Rd Int:=fun s=>match q1u s with
 | .ok (v,s')=>if inM v 0 m then .ok (v,s') else .error 10
 | .error e=>.error e
def q5x:Rd Pv:=fun s=>match q1u s with
 | .error e=>.error e
 | .ok (a,s1)=>match q7h s1 with
  | .error e=>.error e
  | .ok (b,s2)=>okR ⟨(q6u s2).e,(q6u s2).rest.bs⟩ ⟨a,b,(q6u s2).name,(q6u s2).labs⟩
def evB (e:Pv):List Int:=(usB [e.stamp]++q2y [e.value])++serR e.name e.labs
theorem qrl (e:Pv):q04 (evB e):=q0a (q0a (q3a _) (q8i _)) (qzi _ _)
def Rp.nums (r:Rp)(i:Nat):Int:=match i with|1=>r.ag|2=>r.ep|3=>r.bt|4=>r.nx|5=>r.st|6=>r.nw|7=>r.sm.asked|8=>r.sm.got|9=>r.sm.sent|10=>r.sm.came|_=>0
def Rp.bytes (r:Rp):List Int:=if r.right then (usB [r.kind]++(ordK r.kind).flatMap (fun i=>usB [r.nums i]))++(if r.kind=4 then usB [(r.evs.length:Int)] else [])++r.evs.flatMap evB else []
end Go.Nm
namespace Go.Proofs.YtfmkddccnjidmaaGreatDoor
open Go.Nm
theorem qkl (v:Int):u64N v < 18446744073709551616:=by
 have:=z2p v;unfold u64N; omega
theorem qur (v:Int):u64.wrap v=(u64N v:Nat):=by
 have:=z2p v;unfold u64N; omega
theorem q1j (l:List Int):(usB l).length≤10*l.length:=by
 induction l with
 | nil=>simp [usB]
 | cons v r ih=>
  have:=uintB_len10 (qkl v);unfold usB at ih ⊢;rw [z6a,z51,z59]; omega
theorem qp7 (e:Pv):(evB e).length≤1320:=by
 have h1:=q1j [e.stamp];have h2:=q4p [e.value];have h3:=qwq e.name e.labs;unfold evB;simp only [z51,z59,z5t] at *;omega
section
variable {F L:List Assn} {H:Heap} {K KP:Value→Heap→Prop} {Q:Assn}
theorem qc0 {a:Option Addr}{c:Nat}{vs:List Int}(h:SatL H F)(ha:∀H,SatL H F→rdS H a (vs.map I64))(hl:vs.length≤1000000)
  (k:∀a' c' H',SatL H' (slA 5 1 a' (usB vs).length c' ((usB vs).map U8)::F)→K (.slice a' (usB vs).length c') H') :
  CF 57 #[.slice a vs.length c] H K:=by
 refine q6l.call ?_;unfold q6l.code;refine⟨fun a' n' c' i H'=>∃j:Nat,i=j∧j≤vs.length∧n'=(usB (vs.take j)).length∧SatL H' (slA 5 1 a' (usB (vs.take j)).length c' ((usB (vs.take j)).map U8)::F),fun _ _ _ i _=>vs.length - i.toNat,
  ⟨0,rfl,z5s _,rfl,h.sl_nil 5 1⟩,?_⟩
 rintro a1 n1 c1 i H1 ⟨j,rfl,hj,rfl,h⟩;unfold q6l.l1;refine⟨fun hc=>?_,fun hc=>?_⟩
 ·have hlt:j < vs.length:=by have:=z4z hc; omega
  have hr:=(ha _ h.tl).at hlt;refine⟨by omega,_,_,hr.1,vs[j],hr.2,?_⟩;rw [qur];have hul:=q1j (vs.take j);have hu1:=uintB_len10 (qkl vs[j]);have htk:(vs.take j).length≤vs.length:=by rw [z5n]; omega
  refine h.al fun b1 _ h=>?_
  refine q6t (us:=[u64N vs[j]]) h (fun H h=>h.ce_rd 0 rfl) (by simp; exact qkl _) (by simp) fun a2 c2 H3 h=>⟨_,_,_,rfl,?_⟩
  rw [qp1] at h ⊢;refine appB h (i:=2) rfl rfl rfl (h.sl_rd 0 rfl) (by omega) fun a3 c3 H6 h=>⟨_,_,_,rfl,?_⟩
  rw [w64 (x:=(j:Int)+1) (by omega) (by omega)];have e:usB (vs.take (j+1))=usB (vs.take j)++q1x (u64N vs[j]):=q1a (f:=fun v=>q1x (u64N v)) hlt
  rw [← e] at h ⊢;exact⟨⟨j+1,by omega,hlt,rfl,h.o [2] 3⟩,by dsimp only; omega⟩
 ·have hge:vs.length≤j:=by have:=z54 hc; omega
  have e:vs.take j=vs:=z5o hge;rw [e] at h ⊢;exact k _ _ _ h
theorem q73 {b:Nat}{v:Int}(h:SatL H F)(i:Nat)(hA:nth i F=cellsA b [I64 v] 2)
  (k:∀a' c' H',SatL H' (slA 5 1 a' (usB [v]).length c' ((usB [v]).map U8)::F)→K (.slice a' (usB [v]).length c') H') :
  CF 57 #[.slice (some ⟨b,0,none⟩) 1 1] H K:=
 qc0 (vs:=[v]) h (fun H h=>h.ce_rd i hA) (by simp) k
theorem q7w {b:Nat}{v:Int}(h:SatL H F)(i:Nat)(hA:nth i F=cellsA b [I64 v] 2)
  (k:∀a' c' H',SatL H' (slA 5 1 a' (q2y [v]).length c' ((q2y [v]).map U8)::F)→K (.slice a' (q2y [v]).length c') H') :
  CF 59 #[.slice (some ⟨b,0,none⟩) 1 1] H K:=
 qrg (vs:=[v]) h (fun H h=>h.ce_rd i hA) (by simp) k
set_option maxHeartbeats 1000000 in
theorem qkm {e:Ev}(h:SatL H F)(ha:∀H,SatL H F→rdS H e.la (flat encL e.labs))
  (k:∀a' c' H',SatL H' (slA 5 1 a' (evB e.p).length c' ((evB e.p).map U8)::F)→K (.slice a' (evB e.p).length c') H') :
  CF 95 #[aggV e] H K:=by
 refine q29.call ?_;unfold q29.code;refine h.al fun b _ h=>?_
 intro Jn hJ;have l1:=q1j [e.stamp];have l2:=q4p [e.value];have l3:=qwq e.name e.labs;simp only [z59,z5t] at l1 l2;have hJ':∀a c H',SatL H' (slA 5 1 a (usB [e.stamp]++q2y [e.value]).length c ((usB [e.stamp]++q2y [e.value]).map U8)::cellsA b (encV e) 95::F)→Jn a (usB [e.stamp]++q2y [e.value]).length c H':=by
  intro a c H' h;refine hJ _ _ _ _ ?_;unfold q29.r1;refine⟨_,_,_,_,h.rds 1 rfl rfl,?_⟩;refine quf h (fun H h=>ha H h.tl.tl) fun a2 c2 H2 h=>⟨_,_,_,rfl,?_⟩
  refine appB h (i:=1) rfl rfl rfl (h.sl_rd 0 rfl) (by rw [z51]; omega) fun a3 c3 H6 h=>⟨_,_,_,rfl,?_⟩
  exact k _ _ _ (h.o [1] 3)
 refine⟨_,h.rd 0 rfl _,_,h.rd 0 rfl _,?_,?_⟩
 ·refine h.al fun b1 _ h=>⟨h.rd 1 rfl _,?_,?_⟩
  ·refine q73 h 0 rfl fun a1 c1 H2 h=>⟨_,_,_,rfl,h.rd 2 rfl _,?_⟩
   refine h.al fun b2 _ h=>?_
   refine q7w h 0 rfl fun a2 c2 H3 h=>⟨_,_,_,rfl,?_⟩
   refine appB h (i:=2) rfl rfl rfl (h.sl_rd 0 rfl) (by omega) fun a3 c3 H6 h=>⟨_,_,_,rfl,?_⟩
   exact hJ' _ _ _ (h.o [2,4] 5)
  ·refine h.al fun b2 _ h=>?_
   refine q73 h 1 rfl fun a1 c1 H2 h=>⟨_,_,_,rfl,?_⟩
   refine q7w h 1 rfl fun a2 c2 H3 h=>⟨_,_,_,rfl,?_⟩
   refine appB h (i:=1) rfl rfl rfl (h.sl_rd 0 rfl) (by omega) fun a3 c3 H6 h=>⟨_,_,_,rfl,?_⟩
   exact hJ' _ _ _ (h.o [1,4] 5)
 ·refine h.al fun b2 _ h=>⟨h.rd 1 rfl _,?_⟩
  refine h.al fun b1 _ h=>?_
  refine q73 h 0 rfl fun a1 c1 H2 h=>⟨_,_,_,rfl,?_⟩
  refine q7w h 2 rfl fun a2 c2 H3 h=>⟨_,_,_,rfl,?_⟩
  refine appB h (i:=1) rfl rfl rfl (h.sl_rd 0 rfl) (by omega) fun a3 c3 H6 h=>⟨_,_,_,rfl,?_⟩
  exact hJ' _ _ _ (h.o [1,4] 5)
abbrev pnV (e:Int):Value:=.iface 28 (I64 e)
def qzv {α:Type}(rb:Nat)(F:List Assn)(enc:α→Value)(K KP:Value→Heap→Prop):Except Int (α × RS)→Prop
 | .ok (x,s)=>∀H',s.e=0→q04 s.bs→s.bs.length≤1099511627776→SatL H' (crdA rb s::F)→K (enc x) H'
 | .error e=>∀H',e≠0→SatL H' F→KP (pnV e) H'
theorem q1v {e:Int}(k:e=0→K (.tuple #[]) H)(kp:e≠0→KP (pnV e) H):CP 45 #[I64 e] H K KP:=by
 refine q8b.call ?_;unfold q8b.code;refine fun Jn hJ=>⟨fun hc=>kp (by simpa using hc),fun hc=>hJ _ ?_⟩
 unfold q8b.r1;exact k (by simpa using hc)
theorem q8n {rb:Nat}{s:RS}(h:SatL H (crdA rb s::F))(hb:q04 s.bs)(hl:s.bs.length≤1099511627776)(k:qzv rb F (fun v:Int=>.int .u64 v) K KP (numR s)) :
  CP 49 #[.agg #[PA rb 0]] H K KP:=by
 refine qk2.call ?_;refine h.al fun b _ h=>⟨_,h.rd 0 rfl _,?_⟩
 have h:=h.o [1,0] 2;refine q8k h hb hl fun H1 h=>⟨_,rfl,_,h.rd 1 rfl _,_,qbp h,?_⟩
 have hb1:=q10 hb;have hl1:=q5o s;unfold numR okR at k;refine q1v (fun e=>⟨rfl,?_⟩) fun e=>?_
 ·rw [if_neg (by simpa using e)] at k;exact k _ e hb1 (by omega) (h.o [0] 2)
 ·rw [if_pos e] at k;exact k _ e h.tl.tl
theorem q2c {rb:Nat}{s:RS}(h:SatL H (crdA rb s::F))(hb:q04 s.bs)(hl:s.bs.length≤1099511627776)(k:qzv rb F I64 K KP (q1u s)) :
  CP 43 #[.agg #[PA rb 0]] H K KP:=by
 refine qtu.call ?_;refine h.al fun b _ h=>⟨_,h.rd 0 rfl 0,?_⟩
 have h:=h.o [1,0] 2;refine q8n h hb hl ?_;unfold numR okR;unfold q1u okR at k
 split
 ·rename_i e;rw [if_pos e] at k;exact fun H' he h=>k _ he h.tl
 ·rename_i e;rw [if_neg e] at k;exact fun H' he hb hl h=>⟨_,rfl,k _ he hb hl (h.o [0] 2)⟩
theorem q8o {rb:Nat}{s:RS}(h:SatL H (crdA rb s::F))(hb:q04 s.bs)(hl:s.bs.length≤1099511627776)(k:qzv rb F I64 K KP (q7h s)) :
  CP 41 #[.agg #[PA rb 0]] H K KP:=by
 refine qk3.call ?_;refine h.al fun b _ h=>⟨_,h.rd 0 rfl _,?_⟩
 have h:=h.o [1,0] 2;refine qoz h hb hl fun H1 h=>⟨_,rfl,_,h.rd 1 rfl _,_,qbp h,?_⟩
 have hb1:q04 (iRes s).2.bs:=q10 hb;have hl1:(iRes s).2.bs.length≤s.bs.length:=q5o s;unfold q7h okR at k;refine q1v (fun e=>⟨rfl,?_⟩) fun e=>?_
 ·rw [if_neg (by simpa using e)] at k;exact k _ e hb1 (by omega) (h.o [0] 2)
 ·rw [if_pos e] at k;exact k _ e h.tl.tl
theorem q8p {rb:Nat}{s:RS}{m:Int}(hm:wf64 m)(h:SatL H (crdA rb s::F))(hb:q04 s.bs)(hl:s.bs.length≤1099511627776)(k:qzv rb F I64 K KP (q23 m s)) :
  CP 42 #[.agg #[PA rb 0],I64 m] H K KP:=by
 refine qoq.call ?_;refine h.al fun b _ h=>⟨_,h.rd 0 rfl _,?_⟩
 have h:=h.o [1,0] 2;refine qgl (most:=m) h hb hl hm fun H1 h=>⟨_,rfl,_,h.rd 1 rfl _,_,qbp h,?_⟩
 have hb1:=q9n (m:=m) hb;have hl1:=qfm s m;unfold q23 okR at k;refine q1v (fun e=>⟨rfl,?_⟩) fun e=>?_
 ·rw [if_neg (by simpa using e)] at k;exact k _ e hb1 (by omega) (h.o [0] 2)
 ·rw [if_pos e] at k;exact k _ e h.tl.tl
theorem q9r {rb:Nat}{s:RS}{m:Int}(h:SatL H (crdA rb s::F))(hb:q04 s.bs)(hl:s.bs.length≤1099511627776)(k:qzv rb F I64 K KP (upR m s)) :
  CP 40 #[.agg #[PA rb 0],I64 m] H K KP:=by
 refine qgo.call ?_;refine h.al fun b _ h=>⟨_,h.rd 0 rfl 0,?_⟩
 have h:=h.o [1,0] 2;refine q2c h hb hl ?_;unfold upR at k
 cases hr:q1u s with
 | error e=>
  rw [hr] at k;exact fun H' he h=>k _ he h.tl
 | ok p=>
  obtain⟨v,s1⟩:=p;rw [hr] at k;dsimp only at k;intro H' he hb hl h;refine⟨_,rfl,_,q3f,?_⟩;refine fun Jn hJ=>⟨fun hc=>?_,fun hc=>hJ _ ?_⟩
  ·rw [if_neg (by rw [z5k] at hc; rw [hc]; simp)] at k;exact k _ (by decide) h.tl.tl
  ·unfold qgo.r1;rw [if_pos (by rw [z67] at hc; exact hc)] at k;exact k _ he hb hl (h.o [0] 2)
theorem qww {s:RS}(h:(q6u s).e=0):(⟨(q6u s).e,(q6u s).rest.bs⟩:RS)=(q6u s).rest:=by
 unfold q6u at h ⊢
 split at h
 ·rename_i h1; exact absurd h h1
 ·rename_i h1;rw [if_neg h1];have h1:(q4d (cRes 8 (tRes 64 s).2).1.toNat (cRes 8 (tRes 64 s).2).2).2.e=0:=by simpa using h1
  generalize q4d (cRes 8 (tRes 64 s).2).1.toNat (cRes 8 (tRes 64 s).2).2=W at *;obtain⟨w1,w2,w3⟩:=W;dsimp only at h1;subst h1
  split at h
  ·rename_i h2; rw [if_pos h2]
  ·simp at h
def EPost (rb:Nat)(Q:Assn)(F:List Assn)(K KP:Value→Heap→Prop):Except Int (Pv × RS)→Prop
 | .ok (x,s)=>∀Q' (e:Ev) H',Sub Q Q'→q8m Q' e→e.p=x→s.e=0→q04 s.bs→s.bs.length≤1099511627776→SatL H' (Q'::crdA rb s::F)→K (aggV e) H'
 | .error e=>∀Q' H',e≠0→Sub Q Q'→SatL H' (Q'::F)→KP (pnV e) H'
theorem qd3 {rb:Nat}{s:RS}(h:SatL H (Q::crdA rb s::F))(hb:q04 s.bs)(hl:s.bs.length≤1099511627776)(k:EPost rb Q F K KP (q5x s)) :
  CP 94 #[.agg #[PA rb 0]] H K KP:=by
 refine qoo.call ?_;refine h.al fun b _ h=>?_
 refine h.al fun b1 _ h=>⟨_,h.rd 1 rfl 0,_,h.rd 1 rfl 0,?_⟩
 have h:=h.o [3,0,1,2] 4;refine q2c h hb hl ?_;unfold q5x at k
 cases hr:q1u s with
 | error e=>
  rw [hr] at k;exact fun H' he h=>k _ _ he (Sub.refl Q) (h.o [2] 3)
 | ok p=>
  obtain⟨v,s1⟩:=p;rw [hr] at k;dsimp only at k;intro H' he1 hb1 hl1 h;refine⟨_,rfl,h.rd 2 rfl 0,?_⟩;refine q8o h hb1 hl1 ?_
  cases hr:q7h s1 with
  | error e=>
   rw [hr] at k;exact fun H' he h=>k _ _ he (Sub.refl Q) (h.o [2] 3)
  | ok p=>
   obtain⟨u,s2⟩:=p;rw [hr] at k;dsimp only at k;intro H' he2 hb2 hl2 h;refine⟨_,rfl,_,h.rd 2 rfl _,?_⟩;refine qzj h hb2 hl2 fun a c H2 h=>⟨_,_,_,_,_,rfl,?_⟩
   have hb3:=qkc hb2;have hl3:=qrj s2;refine h.al fun b2 _ h=>?_
   refine h.st 0 rfl rfl ?_;intro H3 h;unfold okR at k;refine q1v (fun e=>?_) fun e=>?_
   ·rw [if_neg (by simpa using e),qww e] at k;refine⟨rfl,_,_,_,_,h.rds 0 rfl rfl,?_⟩;refine h.st 3 rfl rfl ?_;intro H4 h;refine⟨_,_,_,_,_,_,h.rds 3 rfl rfl,?_⟩;have hr0:(q6u s2).rest.e=0:=by rw [← qww e]; exact e
    refine k _ ⟨v,u,(q6u s2).name,(q6u s2).labs,a,c⟩ _ (Sub.add (slA 267 2 a (q6u s2).labs.length c (flat encL (q6u s2).labs)) Q) (KIn.sl (c:=c)) rfl hr0 hb3 (by omega) ?_;have h:=h.o [2,5,1] 6;exact q2m.2 h
   ·rw [if_pos e] at k;have h:=h.o [5] 6;exact k _ _ e (Sub.refl Q) h
end
end Go.Proofs.YtfmkddccnjidmaaGreatDoor
namespace Go.Nm
theorem Rp.right_len {r:Rp}(h:r.right=true):r.evs.length≤64:=by
 unfold Rp.right at h;rw [z56,z56,z56] at h;have h:=h.1.2
 split at h
 ·unfold q5w at h;simp only [z56,z52] at h;omega
 ·have:=z4z h; omega
end Go.Nm
namespace Go.Proofs.YtfmkddccnjidmaaGreatDoor
open Go.Nm
theorem ordK_pos {k:Int}:∀i∈ordK k,1≤i:=by
 unfold ordK
 split
 ·decide
 split
 ·decide
 split
 ·decide
 split
 ·decide
 split
 ·decide
 split
 ·decide
 ·decide
theorem encR_get {r:Rp}{a:Option Addr}{c i:Nat}(h1:1≤i)(h2:i < 11):lget (encR r a c) i=some (I64 (r.nums i)):=by
 rcases (by omega:i=1∨i=2∨i=3∨i=4∨i=5∨i=6∨i=7∨i=8∨i=9∨i=10) with rfl|rfl|rfl|rfl|rfl|rfl|rfl|rfl|rfl|rfl <;> rfl
abbrev nmB (r:Rp)(is:List Nat):List Int:=is.flatMap fun i=>usB [r.nums i]
theorem nmB_len (r:Rp)(is:List Nat):(nmB r is).length≤10*is.length:=by
 induction is with
 | nil=>simp
 | cons i l ih=>
  have:=q1j [r.nums i];unfold nmB at *;rw [z6a,z51,z59];simp only [z59,z5t] at this;omega
theorem evsB_len (l:List Pv):(l.flatMap evB).length≤1320*l.length:=by
 induction l with
 | nil=>simp
 | cons i l ih=>
  have:=qp7 i;rw [z6a,z51,z59];omega
section
variable {F L:List Assn} {H:Heap} {K KP:Value→Heap→Prop} {Q:Assn}
set_option maxHeartbeats 1000000 in
theorem qus {r:Rp}{a:Option Addr}{c:Nat}{evs:List Ev}(he:r.evs=evs.map Ev.p)(h:SatL H F)(ha:EvRd F a evs)(hl:evs.length≤1099511627776)
  (k:∀a' c' H',SatL H' (slA 5 1 a' r.bytes.length c' (r.bytes.map U8)::F)→K (.slice a' r.bytes.length c') H'):CF 33 #[.agg ⟨encR r a c⟩] H K:=by
 have hel:r.evs.length=evs.length:=by rw [he,z5q]
 refine q4a.call ?_;unfold q4a.code;refine h.al fun b _ h=>⟨_,_,_,_,_,_,_,_,_,_,_,_,_,_,h.rds 0 rfl rfl,?_⟩
 refine qap he h (ha.cons _) hl fun H1 h=>⟨_,rfl,fun hc=>?_,fun hc=>?_⟩
 ·have e:r.bytes=[]:=by unfold Rp.bytes; rw [if_neg (by simpa using hc)]
  rw [e] at k;exact k none 0 _ (h.tl.sl_nil 5 1)
 have hR:r.right=true:=by simpa using hc
 have h64:=Rp.right_len hR;unfold Rp.bytes at k;rw [if_pos hR] at k;have l0:=q1j [r.kind];have lo:=qp6 r.kind;simp only [z59,z5t] at l0;refine⟨_,h.rd 0 rfl _,?_⟩;refine h.al fun b1 _ h=>?_
 refine q73 h 0 rfl fun a1 c1 H2 h=>⟨_,_,_,rfl,?_⟩
 refine qgy h 2 rfl rfl fun p pc H3 h=>⟨_,_,_,rfl,?_⟩
 refine⟨fun a' n' c' i H'=>∃j:Nat,i=j∧j≤(ordK r.kind).length∧n'=(usB [r.kind]++nmB r ((ordK r.kind).take j)).length∧
  SatL H' (slA 5 1 a' (usB [r.kind]++nmB r ((ordK r.kind).take j)).length c' ((usB [r.kind]++nmB r ((ordK r.kind).take j)).map U8)::slA 177 1 p (ordK r.kind).length pc ((ordK r.kind).map fun i=>PA b i)::cellsA b (encR r a c) 46::F),
  fun _ _ _ i _=>(ordK r.kind).length - i.toNat,⟨0,rfl,by omega,by simp,?_⟩,?_⟩
 ·rw [show usB [r.kind]++nmB r ((ordK r.kind).take 0)=usB [r.kind] by simp [nmB]];exact h.o [1,0,3] 4
 rintro a2 n2 c2 i H4 ⟨j,rfl,hj,rfl,h⟩;unfold q4a.l3;have ljn:=nmB_len r ((ordK r.kind).take j);have ljt:((ordK r.kind).take j).length≤(ordK r.kind).length:=by rw [z5n]; omega
 refine⟨fun hlt=>?_,fun hlt=>?_⟩
 ·have hlt:j < (ordK r.kind).length:=by have:=z4z hlt; omega
  have hr:=(h.sl_rd 1 rfl).at hlt;have hi:=quq _ (z5e hlt);have hi1:=ordK_pos _ (z5e hlt);refine⟨by omega,_,_,hr.1,_,hr.2,q02 ⟨r.nums (ordK r.kind)[j],(h.rd 2 rfl _).trans (encR_get hi1 hi),?_⟩⟩;refine h.al fun b3 _ h=>?_
  refine q73 h 0 rfl fun a3 c3 H5 h=>⟨_,_,_,rfl,?_⟩
  have l1:=q1j [r.nums (ordK r.kind)[j]];simp only [z59,z5t] at l1;refine appB h (i:=2) rfl rfl rfl (h.sl_rd 0 rfl) (by rw [z51]; omega) fun a4 c4 H6 h=>⟨_,_,_,rfl,?_⟩
  rw [w64 (x:=(j:Int)+1) (by omega) (by omega)];have e:usB [r.kind]++nmB r ((ordK r.kind).take (j+1))=(usB [r.kind]++nmB r ((ordK r.kind).take j))++usB [r.nums (ordK r.kind)[j]]:=by
   unfold nmB;rw [q1a hlt,z5d]
  rw [← e] at h ⊢;exact⟨⟨j+1,by omega,hlt,rfl,h.o [2,3,4] 5⟩,by dsimp only; omega⟩
 ·have hge:(ordK r.kind).length≤j:=by have:=z54 hlt; omega
  rw [z5o hge] at h ljn ⊢;have h:=h.o [0,2] 3;refine⟨_,h.rd 1 rfl _,?_⟩;intro Jn hJ;have hJ':∀(O:List Int) a3 c' H',O=(usB [r.kind]++nmB r (ordK r.kind))++(if r.kind=4 then usB [(r.evs.length:Int)] else [])→SatL H' (slA 5 1 a3 O.length c' (O.map U8)::cellsA b (encR r a c) 46::F)→Jn a3 O.length c' H':=by
   intro O a3 c3 H5 hO h;refine hJ _ _ _ _ ?_;have lO:O.length≤80:=by
    rw [hO];have l2:=q1j [(r.evs.length:Int)];simp only [z59,z5t] at l2
    split <;> simp only [z51,z5t] <;> omega
   unfold q4a.r2;refine⟨_,_,_,h.rd 1 rfl _,?_⟩;rw [← hO] at k;refine⟨fun a' n' c' i H'=>∃j:Nat,i=j∧j≤evs.length∧n'=(O++(r.evs.take j).flatMap evB).length∧
    SatL H' (slA 5 1 a' (O++(r.evs.take j).flatMap evB).length c' ((O++(r.evs.take j).flatMap evB).map U8)::cellsA b (encR r a c) 46::F),
    fun _ _ _ i _=>evs.length - i.toNat,⟨0,rfl,by omega,by simp,by simpa using h⟩,?_⟩
   rintro a4 n4 c4 i H6 ⟨j,rfl,hj,rfl,h⟩;unfold q4a.l1;have ljn:=evsB_len (r.evs.take j);have ljt:(r.evs.take j).length≤r.evs.length:=by rw [z5n]; omega
   refine⟨fun hlt=>?_,fun hlt=>?_⟩
   ·have hlt:j < evs.length:=by have:=z4z hlt; omega
    have hr:=ha.rd _ h.tl.tl;refine⟨by omega,_,_,hr.some q14 (by omega) hlt,_,_,_,_,_,_,hr.els q14 hlt,?_⟩;refine h.al fun b5 _ h=>?_
    refine h.st 0 rfl rfl ?_;intro H7 h;refine⟨_,_,_,_,_,_,h.rds 0 rfl rfl,?_⟩;refine qkm (e:=evs[j]) h (fun H h=>ha.labs _ (z5e hlt) H h.tl.tl.tl) fun a6 c6 H8 h=>⟨_,_,_,rfl,?_⟩
    have l1:=qp7 evs[j].p;refine appB h (i:=2) rfl rfl rfl (h.sl_rd 0 rfl) (by rw [z51]; omega) fun a7 c7 H9 h=>⟨_,_,_,rfl,?_⟩
    rw [w64 (x:=(j:Int)+1) (by omega) (by omega)];have hlr:j < r.evs.length:=by omega
    have ej:r.evs[j]=evs[j].p:=by simp [he]
    have e:O++(r.evs.take (j+1)).flatMap evB=(O++(r.evs.take j).flatMap evB)++evB evs[j].p:=by
     rw [q1a hlr,z5d,ej]
    rw [← e] at h ⊢;exact⟨⟨j+1,by omega,hlt,rfl,h.o [2,3] 4⟩,by dsimp only; omega⟩
   ·have hge:r.evs.length≤j:=by have:=z54 hlt; omega
    rw [z5o hge] at h ⊢;exact k _ _ _ (h.o [0] 2)
  refine⟨fun hk=>?_,fun hk=>?_⟩
  ·have hk:=z4z hk;refine⟨_,_,_,h.rd 1 rfl _,?_⟩;refine h.al fun b6 _ h=>?_
   refine q73 h 0 rfl fun a3 c3 H5 h=>⟨_,_,_,rfl,?_⟩
   have l1:=q1j [(r.evs.length:Int)];simp only [z59,z5t] at l1;refine appB h (i:=2) rfl rfl rfl (h.sl_rd 0 rfl) (by rw [z51]; omega) fun a4 c4 H6 h=>⟨_,_,_,rfl,?_⟩
   refine hJ' _ _ _ _ (by rw [if_pos hk]) (h.o [2,3] 4)
  ·have hk:=z54 hk;refine hJ' _ _ _ _ (by rw [if_neg hk,z61]) h
end
end Go.Proofs.YtfmkddccnjidmaaGreatDoor
namespace Go.Nm
def qay:Nat→Rd (List Int)
 | 0,s=>.ok ([],s)
 | n+1,s=>match qay n s with
  | .error e=>.error e
  | .ok (vs,s1)=>match q1u s1 with
   | .error e=>.error e
   | .ok (v,s2)=>.ok (vs++[v],s2)
def q6v:Nat→Rd (List Pv)
 | 0,s=>.ok ([],s)
 | n+1,s=>match q6v n s with
  | .error e=>.error e
  | .ok (vs,s1)=>match q5x s1 with
   | .error e=>.error e
   | .ok (v,s2)=>.ok (vs++[v],s2)
def atV (k:Int)(vs:List Int)(i:Nat):Int:=if i∈ordK k then vs.getD ((ordK k).idxOf i) 0 else 0
def qgz (k:Int)(vs:List Int)(evs:List Pv):Rp:=⟨k,atV k vs 1,atV k vs 2,atV k vs 3,atV k vs 4,atV k vs 5,atV k vs 6,⟨atV k vs 7,atV k vs 8,atV k vs 9,atV k vs 10⟩,evs⟩
def evsR (k:Int):Rd (List Pv):=fun s=>if k=4 then (match q23 64 s with
 | .error e=>.error e
 | .ok (n,s3)=>q6v n.toNat s3) else .ok ([],s)
def recR (bs:List Int):Except Int Rp:=match numR ⟨0,bs⟩ with
 | .error e=>.error e
 | .ok (k,s1)=>if k < 1∨7 < k then .error 16 else match qay (ordK k).length s1 with
  | .error e=>.error e
  | .ok (vs,s2)=>match evsR k s2 with
   | .error e=>.error e
   | .ok (evs,s4)=>if (q2f s4).e≠0 then .error (q2f s4).e else if (qgz k vs evs).right then .ok (qgz k vs evs) else .error 10
theorem qn0:∀{n:Nat} {s:RS} {vs:List Int} {s':RS},qay n s=.ok (vs,s')→vs.length=n
 | 0,s,vs,s',h=>by cases h; rfl
 | n+1,s,vs,s',h=>by
  unfold qay at h
  split at h
  ·cases h
  ·rename_i ws s1 h1
   split at h
   ·cases h
   ·cases h
    rw [z51,qn0 h1]; rfl
theorem qkn:∀{n:Nat} {s:RS} {vs:List Pv} {s':RS},q6v n s=.ok (vs,s')→vs.length=n
 | 0,s,vs,s',h=>by cases h; rfl
 | n+1,s,vs,s',h=>by
  unfold q6v at h
  split at h
  ·cases h
  ·rename_i ws s1 h1
   split at h
   ·cases h
   ·cases h
    rw [z51,qkn h1]; rfl
theorem qn1 {s:RS}{e:Int}:∀{n j:Nat},qay j s=.error e→j≤n→qay n s=.error e
 | 0,j,h,hj=>by
  obtain rfl:j=0:=by omega
  exact h
 | n+1,j,h,hj=>by
  rcases z5r n j with h1|h1
  ·obtain rfl:j=n+1:=by omega
   exact h
  ·unfold qay;rw [qn1 h h1]
theorem qko {s:RS}{e:Int}:∀{n j:Nat},q6v j s=.error e→j≤n→q6v n s=.error e
 | 0,j,h,hj=>by
  obtain rfl:j=0:=by omega
  exact h
 | n+1,j,h,hj=>by
  rcases z5r n j with h1|h1
  ·obtain rfl:j=n+1:=by omega
   exact h
  ·unfold q6v;rw [qko h h1]
def stL:List Value→List Nat→List Int→List Value
 | cs,i::is,v::vs=>stL (q2h cs i [I64 v]) is vs
 | cs,_,_=>cs
theorem qut:∀(is:List Nat) (vs:List Int) (cs:List Value),(stL cs is vs).length=cs.length
 | [],_,_=>rfl
 | _::_,[],_=>rfl
 | i::is,v::vs,cs=>by
  show (stL (q2h cs i [I64 v]) is vs).length=_;rw [qut is vs,q76]
theorem qwx:∀{is:List Nat} {vs:List Int} {cs:List Value} {i:Nat} {v:Int},is.length=vs.length→stL cs (is++[i]) (vs++[v])=q2h (stL cs is vs) i [I64 v]
 | [],[],cs,i,v,_=>rfl
 | a::is,b::vs,cs,i,v,h=>by
  show stL (q2h cs a [I64 b]) (is++[i]) (vs++[v])=q2h (stL (q2h cs a [I64 b]) is vs) i [I64 v];exact qwx (by simpa using h)
 | [],b::vs,cs,i,v,h=>by simp at h
 | a::is,[],cs,i,v,h=>by simp at h
abbrev zR (k:Int):List Value:=[I64 k,I64 0,I64 0,I64 0,I64 0,I64 0,I64 0,I64 0,I64 0,I64 0,I64 0,.slice none 0 0]
theorem stL_fill {k:Int}{vs:List Int}(h1:¬k < 1)(h2:¬7 < k)(hl:vs.length=(ordK k).length):stL (zR k) (ordK k) vs=encR (qgz k vs []) none 0:=by
 rcases kinds h1 h2 with rfl|rfl|rfl|rfl|rfl|rfl|rfl
 ·match vs,hl with
  | [],_=>rfl
 ·match vs,hl with
  | [a,b,c],_=>rfl
 ·match vs,hl with
  | [a,b,c,d,e,f],_=>rfl
 ·match vs,hl with
  | [a,b,c,d],_=>rfl
 ·match vs,hl with
  | [a,b,c,d,e],_=>rfl
 ·match vs,hl with
  | [a],_=>rfl
 ·match vs,hl with
  | [a],_=>rfl
end Go.Nm
namespace Go.Proofs.YtfmkddccnjidmaaGreatDoor
open Go.Nm
section
variable {F L:List Assn} {H:Heap} {K KP:Value→Heap→Prop} {Q:Assn}
theorem qnp:q7d Tryz.prog .eql 20 .nilIface .nilIface true:=by
 intro ox oy w
 cases ox <;> cases oy <;> kernel_rfl
theorem eqPn {e:Int}:q7d Tryz.prog .eql 20 (pnV e) .nilIface false:=by
 intro ox oy w
 kernel_rfl
theorem assertPn {e:Int}:q5z Tryz.prog (Instr.typeAssert (pnV e) 20 28 true) (.tuple #[(I64 e),(.bool true)]):=by
 intro w
 kernel_rfl
theorem qkp (k:K (I64 0) H):CF 38 #[.nilIface] H K:=
 qd1.call ⟨true,qnp,fun _=>k,fun h=>absurd h (by simp)⟩
theorem qkq {e:Int}(k:K (I64 e) H):CF 38 #[pnV e] H K:=
 qd1.call ⟨false,eqPn,fun h=>absurd h (by simp),fun _=>⟨e,true,assertPn,fun _=>k,fun h=>absurd h (by simp)⟩⟩
theorem quu {b b1:Nat}{e:Int}{cs:List Value}{v1:Int}{KQ:FrameMode→Heap→Prop}(he:e≠0)(hcs:cs.length=12)(h:SatL H (cellsA b1 [I64 v1] 28::cellsA b cs 46::F))
  (k:∀H',SatL H' (cellsA b1 [I64 e] 28::cellsA b (zR 0) 46::F)→KQ (panM (pnV e) true) H'):DefQ Tryz.prog 92 [(PA b1 0),(PA b 0)] (panM (pnV e) false) H KQ:=by
 have hd:DefQ Tryz.prog 92 [(PA b1 0),(PA b 0)] (panM (pnV e) false) H fun u'' H'=>u''=panM (pnV e) true∧SatL H' (cellsA b1 [I64 e] 28::cellsA b (zR 0) 46::F):=by
  refine q2x.defq (.inr ⟨rfl,rfl⟩) ?_;unfold q2x.code;refine qkq ⟨_,rfl,?_⟩;refine h.st 0 rfl rfl ?_;intro H2 h;refine⟨_,h.rd 0 rfl _,?_⟩;intro Jn hJ;refine⟨fun _=>?_,fun hc=>absurd hc (by simpa using he)⟩
  refine h.st 1 rfl (by rw [hcs]; rfl) ?_;intro H3 h;refine hJ _ ?_;unfold q2x.r1;rw [qjq _ cs (by rw [hcs]; rfl)] at h;exact h
 intro w hw;refine (hd w hw).mono fun e' u' w' hh=>?_
 cases e' <;> simp only at hh ⊢
 exact⟨hh.1,hh.2.1▸k _ hh.2.2⟩
theorem z38 {b b1:Nat}{cs:List Value}{v1:Int}{KQ:FrameMode→Heap→Prop}(h:SatL H (cellsA b1 [I64 v1] 28::cellsA b cs 46::F))
  (k:∀H',SatL H' (cellsA b1 [I64 0] 28::cellsA b cs 46::F)→KQ .returning H'):DefQ Tryz.prog 92 [(PA b1 0),(PA b 0)] .returning H KQ:=by
 have hd:DefQ Tryz.prog 92 [(PA b1 0),(PA b 0)] .returning H fun u'' H'=>u''=.returning∧SatL H' (cellsA b1 [I64 0] 28::cellsA b cs 46::F):=by
  refine q2x.defq (.inl ⟨rfl,rfl,rfl⟩) ?_;unfold q2x.code;refine qkp ⟨_,rfl,?_⟩;refine h.st 0 rfl rfl ?_;intro H2 h;refine⟨_,h.rd 0 rfl _,?_⟩;intro Jn hJ;refine⟨fun hc=>absurd hc (by simp),fun _=>hJ _ ?_⟩
  unfold q2x.r1;exact h
 intro w hw;refine (hd w hw).mono fun e' u' w' hh=>?_
 cases e' <;> simp only at hh ⊢
 exact⟨hh.1,hh.2.1▸k _ hh.2.2⟩
end
open Go.Nm
section
variable {F L:List Assn} {H:Heap} {K KP:Value→Heap→Prop} {Q:Assn}
def RdPost (Q:Assn)(F:List Assn)(K:KT):Except Int Rp→Prop
 | .ok r=>∀Q' evs a' c' H',Sub Q Q'→r.evs=evs.map Ev.p→(∀e∈evs,q8m Q' e)→SatL H' (Q'::slA 95 4 a' evs.length c' (flat encV evs)::F)→K (.tuple #[.agg ⟨encR r a' c'⟩,I64 0]) H'
 | .error e=>∀Q' H',e≠0→Sub Q Q'→SatL H' (Q'::F)→K (.tuple #[.agg ⟨zR 0⟩,I64 e]) H'
theorem encR_evs {r:Rp}{evs:List Ev}{a:Option Addr}{c:Nat}(he:r.evs=evs.map Ev.p):encR r a c=[I64 r.kind,I64 r.ag,I64 r.ep,I64 r.bt,I64 r.nx,I64 r.st,I64 r.nw,I64 r.sm.asked,I64 r.sm.got,I64 r.sm.sent,I64 r.sm.came,.slice a evs.length c]:=by
 unfold encR; rw [he,z5q]
theorem z3a (s:RS):0≤(cRes 64 s).1∧(cRes 64 s).1≤64:=by
 unfold cRes
 split
 ·dsimp only; omega
 ·split
  ·split
   ·dsimp only; omega
   ·dsimp only; omega
  ·dsimp only; omega
  ·dsimp only; omega
set_option maxHeartbeats 4000000 in
theorem z3b {a:Option Addr}{c:Nat}{bs:List Int}(h:SatL H (Q::F))(ha:∀H,SatL H (Q::F)→rdS H a (bs.map U8))(hb:q04 bs)(hl:bs.length≤1099511627776)
  (k:RdPost Q F K (recR bs)):CF 32 #[.slice a bs.length c] H K:=by
 refine q13.call ?_;unfold q13.code;refine h.al fun b _ h=>?_
 refine h.al fun b1 _ h=>?_
 have pan:∀e Q' H' cs v1,recR bs=.error e→e≠0→Sub Q Q'→cs.length=12→SatL H' (cellsA b1 [I64 v1] 28::cellsA b cs 46::Q'::F)→
   memN 92 X.calls=true∧DefQ Tryz.prog 92 [(PA b1 0),(PA b 0)] (panM (pnV e) false) H' fun u16 H_36=>u16=panM (pnV e) true∧
    ∃res0_6 res1_6 res2_6 res3_6 res4_6 res5_6 res6_6 res7_6 res8_6 res9_6 res10_6 res11a6 res11n6 res11c6,q01 H_36 b 0 [(I64 res0_6),(I64 res1_6),(I64 res2_6),(I64 res3_6),(I64 res4_6),(I64 res5_6),(I64 res6_6),(I64 res7_6),(I64 res8_6),(I64 res9_6),(I64 res10_6),(.slice res11a6 res11n6 res11c6)]∧
    ∃res16,q00 H_36 b1 0=some (I64 res16)∧
    K (.tuple #[(.agg #[(I64 res0_6),(I64 res1_6),(I64 res2_6),(I64 res3_6),(I64 res4_6),(I64 res5_6),(I64 res6_6),(I64 res7_6),(I64 res8_6),(I64 res9_6),(I64 res10_6),(.slice res11a6 res11n6 res11c6)]),(I64 res16)]) H_36:=by
  intro e Q' H' cs v1 hr he hs hcs h;refine⟨rfl,quu he hcs h fun H2 h=>⟨rfl,_,_,_,_,_,_,_,_,_,_,_,_,_,_,h.rds 1 rfl rfl,_,h.rd 0 rfl _,?_⟩⟩
  rw [hr] at k;exact k Q' _ he hs h.tl.tl
 refine qjz h (fun H h=>ha H h.tl.tl) hl fun rb H2 h=>⟨_,rfl,?_⟩
 refine h.al fun b2 _ h=>?_
 refine h.st 0 rfl rfl ?_;intro H3 h;refine⟨_,h.rds 0 rfl rfl,?_⟩;have h:=h.o [1,0,2,3,4] 5;refine q8n h hb hl ?_;unfold recR at k pan
 cases hr0:numR ⟨0,bs⟩ with
 | error e=>
  rw [hr0] at pan;exact fun H' he h=>pan _ Q _ _ _ rfl he (Sub.refl Q) rfl (h.o [1,2] 3)
 | ok p=>
 obtain⟨kd,s1⟩:=p;rw [hr0] at pan k;dsimp only at pan k;intro H4 he1 hb1 hl1 h;refine⟨_,rfl,?_⟩;intro Jn hJ;refine⟨fun hc=>?_,fun hc=>hJ _ ?_⟩
 ·simp only [z5h,z52] at hc;rw [if_pos hc] at pan;exact pan _ Q _ _ _ rfl (by decide) (Sub.refl Q) rfl (h.o [2,3] 4)
 simp only [z5g,z58] at hc;rw [if_neg (by omega)] at pan k;have hkw:i64.wrap kd=kd:=w64 (by omega) (by omega);unfold q13.r5;rw [hkw];refine h.st 3 rfl rfl ?_;intro H5 h;refine qgy h 3 rfl rfl fun p pc H6 h=>⟨_,_,_,rfl,?_⟩
 have ho:=qp6 kd;refine⟨fun i H'=>∃(j:Nat) (vs:List Int) (s2:RS),i=j∧j≤(ordK kd).length∧qay j s1=.ok (vs,s2)∧s2.e=0∧q04 s2.bs∧s2.bs.length≤1099511627776∧
  SatL H' (crdA rb s2::slA 177 1 p (ordK kd).length pc ((ordK kd).map fun i=>PA b i)::cellsA b2 [PA rb 0] 109::cellsA b1 [I64 0] 28::cellsA b (stL (zR kd) ((ordK kd).take j) vs) 46::Q::F),
  fun i _=>(ordK kd).length - i.toNat,⟨0,[],s1,rfl,by omega,rfl,he1,hb1,hl1,h.o [1,0,2,3,4] 5⟩,?_⟩
 rintro i H7 ⟨j,vs,s2,rfl,hj,hls,he2,hb2,hl2,h⟩;unfold q13.l4;have hvl:=qn0 hls;refine⟨fun hlt=>?_,fun hlt=>?_⟩
 ·have hlt:j < (ordK kd).length:=by have:=z4z hlt; omega
  have hrd:=(h.sl_rd 1 rfl).at hlt;have hi:=quq _ (z5e hlt);refine⟨by omega,_,_,hrd.1,_,hrd.2,_,h.rds 2 rfl rfl,?_⟩;refine q2c h hb2 hl2 ?_;have hs1:qay (j+1) s1=match q1u s2 with|.error e=>.error e|.ok (v,s2)=>.ok (vs++[v],s2):=by
   rw [qay,hls] <;> rfl
  cases hr2:q1u s2 with
  | error e=>
   rw [hr2] at hs1;rw [qn1 hs1 hlt] at pan;exact fun H' he h=>pan _ Q _ _ _ rfl he (Sub.refl Q) (by rw [qut]; rfl) (h.o [2,3] 4)
  | ok q=>
  obtain⟨v,s3⟩:=q;rw [hr2] at hs1;intro H8 he3 hb3 hl3 h;refine⟨_,rfl,q02 ?_⟩;refine h.st 4 rfl (by rw [qut]; exact Nat.ble_eq_true_of_le (by show (ordK kd)[j]+1≤12; omega)) ?_;intro H9 h;rw [w64 (x:=(j:Int)+1) (by omega) (by omega)];refine⟨⟨j+1,_,s3,by omega,hlt,hs1,he3,hb3,hl3,?_⟩,by dsimp only; omega⟩;rw [z6d hlt,qwx (by rw [z5n]; omega)];exact h
 have hge:j=(ordK kd).length:=by have:=z54 hlt; omega
 subst hge;rw [hls] at pan k;dsimp only at pan k;rw [z6p,stL_fill (by omega) (by omega) hvl] at h;refine⟨_,h.rd 4 rfl _,?_⟩;intro Jn1 hJ1;have fin:∀(Q':Assn) (evs:List Ev) (a':Option Addr) (c':Nat) (s4:RS) H',Sub Q Q'→evsR kd s2=.ok (evs.map Ev.p,s4)→(∀e∈evs,q8m Q' e)→evs.length≤64→q04 s4.bs→s4.bs.length≤1099511627776→
   SatL H' (crdA rb s4::slA 95 4 a' evs.length c' (flat encV evs)::cellsA b2 [PA rb 0] 109::cellsA b1 [I64 0] 28::cellsA b (encR (qgz kd vs (evs.map Ev.p)) a' c') 46::Q'::F)→Jn1 H':=by
  intro Q' evs a' c' s4 H10 hsub hev hk64 hlen hb4 hl4 h;rw [hev] at pan k;dsimp only at pan k;refine hJ1 _ ?_;unfold q13.r2;refine⟨_,h.rd 2 rfl _,?_⟩;refine qp0 h fun H11 h=>⟨_,rfl,?_⟩
  refine q1v (fun he=>⟨rfl,?_⟩) fun he=>?_
  ·rw [if_neg (by simpa using he)] at pan k;refine⟨_,_,_,_,_,_,_,_,_,_,_,_,_,_,h.rds 4 rfl rfl,?_⟩;have hEv:EvRd (crdA rb (q2f s4)::slA 95 4 a' evs.length c' (flat encV evs)::cellsA b2 [PA rb 0] 109::cellsA b1 [I64 0] 28::cellsA b (encR (qgz kd vs (evs.map Ev.p)) a' c') 46::Q'::F) a' evs:=
    ⟨fun H h=>h.sl_rd 1 rfl,fun e he H h=>(hk64 e he).at h 5 rfl⟩
   refine qap (r:=qgz kd vs (evs.map Ev.p)) rfl h hEv (by omega) fun H12 h=>⟨_,rfl,?_⟩
   intro Jn2 hJ2;refine⟨fun hr=>?_,fun hr=>hJ2 _ ?_⟩
   ·rw [if_neg (by simpa using hr)] at pan;exact pan _ Q' _ _ _ rfl (by decide) hsub rfl (h.o [3,4] 5)
   ·rw [if_pos (by simpa using hr)] at k;unfold q13.r1;refine⟨_,_,_,_,_,_,_,_,_,_,_,_,_,_,h.rds 4 rfl rfl,?_⟩;refine h.st 4 rfl rfl ?_;intro H13 h;refine h.st 3 rfl rfl ?_;intro H14 h;have h:=h.o [3,4,0,1,2,5] 6;refine⟨rfl,z38 h fun H15 h=>⟨rfl,_,_,_,_,_,_,_,_,_,_,_,_,_,_,h.rds 1 rfl rfl,_,h.rd 0 rfl _,?_⟩⟩
    exact k Q' evs a' c' _ hsub rfl hk64 (h.o [5,3] 6)
  ·rw [if_pos he] at pan;exact pan _ Q' _ _ _ rfl he hsub rfl (h.o [3,4] 5)
 refine⟨fun hk=>?_,fun hk=>?_⟩
 ·have hk:kd=4:=z4z hk;have hev:evsR kd s2=match q23 64 s2 with|.error e=>.error e|.ok (n,s3)=>q6v n.toNat s3:=by
   unfold evsR; rw [if_pos hk] <;> rfl
  refine⟨_,h.rds 2 rfl rfl,?_⟩;refine q8p (by unfold wf64; decide) h hb2 hl2 ?_
  cases hr2:q23 64 s2 with
  | error e=>
   rw [hr2] at hev;rw [hev] at pan;exact fun H' he h=>pan _ Q _ _ _ rfl he (Sub.refl Q) rfl (h.o [2,3] 4)
  | ok q=>
  obtain⟨n,s3⟩:=q;rw [hr2] at hev;dsimp only at hev;have hn64:0≤n∧n≤64:=by
   unfold q23 okR at hr2
   split at hr2
   ·cases hr2
   ·cases hr2
    exact z3a _
  intro H8 he3 hb3 hl3 h;refine⟨_,rfl,?_⟩;refine⟨fun i H'=>∃(j:Nat) (evs:List Ev) (Q':Assn) (a':Option Addr) (c':Nat) (s4:RS),i=j∧(j:Int)≤n∧q6v j s3=.ok (evs.map Ev.p,s4)∧Sub Q Q'∧(∀e∈evs,q8m Q' e)∧q04 s4.bs∧s4.bs.length≤1099511627776∧
   SatL H' (Q'::crdA rb s4::slA 95 4 a' evs.length c' (flat encV evs)::cellsA b2 [PA rb 0] 109::cellsA b1 [I64 0] 28::cellsA b (encR (qgz kd vs (evs.map Ev.p)) a' c') 46::F),
   fun i _=>n.toNat - i.toNat,⟨0,[],Q,none,0,s3,rfl,by omega,rfl,Sub.refl Q,fun e he=>absurd he (by simp),hb3,hl3,(h.sl_nil 95 4).o [6,1,0,3,4,5] 7⟩,?_⟩
  rintro i H9 ⟨j,evs,Q',a',c',s4,rfl,hj,hes,hsub,hkl,hb4,hl4,h⟩;unfold q13.l3;have hel:=qkn hes;rw [z5q] at hel;refine⟨fun hlt=>?_,fun hlt=>?_⟩
  ·have hlt:=z4z hlt;refine⟨_,_,_,h.rd 5 rfl _,_,h.rds 3 rfl rfl,?_⟩;refine qd3 h hb4 hl4 ?_;have hs1:q6v (j+1) s3=match q5x s4 with|.error e=>.error e|.ok (v,s2)=>.ok (evs.map Ev.p++[v],s2):=by
    rw [q6v,hes] <;> rfl
   cases hr4:q5x s4 with
   | error e=>
    rw [hr4] at hs1;rw [hev,qko hs1 (by omega)] at pan;exact fun Q2 H' he hs2 h=>pan _ Q2 _ _ _ rfl he (hsub.trans hs2) rfl (h.o [3,4,0] 5)
   | ok q=>
   obtain⟨pv,s5⟩:=q;rw [hr4] at hs1;intro Q2 ev H10 hs2 hlab hevp he5 hb5 hl5 h;subst hevp;refine⟨_,_,_,_,_,_,rfl,h.rd 5 rfl _,?_⟩;refine h.al fun b4 _ h=>⟨h.rd 6 rfl _,?_⟩
   have hfl:(qgz kd vs (evs.map Ev.p)).evs.length=evs.length:=z5q ..;rw [hfl];refine h.append (m:=1) (ws:=encV ev) sl44 3 rfl (h.ce_rd 0 rfl) rfl (qmn ev) (by omega) (by omega) fun a5 c5 H11 h=>⟨_,_,_,rfl,?_⟩
   refine h.st 6 rfl rfl ?_;intro H12 h;rw [w64 (x:=(j:Int)+1) (by omega) (by omega)];refine⟨⟨j+1,evs++[ev],Q2,a5,c5,s5,by omega,by omega,by rw [hs1,z5v]; rfl,hsub.trans hs2,fun e he=>?_,hb5,hl5,?_⟩,by dsimp only; omega⟩
   ·rcases z6g.1 he with he|he
    ·exact (hkl e he).sub hs2
    ·rw [z60] at he; subst he; exact hlab
   ·have e:flat encV (evs++[ev])=flat encV evs++encV ev:=by rw [q0i]; simp [flat]
    have e2:encR (qgz kd vs ((evs++[ev]).map Ev.p)) a5 c5=q2h (encR (qgz kd vs (evs.map Ev.p)) a' c') 11 [.slice a5 (evs.length+1) c5]:=by
     rw [encR_evs (r:=qgz kd vs ((evs++[ev]).map Ev.p)) rfl,z51]; rfl
    rw [e,e2,z51];exact h.o [1,2,3,4,5,6] 7
  ·have hge:=z54 hlt;have hjn:j=n.toNat:=by omega
   subst hjn;refine fin Q' evs a' c' s4 _ hsub (by rw [hev,hes]) hkl (by omega) hb4 hl4 ?_;exact h.o [1,2,3,4,5,0] 6
 ·have hk:¬kd=4:=z54 hk;have hev:evsR kd s2=.ok ([],s2):=by unfold evsR; rw [if_neg hk]
  refine fin Q [] none 0 s2 _ (Sub.refl Q) hev (fun e he=>absurd he (by simp)) (by simp) hb2 hl2 ?_
  exact (h.sl_nil 95 4).o [1,0,3,4,5,6] 7
end
end Go.Proofs.YtfmkddccnjidmaaGreatDoor
namespace Go.Nm
structure En where
 epoch:Int
 boot:Int
 time:Int
deriving DecidableEq
def En.z:En:=⟨0,0,0⟩
abbrev encE (e:En):List Value:=[.int .i64 e.epoch,.int .i64 e.boot,.int .i64 e.time]
abbrev aggE (e:En):Value:=.agg #[.int .i64 e.epoch,.int .i64 e.boot,.int .i64 e.time]
def tab:Nat→List En→List (Int × En)
 | _,[]=>[]
 | i,e::r=>if 0 < e.epoch then ((i:Int),e)::tab (i+1) r else tab (i+1) r
theorem q95 {i:Nat}:∀{l:List En} {p:Int × En},p∈tab i l→(i:Int)≤p.1∧p.1 < i+l.length∧0 < p.2.epoch
 | [],p,h=>by simp [tab] at h
 | e::r,p,h=>by
  simp only [tab] at h;have ih:=q95 (i:=i+1) (l:=r) (p:=p);simp only [z59]
  split at h
  ·rcases z5l.1 h with rfl|h
   ·rename_i hp; simp only; omega
   ·have:=ih h; omega
  ·have:=ih h; omega
theorem qd4 {i:Nat}:∀{l:List En},(q03 (tab i l)).Pairwise (·< ·)
 | []=>by simp [tab]
 | e::r=>by
  simp only [tab]
  split
  ·simp only [q03,z5y,z6s];refine⟨fun a ha=>?_,qd4⟩
   obtain⟨p,hp,rfl⟩:=z5b.1 ha;have:=q95 hp; omega
  ·exact qd4
theorem qfr {i:Nat}{l:List En}:(q03 (tab i l)).Nodup:=qd4.imp (fun h=>by omega)
theorem qzw {i:Nat}{l:List En}:q7n (q03 (tab i l))=q03 (tab i l):=qbj (qd4.imp (fun h=>by omega))
theorem qp8 {i:Nat}:∀{l:List En} {k:Nat},q08 ((i+k:Nat):Int) (tab i l)=match l[k]? with|some e=>if 0 < e.epoch then some e else none|none=>none
 | [],k=>by simp [tab,q08]
 | e::r,0=>by
  have hn:q08 ((i+0:Nat):Int) (tab (i+1) r)=none:=q0g.2 fun h=>by
   obtain⟨p,hp,he⟩:=z5b.1 h;have:=q95 hp; omega
  simp only [tab,List.getElem?_cons_zero]
  split
  ·simp [q08]
  ·exact hn
 | e::r,k+1=>by
  have ih:=qp8 (i:=i+1) (l:=r) (k:=k);rw [show i+1+k=i+(k+1) by omega] at ih;simp only [tab,List.getElem?_cons_succ]
  split
  ·simp only [q08];rw [if_neg (by omega)]; exact ih
  ·exact ih
theorem quv {i:Nat}{x:En}(hx:0 < x.epoch):∀{l:List En} {k:Nat},k < l.length→(tab i (l.set k x)).Perm (mset ((i+k:Nat):Int) x (tab i l))
 | e::r,0,_=>by
  have hd:mdel ((i+0:Nat):Int) (tab (i+1) r)=tab (i+1) r:=q17 (q0g.2 fun h=>by
   obtain⟨p,hp,he⟩:=z5b.1 h;have:=q95 hp; omega)
  simp only [z7g,tab,if_pos hx];have e2:mdel ((i+0:Nat):Int) (if 0 < e.epoch then ((i:Int),e)::tab (i+1) r else tab (i+1) r)=tab (i+1) r:=by
   split
   ·have:mdel ((i+0:Nat):Int) (((i:Int),e)::tab (i+1) r)=mdel ((i+0:Nat):Int) (tab (i+1) r):=by simp [mdel]
    rw [this,hd]
   ·exact hd
  unfold mset;rw [e2]; exact .refl _
 | e::r,k+1,h=>by
  have ih:=quv (i:=i+1) hx (l:=r) (k:=k) (by simpa using h);rw [show i+1+k=i+(k+1) by omega] at ih;simp only [z7w,tab]
  split
  ·refine (ih.cons _).trans ?_;unfold mset;have:mdel ((i+(k+1):Nat):Int) (((i:Int),e)::tab (i+1) r)=((i:Int),e)::mdel ((i+(k+1):Nat):Int) (tab (i+1) r):=by
    have hne:¬(i:Int)=((i+(k+1):Nat):Int):=by omega
    simp [mdel,z6b,hne];omega
   rw [this];exact .swap _ _ _
  ·exact ih
theorem qn2 {i:Nat}:∀{l:List En},(tab i l).length=(l.filter fun e=>decide (0 < e.epoch)).length
 | []=>rfl
 | e::r=>by
  simp only [tab,z6b];have:=qn2 (i:=i+1) (l:=r)
  by_cases h:0 < e.epoch <;> simp [h,this]
abbrev bad (agent boot now:Int):Prop:=agent < 0∨63 < agent∨boot < 1∨1099511627776 < boot∨now < 0∨4611686018427387903 < now
def rowE (rows:List En)(agent:Int):En:=if agent < 0 then En.z else (rows[agent.toNat]?).getD En.z
structure q3u (rows:List En):Prop where
 len:rows.length=64
 ep:∀e∈rows,0≤e.epoch∧e.epoch≤1099511627776
 in64:∀e∈rows,wf64 e.boot∧wf64 e.time
 zero:∀e∈rows,¬0 < e.epoch→e=En.z
abbrev full (most:Int)(rows:List En):Prop:=most≤((tab 0 rows).length:Int)
def q1w (most:Int)(rows:List En)(agent boot now:Int):List En × En × Bool × Int:=
 if bad agent boot now then (rows,En.z,false,11) else
 let x:=rowE rows agent
 if 0 < x.epoch∧x.boot=boot then (rows,x,false,0)
 else if 0 < x.epoch∧boot < x.boot then (rows,En.z,false,22)
 else if x.epoch=1099511627776 then (rows,En.z,false,17)
 else if x.epoch=0∧full most rows then (rows,En.z,false,20)
 else (rows.set agent.toNat ⟨x.epoch+1,boot,now⟩,⟨x.epoch+1,boot,now⟩,true,0)
def setR (most:Int)(rows:List En)(agent:Int)(e:En):List En × Int:=
 if bad agent e.boot e.time∨e.epoch < 1∨1099511627776 < e.epoch then (rows,11)
 else if 0 < (rowE rows agent).epoch then (rows,18)
 else if full most rows then (rows,20)
 else (rows.set agent.toNat e,0)
theorem q3u.at {rows:List En}(h:q3u rows)(agent:Int):0≤(rowE rows agent).epoch∧(rowE rows agent).epoch≤1099511627776∧wf64 (rowE rows agent).boot∧wf64 (rowE rows agent).time:=by
 unfold rowE
 split
 ·simp [En.z,wf64]
 cases he:rows[agent.toNat]? with
 | none=>simp [En.z,wf64]
 | some e=>exact⟨(h.ep e (z5w he)).1,(h.ep e (z5w he)).2,h.in64 e (z5w he)⟩
theorem q3u.set {rows:List En}(h:q3u rows){k:Nat}{x:En}(h1:0 < x.epoch∧x.epoch≤1099511627776)(h2:wf64 x.boot∧wf64 x.time):q3u (rows.set k x) where
 len:=by simp [h.len]
 ep e he:=by
  rcases z7s he with he|rfl
  ·exact h.ep e he
  ·omega
 in64 e he:=by
  rcases z7s he with he|rfl
  ·exact h.in64 e he
  ·exact h2
 zero e he:=by
  rcases z7s he with he|rfl
  ·exact h.zero e he
  ·omega
theorem grant_ok {most:Int}{rows:List En}(h:q3u rows)(agent boot now:Int):q3u (q1w most rows agent boot now).1:=by
 unfold q1w;have:=h.at agent
 split
 ·exact h
 ·rename_i hb;simp only [bad,not_or,Int.not_lt] at hb;simp only
  split
  ·exact h
  ·split
   ·exact h
   ·split
    ·exact h
    ·split
     ·exact h
     ·exact h.set ⟨by simp only; omega,by simp only; omega⟩ ⟨by simp only [wf64]; omega,by simp only [wf64]; omega⟩
theorem setR_ok {most:Int}{rows:List En}(h:q3u rows)(agent:Int)(e:En):q3u (setR most rows agent e).1:=by
 unfold setR
 split
 ·exact h
 ·rename_i hb;simp only [bad,not_or,Int.not_lt] at hb
  split
  ·exact h
  ·split
   ·exact h
   ·exact h.set ⟨by omega,by omega⟩ ⟨by simp only [wf64]; omega,by simp only [wf64]; omega⟩
theorem qp9 {rows:List En}(agent:Int):q08 agent (tab 0 rows)=if 0 < (rowE rows agent).epoch then some (rowE rows agent) else none:=by
 by_cases h0:agent < 0
 ·have:q08 agent (tab 0 rows)=none:=q0g.2 fun h=>by
   obtain⟨p,hp,he⟩:=z5b.1 h;have:=q95 hp; omega
  rw [this,rowE,if_pos h0]; rfl
 ·have:=qp8 (i:=0) (l:=rows) (k:=agent.toNat);rw [show ((0+agent.toNat:Nat):Int)=agent by omega] at this;rw [this];unfold rowE;rw [if_neg h0]
  cases rows[agent.toNat]? with
  | none=>simp [En.z]
  | some e=>simp
theorem q3u.rowZ {rows:List En}(h:q3u rows)(agent:Int)(h0:¬0 < (rowE rows agent).epoch):rowE rows agent=En.z:=by
 unfold rowE at h0 ⊢
 split
 ·rfl
 rename_i hn;rw [if_neg hn] at h0
 cases he:rows[agent.toNat]? with
 | none=>rfl
 | some e=>rw [he] at h0; exact h.zero e (z5w he) h0
theorem qfs {rows:List En}(h:q3u rows){agent:Int}:(q08 agent (tab 0 rows)).getD En.z=rowE rows agent:=by
 rw [qp9]
 split
 ·rfl
 ·rename_i hp; exact (h.rowZ agent hp).symm
theorem qpa {rows:List En}(h:q3u rows){agent:Int}:(q08 agent (tab 0 rows)).isSome=decide (0 < (rowE rows agent).epoch):=by
 rw [qp9]
 split
 ·rename_i hp; simp [hp]
 ·rename_i hp; simp [hp]
theorem qzx:q3u (List.replicate 64 En.z) where
 len:=by simp
 ep e he:=by rw [z83 he]; decide
 in64 e he:=by rw [z83 he]; simp [En.z,wf64]
 zero e he _:=z83 he
theorem qwy {rows:List En}(h:q3u rows):(tab 0 rows).length≤64:=by
 rw [qn2];exact z5f (List.length_filter_le _ _) (Nat.le_of_eq h.len)
end Go.Nm
namespace Go.Proofs.YtfmkddccnjidmaaGreatDoor.Ro
open Go.Nm
theorem mt56:MapT Tryz.prog 206 2 78 aggE En.z:=qjs Tryz.underlying206 (by kernel_rfl)
theorem ko2:qo7 Tryz.prog 2 I64:=qjn Tryz.underlying2
abbrev rollC (rb mb:Nat)(most:Int):Assn:=cellsA rb [I64 most,.map (some mb)] 208
abbrev mapE (mb:Nat)(rows:List En):Assn:=mapA I64 aggE mb (tab 0 rows)
section
variable {rb mb sb:Nat} {most:Int} {rows:List En} {F:List Assn} {H:Heap} {K:Value→Heap→Prop}
theorem qkr {a b n:Int}:q1o Tryz.prog 169 #[I64 a,I64 b,I64 n] H (.bool (!decide (bad a b n))):=by
 refine qdu.call ⟨congrArg Value.bool ?_,rfl⟩;rw [z65];simp only [z56,z52,z5k,z58];omega
theorem New_spec (h:SatL H F)(k1:most < 1∨64 < most→K (.tuple #[.pointer none,I64 11]) H)
  (k2:¬(most < 1∨64 < most)→∀rb mb H',SatL H' (rollC rb mb most::mapE mb (List.replicate 64 En.z)::F)→K (.tuple #[.pointer (some ⟨rb,0,none⟩),I64 0]) H') :
  CF 54 #[I64 most] H K:=by
 refine qoh.call ⟨fun hc=>k1 (by simpa using hc),fun hc=>?_⟩
 refine h.alm I64 aggE fun mb _ h=>?_
 refine h.al fun rb _ h=>?_
 exact k2 (by simp at hc; omega) _ _ _ h
end
open Go.Nm
section
variable {rb mb sb:Nat} {most:Int} {rows:List En} {F:List Assn} {H:Heap} {K:Value→Heap→Prop}
theorem Of_spec (ok:q3u rows){agent:Int}(h:SatL H (rollC rb mb most::mapE mb rows::F))
  (k:∀H',SatL H' (rollC rb mb most::mapE mb rows::F)→K (.tuple #[aggE (rowE rows agent),.bool (decide (0 < (rowE rows agent).epoch))]) H') :
  CF 80 #[.pointer (some ⟨rb,0,none⟩),I64 agent] H K:=by
 refine qof.call ?_;unfold qof.code
 repeat (first
  | refine h.al fun _ _ h=>?_
  | refine q02 ?_
  | refine⟨fun _=>trivial,?_⟩
  | refine⟨_,h.rd 0 rfl _,?_⟩
  | refine⟨_,h.rd 1 rfl _,?_⟩
  | refine h.st 0 rfl rfl fun _ h=>?_
  | refine h.st 1 rfl rfl fun _ h=>?_
  | refine⟨_,fun _=>h.rd 0 rfl _,?_⟩
  | refine⟨_,fun _=>h.rd 1 rfl _,?_⟩)
 have hl:=h.mp_get mt56 ko2 2 rfl (x:=agent);rw [qfs ok,qpa ok] at hl;refine⟨_,_,_,_,hl,?_⟩
 repeat (first
  | refine h.al fun _ _ h=>?_
  | refine q02 ?_
  | refine⟨fun _=>trivial,?_⟩
  | refine⟨_,h.rd 0 rfl _,?_⟩
  | refine⟨_,h.rd 1 rfl _,?_⟩
  | refine h.st 0 rfl rfl fun _ h=>?_
  | refine h.st 1 rfl rfl fun _ h=>?_
  | refine⟨_,_,_,h.rds 0 rfl rfl,?_⟩
  | refine⟨_,_,_,h.rds 1 rfl rfl,?_⟩
  | refine⟨_,fun _=>h.rd 0 rfl _,?_⟩
  | refine⟨_,fun _=>h.rd 1 rfl _,?_⟩
  | refine⟨_,_,_,fun _=>h.rds 0 rfl rfl,?_⟩
  | refine⟨_,_,_,fun _=>h.rds 1 rfl rfl,?_⟩)
 exact k _ h.tl.tl
theorem Is_spec (ok:q3u rows){agent epoch:Int}(h:SatL H (rollC rb mb most::mapE mb rows::F))
  (k:∀H',SatL H' (rollC rb mb most::mapE mb rows::F)→K (.bool (decide (0 < (rowE rows agent).epoch) && decide ((rowE rows agent).epoch=epoch))) H') :
  CF 135 #[.pointer (some ⟨rb,0,none⟩),I64 agent,I64 epoch] H K:=by
 refine qod.call ?_;unfold qod.code
 repeat (first
  | refine h.al fun _ _ h=>?_
  | refine q02 ?_
  | refine⟨fun _=>trivial,?_⟩
  | refine⟨_,h.rd 0 rfl _,?_⟩
  | refine⟨_,h.rd 1 rfl _,?_⟩
  | refine h.st 0 rfl rfl fun _ h=>?_
  | refine h.st 1 rfl rfl fun _ h=>?_
  | refine⟨_,fun _=>h.rd 0 rfl _,?_⟩
  | refine⟨_,fun _=>h.rd 1 rfl _,?_⟩)
 have hl:=h.mp_get mt56 ko2 1 rfl (x:=agent);rw [qfs ok,qpa ok] at hl;refine⟨_,_,_,_,hl,?_⟩
 repeat (first
  | refine h.al fun _ _ h=>?_
  | refine q02 ?_
  | refine⟨fun _=>trivial,?_⟩
  | refine⟨_,h.rd 0 rfl _,?_⟩
  | refine⟨_,h.rd 1 rfl _,?_⟩
  | refine h.st 0 rfl rfl fun _ h=>?_
  | refine h.st 1 rfl rfl fun _ h=>?_
  | refine⟨_,fun _=>h.rd 0 rfl _,?_⟩
  | refine⟨_,fun _=>h.rd 1 rfl _,?_⟩)
 exact k _ h.tl
theorem Grant_spec (ok:q3u rows){agent boot now:Int}(h:SatL H (rollC rb mb most::mapE mb rows::F))
  (k:∀H',SatL H' (rollC rb mb most::mapE mb (q1w most rows agent boot now).1::F)→
   K (.tuple #[aggE (q1w most rows agent boot now).2.1,.bool (q1w most rows agent boot now).2.2.1,I64 (q1w most rows agent boot now).2.2.2]) H') :
  CF 136 #[.pointer (some ⟨rb,0,none⟩),I64 agent,I64 boot,I64 now] H K:=by
 refine qcr.call ?_;unfold qcr.code
 repeat (first
  | refine h.al fun _ _ h=>?_
  | refine q02 ?_
  | refine⟨fun _=>trivial,?_⟩
  | refine⟨_,h.rd 0 rfl _,?_⟩
  | refine⟨_,h.rd 1 rfl _,?_⟩
  | refine h.st 0 rfl rfl fun _ h=>?_
  | refine h.st 1 rfl rfl fun _ h=>?_
  | refine⟨_,fun _=>h.rd 0 rfl _,?_⟩
  | refine⟨_,fun _=>h.rd 1 rfl _,?_⟩)
 refine⟨_,qkr,fun hc=>?_,fun hc=>?_⟩
 ·have hb:bad agent boot now:=by simpa using hc
  have e:q1w most rows agent boot now=(rows,En.z,false,11):=if_pos hb;rw [e] at k
  repeat (first
   | refine h.al fun _ _ h=>?_
   | refine q02 ?_
   | refine⟨fun _=>trivial,?_⟩
   | refine⟨_,h.rd 0 rfl _,?_⟩
   | refine h.st 0 rfl rfl fun _ h=>?_
   | refine⟨_,_,_,h.rds 0 rfl rfl,?_⟩
   | refine⟨_,fun _=>h.rd 0 rfl _,?_⟩
   | refine⟨_,_,_,fun _=>h.rds 0 rfl rfl,?_⟩)
  exact k _ h.tl
 ·have hb:¬bad agent boot now:=by simpa using hc
  have h0:0≤agent:=by simp only [bad,not_or,Int.not_lt] at hb; omega
  repeat (first
   | refine h.al fun _ _ h=>?_
   | refine q02 ?_
   | refine⟨fun _=>trivial,?_⟩
   | refine⟨_,h.rd 0 rfl _,?_⟩
   | refine⟨_,h.rd 1 rfl _,?_⟩
   | refine h.st 0 rfl rfl fun _ h=>?_
   | refine h.st 1 rfl rfl fun _ h=>?_
   | refine⟨_,fun _=>h.rd 0 rfl _,?_⟩
   | refine⟨_,fun _=>h.rd 1 rfl _,?_⟩)
  have hl:=h.mp_get mt56 ko2 2 rfl (x:=agent);rw [qfs ok,qpa ok] at hl;refine⟨_,_,_,_,hl,?_⟩
  repeat (first
   | refine h.al fun _ _ h=>?_
   | refine q02 ?_
   | refine⟨fun _=>trivial,?_⟩
   | refine⟨_,h.rd 0 rfl _,?_⟩
   | refine⟨_,h.rd 1 rfl _,?_⟩
   | refine h.st 0 rfl rfl fun _ h=>?_
   | refine h.st 1 rfl rfl fun _ h=>?_
   | refine⟨_,fun _=>h.rd 0 rfl _,?_⟩
   | refine⟨_,fun _=>h.rd 1 rfl _,?_⟩)
  have hx:=ok.at agent;have hle:=qwy ok;refine⟨fun hc1=>?_,fun hc1=>?_⟩
  ·simp only [z56,z52] at hc1;have e:q1w most rows agent boot now=(rows,rowE rows agent,false,0):=by unfold q1w; rw [if_neg hb]; exact if_pos hc1
   rw [e] at k
   repeat (first
    | refine h.al fun _ _ h=>?_
    | refine q02 ?_
    | refine⟨fun _=>trivial,?_⟩
    | refine⟨_,h.rd 0 rfl _,?_⟩
    | refine⟨_,h.rd 1 rfl _,?_⟩
    | refine h.st 0 rfl rfl fun _ h=>?_
    | refine h.st 1 rfl rfl fun _ h=>?_
    | refine⟨_,_,_,h.rds 0 rfl rfl,?_⟩
    | refine⟨_,_,_,h.rds 1 rfl rfl,?_⟩
    | refine⟨_,fun _=>h.rd 0 rfl _,?_⟩
    | refine⟨_,fun _=>h.rd 1 rfl _,?_⟩
    | refine⟨_,_,_,fun _=>h.rds 0 rfl rfl,?_⟩
    | refine⟨_,_,_,fun _=>h.rds 1 rfl rfl,?_⟩)
   exact k _ h.tl.tl
  have n1:¬(0 < (rowE rows agent).epoch∧(rowE rows agent).boot=boot):=fun hh=>by simp [hh.1,hh.2] at hc1
  repeat (first
   | refine h.al fun _ _ h=>?_
   | refine q02 ?_
   | refine⟨fun _=>trivial,?_⟩
   | refine⟨_,h.rd 0 rfl _,?_⟩
   | refine⟨_,h.rd 1 rfl _,?_⟩
   | refine h.st 0 rfl rfl fun _ h=>?_
   | refine h.st 1 rfl rfl fun _ h=>?_
   | refine⟨_,fun _=>h.rd 0 rfl _,?_⟩
   | refine⟨_,fun _=>h.rd 1 rfl _,?_⟩)
  refine⟨fun hc2=>?_,fun hc2=>?_⟩
  ·simp only [z56,z52] at hc2;have e:q1w most rows agent boot now=(rows,En.z,false,22):=by unfold q1w; rw [if_neg hb]; simp only; rw [if_neg n1,if_pos hc2]
   rw [e] at k
   repeat (first
    | refine h.al fun _ _ h=>?_
    | refine q02 ?_
    | refine⟨fun _=>trivial,?_⟩
    | refine⟨_,h.rd 0 rfl _,?_⟩
    | refine⟨_,h.rd 1 rfl _,?_⟩
    | refine h.st 0 rfl rfl fun _ h=>?_
    | refine h.st 1 rfl rfl fun _ h=>?_
    | refine⟨_,_,_,h.rds 0 rfl rfl,?_⟩
    | refine⟨_,_,_,h.rds 1 rfl rfl,?_⟩
    | refine⟨_,fun _=>h.rd 0 rfl _,?_⟩
    | refine⟨_,fun _=>h.rd 1 rfl _,?_⟩
    | refine⟨_,_,_,fun _=>h.rds 0 rfl rfl,?_⟩
    | refine⟨_,_,_,fun _=>h.rds 1 rfl rfl,?_⟩)
   exact k _ h.tl.tl
  have n2:¬(0 < (rowE rows agent).epoch∧boot < (rowE rows agent).boot):=fun hh=>by simp [hh.1,hh.2] at hc2
  repeat (first
   | refine h.al fun _ _ h=>?_
   | refine q02 ?_
   | refine⟨fun _=>trivial,?_⟩
   | refine⟨_,h.rd 0 rfl _,?_⟩
   | refine⟨_,h.rd 1 rfl _,?_⟩
   | refine h.st 0 rfl rfl fun _ h=>?_
   | refine h.st 1 rfl rfl fun _ h=>?_
   | refine⟨_,fun _=>h.rd 0 rfl _,?_⟩
   | refine⟨_,fun _=>h.rd 1 rfl _,?_⟩)
  refine⟨fun hc3=>?_,fun hc3=>?_⟩
  ·simp only [z56,z52] at hc3;have e:q1w most rows agent boot now=(rows,En.z,false,17):=by unfold q1w; rw [if_neg hb]; simp only; rw [if_neg n1,if_neg n2,if_pos (by omega)]
   rw [e] at k
   repeat (first
    | refine h.al fun _ _ h=>?_
    | refine q02 ?_
    | refine⟨fun _=>trivial,?_⟩
    | refine⟨_,h.rd 0 rfl _,?_⟩
    | refine⟨_,h.rd 1 rfl _,?_⟩
    | refine h.st 0 rfl rfl fun _ h=>?_
    | refine h.st 1 rfl rfl fun _ h=>?_
    | refine⟨_,_,_,h.rds 0 rfl rfl,?_⟩
    | refine⟨_,_,_,h.rds 1 rfl rfl,?_⟩
    | refine⟨_,fun _=>h.rd 0 rfl _,?_⟩
    | refine⟨_,fun _=>h.rd 1 rfl _,?_⟩
    | refine⟨_,_,_,fun _=>h.rds 0 rfl rfl,?_⟩
    | refine⟨_,_,_,fun _=>h.rds 1 rfl rfl,?_⟩)
   exact k _ h.tl.tl
  have n3:¬((rowE rows agent).epoch=1099511627776):=fun hh=>by simp [hh] at hc3
  repeat (first
   | refine h.al fun _ _ h=>?_
   | refine q02 ?_
   | refine⟨fun _=>trivial,?_⟩
   | refine⟨_,h.rd 0 rfl _,?_⟩
   | refine⟨_,h.rd 1 rfl _,?_⟩
   | refine⟨_,h.rd 2 rfl _,?_⟩
   | refine h.st 0 rfl rfl fun _ h=>?_
   | refine h.st 1 rfl rfl fun _ h=>?_
   | refine h.st 2 rfl rfl fun _ h=>?_
   | refine⟨_,fun _=>h.rd 0 rfl _,?_⟩
   | refine⟨_,fun _=>h.rd 1 rfl _,?_⟩
   | refine⟨_,fun _=>h.rd 2 rfl _,?_⟩)
  refine⟨_,fun _=>h.mp_len mt56 3 rfl,?_⟩
  repeat (first
   | refine h.al fun _ _ h=>?_
   | refine q02 ?_
   | refine⟨fun _=>trivial,?_⟩
   | refine⟨_,h.rd 0 rfl _,?_⟩
   | refine⟨_,h.rd 1 rfl _,?_⟩
   | refine⟨_,h.rd 2 rfl _,?_⟩
   | refine h.st 0 rfl rfl fun _ h=>?_
   | refine h.st 1 rfl rfl fun _ h=>?_
   | refine h.st 2 rfl rfl fun _ h=>?_
   | refine⟨_,fun _=>h.rd 0 rfl _,?_⟩
   | refine⟨_,fun _=>h.rd 1 rfl _,?_⟩
   | refine⟨_,fun _=>h.rd 2 rfl _,?_⟩)
  refine⟨fun hc4=>?_,fun hc4=>?_⟩
  ·simp only [z56,z5k,z58,z52] at hc4;have e:q1w most rows agent boot now=(rows,En.z,false,20):=by unfold q1w; rw [if_neg hb]; simp only; rw [if_neg n1,if_neg n2,if_neg n3,if_pos ⟨by omega,hc4.2⟩]
   rw [e] at k
   repeat (first
    | refine h.al fun _ _ h=>?_
    | refine q02 ?_
    | refine⟨fun _=>trivial,?_⟩
    | refine⟨_,h.rd 0 rfl _,?_⟩
    | refine⟨_,h.rd 1 rfl _,?_⟩
    | refine h.st 0 rfl rfl fun _ h=>?_
    | refine h.st 1 rfl rfl fun _ h=>?_
    | refine⟨_,_,_,h.rds 0 rfl rfl,?_⟩
    | refine⟨_,_,_,h.rds 1 rfl rfl,?_⟩
    | refine⟨_,fun _=>h.rd 0 rfl _,?_⟩
    | refine⟨_,fun _=>h.rd 1 rfl _,?_⟩
    | refine⟨_,_,_,fun _=>h.rds 0 rfl rfl,?_⟩
    | refine⟨_,_,_,fun _=>h.rds 1 rfl rfl,?_⟩)
   exact k _ h.tl.tl
  have n4:¬((rowE rows agent).epoch=0∧full most rows):=fun hh=>by
   have h2:most≤((tab 0 rows).length:Int):=hh.2;simp [hh.1,h2] at hc4
  have e:q1w most rows agent boot now=(rows.set agent.toNat ⟨(rowE rows agent).epoch+1,boot,now⟩,⟨(rowE rows agent).epoch+1,boot,now⟩,true,0):=by
   unfold q1w; rw [if_neg hb]; simp only; rw [if_neg n1,if_neg n2,if_neg n3,if_neg n4]
  rw [e] at k;have ew:i64.wrap ((rowE rows agent).epoch+1)=(rowE rows agent).epoch+1:=w64 (by omega) (by omega);have hlt:agent.toNat < rows.length:=by simp only [bad,not_or,Int.not_lt] at hb; rw [ok.len]; omega
  have hs:=quv (i:=0) (x:=⟨(rowE rows agent).epoch+1,boot,now⟩) (by simp only; omega) hlt;rw [show ((0+agent.toNat:Nat):Int)=agent by omega] at hs;simp only [mapE] at k;rw [q82 hs,← ew] at k
  repeat (first
   | refine h.al fun _ _ h=>?_
   | refine q02 ?_
   | refine⟨fun _=>trivial,?_⟩
   | refine⟨_,h.rd 0 rfl _,?_⟩
   | refine⟨_,h.rd 1 rfl _,?_⟩
   | refine⟨_,h.rd 2 rfl _,?_⟩
   | refine h.st 0 rfl rfl fun _ h=>?_
   | refine h.st 1 rfl rfl fun _ h=>?_
   | refine h.st 2 rfl rfl fun _ h=>?_
   | refine⟨_,_,_,h.rds 0 rfl rfl,?_⟩
   | refine⟨_,_,_,h.rds 1 rfl rfl,?_⟩
   | refine⟨_,_,_,h.rds 2 rfl rfl,?_⟩
   | refine⟨_,fun _=>h.rd 0 rfl _,?_⟩
   | refine⟨_,fun _=>h.rd 1 rfl _,?_⟩
   | refine⟨_,fun _=>h.rd 2 rfl _,?_⟩
   | refine⟨_,_,_,fun _=>h.rds 0 rfl rfl,?_⟩
   | refine⟨_,_,_,fun _=>h.rds 1 rfl rfl,?_⟩
   | refine⟨_,_,_,fun _=>h.rds 2 rfl rfl,?_⟩)
  refine h.mp_update (α:=En) (v:=⟨_,_,_⟩) mt56 ko2 3 rfl fun _ h=>?_
  repeat (first
   | refine h.al fun _ _ h=>?_
   | refine q02 ?_
   | refine⟨fun _=>trivial,?_⟩
   | refine⟨_,h.rd 0 rfl _,?_⟩
   | refine⟨_,h.rd 1 rfl _,?_⟩
   | refine⟨_,h.rd 2 rfl _,?_⟩
   | refine h.st 0 rfl rfl fun _ h=>?_
   | refine h.st 1 rfl rfl fun _ h=>?_
   | refine h.st 2 rfl rfl fun _ h=>?_
   | refine⟨_,_,_,h.rds 0 rfl rfl,?_⟩
   | refine⟨_,_,_,h.rds 1 rfl rfl,?_⟩
   | refine⟨_,_,_,h.rds 2 rfl rfl,?_⟩
   | refine⟨_,fun _=>h.rd 0 rfl _,?_⟩
   | refine⟨_,fun _=>h.rd 1 rfl _,?_⟩
   | refine⟨_,fun _=>h.rd 2 rfl _,?_⟩
   | refine⟨_,_,_,fun _=>h.rds 0 rfl rfl,?_⟩
   | refine⟨_,_,_,fun _=>h.rds 1 rfl rfl,?_⟩
   | refine⟨_,_,_,fun _=>h.rds 2 rfl rfl,?_⟩)
  exact k _ h.tl.tl
theorem Set_spec (ok:q3u rows){agent:Int}{x:En}(h:SatL H (rollC rb mb most::mapE mb rows::F))
  (k:∀H',SatL H' (rollC rb mb most::mapE mb (setR most rows agent x).1::F)→K (I64 (setR most rows agent x).2) H') :
  CF 104 #[.pointer (some ⟨rb,0,none⟩),I64 agent,aggE x] H K:=by
 refine qi4.call ?_;unfold qi4.code
 repeat (first
  | refine h.al fun _ _ h=>?_
  | refine q02 ?_
  | refine⟨fun _=>trivial,?_⟩
  | refine⟨_,h.rd 0 rfl _,?_⟩
  | refine h.st 0 rfl rfl fun _ h=>?_
  | refine⟨_,fun _=>h.rd 0 rfl _,?_⟩)
 refine⟨_,qkr,?_⟩
 repeat (first
  | refine h.al fun _ _ h=>?_
  | refine q02 ?_
  | refine⟨fun _=>trivial,?_⟩
  | refine⟨_,h.rd 0 rfl _,?_⟩
  | refine h.st 0 rfl rfl fun _ h=>?_
  | refine⟨_,fun _=>h.rd 0 rfl _,?_⟩)
 refine⟨fun hc=>?_,fun hc=>?_⟩
 ·have e:setR most rows agent x=(rows,11):=if_pos (by
   simp only [z5h,z5k,z67,z52,Bool.not_not] at hc;omega)
  rw [e] at k;exact k _ h.tl
 ·have n1:¬(bad agent x.boot x.time∨x.epoch < 1∨1099511627776 < x.epoch):=by
   simp only [z5g,Bool.not_not,z58] at hc;omega
  repeat (first
   | refine h.al fun _ _ h=>?_
   | refine q02 ?_
   | refine⟨fun _=>trivial,?_⟩
   | refine⟨_,h.rd 0 rfl _,?_⟩
   | refine⟨_,h.rd 1 rfl _,?_⟩
   | refine h.st 0 rfl rfl fun _ h=>?_
   | refine h.st 1 rfl rfl fun _ h=>?_
   | refine⟨_,fun _=>h.rd 0 rfl _,?_⟩
   | refine⟨_,fun _=>h.rd 1 rfl _,?_⟩)
  have hl:=h.mp_get mt56 ko2 2 rfl (x:=agent);rw [qfs ok,qpa ok] at hl;refine⟨_,_,_,_,hl,?_⟩
  repeat (first
   | refine h.al fun _ _ h=>?_
   | refine q02 ?_
   | refine⟨fun _=>trivial,?_⟩
   | refine⟨_,h.rd 0 rfl _,?_⟩
   | refine⟨_,h.rd 1 rfl _,?_⟩
   | refine h.st 0 rfl rfl fun _ h=>?_
   | refine h.st 1 rfl rfl fun _ h=>?_
   | refine⟨_,fun _=>h.rd 0 rfl _,?_⟩
   | refine⟨_,fun _=>h.rd 1 rfl _,?_⟩)
  refine⟨fun hc1=>?_,fun hc1=>?_⟩
  ·have e:setR most rows agent x=(rows,18):=by unfold setR; rw [if_neg n1,if_pos (by simpa using hc1)]
   rw [e] at k;exact k _ h.tl.tl
  have n2:¬0 < (rowE rows agent).epoch:=by simpa using hc1
  repeat (first
   | refine h.al fun _ _ h=>?_
   | refine q02 ?_
   | refine⟨fun _=>trivial,?_⟩
   | refine⟨_,h.rd 0 rfl _,?_⟩
   | refine⟨_,h.rd 1 rfl _,?_⟩
   | refine⟨_,h.rd 2 rfl _,?_⟩
   | refine h.st 0 rfl rfl fun _ h=>?_
   | refine h.st 1 rfl rfl fun _ h=>?_
   | refine h.st 2 rfl rfl fun _ h=>?_
   | refine⟨_,fun _=>h.rd 0 rfl _,?_⟩
   | refine⟨_,fun _=>h.rd 1 rfl _,?_⟩
   | refine⟨_,fun _=>h.rd 2 rfl _,?_⟩)
  refine⟨_,h.mp_len mt56 3 rfl,?_⟩
  repeat (first
   | refine h.al fun _ _ h=>?_
   | refine q02 ?_
   | refine⟨fun _=>trivial,?_⟩
   | refine⟨_,h.rd 0 rfl _,?_⟩
   | refine⟨_,h.rd 1 rfl _,?_⟩
   | refine⟨_,h.rd 2 rfl _,?_⟩
   | refine h.st 0 rfl rfl fun _ h=>?_
   | refine h.st 1 rfl rfl fun _ h=>?_
   | refine h.st 2 rfl rfl fun _ h=>?_
   | refine⟨_,fun _=>h.rd 0 rfl _,?_⟩
   | refine⟨_,fun _=>h.rd 1 rfl _,?_⟩
   | refine⟨_,fun _=>h.rd 2 rfl _,?_⟩)
  refine⟨fun hc2=>?_,fun hc2=>?_⟩
  ·have e:setR most rows agent x=(rows,20):=by unfold setR; rw [if_neg n1,if_neg n2,if_pos (by simpa using hc2)]
   rw [e] at k;exact k _ h.tl.tl
  have n3:¬full most rows:=by simpa using hc2
  have e:setR most rows agent x=(rows.set agent.toNat x,0):=by unfold setR; rw [if_neg n1,if_neg n2,if_neg n3]
  rw [e] at k
  repeat (first
   | refine h.al fun _ _ h=>?_
   | refine q02 ?_
   | refine⟨fun _=>trivial,?_⟩
   | refine⟨_,h.rd 0 rfl _,?_⟩
   | refine⟨_,h.rd 1 rfl _,?_⟩
   | refine⟨_,h.rd 2 rfl _,?_⟩
   | refine h.st 0 rfl rfl fun _ h=>?_
   | refine h.st 1 rfl rfl fun _ h=>?_
   | refine h.st 2 rfl rfl fun _ h=>?_
   | refine⟨_,_,_,h.rds 0 rfl rfl,?_⟩
   | refine⟨_,_,_,h.rds 1 rfl rfl,?_⟩
   | refine⟨_,_,_,h.rds 2 rfl rfl,?_⟩
   | refine⟨_,fun _=>h.rd 0 rfl _,?_⟩
   | refine⟨_,fun _=>h.rd 1 rfl _,?_⟩
   | refine⟨_,fun _=>h.rd 2 rfl _,?_⟩
   | refine⟨_,_,_,fun _=>h.rds 0 rfl rfl,?_⟩
   | refine⟨_,_,_,fun _=>h.rds 1 rfl rfl,?_⟩
   | refine⟨_,_,_,fun _=>h.rds 2 rfl rfl,?_⟩)
  refine h.mp_update (α:=En) (v:=x) mt56 ko2 3 rfl fun _ h=>?_
  have hlt:agent.toNat < rows.length:=by simp only [bad,not_or,Int.not_lt] at n1; rw [ok.len]; omega
  have hs:=quv (i:=0) (x:=x) (by omega) hlt;rw [show ((0+agent.toNat:Nat):Int)=agent by simp only [bad,not_or,Int.not_lt] at n1; omega] at hs;refine k _ ?_;show SatL _ (rollC rb mb most::mapA I64 aggE mb (tab 0 (rows.set agent.toNat x))::F);rw [q82 hs];exact h.tl.tl
end
open Go.Nm
section
variable {rb mb sb:Nat} {most:Int} {rows:List En} {F:List Assn} {H:Heap} {K:Value→Heap→Prop}
theorem All_spec (h:SatL H F)(k:∀c0 H',SatL H' (cellsA c0 [.pointer (some ⟨rb,0,none⟩)] 110::F)→K (.func (.func 120) #[] #[.pointer (some ⟨c0,0,none⟩)]) H') :
  CF 61 #[.pointer (some ⟨rb,0,none⟩)] H K:=by
 refine qi5.call ?_;unfold qi5.code;refine h.al fun _ _ h=>?_
 exact k _ _ h
theorem All1_spec {l c0:Nat}(ok:q3u rows)(A:Nat→Assn)(Ax:Assn)
  (h:SatL H (A 0::cellsA c0 [.pointer (some ⟨rb,0,none⟩)] 110::rollC rb mb most::mapE mb rows::F))
  (hy:∀j (hj:j < (tab 0 rows).length) (G:List Assn) (H1:Heap) (K1:Value→Heap→Prop),SatL H1 (A j::G)→(∀H2,SatL H2 (A (j+1)::G)→K1 (.bool true) H2)→(∀H2,SatL H2 (Ax::G)→K1 (.bool false) H2)→
   q33 Tryz.prog l [I64 (tab 0 rows)[j].1,aggE (tab 0 rows)[j].2] H1 K1)
  (k:∀H',SatL H' (A (tab 0 rows).length::cellsA c0 [.pointer (some ⟨rb,0,none⟩)] 110::rollC rb mb most::mapE mb rows::F)→K (.tuple #[]) H')
  (kx:∀H',SatL H' (Ax::cellsA c0 [.pointer (some ⟨rb,0,none⟩)] 110::rollC rb mb most::mapE mb rows::F)→K (.tuple #[]) H') :
  CF 120 #[.func (.yield l) #[] #[],.pointer (some ⟨c0,0,none⟩)] H K:=by
 refine q6b.call ?_;unfold q6b.code;have hle:=qwy ok
 repeat (first
  | refine h.al fun _ _ h=>?_
  | refine q02 ?_
  | refine⟨fun _=>trivial,?_⟩
  | refine⟨_,h.rd 0 rfl _,?_⟩
  | refine⟨_,h.rd 1 rfl _,?_⟩
  | refine⟨_,h.rd 2 rfl _,?_⟩
  | refine h.st 0 rfl rfl fun _ h=>?_
  | refine h.st 1 rfl rfl fun _ h=>?_
  | refine h.st 2 rfl rfl fun _ h=>?_
  | refine⟨_,fun _=>h.rd 0 rfl _,?_⟩
  | refine⟨_,fun _=>h.rd 1 rfl _,?_⟩
  | refine⟨_,fun _=>h.rd 2 rfl _,?_⟩)
 refine qtp h 3 rfl fun H1 h1 _=>⟨_,rfl,?_⟩
 refine qyi ⟨_,_,rfl,?_⟩;refine qqx h1 0 rfl (fun x hx=>?_) (by omega) fun a c H2 h2 _=>⟨_,_,_,rfl,?_⟩
 ·obtain⟨p,hp,rfl⟩:=z5b.1 hx;have:=q95 hp;have:=ok.len;unfold wf64; omega
 rw [qzw] at h2;refine⟨fun t H'=>∃j:Nat,t=j∧j≤(tab 0 rows).length∧SatL H' (A j::slA 2 1 a (tab 0 rows).length c ((q03 (tab 0 rows)).map I64)::mapA I64 aggE H.size (tab 0 rows)::cellsA c0 [.pointer (some ⟨rb,0,none⟩)] 110::rollC rb mb most::mapE mb rows::F),
  fun t _=>(tab 0 rows).length - t.toNat,⟨0,rfl,z5s _,h2.o [2,0,1] 3⟩,?_⟩
 rintro t H3 ⟨j,rfl,hj,h3⟩;unfold q6b.l1;refine⟨fun hc=>?_,fun hc=>?_⟩
 ·have hlt:j < (tab 0 rows).length:=by have:=z4z hc; omega
  have hrd:=(h3.sl_rd 1 rfl).at (j:=j) (by simpa [q03] using hlt);have hkey:(q03 (tab 0 rows))[j]'(by simpa [q03] using hlt)=(tab 0 rows)[j].1:=by simp [q03]
  rw [hkey] at hrd;have hlk:=h3.mp_get1 mt56 ko2 2 rfl (x:=(tab 0 rows)[j].1);have hmem:((tab 0 rows)[j].1,(tab 0 rows)[j].2)∈tab 0 rows:=z5e hlt;rw [q2k qfr hmem] at hlk;refine⟨⟨by omega,by omega⟩,_,_,hrd.1,_,hrd.2,_,_,_,hlk,?_⟩;refine hy j hlt _ H3 _ h3 (fun H4 h4=>⟨true,rfl,fun hf=>(by cases hf),fun _=>?_⟩) fun H4 h4=>⟨false,rfl,fun _=>?_,fun hf=>(by cases hf)⟩
  ·rw [w64 (by omega) (by omega)];exact⟨⟨j+1,rfl,hlt,h4⟩,by simp only; omega⟩
  ·exact kx _ (h4.o [0] 3)
 ·obtain rfl:j=(tab 0 rows).length:=by have:=z54 hc; omega
  exact k _ (h3.o [0] 3)
end
end Go.Proofs.YtfmkddccnjidmaaGreatDoor.Ro
namespace Go.Nm
structure Fl where
 t:Int
 out:Bool
 was:Bool
 held:Bool
deriving DecidableEq
def Fl.z:Fl:=⟨0,false,false,false⟩
abbrev encF (x:Fl):List Value:=[.int .i64 x.t,.bool x.out,.bool x.was,.bool x.held]
abbrev aggF (x:Fl):Value:=.agg #[.int .i64 x.t,.bool x.out,.bool x.was,.bool x.held]
abbrev FM:=List (Int × Fl)
abbrev isT (t:Int):Prop:=0≤t∧t≤4611686018427387903
abbrev isAg (a:Int):Prop:=0≤a∧a < 64
structure MS where
 lag:Int
 now:Int
 value:Int
 m:FM
deriving DecidableEq
structure MOk (s:MS):Prop where
 l1:1≤s.lag
 l2:s.lag≤1099511627776
 n:isT s.now
 v1:-s.lag≤s.value
 v2:s.value≤4611686018427387903
 nd:(q03 s.m).Nodup
 rows:∀p∈s.m,isAg p.1∧isT p.2.t
def MS.new (lag:Int):MS:=⟨lag,0,-lag,[]⟩
def MS.join (s:MS)(a t:Int):MS × Int:=
 if ¬isAg a∨¬isT t then (s,11) else
 match q08 a s.m with
 | some _=>(s,18)
 | none=>({ s with m:=mset a ⟨t,false,false,false⟩ s.m },0)
def MS.raise (s:MS)(a t:Int):MS × Int:=
 match q08 a s.m with
 | none=>(s,19)
 | some x=>if ¬isT t then (s,11) else ({ s with m:=mset a ⟨if t > x.t then t else x.t,x.out,x.was,x.held⟩ s.m },0)
def MS.hold (s:MS)(a:Int)(b:Bool):MS × Int:=
 match q08 a s.m with
 | none=>(s,19)
 | some x=>({ s with m:=mset a ⟨x.t,x.out,x.was,b⟩ s.m },0)
def MS.leave (s:MS)(a:Int):MS × Int:=
 match q08 a s.m with
 | none=>(s,19)
 | some _=>({ s with m:=mdel a s.m },0)
def updF (lim:Int)(x:Fl):Fl:=⟨x.t,decide (x.t < lim),x.was || decide (x.t < lim),x.held⟩
def qlr (lim:Int)(s:Int × Bool)(x:Fl):Int × Bool:=
 if ¬x.t < lim∧x.held=false∧(s.2=false∨x.t < s.1) then (x.t,true) else s
def qdd (lim:Int)(m:FM):List Int→Int × Bool→Int × Bool
 | [],s=>s
 | k::r,s=>qdd lim m r (qlr lim s ((q08 k m).getD Fl.z))
abbrev maxI (a b:Int):Int:=if b > a then b else a
def MS.tick (s:MS)(now:Int):MS × Int:=
 if ¬isT now∨now < s.now then (s,11) else
 ({ s with now:=now,value:=maxI s.value (qdd (now - s.lag) s.m (q7n (q03 s.m)) (now - s.lag,false)).1,m:=s.m.map fun p=>(p.1,updF (now - s.lag) p.2) },0)
section
variable {κ α:Type} [DecidableEq κ]
theorem qrm {k:κ}{v:α}:∀{m:List (κ × α)},(q03 m).Nodup→k∈q03 m→(m.map fun p=>if p.1=k then (k,v) else p).Perm (mset k v m)
 | [],_,h=>by simp at h
 | p::r,hn,h=>by
  simp only [q03,z5y,z7f] at hn
  by_cases e:p.1=k
  ·have hk:k∉q03 r:=by rw [← e]; exact hn.1
   have e1:(r.map fun p=>if p.1=k then (k,v) else p)=r:=by
    conv=>rhs; rw [← List.map_id r]
    apply z73;intro q hq;rw [if_neg (fun e2=>hk (by rw [← e2]; exact z5b.2 ⟨q,hq,rfl⟩))]; rfl
   have e2:mdel k (p::r)=r:=by
    have:mdel k (p::r)=mdel k r:=by simp [mdel,z6b,e]
    rw [this,q17 (q0g.2 hk)]
   rw [z5y,if_pos e,e1];unfold mset;rw [e2]
  ·have hk:k∈q03 r:=by
    simp only [q03,z5y,z5l] at h;exact h.resolve_left (fun e2=>e e2.symm)
   rw [z5y,if_neg e];refine ((qrm (m:=r) hn.2 hk).cons p).trans ?_;unfold mset;have:mdel k (p::r)=p::mdel k r:=by simp [mdel,z6b,e]
   rw [this];exact .swap _ _ _
theorem qft {β:Type}{f:κ→α→β}{k:κ}:∀{m:List (κ × α)},q08 k (m.map fun p=>(p.1,f p.1 p.2))=(q08 k m).map (f k)
 | []=>rfl
 | p::r=>by
  have ih:=qft (f:=f) (k:=k) (m:=r);simp only [z5y,q08]
  split
  ·rename_i e; rw [← e]; rfl
  ·exact ih
omit [DecidableEq κ] in
theorem qwz {β:Type}{f:κ→α→β}{m:List (κ × α)}:q03 (m.map fun p=>(p.1,f p.1 p.2))=q03 m:=by simp [q03,Function.comp_def]
end
theorem qx0:∀(n:Nat) (l:List Int),l.Nodup→(∀x∈l,0≤x∧x < (n:Int))→l.length≤n
 | 0,l,_,h=>by
  cases l with
  | nil=>simp
  | cons a r=>have:=h a (by simp); omega
 | n+1,l,hn,h=>by
  have h2:=qx0 n (l.erase (n:Int)) (hn.erase _) (fun x hx=>by
   have hx':=(hn.mem_erase_iff).1 hx;have:=h x hx'.2;have:=hx'.1;omega)
  have h3:l.length≤(l.erase (n:Int)).length+1:=by
   by_cases hm:(n:Int)∈l
   ·rw [List.length_erase_of_mem hm]; omega
   ·rw [List.erase_of_not_mem hm]; omega
  omega
theorem MOk.le {s:MS}(h:MOk s):s.m.length≤64:=by
 have:=qx0 64 (q03 s.m) h.nd (fun x hx=>by
  obtain⟨p,hp,rfl⟩:=z5b.1 hx;exact (h.rows p hp).1)
 simpa [q03] using this
theorem MOk.wf {s:MS}(h:MOk s):∀x∈q03 s.m,wf64 x:=by
 intro x hx;obtain⟨p,hp,rfl⟩:=z5b.1 hx;have:=(h.rows p hp).1;unfold wf64; omega
theorem MOk.look {s:MS}(h:MOk s){a:Int}{x:Fl}(hx:q08 a s.m=some x):isAg a∧isT x.t:=h.rows _ (q0b hx)
theorem MOk.new {lag:Int}(h1:1≤lag)(h2:lag≤1099511627776):MOk (MS.new lag):=
 ⟨h1,h2,⟨by simp [MS.new],by simp [MS.new]⟩,z5z _,by simp only [MS.new]; omega,by simp [MS.new],fun p hp=>by simp [MS.new] at hp⟩
theorem MOk.mset {s:MS}(h:MOk s){a:Int}{x:Fl}(ha:isAg a)(hx:isT x.t):MOk { s with m:=mset a x s.m }:=
 ⟨h.l1,h.l2,h.n,h.v1,h.v2,q7u h.nd,fun p hp=>by
  rcases z5l.1 hp with rfl|hp
  ·exact⟨ha,hx⟩
  ·exact h.rows p (qci.1 hp).1⟩
theorem MOk.join {s:MS}(h:MOk s)(a t:Int):MOk (s.join a t).1:=by
 unfold MS.join
 split
 ·exact h
 ·rename_i hc
  split
  ·exact h
  ·exact h.mset (by omega) (by simp only; omega)
theorem MOk.raise {s:MS}(h:MOk s)(a t:Int):MOk (s.raise a t).1:=by
 unfold MS.raise
 split
 ·exact h
 ·rename_i x hx;have hl:=h.look hx
  split
  ·exact h
  ·refine h.mset hl.1 ?_;simp only
   split <;> omega
theorem MOk.hold {s:MS}(h:MOk s)(a:Int)(b:Bool):MOk (s.hold a b).1:=by
 unfold MS.hold
 split
 ·exact h
 ·rename_i x hx;exact h.mset (h.look hx).1 (h.look hx).2
theorem MOk.leave {s:MS}(h:MOk s)(a:Int):MOk (s.leave a).1:=by
 unfold MS.leave
 split
 ·exact h
 ·exact⟨h.l1,h.l2,h.n,h.v1,h.v2,qcj h.nd,fun p hp=>h.rows p (qci.1 hp).1⟩
theorem qn3 {lim:Int}{m:FM}(hm:∀p∈m,isT p.2.t):∀(ks:List Int) (s:Int × Bool),(s.1≤4611686018427387903)→(qdd lim m ks s).1≤4611686018427387903
 | [],s,h=>h
 | k::r,s,h=>by
  refine qn3 hm r _ ?_;unfold qlr
  split
  ·simp only
   cases hk:q08 k m with
   | none=>simp [Fl.z]
   | some x=>exact (hm _ (q0b hk)).2
  ·exact h
theorem MOk.tick {s:MS}(h:MOk s)(now:Int):MOk (s.tick now).1:=by
 unfold MS.tick
 split
 ·exact h
 ·rename_i hc;have:=h.l1;have:=h.v1;have:=h.v2;have hf:=qn3 (lim:=now - s.lag) (fun p hp=>(h.rows p hp).2) (q7n (q03 s.m)) (now - s.lag,false) (by simp only; omega)
  refine⟨h.l1,h.l2,⟨by simp only; omega,by simp only; omega⟩,?_,?_,?_,fun p hp=>?_⟩
  ·simp only [maxI]; split <;> omega
  ·simp only [maxI]; split <;> omega
  ·exact (congrArg List.Nodup (qwz (f:=fun _ x=>updF (now - s.lag) x) (m:=s.m))).mpr h.nd
  ·obtain⟨q,hq,rfl⟩:=z5b.1 hp;exact h.rows q hq
def mjT (lim:Int)(m:FM)(l:List Int):FM:=m.map fun p=>(p.1,if p.1∈l then updF lim p.2 else p.2)
theorem mjT_nil (lim:Int)(m:FM):mjT lim m []=m:=by
 unfold mjT
 conv=>rhs; rw [← List.map_id m]
 apply z73;intro p _;simp
theorem mjT_all {lim:Int}{m:FM}{l:List Int}(h:∀x∈q03 m,x∈l):mjT lim m l=m.map fun p=>(p.1,updF lim p.2):=by
 unfold mjT;apply z73;intro p hp;rw [if_pos (h p.1 (z5b.2 ⟨p,hp,rfl⟩))]
theorem qx1 (lim:Int)(m:FM)(l:List Int):q03 (mjT lim m l)=q03 m:=qwz (f:=fun k x=>if k∈l then updF lim x else x) (m:=m)
theorem mjT_look (lim:Int)(m:FM)(l:List Int)(k:Int):q08 k (mjT lim m l)=(q08 k m).map fun x=>if k∈l then updF lim x else x:=qft (f:=fun k x=>if k∈l then updF lim x else x) (m:=m)
theorem mjT_step {lim:Int}{m:FM}{l:List Int}{k:Int}{x:Fl}(hn:(q03 m).Nodup)(hk:q08 k m=some x):(mset k (updF lim x) (mjT lim m l)).Perm (mjT lim m (l++[k])):=by
 have hmem:k∈q03 (mjT lim m l):=by
  rw [qx1]; exact z5b.2 ⟨_,q0b hk,rfl⟩
 refine (qrm (by rw [qx1]; exact hn) hmem).symm.trans ?_;have:(mjT lim m l).map (fun p=>if p.1=k then (k,updF lim x) else p)=mjT lim m (l++[k]):=by
  unfold mjT;rw [z68];apply z73;intro p hp;simp only [Function.comp_def,z6g,z60]
  by_cases e:p.1=k
  ·have hx:p.2=x:=by
    have:=q2k hn (show (p.1,p.2)∈m from hp);rw [e,hk] at this;exact (Option.some.inj this).symm
   rw [if_pos e,if_pos (Or.inr e),hx,e]
  ·rw [if_neg e]
   by_cases e2:p.1∈l
   ·rw [if_pos e2,if_pos (Or.inl e2)]
   ·rw [if_neg e2,if_neg (fun hh=>hh.elim e2 e)]
 rw [this]
theorem qhl (lim:Int)(m:FM):∀(l r:List Int) (s:Int × Bool),qdd lim m (l++r) s=qdd lim m r (qdd lim m l s)
 | [],_,_=>rfl
 | k::l,r,s=>qhl lim m l r _
theorem quw {l:List Int}(h:l.Nodup):(q7n l).Nodup:=(q5f l).nodup_iff.2 h
theorem qrn {l:List Int}{x:Int}:x∈q7n l↔x∈l:=(q5f l).mem_iff
theorem qzy {l:List Int}(h:l.Nodup){j:Nat}(hj:j < l.length):l[j]∉l.take j:=by
 intro hm;obtain⟨i,hi,he⟩:=z7d hm;rw [List.getElem_take] at he;have hi2:i < j:=by simp at hi; omega
 exact List.pairwise_iff_getElem.1 h i j _ hj hi2 he
end Go.Nm
namespace Go.Proofs.YtfmkddccnjidmaaGreatDoor.Ma
open Go.Nm
theorem mt45:MapT Tryz.prog 116 2 80 aggF Fl.z:=qjs Tryz.underlying116 (by kernel_rfl)
theorem ko2:qo7 Tryz.prog 2 I64:=qjn Tryz.underlying2
abbrev markC (mb rb:Nat)(s:MS):Assn:=cellsA mb [I64 s.lag,I64 s.now,I64 s.value,.map (some rb)] 191
abbrev mapF (rb:Nat)(m:FM):Assn:=mapA I64 aggF rb m
section
variable {mb rb:Nat} {s:MS} {F:List Assn} {H:Heap} {K:Value→Heap→Prop}
theorem isTime_spec {t:Int}:q1o Tryz.prog 108 #[I64 t] H (.bool (decide (isT t))):=by
 refine qdv.call ⟨congrArg Value.bool ?_,rfl⟩;rw [z65]; simp [isT]
theorem qhm {a:Int}:q1o Tryz.prog 109 #[I64 a] H (.bool (decide (isAg a))):=by
 refine qbn.call ⟨congrArg Value.bool ?_,rfl⟩;rw [z65]; simp [isAg]
theorem Now_spec (h:SatL H F)(i:Nat)(hA:nth i F=markC mb rb s):q1o Tryz.prog 58 #[.pointer (some ⟨mb,0,none⟩)] H (I64 s.now):=by
 unfold q1o;refine qi6.call ?_;unfold qi6.code;exact⟨_,h.rd i hA _,rfl,rfl⟩
theorem Value_spec (h:SatL H F)(i:Nat)(hA:nth i F=markC mb rb s):q1o Tryz.prog 60 #[.pointer (some ⟨mb,0,none⟩)] H (I64 s.value):=by
 unfold q1o;refine qct.call ?_;unfold qct.code;exact⟨_,h.rd i hA _,rfl,rfl⟩
theorem New_spec {lag:Int}(h:SatL H F)(k1:lag < 1∨1099511627776 < lag→K (.tuple #[.pointer none,I64 11]) H)
  (k2:1≤lag→lag≤1099511627776→∀mb rb H',SatL H' (markC mb rb (MS.new lag)::mapF rb []::F)→K (.tuple #[.pointer (some ⟨mb,0,none⟩),I64 0]) H') :
  CF 52 #[I64 lag] H K:=by
 refine qoi.call ⟨fun hc=>k1 (by simpa using hc),fun hc=>?_⟩
 have hc:1≤lag∧lag≤1099511627776:=by simp at hc; omega
 refine h.alm I64 aggF fun rb _ h=>?_
 rw [w64 (x:=0 - lag) (by omega) (by omega)];refine h.al fun mb _ h=>k2 hc.1 hc.2 mb rb _ ?_
 have e:(0:Int) - lag=-lag:=by omega
 rw [e] at h;exact h
theorem Of_spec {a:Int}(h:SatL H (markC mb rb s::mapF rb s.m::F))
  (k:∀H',SatL H' (markC mb rb s::mapF rb s.m::F)→K (.tuple #[aggF ((q08 a s.m).getD Fl.z),.bool (q08 a s.m).isSome]) H') :
  CF 81 #[.pointer (some ⟨mb,0,none⟩),I64 a] H K:=by
 refine qoe.call ?_;unfold qoe.code
 repeat (first
  | refine h.al fun _ _ h=>?_
  | refine q02 ?_
  | refine⟨fun _=>trivial,?_⟩
  | refine⟨_,h.rd 0 rfl _,?_⟩
  | refine⟨_,h.rd 1 rfl _,?_⟩
  | refine h.st 0 rfl rfl fun _ h=>?_
  | refine h.st 1 rfl rfl fun _ h=>?_
  | refine⟨_,fun _=>h.rd 0 rfl _,?_⟩
  | refine⟨_,fun _=>h.rd 1 rfl _,?_⟩)
 refine⟨_,_,_,_,_,h.mp_get mt45 ko2 2 rfl,?_⟩
 repeat (first
  | refine h.al fun _ _ h=>?_
  | refine q02 ?_
  | refine⟨fun _=>trivial,?_⟩
  | refine⟨_,h.rd 0 rfl _,?_⟩
  | refine⟨_,h.rd 1 rfl _,?_⟩
  | refine⟨_,h.rd 2 rfl _,?_⟩
  | refine h.st 0 rfl rfl fun _ h=>?_
  | refine h.st 1 rfl rfl fun _ h=>?_
  | refine h.st 2 rfl rfl fun _ h=>?_
  | refine⟨_,_,_,_,h.rds 0 rfl rfl,?_⟩
  | refine⟨_,_,_,_,h.rds 1 rfl rfl,?_⟩
  | refine⟨_,_,_,_,h.rds 2 rfl rfl,?_⟩
  | refine⟨_,fun _=>h.rd 0 rfl _,?_⟩
  | refine⟨_,fun _=>h.rd 1 rfl _,?_⟩
  | refine⟨_,fun _=>h.rd 2 rfl _,?_⟩
  | refine⟨_,_,_,_,fun _=>h.rds 0 rfl rfl,?_⟩
  | refine⟨_,_,_,_,fun _=>h.rds 1 rfl rfl,?_⟩
  | refine⟨_,_,_,_,fun _=>h.rds 2 rfl rfl,?_⟩)
 exact k _ h.tl.tl
theorem Join_spec {a t:Int}(h:SatL H (markC mb rb s::mapF rb s.m::F))
  (k:∀H',SatL H' (markC mb rb (s.join a t).1::mapF rb (s.join a t).1.m::F)→K (I64 (s.join a t).2) H') :
  CF 138 #[.pointer (some ⟨mb,0,none⟩),I64 a,I64 t] H K:=by
 refine qf1.call ?_;unfold qf1.code;refine⟨_,qhm,_,fun _=>isTime_spec,fun hc=>?_,fun hc=>?_⟩
 ·have e:s.join a t=(s,11):=if_pos (by simp only [z5h,z5k,z58] at hc; exact hc);rw [e] at k;exact k _ h
 have hn:¬(¬isAg a∨¬isT t):=by simpa using hc
 repeat (first
  | refine h.al fun _ _ h=>?_
  | refine q02 ?_
  | refine⟨fun _=>trivial,?_⟩
  | refine⟨_,h.rd 0 rfl _,?_⟩
  | refine h.st 0 rfl rfl fun _ h=>?_
  | refine⟨_,fun _=>h.rd 0 rfl _,?_⟩)
 refine⟨_,_,_,_,_,h.mp_get mt45 ko2 1 rfl,?_⟩
 repeat (first
  | refine h.al fun _ _ h=>?_
  | refine q02 ?_
  | refine⟨fun _=>trivial,?_⟩
  | refine⟨_,h.rd 0 rfl _,?_⟩
  | refine h.st 0 rfl rfl fun _ h=>?_
  | refine⟨_,fun _=>h.rd 0 rfl _,?_⟩)
 cases hl:q08 a s.m with
 | some x=>
  have e:s.join a t=(s,18):=by unfold MS.join; rw [if_neg hn,hl]
  rw [e] at k;exact⟨fun _=>k _ h.tl,fun hf=>by cases hf⟩
 | none=>
  have e:s.join a t=({ s with m:=mset a ⟨t,false,false,false⟩ s.m },0):=by unfold MS.join; rw [if_neg hn,hl]
  rw [e] at k;refine⟨fun hf=>(by cases hf),fun _=>?_⟩
  repeat (first
   | refine h.al fun _ _ h=>?_
   | refine q02 ?_
   | refine⟨fun _=>trivial,?_⟩
   | refine⟨_,h.rd 0 rfl _,?_⟩
   | refine⟨_,h.rd 1 rfl _,?_⟩
   | refine h.st 0 rfl rfl fun _ h=>?_
   | refine h.st 1 rfl rfl fun _ h=>?_
   | refine⟨_,fun _=>h.rd 0 rfl _,?_⟩
   | refine⟨_,fun _=>h.rd 1 rfl _,?_⟩)
  exact h.mp_update (α:=Fl) (v:=⟨t,false,false,false⟩) mt45 ko2 2 rfl fun H' h=>k _ h.tl
theorem Leave_spec {a:Int}(h:SatL H (markC mb rb s::mapF rb s.m::F))
  (k:∀H',SatL H' (markC mb rb (s.leave a).1::mapF rb (s.leave a).1.m::F)→K (I64 (s.leave a).2) H') :
  CF 137 #[.pointer (some ⟨mb,0,none⟩),I64 a] H K:=by
 refine qcq.call ?_;unfold qcq.code
 repeat (first
  | refine h.al fun _ _ h=>?_
  | refine q02 ?_
  | refine⟨fun _=>trivial,?_⟩
  | refine⟨_,h.rd 0 rfl _,?_⟩
  | refine h.st 0 rfl rfl fun _ h=>?_
  | refine⟨_,fun _=>h.rd 0 rfl _,?_⟩)
 refine⟨_,_,_,_,_,h.mp_get mt45 ko2 1 rfl,?_⟩
 repeat (first
  | refine h.al fun _ _ h=>?_
  | refine q02 ?_
  | refine⟨fun _=>trivial,?_⟩
  | refine⟨_,h.rd 0 rfl _,?_⟩
  | refine h.st 0 rfl rfl fun _ h=>?_
  | refine⟨_,fun _=>h.rd 0 rfl _,?_⟩)
 cases hl:q08 a s.m with
 | none=>
  have e:s.leave a=(s,19):=by unfold MS.leave; rw [hl]
  rw [e] at k;exact⟨fun _=>k _ h.tl,fun hf=>by cases hf⟩
 | some x=>
  have e:s.leave a=({ s with m:=mdel a s.m },0):=by unfold MS.leave; rw [hl]
  rw [e] at k;refine⟨fun hf=>(by cases hf),fun _=>?_⟩
  repeat (first
   | refine h.al fun _ _ h=>?_
   | refine q02 ?_
   | refine⟨fun _=>trivial,?_⟩
   | refine⟨_,h.rd 0 rfl _,?_⟩
   | refine⟨_,h.rd 1 rfl _,?_⟩
   | refine h.st 0 rfl rfl fun _ h=>?_
   | refine h.st 1 rfl rfl fun _ h=>?_
   | refine⟨_,fun _=>h.rd 0 rfl _,?_⟩
   | refine⟨_,fun _=>h.rd 1 rfl _,?_⟩)
  exact h.mp_delete mt45 ko2 2 rfl fun H' h=>k _ h.tl
theorem qea {a:Int}{f:FuncId}{cap:List Value}(hf:memN f X.calls=true)(h:SatL H (markC mb rb s::mapF rb s.m::F))
  (k1:q08 a s.m=none→∀H',SatL H' (markC mb rb s::mapF rb s.m::F)→K (I64 19) H')
  (hb:∀x,q08 a s.m=some x→∀b H1,SatL H1 (cellsA b (encF x) 80::markC mb rb s::mapF rb s.m::F)→
   CF f ⟨(.pointer (some ⟨b,0,none⟩))::cap⟩ H1 fun u H2=>(∃r:Int,u=I64 r∧r≠0∧K (I64 r) H2)∨
    (u=I64 0∧∃x' F',SatL H2 (cellsA b (encF x') 80::markC mb rb s::mapF rb s.m::F')∧∀H3,SatL H3 (markC mb rb s::mapF rb (mset a x' s.m)::F')→K (I64 0) H3)) :
  CF 143 #[.pointer (some ⟨mb,0,none⟩),I64 a,.func (.func f) #[] ⟨cap⟩] H K:=by
 refine qa4.call ?_;unfold qa4.code
 repeat (first
  | refine h.al fun _ _ h=>?_
  | refine q02 ?_
  | refine⟨fun _=>trivial,?_⟩
  | refine⟨_,h.rd 0 rfl _,?_⟩
  | refine h.st 0 rfl rfl fun _ h=>?_
  | refine⟨_,fun _=>h.rd 0 rfl _,?_⟩)
 have hl:=h.mp_get mt45 ko2 1 rfl (x:=a)
 cases hm:q08 a s.m with
 | none=>
  rw [hm] at hl;refine⟨_,_,_,_,_,hl,?_⟩
  repeat (first
   | refine h.al fun _ _ h=>?_
   | refine q02 ?_
   | refine⟨fun _=>trivial,?_⟩
   | refine⟨_,h.rd 0 rfl _,?_⟩
   | refine h.st 0 rfl rfl fun _ h=>?_
   | refine⟨_,fun _=>h.rd 0 rfl _,?_⟩)
  exact⟨fun _=>k1 hm _ h.tl,fun hf=>by cases hf⟩
 | some x=>
  rw [hm] at hl;refine⟨_,_,_,_,_,hl,?_⟩
  repeat (first
   | refine h.al fun _ _ h=>?_
   | refine q02 ?_
   | refine⟨fun _=>trivial,?_⟩
   | refine⟨_,h.rd 0 rfl _,?_⟩
   | refine h.st 0 rfl rfl fun _ h=>?_
   | refine⟨_,fun _=>h.rd 0 rfl _,?_⟩)
  refine⟨fun hf=>(by cases hf),fun _=>⟨hf,(hb x hm _ _ h).mono fun u H2 hu=>?_⟩⟩
  rcases hu with ⟨r,rfl,hr,hk⟩|⟨rfl,x',F',h2,hk⟩
  ·exact⟨r,rfl,fun _=>hk,fun hf=>absurd (by simpa using hf) hr⟩
  ·refine⟨0,rfl,fun hf=>by simp at hf,fun _=>?_⟩
   refine⟨_,h2.rd 1 rfl _,_,_,_,_,h2.rds 0 rfl rfl,?_⟩;exact h2.mp_update (α:=Fl) (v:=x') mt45 ko2 2 rfl fun H' h=>hk _ h.tl
theorem Raise_spec {a t:Int}(h:SatL H (markC mb rb s::mapF rb s.m::F))
  (k:∀H',SatL H' (markC mb rb (s.raise a t).1::mapF rb (s.raise a t).1.m::F)→K (I64 (s.raise a t).2) H') :
  CF 148 #[.pointer (some ⟨mb,0,none⟩),I64 a,I64 t] H K:=by
 refine qcp.call ?_;unfold qcp.code;refine h.al fun c _ h=>?_
 refine qea (F:=cellsA c [I64 t] 2::F) (by kernel_rfl) (h.o [1,2,0] 3) (fun hn H' h=>⟨_,rfl,?_⟩) fun x hx b H1 h=>?_
 ·have e:s.raise a t=(s,19):=by unfold MS.raise; rw [hn]
  rw [e] at k;exact k _ (h.o [0,1] 3)
 refine q90.call ?_;unfold q90.code;refine⟨_,h.rd 3 rfl _,_,isTime_spec,fun hc=>?_,fun hc=>?_⟩
 ·have hT:¬isT t:=by simp only [z5k,z58] at hc; exact hc
  have e:s.raise a t=(s,11):=by unfold MS.raise; rw [hx]; exact if_pos hT
  rw [e] at k;exact .inl ⟨11,rfl,by decide,_,rfl,k _ (h.o [1,2] 4)⟩
 ·have hT:¬¬isT t:=by simpa using hc
  have e:s.raise a t=({ s with m:=mset a ⟨if t > x.t then t else x.t,x.out,x.was,x.held⟩ s.m },0):=by unfold MS.raise; rw [hx]; exact if_neg hT
  rw [e] at k;refine⟨_,h.rd 0 rfl _,_,h.rd 3 rfl _,?_⟩;refine h.st 0 rfl rfl fun _ h=>.inr ⟨rfl,⟨if t > x.t then t else x.t,x.out,x.was,x.held⟩,_,h,fun H3 h=>⟨_,rfl,?_⟩⟩
  exact k _ (h.o [0,1] 3)
theorem Hold_spec {a:Int}{v:Bool}(h:SatL H (markC mb rb s::mapF rb s.m::F))
  (k:∀H',SatL H' (markC mb rb (s.hold a v).1::mapF rb (s.hold a v).1.m::F)→K (I64 (s.hold a v).2) H') :
  CF 69 #[.pointer (some ⟨mb,0,none⟩),I64 a,.bool v] H K:=by
 refine qf3.call ?_;unfold qf3.code;refine h.al fun c _ h=>?_
 refine qea (F:=cellsA c [.bool v] 4::F) (by kernel_rfl) (h.o [1,2,0] 3) (fun hn H' h=>⟨_,rfl,?_⟩) fun x hx b H1 h=>?_
 ·have e:s.hold a v=(s,19):=by unfold MS.hold; rw [hn]
  rw [e] at k;exact k _ (h.o [0,1] 3)
 refine qa3.call ?_;unfold qa3.code;have e:s.hold a v=({ s with m:=mset a ⟨x.t,x.out,x.was,v⟩ s.m },0):=by unfold MS.hold; rw [hx]
 rw [e] at k;refine⟨_,h.rd 3 rfl _,?_⟩;refine h.st 0 rfl rfl fun _ h=>.inr ⟨rfl,⟨x.t,x.out,x.was,v⟩,_,h,fun H3 h=>⟨_,rfl,?_⟩⟩
 exact k _ (h.o [0,1] 3)
end
open Go.Nm
section
variable {mb rb:Nat} {s:MS} {F:List Assn} {H:Heap} {K:Value→Heap→Prop}
theorem All_spec (h:SatL H F)(k:∀c0 H',SatL H' (cellsA c0 [.pointer (some ⟨mb,0,none⟩)] 111::F)→K (.func (.func 226) #[] #[.pointer (some ⟨c0,0,none⟩)]) H') :
  CF 196 #[.pointer (some ⟨mb,0,none⟩)] H K:=by
 refine qi3.call ?_;unfold qi3.code;refine h.al fun _ _ h=>?_
 exact k _ _ h
abbrev ksOf (s:MS):List Int:=q7n (q03 s.m)
abbrev atF (s:MS)(a:Int):Fl:=(q08 a s.m).getD Fl.z
theorem ks_len:(ksOf s).length=s.m.length:=by simp [ksOf,qqk,q03]
theorem All1_spec {l c0:Nat}(ok:MOk s)(A:Nat→Assn)(Ax:Assn)(B:Assn)
  (h:SatL H (markC mb rb s::mapF rb s.m::B::cellsA c0 [.pointer (some ⟨mb,0,none⟩)] 111::F))
  (hst:∀G H',SatL H' (markC mb rb s::mapF rb s.m::B::G)→SatL H' (A 0::G))
  (hy:∀j (hj:j < (ksOf s).length) (G:List Assn) (H1:Heap) (K1:Value→Heap→Prop),SatL H1 (A j::G)→(∀H2,SatL H2 (A (j+1)::G)→K1 (.bool true) H2)→(∀H2,SatL H2 (Ax::G)→K1 (.bool false) H2)→
   q33 Tryz.prog l [I64 (ksOf s)[j],aggF (atF s (ksOf s)[j])] H1 K1)
  (k:∀H',SatL H' (A (ksOf s).length::cellsA c0 [.pointer (some ⟨mb,0,none⟩)] 111::F)→K (.tuple #[]) H')
  (kx:∀H',SatL H' (Ax::cellsA c0 [.pointer (some ⟨mb,0,none⟩)] 111::F)→K (.tuple #[]) H') :
  CF 226 #[.func (.yield l) #[] #[],.pointer (some ⟨c0,0,none⟩)] H K:=by
 refine q66.call ?_;unfold q66.code;have hle:=ok.le;have hkl:(ksOf s).length=s.m.length:=ks_len
 repeat (first
  | refine h.al fun _ _ h=>?_
  | refine q02 ?_
  | refine⟨fun _=>trivial,?_⟩
  | refine⟨_,h.rd 0 rfl _,?_⟩
  | refine⟨_,h.rd 1 rfl _,?_⟩
  | refine⟨_,h.rd 2 rfl _,?_⟩
  | refine⟨_,h.rd 3 rfl _,?_⟩
  | refine h.st 0 rfl rfl fun _ h=>?_
  | refine h.st 1 rfl rfl fun _ h=>?_
  | refine h.st 2 rfl rfl fun _ h=>?_
  | refine h.st 3 rfl rfl fun _ h=>?_
  | refine⟨_,fun _=>h.rd 0 rfl _,?_⟩
  | refine⟨_,fun _=>h.rd 1 rfl _,?_⟩
  | refine⟨_,fun _=>h.rd 2 rfl _,?_⟩
  | refine⟨_,fun _=>h.rd 3 rfl _,?_⟩)
 refine qtr h 1 rfl fun H1 h1 _=>⟨_,rfl,?_⟩
 refine qyk ⟨_,_,rfl,?_⟩;refine qqz h1 0 rfl ok.wf (by omega) fun a c H2 h2 _=>⟨_,_,_,rfl,?_⟩
 have h2:=hst _ _ (h2.o [2,3,4,0,1] 5);refine⟨fun t H'=>∃j:Nat,t=j∧j≤(ksOf s).length∧SatL H' (A j::slA 2 1 a s.m.length c ((ksOf s).map I64)::mapF H.size s.m::cellsA c0 [.pointer (some ⟨mb,0,none⟩)] 111::F),
  fun t _=>(ksOf s).length - t.toNat,⟨0,rfl,z5s _,h2⟩,?_⟩
 rintro t H3 ⟨j,rfl,hj,h3⟩;unfold q66.l1;refine⟨fun hc=>?_,fun hc=>?_⟩
 ·have hlt:j < (ksOf s).length:=by have:=z4z hc; omega
  have hrd:=(h3.sl_rd 1 rfl).at hlt;have hlk:=h3.mp_get1 mt45 ko2 2 rfl (x:=(ksOf s)[j]);refine⟨⟨by omega,by omega⟩,_,_,hrd.1,_,hrd.2,_,_,_,_,hlk,?_⟩;refine hy j hlt _ H3 _ h3 (fun H4 h4=>⟨true,rfl,fun hf=>(by cases hf),fun _=>?_⟩) fun H4 h4=>⟨false,rfl,fun _=>?_,fun hf=>(by cases hf)⟩
  ·rw [w64 (by omega) (by omega)];exact⟨⟨j+1,rfl,hlt,h4⟩,by simp only [z5a]; omega⟩
  ·exact kx _ (h4.o [0,3] 4)
 ·obtain rfl:j=(ksOf s).length:=by have:=z54 hc; omega
  exact k _ (h3.o [0,3] 4)
theorem qzz {b c0 c1 c2 c3:Nat}{x:Fl}{now least:Int}{found:Bool}(hl:1≤s.lag∧s.lag≤1099511627776)(hn:isT now)
  (h:SatL H (cellsA b (encF x) 80::markC mb rb s::cellsA c0 [I64 now] 2::cellsA c1 [.pointer (some ⟨mb,0,none⟩)] 111::cellsA c2 [.bool found] 4::cellsA c3 [I64 least] 2::F))
  (k:∀H',SatL H' (cellsA b (encF (updF (now - s.lag) x)) 80::markC mb rb s::cellsA c0 [I64 now] 2::cellsA c1 [.pointer (some ⟨mb,0,none⟩)] 111::cellsA c2 [.bool (qlr (now - s.lag) (least,found) x).2] 4::cellsA c3 [I64 (qlr (now - s.lag) (least,found) x).1] 2::F)→K (I64 0) H') :
  CF 197 #[.pointer (some ⟨b,0,none⟩),.pointer (some ⟨c0,0,none⟩),.pointer (some ⟨c1,0,none⟩),.pointer (some ⟨c2,0,none⟩),.pointer (some ⟨c3,0,none⟩)] H K:=by
 refine q67.call ?_;unfold q67.code;refine⟨_,h.rd 0 rfl _,_,h.rd 2 rfl _,_,h.rd 3 rfl _,q02 ⟨_,h.rd 1 rfl _,?_⟩⟩;rw [w64 (x:=now - s.lag) (by omega) (by omega)];refine h.st 0 rfl rfl fun _ h=>?_
 refine⟨_,h.rd 0 rfl _,fun _=>trivial,_,fun _=>h.rd 0 rfl _,?_⟩
 refine h.st 0 rfl rfl fun _ h=>?_
 refine⟨_,h.rd 0 rfl _,fun _=>trivial,_,fun _=>h.rd 0 rfl _,_,fun _=>h.rd 4 rfl _,fun _=>trivial,_,fun _=>h.rd 0 rfl _,_,fun _=>h.rd 5 rfl _,?_⟩
 intro Jn hJ;refine⟨fun hc=>?_,fun hc=>?_⟩
 ·have e:qlr (now - s.lag) (least,found) x=(x.t,true):=if_pos (by
   simp only [z56,z5h,z5k,z58,z52] at hc;exact⟨hc.1.1,hc.1.2,hc.2⟩)
  rw [e] at k;refine⟨_,h.rd 0 rfl _,?_⟩;refine h.st 5 rfl rfl fun _ h=>h.st 4 rfl rfl fun _ h=>hJ _ ?_
  exact k _ h
 ·have e:qlr (now - s.lag) (least,found) x=(least,found):=if_neg (fun hh=>by
   rw [← Bool.not_eq_true] at hc;apply hc;simp only [z56,z5h,z5k,z58,z52];exact⟨⟨hh.1,hh.2.1⟩,hh.2.2⟩)
  rw [e] at k;exact hJ _ (k _ h)
def tkA (mb rb b b1 lb fb l:Nat)(R:Loop)(s:MS)(now:Int)(j:Nat):Assn:=
 star [markC mb rb { s with now:=now },mapF rb (mjT (now - s.lag) s.m ((ksOf s).take j)),cellsA b [.pointer (some ⟨mb,0,none⟩)] 111,cellsA b1 [I64 now] 2,
  cellsA lb [I64 (qdd (now - s.lag) s.m ((ksOf s).take j) (now - s.lag,false)).1] 2,cellsA fb [.bool (qdd (now - s.lag) s.m ((ksOf s).take j) (now - s.lag,false)).2] 4,pt l (.loop R)]
theorem z00 {b b1 lb fb j:Nat}{now:Int}{H4 H1:Heap}{R:Loop}{G:List Assn}{K1:Value→Heap→Prop}(ok:MOk s)(hn:isT now)(hj:j < (ksOf s).length)
  (h:SatL H1 (tkA mb rb b b1 lb fb (H4.size+1) R s now j::G)) (kt:∀H2,SatL H2 (tkA mb rb b b1 lb fb (H4.size+1) R s now (j+1)::G)→K1 (.bool true) H2) :
  q3y.y1 b b1 lb 0 fb 0 H4 R [I64 (ksOf s)[j],aggF (atF s (ksOf s)[j])] H1 K1:=by
 have h:=h.open;unfold q3y.y1;refine⟨_,_,_,_,_,rfl,h.getO 6 rfl,h.getO 6 rfl,h.stl 6 rfl fun H6 h=>⟨_,h.rd 2 rfl _,?_⟩⟩
 obtain⟨x,hx⟩:∃x,q08 (ksOf s)[j] s.m=some x:=by
  cases hm:q08 (ksOf s)[j] s.m with
  | some x=>exact⟨x,rfl⟩
  | none=>exact absurd (qrn.1 (z5e hj)) (q0g.1 hm)
 have hni:=qzy (quw ok.nd) hj;have hlk:q08 (ksOf s)[j] (mjT (now - s.lag) s.m ((ksOf s).take j))=some x:=by rw [mjT_look,hx]; simp [hni]
 have et:(ksOf s).take (j+1)=(ksOf s).take j++[(ksOf s)[j]]:=z6d hj;refine qea (s:={ s with now:=now,m:=mjT (now - s.lag) s.m ((ksOf s).take j) }) (f:=197) (by kernel_rfl) h (fun hno=>by rw [hlk] at hno; cases hno) fun x' hx' bb H7 h=>?_
 obtain rfl:x=x':=by rw [hlk] at hx'; exact Option.some.inj hx'
 refine qzz (s:={ s with now:=now }) ⟨ok.l1,ok.l2⟩ hn (h.o [0,1,4,3,6,5,2,7] 8) fun H8 h=>.inr ⟨rfl,updF (now - s.lag) x,_,h.o [0,1,6,2,3,4,5,7] 8,fun H9 h=>⟨_,rfl,?_⟩⟩
 refine⟨h.getO 6 rfl,kt _ ?_⟩;have h:=h.setO 6 rfl (.loop R);unfold tkA;refine SatL.shut [_,_,_,_,_,_,_] ?_;have em:mapF rb (mset (ksOf s)[j] (updF (now - s.lag) x) (mjT (now - s.lag) s.m ((ksOf s).take j)))=mapF rb (mjT (now - s.lag) s.m ((ksOf s).take j++[(ksOf s)[j]])):=q82 (mjT_step ok.nd hx);rw [et,qhl,← em];have ef:qdd (now - s.lag) s.m [(ksOf s)[j]] (qdd (now - s.lag) s.m ((ksOf s).take j) (now - s.lag,false))=qlr (now - s.lag) (qdd (now - s.lag) s.m ((ksOf s).take j) (now - s.lag,false)) x:=by
  show qlr _ _ ((q08 _ s.m).getD Fl.z)=_;rw [hx]; rfl
 rw [ef];exact h.o [0,1,3,2,5,4,6] 7
theorem Tick_spec {now:Int}(ok:MOk s)(h:SatL H (markC mb rb s::mapF rb s.m::F))
  (k:∀H',SatL H' (markC mb rb (s.tick now).1::mapF rb (s.tick now).1.m::F)→K (I64 (s.tick now).2) H') :
  CF 149 #[.pointer (some ⟨mb,0,none⟩),I64 now] H K:=by
 refine q3y.call ?_;unfold q3y.code;refine h.al fun b _ h=>h.al fun b1 _ h=>?_
 refine⟨_,h.rd 0 rfl _,_,isTime_spec,_,fun _=>h.rd 0 rfl _,_,fun _=>h.rd 1 rfl _,fun _=>trivial,_,fun _=>h.rd 2 rfl _,fun hc=>?_,fun hc=>?_⟩
 ·have e:s.tick now=(s,11):=if_pos (by simp only [z5h,z5k,z58,z52] at hc; exact hc);rw [e] at k;exact k _ h.tl.tl
 have hc':¬(¬isT now∨now < s.now):=by
  simp only [z5g,z67,z58,z52] at hc;exact fun hh=>hh.elim (fun h1=>h1 hc.1) hc.2
 have hn:isT now:=by
  rcases Classical.em (isT now) with h|h
  ·exact h
  ·exact absurd (Or.inl h) hc'
 have e:s.tick now=({ s with now:=now,value:=maxI s.value (qdd (now - s.lag) s.m (q7n (q03 s.m)) (now - s.lag,false)).1,m:=s.m.map fun p=>(p.1,updF (now - s.lag) p.2) },0):=if_neg hc'
 rw [e] at k;have hl1:=ok.l1;have hl2:=ok.l2;refine⟨_,h.rd 1 rfl _,_,h.rd 0 rfl _,q02 (h.st 2 rfl rfl fun _ h=>?_)⟩
 intro Jn hJ;have fin:∀lb fb H',SatL H' (cellsA b1 [I64 now] 2::cellsA b [.pointer (some ⟨mb,0,none⟩)] 111::cellsA lb [I64 (now - s.lag)] 2::cellsA fb [.bool false] 4::markC mb rb { s with now:=now }::mapF rb s.m::F)→Jn lb 0 fb 0 H':=by
  intro lb fb H' h;refine hJ _ _ _ _ _ ?_;unfold q3y.r2;refine⟨_,h.rd 1 rfl _,All_spec h fun c0 H4 h=>⟨_,_,rfl,rfl,fun R hR1 hR2 hy=>?_⟩⟩
  have h:=h.rng R;have h:SatL _ (markC mb rb { s with now:=now }::mapF rb s.m::star [cellsA b [.pointer (some ⟨mb,0,none⟩)] 111,cellsA b1 [I64 now] 2,cellsA lb [I64 (now - s.lag)] 2,cellsA fb [.bool false] 4,pt (H4.size+1) (.loop R)]::cellsA c0 [.pointer (some ⟨mb,0,none⟩)] 111::pt H4.size (.deferred (some []))::F):=
   (SatL.shut [_,_,_,_,_] (h.o [4,3,5,6,0,7,8,2,1] 9)).o [1,2,0] 3
  refine All1_spec (s:={ s with now:=now }) ⟨ok.l1,ok.l2,hn,ok.v1,ok.v2,ok.nd,ok.rows⟩ (fun j=>tkA mb rb b b1 lb fb (H4.size+1) R s now j) (pur False) _ h (fun G H' h=>?_)
   (fun j hj G H1 K1 h1 kt _=>hy _ _ _ (z00 ok hn hj h1 kt)) (fun H5 h5=>?_) (fun H5 h5=>(SatL.consP h5).1.elim)
  ·unfold tkA;rw [List.take_zero,mjT_nil];refine SatL.shut [_,_,_,_,_,_,_] ?_;exact ((h.o [2,0,1] 3).open).o [5,6,0,1,2,3,4] 7
  ·have h:=SatL.open (A:=[_,_,_,_,_,_,_]) h5;have e1:(ksOf { s with now:=now }).length=(ksOf s).length:=rfl;rw [e1,z5o (z5c _),mjT_all (fun x hx=>qrn.2 hx)] at h
   refine⟨.ready,none,by decide,by rw [q7p hR1 hR2]; exact h.getO 6 rfl,h.stl 6 rfl fun H9 h=>⟨rfl,?_⟩⟩
   refine⟨_,h.rd 2 rfl _,_,h.rd 2 rfl _,q02 ⟨_,h.rd 0 rfl _,_,h.rd 4 rfl _,q02 (h.st 0 rfl rfl fun _ h=>⟨h.getO 8 rfl,?_⟩)⟩⟩
   have h:=h.setO 8 rfl (.deferred none);exact k _ (h.o [0,1] 9)
 refine⟨_,h.rd 0 rfl _,_,h.rd 1 rfl _,q02 ⟨_,h.rd 2 rfl _,?_⟩⟩;rw [w64 (x:=now - s.lag) (by omega) (by omega)];refine⟨h.al fun lb _ h=>⟨h.rd 3 rfl _,h.rd 2 rfl _,h.rd 1 rfl _,h.al fun fb _ h=>⟨h.rd 4 rfl _,h.rd 3 rfl _,h.rd 2 rfl _,h.st 1 rfl rfl fun _ h=>h.st 0 rfl rfl fun _ h=>?_⟩⟩,
  h.al fun fb _ h=>⟨h.rd 3 rfl _,h.rd 2 rfl _,h.rd 1 rfl _,h.al fun lb _ h=>⟨h.rd 4 rfl _,h.rd 3 rfl _,h.rd 2 rfl _,h.st 0 rfl rfl fun _ h=>h.st 1 rfl rfl fun _ h=>?_⟩⟩⟩
 ·exact fin lb fb _ (h.o [2,3,1,0] 4)
 ·exact fin lb fb _ (h.o [2,3,0,1] 4)
end
open Go.Nm
section
variable {mb rb sb:Nat} {s:MS} {F:List Assn} {H:Heap} {K:Value→Heap→Prop}
theorem Set_spec {ag:FM}{ab:Nat}{now value:Int}(hn:isT now)(hl:1≤s.lag∧s.lag≤1099511627776)(hv:now - s.lag≤value∧value≤now)(hr:∀p∈ag,isAg p.1∧isT p.2.t)
  (h:SatL H (markC mb rb s::mapF rb s.m::mapF ab ag::F))
  (k:∀rb' H',SatL H' (markC mb rb' ⟨s.lag,now,value,ag⟩::mapF rb' ag::mapF ab ag::F)→K (I64 0) H') :
  CF 46 #[.pointer (some ⟨mb,0,none⟩),I64 now,I64 value,.map (some ab)] H K:=by
 refine q7q.call ?_;unfold q7q.code;have e1:i64.wrap (now - s.lag)=now - s.lag:=w64 (by omega) (by omega);refine⟨_,isTime_spec,fun _=>trivial,_,fun _=>h.rd 0 rfl _,?_⟩
 rw [e1,z5m hn,z6m (show ¬value < now - s.lag by omega),z6m (show ¬now < value by omega)];refine⟨fun hf=>(by cases hf),fun _=>?_⟩
 refine h.alm I64 aggF fun b _ h=>?_
 refine h.rg_new mt45 3 rfl fun it H1 h=>⟨it,rfl,?_⟩
 refine⟨fun H'=>∃dn:FM,SatL H' (mapF b dn::markC mb rb s::mapF rb s.m::rngA I64 aggF it ab ag dn::F),fun H'=>ag.length - qyd H' it,⟨[],h⟩,?_⟩
 rintro H2 ⟨dn,h⟩;unfold q7q.l1;obtain⟨hc0,hle⟩:=h.rg_count 3 rfl;refine h.rg_next 3 rfl (fun hp=>Or.inl ⟨rfl,fun hf=>(by cases hf),fun _=>?_⟩) fun p hpm hpn H3 h=>Or.inr ⟨_,_,rfl,fun _=>?_,fun hf=>(by cases hf)⟩
 ·have h:=h.rg_map 3 rfl;refine h.st 1 rfl rfl fun _ h=>h.st 1 rfl rfl fun _ h=>h.st 1 rfl rfl fun _ h=>k b _ ?_
  have em:mapF b dn=mapF b ag:=q82 hp;have h:=h.o [1,0,3] 4;simp only [ordT,nth,qy4,put,em] at h;exact h
 ·have hent:=SatL.rg_entry (P:=Tryz.prog) h 3 rfl;obtain⟨hc1,hle1⟩:=h.rg_count 3 rfl;rw [z51,z6x] at hc1 hle1;refine⟨_,_,_,_,_,hent,?_⟩;refine h.al fun b2 _ h=>?_
  refine h.st 0 rfl rfl fun _ h=>?_
  have hq:=hr p hpm;refine⟨_,qhm,_,fun _=>h.rd 0 rfl _,_,fun _=>isTime_spec,?_⟩
  rw [z5m hq.1,z5m hq.2];refine⟨fun hf=>(by cases hf),fun _=>⟨_,_,_,_,h.rds 0 rfl rfl,?_⟩⟩
  refine h.mp_update (α:=Fl) (v:=p.2) mt45 ko2 1 rfl fun H4 h=>⟨⟨dn++[p],?_⟩,?_⟩
  ·have em:mapF b (mset p.1 p.2 dn)=mapF b (dn++[p]):=q82 (by
    unfold mset;rw [q17 (q0g.2 hpn)];exact (List.perm_append_singleton p dn).symm)
   have h:=h.tl;simp only [put,em] at h;exact h
  ·obtain⟨hc4,_⟩:=h.rg_count 4 rfl;rw [z51,z6x] at hc4;simp only;omega
end
end Go.Proofs.YtfmkddccnjidmaaGreatDoor.Ma
namespace Go.Nm
theorem qux {P:Program}{t e:TypeId}{n:Nat}{f:Nat→Int}{i:Int}(ht:P.underlying t=some (.array n e))(hz:∀w,(Go.sizeOf e).run P w=.ok 1 w)(ha:∀w,(Go.isAgg e).run P w=.ok false w)(h0:0≤i)(h1:i < n) :
  q5z P (Instr.index t (.agg ⟨vecL .u64 f n 0⟩) (I64 i)) (.int .u64 (f i.toNat)):=by
 intro w;have hg:=qfh .u64 f n 0 i.toNat (by omega);rw [q1c] at hg;simp only [Instr.index,asIntOf,Sem.run_bind,Sem.run_pure,Result.andThen_ok,q06 ht];rw [if_pos ⟨h0,h1⟩];simp only [Sem.run_bind,hz,Result.andThen_ok,z6w,part,ha];simp [hg]
def qc1:Nat→RS→List (Nat × Nat) × RS
 | 0,s=>([],s)
 | n+1,s=>(((uRes s).1,(uRes (uRes s).2).1)::(qc1 n (uRes (uRes s).2).2).1,(qc1 n (uRes (uRes s).2).2).2)
def qro (prev:Option Nat)(p:Nat):Bool:=match prev with|some x=>decide (p≤x)|none=>false
def qks:List (Nat × Nat)→Option Nat→(Nat→Int)→Option (Nat→Int)
 | [],_,h=>some h
 | (p,q)::r,prev,h=>if qro prev p=true∨65≤p then none else if q=0∨9223372036854775807 < q then none else qks r (some p) (updN h p q)
def quy (ps:List (Nat × Nat))(q:Nat):Option Nat:=if q=0 then none else some (ps.getD (q - 1) (0,0)).1
def qh0 (n0 n1 n2:Nat)(lo hi:Int)(t:List Int)(ps:List (Nat × Nat)):Cl × Int:=
 if 9223372036854775807 < n0∨9223372036854775807 < n1∨9223372036854775807 < n2 then (Cl.z,10) else
 if t.length≠16 then (Cl.z,10) else
 match qks ps none Z0 with
 | none=>(Cl.z,10)
 | some h=>if q43 ⟨n0,q7c t,lo,hi,n1,n2,h⟩ then (⟨n0,q7c t,lo,hi,n1,n2,h⟩,0) else (Cl.z,10)
def q8q (bs:List Int):Cl × Int:=
 let a:=uRes ⟨0,bs⟩
 let b:=uRes a.2
 let c:=uRes b.2
 let lo:=iRes c.2
 let hi:=iRes lo.2
 let t:=tRes 16 hi.2
 let n:=cRes 65 t.2
 let p:=qc1 n.1.toNat n.2
 if (q2f p.2).e≠0 then (Cl.z,(q2f p.2).e) else qh0 a.1 b.1 c.1 lo.1 hi.1 t.1 p.1
theorem qd5 {s:RS}(h:q04 s.bs):q04 (iRes s).2.bs:=q10 h
theorem qx2 (s:RS):(iRes s).2.bs.length≤s.bs.length:=q5o s
theorem z3c:∀{l:List (Nat × Nat)} {prev:Option Nat} {h g:Nat→Int},wfH h→qks l prev h=some g→wfH g
 | [],_,h,g,hw,e=>by cases e; exact hw
 | (p,q)::r,prev,h,g,hw,e=>by
  unfold qks at e
  split at e
  ·cases e
  ·split at e
   ·cases e
   ·rename_i h1 h2;refine z3c (l:=r) ?_ e;intro i hi;unfold updN
    split
    ·unfold wf64; omega
    ·exact hw i hi
theorem z01 {n0 n1 n2:Nat}{lo hi:Int}{t:List Int}{ps:List (Nat × Nat)}(hb:q04 t)(h1:wf64 lo)(h2:wf64 hi):WC (qh0 n0 n1 n2 lo hi t ps).1:=by
 unfold qh0
 split
 ·exact WC.z
 ·split
  ·exact WC.z
  ·split
   ·exact WC.z
   ·rename_i hn _ g hg
    split
    ·exact⟨by unfold wf64; dsimp only; omega,qrh t hb,h1,h2,by unfold wf64; dsimp only; omega,by unfold wf64; dsimp only; omega,z3c z2g hg⟩
    ·exact WC.z
theorem z3d {bs:List Int}(hb:q04 bs):WC (q8q bs).1:=by
 unfold q8q;dsimp only
 split
 ·exact WC.z
 ·exact z01 (q39 (qd5 (qd5 (q10 (q10 (q10 (s:=⟨0,bs⟩) hb)))))).2 (q9l _) (q9l _)
theorem qrp {bs:List Int}(h:(q8q bs).2=0):q43 (q8q bs).1=true:=by
 unfold q8q at h ⊢;dsimp only at h ⊢
 split
 ·rename_i he;rw [if_pos he] at h;exact absurd h he
 ·rename_i he;rw [if_neg he] at h;unfold qh0 at h ⊢
  split
  ·rename_i h1; rw [if_pos h1] at h; cases h
  ·rename_i h1;rw [if_neg h1] at h
   split
   ·rename_i h2; rw [if_pos h2] at h; cases h
   ·rename_i h2;rw [if_neg h2] at h
    split
    ·rename_i h3; rw [h3] at h; cases h
    ·rename_i g h3;rw [h3] at h;dsimp only at h
     split
     ·assumption
     ·rename_i h4; rw [if_neg h4] at h; cases h
theorem quz {s:RS}{m:Int}(h:q04 s.bs)(hm:0≤m):0≤(cRes m s).1∧(cRes m s).1≤m:=by
 unfold cRes
 split
 ·exact⟨z5z _,hm⟩
 ·split
  ·split
   ·exact⟨z5z _,hm⟩
   ·simp only [] at *; omega
  ·exact⟨z5z _,hm⟩
  ·exact⟨z5z _,hm⟩
end Go.Nm
namespace Go.Proofs.YtfmkddccnjidmaaGreatDoor
open Go.Nm
theorem sl279:SlT Tryz.prog 279 280 2 16:=qbf (by kernel_rfl)
abbrev encP (p:Nat × Nat):List Value:=[U64 p.1,U64 p.2]
theorem qio (p:Nat × Nat):(encP p).length=2:=rfl
def f3 (a b c:Nat):Nat→Int:=fun i=>match i with|0=>(a:Int)|1=>(b:Int)|_=>(c:Int)
section
variable {F L:List Assn} {H:Heap} {K:Value→Heap→Prop}
theorem idx278 {a b c:Nat}{i:Int}(h0:0≤i)(h1:i < 3):q5z Tryz.prog (Instr.index 278 (.agg #[U64 a,U64 b,U64 c]) (I64 i)) (.int .u64 (f3 a b c i.toNat)):=
 qux (f:=f3 a b c) (n:=3) Tryz.underlying278 Tryz.sizeOf56 Tryz.isAgg56 h0 (by omega)
set_option maxHeartbeats 2000000 in
theorem z02 {a:Option Addr}{c n:Nat}{bs:List Int}(hn:bs.length=n)(hb:q04 bs)(h:SatL H F)(ha:∀H,SatL H F→rdS H a (bs.map U8))(hl:n≤1000000000)
  (k:∀H',SatL H' F→K (.tuple #[aggC (q8q bs).1,I64 (q8q bs).2]) H'):CF 113 #[.slice a n c] H K:=by
 subst hn;refine q37.call ?_;unfold q37.code;unfold q8q at k;dsimp only at k;refine h.al fun b _ h=>?_
 refine qjz (bs:=bs) h (fun H h=>ha H h.tl) (by omega) fun rb H1 h=>⟨_,rfl,?_⟩
 have hB0:q04 (⟨0,bs⟩:RS).bs:=hb;have hL0:(⟨0,bs⟩:RS).bs.length≤1000000000:=hl;refine q8k h hB0 (by omega) fun H2 h=>⟨_,rfl,?_⟩
 have hB1:=q10 hB0;have hL1:=q5o (⟨0,bs⟩:RS);generalize uRes ⟨0,bs⟩=r1 at *;refine q8k h hB1 (by omega) fun H3 h=>⟨_,rfl,?_⟩
 have hB2:=q10 hB1;have hL2:=q5o r1.2;generalize uRes r1.2=r2 at *;refine q8k h hB2 (by omega) fun H4 h=>⟨_,rfl,?_⟩
 have hB3:=q10 hB2;have hL3:=q5o r2.2;generalize uRes r2.2=r3 at *;refine h.al fun b1 _ h=>?_
 refine h.sta 0 rfl rfl fun H6 h=>?_
 have h:=h.o [1,0] 2;refine qoz h hB3 (by omega) fun H7 h=>⟨_,rfl,?_⟩
 have hB4:=qd5 hB3;have hL4:=qx2 r3.2;have hw4:wf64 (iRes r3.2).1:=q9l _;generalize iRes r3.2=r4 at *;refine qoz h hB4 (by omega) fun H8 h=>⟨_,rfl,?_⟩
 have hB5:=qd5 hB4;have hL5:=qx2 r4.2;have hw5:wf64 (iRes r4.2).1:=q9l _;generalize iRes r4.2=r5 at *;refine q77 (most:=16) h hB5 (by omega) (by decide) fun H9 h=>⟨_,rfl,?_⟩
 have hB6:=(q39 (m:=16) hB5);have hL6:=(q5p r5.2 16);generalize tRes 16 r5.2=r6 at *;refine qgl (most:=65) h hB6.1 (by omega) (by decide) fun H10 h=>⟨_,rfl,?_⟩
 have hB7:=q9n (m:=65) hB6.1;have hL7:=qfm r6.2 65;have hN7:=quz (m:=65) hB6.1 (by decide);generalize cRes 65 r6.2=r7 at *;refine⟨fun pa pn pc i H'=>∃(j:Nat) (ps:List (Nat × Nat)) (s:RS),i=j∧(j:Int)≤r7.1∧pn=ps.length∧ps.length=j∧q04 s.bs∧s.bs.length≤1000000000∧
   qc1 r7.1.toNat r7.2=(ps++(qc1 (r7.1.toNat - j) s).1,(qc1 (r7.1.toNat - j) s).2)∧
   SatL H' (crdA rb s::slA 280 2 pa ps.length pc (flat encP ps)::cellsA b1 [U64 r1.1,U64 r2.1,U64 r3.1] 278::cellsA b (encC Cl.z) 62::F),
  fun _ _ _ i _=>(r7.1 - i).toNat,⟨0,[],r7.2,rfl,hN7.1,rfl,rfl,hB7,by omega,rfl,?_⟩,?_⟩
 ·exact ((h.sl_nil 280 2).o [1,0] 2)
 rintro pa pn pc i H11 ⟨j,ps,s,rfl,hj,rfl,hpj,hsb,hsl,e,h⟩;unfold q37.l3;refine⟨fun hc=>?_,fun hc=>?_⟩
 ·have hlt:=z4z hc;have hu1:=qu8 hsb;have hu2:=qu8 (q10 hsb);refine q8k h hsb (by omega) fun H12 h=>⟨_,rfl,?_⟩
  have hl1:=q5o s;refine q8k h (q10 hsb) (by omega) fun H13 h=>⟨_,rfl,?_⟩
  have hl2:=q5o (uRes s).2;rintro b2 _ rfl rfl;refine h.append1 (ws:=encP ((uRes s).1,(uRes (uRes s).2).1)) sl279 1 rfl rfl rfl (by omega) (by omega) fun a' c' H15 h=>⟨_,_,_,rfl,?_⟩
  rw [show i64.wrap ((j:Int)+1)=((j+1:Nat):Int) by rw [w64 (by omega) (by omega)]; omega];refine⟨⟨j+1,ps++[((uRes s).1,(uRes (uRes s).2).1)],(uRes (uRes s).2).2,rfl,by omega,by simp,by simp [hpj],q10 (q10 hsb),by omega,?_,?_⟩,?_⟩
  ·rw [e,show r7.1.toNat - j=(r7.1.toNat - (j+1))+1 by omega,qc1,z5d]; rfl
  ·rw [q0i,q8y,z51];exact h
  ·show (r7.1 - ((j+1:Nat):Int)).toNat < (r7.1 - (j:Int)).toNat
   omega
 ·have hge:=z54 hc;have hjr:r7.1.toNat - j=0:=by omega
  rw [hjr,qc1,z61] at e;rw [e] at k;dsimp only at k;refine qp0 h fun H16 h=>⟨_,rfl,fun he=>?_,fun he=>?_⟩
  ·rw [if_pos (by simpa using he)] at k;refine h.sta 3 rfl rfl fun H17 h=>⟨_,_,_,_,_,_,_,_,h.rda 3 rfl,k _ h.tl.tl.tl.tl⟩
  rw [if_neg (by simpa using he)] at k;unfold qh0 at k;refine⟨_,_,_,h.rda 2 rfl,?_⟩;have h:=h.tl;refine⟨fun i H'=>∃t:Nat,i=t∧t≤3∧(∀q,q < t→f3 r1.1 r2.1 r3.1 q≤9223372036854775807)∧SatL H' (slA 280 2 pa ps.length pc (flat encP ps)::cellsA b1 [U64 r1.1,U64 r2.1,U64 r3.1] 278::cellsA b (encC Cl.z) 62::F),fun i _=>3 - i.toNat,⟨0,rfl,by omega,fun _ h=>by omega,h⟩,?_⟩
  rintro i H18 ⟨t,rfl,ht,hq,h⟩;unfold q37.l2;refine⟨fun hc2=>?_,fun hc2=>?_⟩
  ·have hlt:t < 3:=by have:=z4z hc2; omega
   refine⟨_,idx278 (by omega) (by omega),?_⟩;rw [z5a];refine⟨fun hg=>?_,fun hg=>?_⟩
   ·have hg:=z4z hg;have:9223372036854775807 < r1.1∨9223372036854775807 < r2.1∨9223372036854775807 < r3.1:=by
     unfold f3 at hg
     split at hg <;> omega
    rw [if_pos this] at k;refine h.sta 2 rfl rfl fun H17 h=>⟨_,_,_,_,_,_,_,_,h.rda 2 rfl,k _ h.tl.tl.tl⟩
   ·have hg:=z54 hg;rw [show i64.wrap ((t:Int)+1)=((t+1:Nat):Int) by rw [w64 (by omega) (by omega)]; omega];refine⟨⟨t+1,rfl,hlt,fun q hq2=>?_,h⟩,by simp only [z5a]; omega⟩
    rcases z5r q t with h1|h1
    ·exact hq q h1
    ·obtain rfl:q=t:=by omega
     omega
  ·have:t=3:=by have:=z54 hc2; omega
   subst this;have g0:(r1.1:Int)≤9223372036854775807:=hq 0 (by decide);have g1:(r2.1:Int)≤9223372036854775807:=hq 1 (by decide);have g2:(r3.1:Int)≤9223372036854775807:=hq 2 (by decide);rw [if_neg (by omega)] at k;refine⟨by decide,_,h.rd 1 rfl _,by decide,_,h.rd 1 rfl _,by decide,_,h.rd 1 rfl _,?_⟩;rw [w64 (x:=(r1.1:Int)) (by omega) g0,w64 (x:=(r2.1:Int)) (by omega) g1,w64 (x:=(r3.1:Int)) (by omega) g2];refine h.al fun b3 _ h=>?_
   refine h.sta 0 rfl (by rw [z51,q91,z51,q91]; rfl) fun H21 h=>?_
   refine h.st 0 rfl rfl fun H22 h=>?_
   refine h.st 0 rfl rfl fun H23 h=>?_
   have h:SatL H23 (cellsA b3 (encC ⟨r1.1,0,r4.1,r5.1,r2.1,r3.1,Z0⟩) 62::slA 280 2 pa ps.length pc (flat encP ps)::cellsA b1 [U64 r1.1,U64 r2.1,U64 r3.1] 278::cellsA b (encC Cl.z) 62::F):=h;refine qhf hB6.2 h fun a' c' H24 h=>⟨_,_,_,rfl,?_⟩
   refine qzg (bs:=r6.1) rfl hB6.2 h (fun H h=>h.sl_rd 0 rfl) (by omega) (fun h16 H25 h=>⟨_,_,_,rfl,?_⟩) (fun h16 H25 h=>⟨_,_,_,rfl,?_⟩)
   ·rw [if_pos h16] at k;refine h.al fun b4 _ h=>?_
    refine h.sta 0 rfl rfl fun H27 h=>⟨fun _=>?_,fun hf=>by cases hf⟩
    refine h.sta 5 rfl rfl fun H17 h=>⟨_,_,_,_,_,_,_,_,h.rda 5 rfl,k _ h.tl.tl.tl.tl.tl.tl⟩
   ·rw [if_neg (fun hh=>hh h16)] at k
    refine h.al fun b4 _ h=>?_
    refine h.sta 0 rfl rfl fun H27 h=>⟨fun hf=>(by cases hf),fun _=>?_⟩
    refine⟨_,_,h.rda 0 rfl,?_⟩;refine h.st 2 rfl rfl fun H29 h=>?_
    have h:SatL H29 (cellsA b4 [I64 (whi (q7c r6.1)),.int .u64 (wlo (q7c r6.1))] 58::slA 5 1 a' r6.1.length c' (r6.1.map U8)::cellsA b3 (encC ⟨r1.1,q7c r6.1,r4.1,r5.1,r2.1,r3.1,Z0⟩) 62::slA 280 2 pa ps.length pc (flat encP ps)::cellsA b1 [U64 r1.1,U64 r2.1,U64 r3.1] 278::cellsA b (encC Cl.z) 62::F):=h;have h:=h.o [2,3,5] 6;refine⟨fun i H'=>∃(q:Nat) (g:Nat→Int),i=q∧q≤ps.length∧wfH g∧qks ps none Z0=qks (ps.drop q) (quy ps q) g∧SatL H' (cellsA b3 (encC ⟨r1.1,q7c r6.1,r4.1,r5.1,r2.1,r3.1,g⟩) 62::slA 280 2 pa ps.length pc (flat encP ps)::cellsA b (encC Cl.z) 62::F),fun i _=>ps.length - i.toNat,
     ⟨0,Z0,rfl,z5s _,z2g,rfl,h⟩,?_⟩
    rintro i H30 ⟨q,g,rfl,hq2,hg,e2,h⟩;unfold q37.l1;refine⟨fun hc3=>?_,fun hc3=>?_⟩
    ·have hlt:q < ps.length:=by have:=z4z hc3; omega
     have hr:=h.sl_rd 1 rfl;rw [z6h hlt,qks] at e2;refine⟨⟨by omega,by omega⟩,_,_,hr.some qio (by omega) hlt,_,_,hr.els qio hlt,?_⟩;refine h.al fun b6 _ h=>?_
     refine h.sta 0 rfl rfl fun H32 h=>?_
     have hr:=h.sl_rd 2 rfl;have hprev:((decide (0 < (q:Int)))=true)→q00 H32 (adrB pa) (adrO pa+(i64.wrap ((q:Int) - 1)).toNat*2+0)=some (.int .u64 ((ps.getD (q - 1) (0,0)).1:Nat)):=by
      intro h0;have h0:=z4z h0;rw [w64 (x:=(q:Int) - 1) (by omega) (by omega),show ((q:Int) - 1).toNat=q - 1 by omega];have hq1:q - 1 < ps.length:=by omega
      have:=(hr.els qio hq1).1;rw [z82,List.getElem?_eq_getElem hq1];exact this
     refine⟨fun _=>by decide,_,fun _=>h.rd 0 rfl _,fun h0=>by have h0:=z4z h0; rw [w64 (x:=(q:Int) - 1) (by omega) (by omega)]; omega,_,_,fun _=>hr.some qio (by omega) hlt,fun _=>by decide,_,hprev,fun _=>by decide,_,fun _=>h.rd 0 rfl _,?_⟩
     have hst:((decide (0 < (q:Int)) && decide (((ps[q].1:Nat):Int)≤(((ps.getD (q - 1) (0,0)).1:Nat):Int))) || decide (65≤((ps[q].1:Nat):Int)))=(qro (quy ps q) ps[q].1 || decide (65≤ps[q].1)):=by
      unfold quy
      rcases z7x q with h0|h0
      ·subst h0;rw [if_pos rfl];simp [qro];omega
      ·rw [if_neg (by omega)];rw [z65];simp only [qro,z5h,z56,z52,z7a];omega
     rw [hst];have hbad:(qro (quy ps q) ps[q].1 || decide (65≤ps[q].1))=true↔(qro (quy ps q) ps[q].1=true∨65≤ps[q].1):=by rw [z5h,z52]
     refine⟨fun hc4=>?_,fun hc4=>?_⟩
     ·rw [if_pos (hbad.1 hc4)] at e2;rw [e2] at k;refine h.sta 3 rfl rfl fun H17 h=>⟨_,_,_,_,_,_,_,_,h.rda 3 rfl,k _ h.tl.tl.tl.tl⟩
     have hnb:¬(qro (quy ps q) ps[q].1=true∨65≤ps[q].1):=fun hh=>by rw [hbad.2 hh] at hc4; cases hc4
     rw [if_neg hnb] at e2;refine⟨by decide,_,h.rd 0 rfl _,fun _=>by decide,_,fun _=>h.rd 0 rfl _,fun hc5=>?_,fun hc5=>?_⟩
     ·have:ps[q].2=0∨9223372036854775807 < ps[q].2:=by
       simp only [z5h,z52] at hc5;omega
      rw [if_pos this] at e2;rw [e2] at k;refine h.sta 3 rfl rfl fun H17 h=>⟨_,_,_,_,_,_,_,_,h.rda 3 rfl,k _ h.tl.tl.tl.tl⟩
     have hnz:¬(ps[q].2=0∨9223372036854775807 < ps[q].2):=by
      simp only [z5g,z58] at hc5;omega
     rw [if_neg hnz] at e2;have hp65:ps[q].1 < 65:=by omega
     refine⟨by decide,_,h.rd 0 rfl _,by decide,_,h.rd 0 rfl _,⟨by omega,by omega⟩,?_⟩;rw [w64 (x:=((ps[q].2:Nat):Int)) (by omega) (by omega),z5a];have hset:q2h (encC ⟨r1.1,q7c r6.1,r4.1,r5.1,r2.1,r3.1,g⟩) (7+ps[q].1) [I64 (ps[q].2:Nat)]=encC ⟨r1.1,q7c r6.1,r4.1,r5.1,r2.1,r3.1,updN g ps[q].1 (ps[q].2:Nat)⟩:=by
      refine (q2l [I64 (ps[q].2:Nat)] [_,_,_,_,_,_,_] (vecL .i64 g 65 0) ps[q].1).trans ?_;have e3:q2h (vecL .i64 g 65 0) ps[q].1 [I64 (ps[q].2:Nat)]=vecL .i64 (updN g ps[q].1 (ps[q].2:Nat)) 65 0:=by
       show (vecL .i64 g 65 0).set ps[q].1 (I64 (ps[q].2:Nat))=_;rw [qou _ _ _ _ _ _ hp65,z5p]
      rw [e3]
     refine⟨h.can 1 rfl _ _ (by rw [q2q]; simp; omega),?_⟩;intro H35 e35;have h:=h.set 1 rfl (7+ps[q].1) [I64 (ps[q].2:Nat)];rw [hset,← e35] at h;rw [show i64.wrap ((q:Int)+1)=((q+1:Nat):Int) by rw [w64 (by omega) (by omega)]; omega];refine⟨⟨q+1,updN g ps[q].1 (ps[q].2:Nat),rfl,hlt,?_,?_,h.tl⟩,by simp only [z5a]; omega⟩
     ·intro i hi;unfold updN
      split
      ·unfold wf64; omega
      ·exact hg i hi
     ·rw [e2];congr 1;unfold quy;rw [if_neg (by omega),Nat.add_sub_cancel,z82,List.getElem?_eq_getElem hlt];rfl
    ·have hqe:q=ps.length:=by have:=z54 hc3; omega
     subst hqe;rw [z6z,qks] at e2;rw [e2] at k;dsimp only at k;refine⟨_,_,_,_,_,_,_,_,h.rda 0 rfl,?_⟩;have wc:WC ⟨r1.1,q7c r6.1,r4.1,r5.1,r2.1,r3.1,g⟩:=⟨by unfold wf64; dsimp only; omega,qrh _ hB6.2,hw4,hw5,by unfold wf64; dsimp only; omega,by unfold wf64; dsimp only; omega,hg⟩;refine q8e wc h fun H36 h=>⟨_,rfl,fun hr=>?_,fun hr=>?_⟩
     ·rw [if_neg (by simpa using hr)] at k;refine h.sta 2 rfl rfl fun H17 h=>⟨_,_,_,_,_,_,_,_,h.rda 2 rfl,k _ h.tl.tl.tl⟩
     ·rw [if_pos (by simpa using hr)] at k;refine⟨_,_,_,_,_,_,_,_,h.rda 0 rfl,?_⟩;refine h.sta 2 rfl (by rw [q2q]; exact (q2q Cl.z).symm) fun H17 h=>⟨_,_,_,_,_,_,_,_,h.rda 2 rfl,k _ h.tl.tl.tl⟩
end
end Go.Proofs.YtfmkddccnjidmaaGreatDoor
