/-
  Lemmas for CoreNumbers: part 1 of what it rests on. Conditions: none.
-/
import Derived.Test.YtfmkddccnjidmaaGreatDoorPB0
set_option linter.unusedVariables false
set_option linter.unusedSimpArgs false
set_option maxRecDepth 100000
open Go.IntKind (i64 u64 i8 u8 i32 u32 i16 u16)
namespace Go.Nm
open Go Go.Maps Go.RowKit
open Go
def rngA {κ α:Type}(kenc:κ→Value)(venc:α→Value)(r mb:Nat)(m dn:List (κ × α)):Assn:=fun h=>
 ∃(es:Array MapEntry) (clock:Nat) (ml:List (κ × α)) (seen:Array Nat) (is:List Nat),
  ((q00 m).Nodup∧ml.Perm m∧es.toList.map (fun e:MapEntry=>(e.key,e.val))=ml.map (fun p=>(kenc p.1,venc p.2))∧(es.toList.map (·.born)).Nodup∧(∀e∈es.toList,e.born < clock)∧
   is.Nodup∧dn.map some=is.map (fun i=>ml[i]?)∧seen.toList.map some=is.map (fun i=>(es.toList[i]?).map (·.born)))∧
  (pt r (.mapIter (some mb) clock seen clock)*pt mb (.map es clock)) h
section
variable {κ α:Type} {kenc:κ→Value} {venc:α→Value} {r mb:Nat} {m dn:List (κ × α)} {H:Heap} {L:List Assn} {P:Program}
theorem qd7 {F:Assn}(h:Sat H (rngA kenc venc r mb m dn*F)):∃(es:Array MapEntry) (clock:Nat) (ml:List (κ × α)) (seen:Array Nat) (is:List Nat),
  ((q00 m).Nodup∧ml.Perm m∧es.toList.map (fun e:MapEntry=>(e.key,e.val))=ml.map (fun p=>(kenc p.1,venc p.2))∧(es.toList.map (·.born)).Nodup∧(∀e∈es.toList,e.born < clock)∧
   is.Nodup∧dn.map some=is.map (fun i=>ml[i]?)∧seen.toList.map some=is.map (fun i=>(es.toList[i]?).map (·.born)))∧
  Sat H ((pt r (.mapIter (some mb) clock seen clock)*pt mb (.map es clock))*F):=by
 obtain⟨g,h1,x,y,hd,rfl,⟨es,clock,ml,seen,is,h2,h3⟩,hy⟩:=h;exact⟨es,clock,ml,seen,is,h2,_,h1,x,y,hd,rfl,h3,hy⟩
theorem SatL.rg_map (h:SatL H L)(i:Nat)(hA:nth i L=rngA kenc venc r mb m dn):SatL H (put i (mapA kenc venc mb m) L):=by
 have h2:=h.foc i;rw [hA] at h2;obtain⟨es,clock,ml,seen,is,⟨f1,f2,f3,f4,f5,_⟩,h3⟩:=qd7 h2;refine SatL.back ?_;rw [q1w] at h3;exact h3.drop'.frame fun p hp=>⟨f1,es,clock,⟨ml,f2,f3⟩,f4,f5,hp⟩
theorem qu9 {w:World}(o:Obj):(newObj o).run P w=.ok w.heap.size (w.alloc o):=rfl
theorem SatL.rg_new {t k e:Nat}{z:α}(T:MapT P t k e venc z){K:Value→Heap→Prop}(h:SatL H L)(i:Nat)(hA:nth i L=mapA kenc venc mb m)
  (kk:∀r H',SatL H' (put i (rngA kenc venc r mb m []) L)→K (.pointer (some ⟨r,0,none⟩)) H'):RunW P (Instr.range t (.map (some mb))) H K:=by
 intro w hw;subst hw;have h2:=h.foc i;rw [hA] at h2;obtain⟨hn,es,clock,⟨ml,f2,f3⟩,f4,f5,h3⟩:=q3b h2;refine⟨.pointer (some ⟨w.heap.size,0,none⟩),w.alloc (.mapIter (some mb) clock #[] clock),?_,⟨rfl,rfl,rfl⟩,kk _ _ ?_⟩
 ·simp [Instr.range,run_underlying T.und,Go.MapKept.run_getObj_map h3.get,qu9]
 ·refine SatL.back ?_;have h4:=h3.push (.mapIter (some mb) clock #[] clock);rw [← q1w] at h4;exact h4.frame fun p hp=>⟨es,clock,ml,#[],[],⟨hn,f2,f3,f4,f5,List.nodup_nil,rfl,rfl⟩,hp⟩
theorem SatL.rg_next {ty:Nat}{K:Value→Heap→Prop}(h:SatL H L)(i:Nat)(hA:nth i L=rngA kenc venc r mb m dn)
  (k0:dn.Perm m→K (.tuple #[.bool false]) H)
  (k1:∀p,p∈m→p.1∉q00 dn→∀H',SatL H' (put i (rngA kenc venc r mb m (dn++[p])) L)→K (.tuple #[.bool true,kenc p.1,venc p.2]) H') :
  RunW P (Instr.next (.pointer (some ⟨r,0,none⟩)) false ty) H K:=by
 intro w hw;subst hw;have h2:=h.foc i;rw [hA] at h2;obtain⟨es,clock,ml,seen,is,⟨f1,f2,f3,f4,f5,f6,f7,f8⟩,h3⟩:=qd7 h2;rw [q1w] at h3;have hlen:es.toList.length=ml.length:=by have:=congrArg List.length f3; simpa using this
 have hbi:∀(i j:Nat) (a b:MapEntry),es.toList[i]?=some a→es.toList[j]?=some b→a.born=b.born→i=j:=by
  intro i j a b ha hb hab;have h1:(es.toList.map (·.born))[i]?=some a.born:=by simp [List.getElem?_map,ha]
  have h2:(es.toList.map (·.born))[j]?=some a.born:=by simp [List.getElem?_map,hb,hab]
  have hi:i < (es.toList.map (·.born)).length:=by
   rcases z9a i (es.toList.map (·.born)).length with h|h
   ·exact h
   ·rw [List.getElem?_eq_none h] at h1; cases h1
  exact (List.getElem?_inj hi f4).1 (h1.trans h2.symm)
 have hseen:∀b,b∈seen.toList↔∃i∈is,∃a,es.toList[i]?=some a∧a.born=b:=by
  intro b;have:b∈seen.toList↔some b∈seen.toList.map some:=by simp
  rw [this,f8,z8u]
  constructor
  ·rintro⟨i,hi,h⟩
   cases he:es.toList[i]? with
   | none=>rw [he] at h; cases h
   | some a=>rw [he] at h; simp at h; exact⟨i,hi,a,he,h⟩
  ·rintro⟨i,hi,a,he,h⟩;exact⟨i,hi,by rw [he]; simp [h]⟩
 rcases run_next_at (P:=P) w ty r mb clock clock seen es clock h3.get h3.drop'.get f5 (z8v _) with ⟨h0,hrun⟩|⟨e,he,w1,hw1,hrun⟩
 ·refine⟨_,_,hrun,Rest.refl _,k0 ?_⟩;have hall:∀e∈es.toList,e.born∈seen.toList:=by
   intro e he;have hz:leftOf es seen=#[]:=Array.eq_empty_of_size_eq_zero h0;unfold leftOf at hz;rw [Array.filter_eq_empty_iff] at hz;have:=hz e (by simpa using he);simpa using this
  have hp:is.Perm (List.range ml.length):=by
   refine (List.perm_ext_iff_of_nodup f6 List.nodup_range).2 fun i=>?_
   rw [za6]
   constructor
   ·intro hi
    rcases z9a i ml.length with h|h
    ·exact h
    ·exfalso;have h1:(none:Option (κ × α))∈dn.map some:=by rw [f7]; exact z8u.2 ⟨i,hi,by rw [List.getElem?_eq_none h]⟩
     simp at h1
   ·intro hi;have hi2:i < es.toList.length:=by omega
    obtain⟨j,hj,a,ha,hab⟩:=(hseen _).1 (hall es.toList[i] (z8w hi2));have:=hbi j i a es.toList[i] ha (List.getElem?_eq_getElem hi2) hab;rw [← this]; exact hj
  have h5:(dn.map some).Perm (ml.map some):=by
   rw [f7];refine (hp.map _).trans ?_;have:(List.range ml.length).map (fun i=>ml[i]?)=ml.map some:=by
    apply List.ext_getElem?;intro j;simp only [List.getElem?_map]
    by_cases hj:j < ml.length
    ·rw [List.getElem?_range hj,List.getElem?_eq_getElem hj]; simp
    ·rw [List.getElem?_eq_none (by simpa using hj),List.getElem?_eq_none (by omega)]; rfl
   rw [this]
  have h6:=h5.filterMap id;simp only [List.filterMap_map,Function.comp_def,id] at h6;rw [List.filterMap_some,List.filterMap_some] at h6;exact h6.trans f2
 ·unfold leftOf at he;have he':e∈es.toList∧e.born∉seen.toList:=by simpa using he
  obtain⟨ix,hix,hxe⟩:=List.mem_iff_getElem.1 he'.1;have hml:ix < ml.length:=by omega
  have hkv:(e.key,e.val)=(kenc ml[ix].1,venc ml[ix].2):=by
   have:=congrArg (fun l=>l[ix]?) f3
   simp only [List.getElem?_map,List.getElem?_eq_getElem hix,List.getElem?_eq_getElem hml,z9l,hxe] at this;exact Option.some.inj this
  have hni:ix∉is:=fun hi=>he'.2 ((hseen _).2 ⟨ix,hi,e,by rw [List.getElem?_eq_getElem hix,hxe],rfl⟩)
  have hkn:(q00 ml).Nodup:=(f2.map Prod.fst).nodup_iff.2 f1;refine⟨_,_,hrun,?_,?_⟩
  ·rcases hw1 with rfl|rfl <;> exact⟨rfl,rfl,rfl⟩
  ·have e1:e.key=kenc ml[ix].1:=congrArg Prod.fst hkv;have e2:e.val=venc ml[ix].2:=congrArg Prod.snd hkv;rw [e1,e2];refine k1 ml[ix] (f2.mem_iff.1 (z8w hml)) (fun hmem=>?_) _ (SatL.back ?_)
   ·obtain⟨q,hq,hq1⟩:=z8u.1 hmem;have:some q∈dn.map some:=z8u.2 ⟨q,hq,rfl⟩;rw [f7] at this;obtain⟨j,hj,hjq⟩:=z8u.1 this;have hjl:j < ml.length:=by
     rcases z9a j ml.length with h|h
     ·exact h
     ·rw [List.getElem?_eq_none h] at hjq; cases hjq
    rw [List.getElem?_eq_getElem hjl] at hjq;have hjq:=Option.some.inj hjq;have:j=ix:=by
     have h1:(q00 ml)[j]?=some q.1:=by simp [q00,List.getElem?_eq_getElem hjl,hjq]
     have h2:(q00 ml)[ix]?=some q.1:=by simp [q00,List.getElem?_eq_getElem hml,hq1]
     exact (List.getElem?_inj (by simpa [q00] using hjl) hkn).1 (h1.trans h2.symm)
    exact hni (this▸hj)
   ·have h4:Sat (w.heap.setIfInBounds r (.mapIter (some mb) clock (seen.push e.born) clock)) (pt r (.mapIter (some mb) clock (seen.push e.born) clock)*(pt mb (.map es clock)*star (del i L))):=qc2 h3;have h5:Sat (Go.ChangeMaps.setBlock w1 r (.mapIter (some mb) clock (seen.push e.born) clock)).heap (pt r (.mapIter (some mb) clock (seen.push e.born) clock)*(pt mb (.map es clock)*star (del i L))):=by
     rcases hw1 with rfl|rfl <;> exact h4
    rw [← q1w] at h5;refine h5.frame fun p hp=>⟨es,clock,ml,seen.push e.born,is++[ix],⟨f1,f2,f3,f4,f5,?_,?_,?_⟩,hp⟩
    ·exact List.nodup_append.2 ⟨f6,by simp,fun a ha b hb=>by simp at hb; subst hb; exact fun e=>hni (e▸ha)⟩
    ·rw [z9e,f7,z9e]; simp [List.getElem?_eq_getElem hml]
    ·rw [Array.toList_push,z9e,f8,z9e]; simp only [z9j,List.map_nil,List.getElem?_eq_getElem hix,hxe,z9l]
theorem SatL.rg_entry {p:κ × α}(h:SatL H L)(i:Nat)(hA:nth i L=rngA kenc venc r mb m (dn++[p])):q0c P (Instr.entry (.pointer (some ⟨r,0,none⟩))) H (.tuple #[kenc p.1,venc p.2]):=by
 intro w hw;subst hw;have h2:=h.foc i;rw [hA] at h2;obtain⟨es,clock,ml,seen,is,⟨f1,f2,f3,f4,f5,f6,f7,f8⟩,h3⟩:=qd7 h2;rw [q1w] at h3;have hl1:=congrArg List.length f7;have hl2:=congrArg List.length f8;simp only [z96,z8m,za7] at hl1 hl2
 rcases List.eq_nil_or_concat is with hz|⟨is0,ix,rfl⟩
 ·subst hz; simp at hl1
 rw [List.concat_eq_append] at *;rw [z9e,z9e] at f7;have e7:=(List.append_inj' f7 (by simp)).2;simp only [z9j,List.map_nil,List.cons.injEq,and_true] at e7;have hml:ix < ml.length:=by
  rcases z9a ix ml.length with h|h
  ·exact h
  ·rw [List.getElem?_eq_none h] at e7; cases e7
 have hlen:es.toList.length=ml.length:=by have:=congrArg List.length f3; simpa using this
 have hix:ix < es.toList.length:=by omega
 rcases List.eq_nil_or_concat seen.toList with hz|⟨s0,b,hs⟩
 ·rw [hz] at hl2; simp at hl2
 rw [List.concat_eq_append] at hs;rw [hs,z9e,z9e] at f8;have e8:=(List.append_inj' f8 (by simp)).2;simp only [z9j,List.map_nil,List.cons.injEq,and_true,List.getElem?_eq_getElem hix,z9l,Option.some.injEq] at e8;have hse:seen=(⟨s0⟩:Array Nat).push es.toList[ix].born:=by apply Array.ext'; rw [hs,e8]; simp
 have hkv:(es.toList[ix].key,es.toList[ix].val)=(kenc p.1,venc p.2):=by
  have:=congrArg (fun l=>l[ix]?) f3
  simp only [List.getElem?_map,List.getElem?_eq_getElem hix,← e7,z9l] at this;exact Option.some.inj this
 have e1:es.toList[ix].key=kenc p.1:=congrArg Prod.fst hkv;have e2:es.toList[ix].val=venc p.2:=congrArg Prod.snd hkv;rw [hse] at h3;have:=run_entry_at (P:=P) w r mb clock ⟨s0⟩ es clock es.toList[ix] h3.get h3.drop'.get (z8w hix) f4;rw [e1,e2] at this;exact this
end
open Go
def z00 (H:Heap)(r:Nat):Nat:=match H[r]? with|some (.mapIter _ _ seen _)=>seen.size|_=>0
theorem SatL.rg_count {κ α:Type}{kenc:κ→Value}{venc:α→Value}{r mb:Nat}{m dn:List (κ × α)}{H:Heap}{L:List Assn}(h:SatL H L)(i:Nat)(hA:nth i L=rngA kenc venc r mb m dn):z00 H r=dn.length∧dn.length≤m.length:=by
 have h2:=h.foc i;rw [hA] at h2;obtain⟨es,clock,ml,seen,is,⟨f1,f2,f3,f4,f5,f6,f7,f8⟩,h3⟩:=qd7 h2;rw [q1w] at h3;have hl1:=congrArg List.length f7;have hl2:=congrArg List.length f8;simp only [z96] at hl1 hl2;refine⟨?_,?_⟩
 ·unfold z00;rw [h3.get];simp only;rw [← za0,hl2,hl1]
 ·rw [hl1,← f2.length_eq];have hsub:is ⊆ List.range ml.length:=by
   intro i hi;rw [za6]
   rcases z9a i ml.length with h|h
   ·exact h
   ·exfalso;have h1:(none:Option (κ × α))∈dn.map some:=by rw [f7]; exact z8u.2 ⟨i,hi,by rw [List.getElem?_eq_none h]⟩
    simp at h1
  have:=f6.length_le_of_subset hsub;simpa using this
open Go
instance wf64_dec (x:Int):Decidable (wf64 x):=by unfold wf64; infer_instance
theorem qn9 {p q:Prop}[Decidable p][Decidable q]:(decide p ^^ decide q)=true↔((p∧¬q)∨(¬p∧q)):=by by_cases hp:p <;> by_cases hq:q <;> simp [hp,hq]
theorem u64e (x:Int):u64.wrap x=x % 18446744073709551616:=by simp [IntKind.wrap,IntKind.bits,IntKind.signed]
theorem u64n {x:Nat}(h:x < 18446744073709551616):u64.wrap (x:Int)=(x:Int):=by rw [u64e]; omega
theorem u64m (x:Nat):u64.wrap (x:Int)=((x % 18446744073709551616:Nat):Int):=by rw [u64e]; omega
theorem bv64 {n:Nat}(h:n < 18446744073709551616):(BitVec.ofInt u64.bits (n:Int)).toNat=n:=by
 rw [BitVec.ofInt_natCast,BitVec.toNat_ofNat]; exact zae h
theorem and64 {n m:Nat}(hn:n < 18446744073709551616)(hm:m < 18446744073709551616):q0g .and .u64 (n:Int) (m:Int)=((n &&& m:Nat):Int):=by
 unfold q0g;dsimp only;rw [BitVec.toNat_and,bv64 hn,bv64 hm];have:n &&& m < 2 ^ 64:=Nat.and_lt_two_pow n hm;exact u64n (by omega)
theorem or64 {n m:Nat}(hn:n < 18446744073709551616)(hm:m < 18446744073709551616):q0g .or .u64 (n:Int) (m:Int)=((n ||| m:Nat):Int):=by
 unfold q0g;dsimp only;rw [BitVec.toNat_or,bv64 hn,bv64 hm];have:n ||| m < 2 ^ 64:=Nat.or_lt_two_pow hn hm;exact u64n (by omega)
theorem qq7 {n:Nat}(hn:n < 18446744073709551616):q0g .and .u64 (n:Int) 4294967295=((n % 4294967296:Nat):Int):=by
 have h:=and64 hn (m:=4294967295) (by decide);have e:n &&& 4294967295=n % 4294967296:=Nat.and_two_pow_sub_one_eq_mod n 32;rw [e] at h;exact h
theorem z01 (a s:Nat):Int.fdiv (a:Int) (2 ^ s)=((a / 2 ^ s:Nat):Int):=by
 rw [zb5 _ (Int.pow_nonneg (by decide))];rw [Int.natCast_ediv];congr 1
theorem qxk (a:Nat):Int.fdiv (a:Int) (2 ^ (min (Int.toNat 32) (u64.bits)))=((a / 4294967296:Nat):Int):=z01 a 32
theorem mulNN (a b:Nat):(a:Int)*(b:Int)=((a*b:Nat):Int):=(zax a b).symm
theorem addNN (a b:Nat):(a:Int)+(b:Int)=((a+b:Nat):Int):=(Int.natCast_add a b).symm
theorem qxl (v:BitVec 64):i64.wrap (v.toNat:Int) < 0↔v.msb=true:=by
 rw [BitVec.msb_eq_decide,z8o];have:=v.isLt;simp only [IntKind.wrap,IntKind.bits,IntKind.signed];simp;omega
theorem qxm {x:Int}(h:wf64 x):(BitVec.ofInt 64 x).msb=decide (x < 0):=by
 rw [BitVec.msb_eq_toInt,BitVec.toInt_ofInt];congr 1;unfold wf64 at h;rw [Int.bmod_def];apply propext
 constructor
 ·intro h2; split at h2 <;> omega
 ·intro h2; split <;> omega
theorem qna {x y:Int}(hx:wf64 x)(hy:wf64 y):q0g .xor .i64 x y < 0↔(decide (x < 0) ^^ decide (y < 0))=true:=by
 unfold q0g;dsimp only;exact (qxl (BitVec.ofInt 64 x ^^^ BitVec.ofInt 64 y)).trans (by rw [BitVec.msb_xor,qxm hx,qxm hy])
theorem z4w {x y:Int}(hx:wf64 x)(hy:wf64 y):q0g .and .i64 x y < 0↔(decide (x < 0) && decide (y < 0))=true:=by
 unfold q0g;dsimp only;exact (qxl (BitVec.ofInt 64 x &&& BitVec.ofInt 64 y)).trans (by rw [BitVec.msb_and,qxm hx,qxm hy])
theorem i64e (x:Int):i64.wrap x=(x+9223372036854775808) % 18446744073709551616 - 9223372036854775808:=by
 simp only [IntKind.wrap,IntKind.bits,IntKind.signed];simp;omega
theorem qua (x:Int):wf64 (i64.wrap x):=by unfold wf64; rw [i64e]; omega
theorem qd8 (op:BinOp)(x y:Int):wf64 (q0g op .i64 x y):=by
 unfold q0g
 split <;> exact qua _
theorem add_over {a b:Int}(ha:wf64 a)(hb:wf64 b):decide (q0g .and .i64 (q0g .xor .i64 a (i64.wrap (a+b))) (q0g .xor .i64 b (i64.wrap (a+b))) < 0)=!decide (wf64 (a+b)):=by
 rw [z9m,z8o,z4w (qd8 _ _ _) (qd8 _ _ _),z8q,z8o,z8o,qna ha (qua _),qna hb (qua _),qn9,qn9,z94,z8r];have e:=i64e (a+b);unfold wf64 at *;rw [e];omega
section
variable {u y1 y0 u1 q r:Nat}
theorem qxn:q*(y1*4294967296+y0)=(q*y1)*4294967296+q*y0:=by rw [Nat.mul_add,Nat.mul_assoc]
theorem z4x (h1:2147483648≤y1)(h0:y0 < 4294967296)(hu:u < y1*4294967296+y0)(hu1:u1 < 4294967296) :
  (u / y1)*y1+u % y1=u∧u % y1 < 4294967296+y1∧(u*4294967296+u1) / (y1*4294967296+y0)≤u / y1∧u / y1≤4294967297:=by
 refine⟨zay u y1,?_,?_,?_⟩
 ·have:=za1 u (show 0 < y1 by omega); omega
 ·refine Nat.le_of_lt_succ ((zal (by omega)).2 ?_);rw [qxn];have h2:=Nat.lt_mul_of_div_lt (Nat.lt_succ_self (u / y1)) (show 0 < y1 by omega);generalize (u / y1).succ*y1=p at *;omega
 ·refine Nat.le_of_lt_succ ((zal (by omega)).2 ?_);omega
theorem kn_dec (h1:2147483648≤y1)(hu:u < y1*4294967296+y0)(hu1:u1 < 4294967296)(hq:q*y1+r=u)
  (hc:4294967296≤q∨4294967296*r+u1 < q*y0):1≤q∧(u*4294967296+u1) / (y1*4294967296+y0)≤q - 1:=by
 have hq1:1≤q:=by
  rcases hc with h|h
  ·omega
  ·cases q with
   | zero=>rw [Nat.zero_mul] at h; omega
   | succ n=>omega
 refine⟨hq1,Nat.le_sub_one_of_lt ?_⟩
 rcases hc with h|h
 ·refine Nat.lt_of_lt_of_le ((zal (by omega)).2 ?_) h;omega
 ·refine (zal (by omega)).2 ?_;rw [qxn];generalize q*y1=p at *;omega
theorem qxo (h1:2147483648≤y1)(hq:q*y1+r=u)(hl:(u*4294967296+u1) / (y1*4294967296+y0)≤q)(hc:q*y0≤4294967296*r+u1) :
  q=(u*4294967296+u1) / (y1*4294967296+y0):=by
 refine Nat.le_antisymm ((Nat.le_div_iff_mul_le (by omega)).2 ?_) hl;rw [qxn];generalize q*y1=p at *;omega
theorem qxp (h1:2147483648≤y1)(h0:y0 < 4294967296)(hq:q*y1+r=u)(hl:(u*4294967296+u1) / (y1*4294967296+y0)≤q)(hr:4294967296≤r)(hB:q≤4294967296) :
  q=(u*4294967296+u1) / (y1*4294967296+y0):=by
 refine Nat.le_antisymm ((Nat.le_div_iff_mul_le (by omega)).2 ?_) hl;rw [qxn];have:q*y0≤4294967296*4294967296:=Nat.mul_le_mul hB (by omega);generalize q*y1=p at *;omega
theorem kn_lt {y:Nat}(hu:u < y)(hu1:u1 < 4294967296):(u*4294967296+u1) / y < 4294967296:=(zal (by omega)).2 (by omega)
theorem kn_join' {U y u0:Nat}(hy:0 < y):((U*4294967296+u0) / y=U / y*4294967296+((U % y)*4294967296+u0) / y)∧
  ((U*4294967296+u0) % y=((U % y)*4294967296+u0) % y):=by
 have e1:=Nat.div_add_mod U y;have e:U*4294967296+u0=(U % y*4294967296+u0)+y*(U / y*4294967296):=by
  rw [← Nat.mul_assoc];obtain⟨p,hp⟩:∃p,p=y*(U / y):=⟨_,rfl⟩;rw [← hp] at e1 ⊢;omega
 rw [e,Nat.add_mul_div_left _ _ hy,Nat.add_mul_mod_self_left];refine⟨?_,?_⟩
 ·have h2:(U % y*4294967296+u0+y*(U / y*4294967296))=U*4294967296+u0:=e.symm;omega
 ·have h3:(U % y*4294967296+u0+y*(U / y*4294967296))=U*4294967296+u0:=e.symm;rfl
theorem kn_join {y u0:Nat}(hy:0 < y):(((u*4294967296+u1)*4294967296+u0) / y=(u*4294967296+u1) / y*4294967296+(((u*4294967296+u1) % y)*4294967296+u0) / y)∧
  (((u*4294967296+u1)*4294967296+u0) % y=(((u*4294967296+u1) % y)*4294967296+u0) % y):=kn_join' hy
end
theorem norm_aux (a b M:Nat):(a+b / M)*M+b % M=a*M+b:=by rw [z9i,z9w,zay]
theorem norm_num {hi lo s:Nat}(hs:s≤64)(hl:lo < 18446744073709551616):(hi*2 ^ s+lo / 2 ^ (64 - s))*18446744073709551616+(lo*2 ^ s) % 18446744073709551616=(hi*18446744073709551616+lo)*2 ^ s:=by
 have e:(18446744073709551616:Nat)=2 ^ (64 - s)*2 ^ s:=by rw [← z9y,show 64 - s+s=64 by omega]
 have e2:lo / 2 ^ (64 - s)=(lo*2 ^ s) / 18446744073709551616:=by
  rw [e,Nat.mul_div_mul_right _ _ (zag s)]
 rw [e2,norm_aux,z9i,Nat.mul_right_comm]
open Go
theorem qq8:∀{l:List Value},(∀v∈l,q08 [v]=true)→q08 l=true
 | [],_=>rfl
 | v::r,h=>by
  have h1:=h v z92;have h2:=qq8 (l:=r) fun x hx=>h x (z93 _ hx)
  cases v <;> simp [q08] at h1 h2 ⊢ <;> exact h2
theorem qfx {v:Value}:∀{l:List Value},q08 l=true→v∈l→q08 [v]=true
 | [],_,hv=>by cases hv
 | u::r,h,hv=>by
  have h1:=q6j h
  rcases z91.1 hv with rfl|hv
  ·exact h1.1
  ·exact qfx h1.2 hv
def z4y (P:Program)(e:TypeId):Bool:=match P.info? e with
 | some i=>(match i.zero with|some z=>q08 z.cells.toList|none=>false)
 | none=>false
theorem qi6 {z:Array Value}(hz:q08 z.toList=true)(k:Nat):q08 (Builtin.zeroCells z k).toList=true:=by
 refine qq8 fun v hv=>?_
 simp only [Builtin.zeroCells,Array.toList_map,z8u] at hv;obtain⟨i,hi,rfl⟩:=hv;have hi2:i < k*z.size:=by simpa using hi
 have hs:0 < z.size:=by
  rcases zbd z.size with h|h
  ·rw [h] at hi2; omega
  ·exact h
 have hlt:=za1 i hs;rw [getElem!_pos z _ hlt];exact qfx hz (by simp)
section
variable {H:Heap} {F:Assn} {L:List Assn} {e sz n c:Nat} {a:Option Addr} {cs:List Value}
theorem qq9 {P:Program}{t bytes m c2 ty:Nat}(T:SlT P t e sz bytes){a2:Option Addr}{ws:List Value}{K:Value→Heap→Prop}(h:Sat H (slA e sz a n c cs*F))(hw:rdS H a2 ws)(hl:ws.length=m*sz)(hp:q08 ws=true)
  (hroom:n+m≤c)
  (k:∀H',Sat H' (slA e sz a (n+m) c (cs++ws)*F)→K (.slice a (n+m) c) H') :
  RunW P (Builtin.append_ #[t,t] ty #[.slice a n c,.slice a2 m c2]) H K:=by
 obtain⟨ht,hsz,i,z,hi,hz,rfl,rfl,hzs⟩:=T;intro w hw0;subst hw0;obtain⟨hlen,h2⟩:=q3g h;have hfw:=q3t (P:=P) (w:=w) (c2:=c2) hw hl
 rcases h2 with ⟨h2,h3,h4,h5⟩|⟨b,pre,post,e',fr,h2,h3,h4,hf,h5⟩
 ·subst h2; subst h3; subst h4;obtain rfl:m=0:=by omega
  obtain rfl:ws=[]:=za8 (by simpa using hl);obtain rfl:cs=[]:=za8 (by simpa using hlen);refine⟨.slice none (0+0) 0,w,?_,Rest.refl w,k _ (qhv h5)⟩;simp [Builtin.append_,run_underlying ht,sizeOf,typeInfo,hi,Builtin.lenOf,hfw]
 ·subst h2;have hfit:ws.length≤post.length:=by
   refine z8z ?_ h4;rw [hl];exact z9t _ (by omega)
  have hnm:(n+m)*i.size≤c*i.size:=z9t _ hroom;rw [z9i] at hnm;have hcan:q35 w.heap b (pre.length+n*i.size) ws:=h5.canG ws _ (by simp [hlen]; omega) fun j h6 h7=>hf j (by omega) (by omega)
  obtain⟨w',h6,h7,h8⟩:=q2y (P:=P) (b:=b) ws (pre.length+n*i.size) 0 w (by simpa using hcan) (by simpa using q6a _ _ hcan) hp;refine⟨.slice (some ⟨b,pre.length,none⟩) (n+m) c,w',?_,h7,k _ ?_⟩
  ·simp [Builtin.append_,run_underlying ht,sizeOf,typeInfo,hi,Builtin.lenOf,hroom,hfw,q3h,h6]
  ·rw [h8];have h9:=Sat.setsG ws (pre.length+n*i.size) h5;have e1:pre.length+n*i.size=(pre++cs).length:=by simp [hlen]
   rw [e1,q6b _ _ _ hfit] at h9;rw [zai,e1];refine h9.frame fun p hp=>⟨by simp [hlen,hl,z9i],.inr ⟨b,pre,post.drop ws.length,e',fr,rfl,hroom,?_,fun _=>hf,by simpa using hp⟩⟩
   rw [z9d,hl];have:(c - (n+m))*i.size+m*i.size=(c - n)*i.size:=by rw [← z9i]; congr 1; omega
   omega
theorem SatL.appendIn {P:Program}{t bytes m c2 ty:Nat}(T:SlT P t e sz bytes){a2:Option Addr}{ws:List Value}{K:Value→Heap→Prop}(h:SatL H L)(i:Nat)(hA:nth i L=slA e sz a n c cs)(hw:rdS H a2 ws)(hl:ws.length=m*sz)(hp:q08 ws=true)
  (hroom:n+m≤c)
  (k:∀H',SatL H' (put i (slA e sz a (n+m) c (cs++ws)) L)→K (.slice a (n+m) c) H') :
  RunW P (Builtin.append_ #[t,t] ty #[.slice a n c,.slice a2 m c2]) H K:=by
 have h2:=h.foc i;rw [hA] at h2;exact qq9 T h2 hw hl hp hroom fun H' h3=>k H' (SatL.back h3)
theorem z02 {P:Program}{t bytes m c2 ty:Nat}(T:SlT P t e sz bytes)(hz:z4y P e=true){K:Value→Heap→Prop}(h:Sat H (slA e sz a n c cs*F))(hroom:n+m≤c)
  (k:∀v H',Sat H' (slA e sz a n c cs*F)→K v H') :
  RunW P (Builtin.clear_ #[t] ty #[.slice (slB a n c sz) m c2]) H K:=by
 obtain⟨ht,hsz,i,z,hi,hzz,rfl,rfl,hzs⟩:=T;intro w hw0;subst hw0;obtain⟨hlen,h2⟩:=q3g h;unfold z4y at hz;rw [hi] at hz;dsimp only at hz;rw [hzz] at hz;dsimp only at hz;have trivial_case:m=0∨slB a n c i.size=none→∃v w',(Builtin.clear_ #[t] ty #[.slice (slB a n c i.size) m c2]).run P w=.ok v w'∧Rest w w'∧K v w'.heap:=by
  rintro (rfl|hn)
  ·refine⟨.tuple #[],w,?_,Rest.refl w,k _ _ h⟩
   cases slB a n c i.size <;> simp [Builtin.clear_,run_underlying ht]
  ·refine⟨.tuple #[],w,?_,Rest.refl w,k _ _ h⟩;rw [hn];simp [Builtin.clear_,run_underlying ht]
 cases m with
 | zero=>exact trivial_case (.inl rfl)
 | succ m=>
  rcases h2 with ⟨h2,h3,h4,h5⟩|⟨b,pre,post,e',fr,h2,h3,h4,hf,h5⟩
  ·exact trivial_case (.inr (by subst h2; unfold slB; split <;> rfl))
  ·subst h2;have hb:slB (some ⟨b,pre.length,none⟩) n c i.size=some ⟨b,pre.length+n*i.size,none⟩:=by
    unfold slB;rw [if_neg (by omega),z9l,q3h]
   have hm1:(m+1)*i.size≤(c - n)*i.size:=z9t _ (by omega);have hnm:(n+(m+1))*i.size≤c*i.size:=z9t _ hroom;rw [z9i] at hnm;generalize hws:(Builtin.zeroCells z.cells (m+1)).toList=ws;have hl:ws.length=(m+1)*i.size:=by rw [← hws,za0]; simp [Builtin.zeroCells,hzs]
   have hpw:q08 ws=true:=by rw [← hws]; exact qi6 hz _
   have hcan:q35 w.heap b (pre.length+n*i.size) ws:=h5.canG ws _ (by simp [hlen]; omega) fun j h6 h7=>hf j (by omega) (by omega)
   obtain⟨w',h6,h7,h8⟩:=q2y (P:=P) (b:=b) ws (pre.length+n*i.size) 0 w (by simpa using hcan) (by simpa using q6a _ _ hcan) hpw;refine⟨.tuple #[],w',?_,h7,k _ _ ?_⟩
   ·rw [hb];simp [Builtin.clear_,run_underlying ht,zeroValue,typeInfo,hi,hzz,hws,h6]
   ·rw [h8];have h9:=Sat.setsG ws (pre.length+n*i.size) h5;have e1:pre.length+n*i.size=(pre++cs).length:=by simp [hlen]
    have hfit:ws.length≤post.length:=by omega
    rw [e1,q6b _ _ _ hfit] at h9;rw [zai,e1];refine h9.frame fun p hp=>⟨hlen,.inr ⟨b,pre,ws++post.drop ws.length,e',fr,rfl,h3,?_,fun _=>hf,by simpa using hp⟩⟩
    rw [z8m,z9d];omega
theorem SatL.clearS {P:Program}{t bytes m c2 ty:Nat}(T:SlT P t e sz bytes)(hz:z4y P e=true){K:Value→Heap→Prop}(h:SatL H L)(i:Nat)(hA:nth i L=slA e sz a n c cs)(hroom:n+m≤c)
  (k:∀v H',SatL H' L→K v H') :
  RunW P (Builtin.clear_ #[t] ty #[.slice (slB a n c sz) m c2]) H K:=by
 have h2:=h.foc i;rw [hA] at h2;refine z02 T hz h2 hroom fun v H' h3=>k v H' ?_
 unfold SatL;rw [qav i L,hA];exact h3
theorem SatL.mk0 {P:Program}{t bytes:Nat}(T:SlT P t e sz bytes){K:Value→Heap→Prop}{kl kc:IntKind}{c:Nat}(h:SatL H L)(hb:bytes*c≤281474976710656)(h63:c≤1099511627776)
  (k:∀a H',SatL H' (slA e sz a 0 c []::L)→K (.slice a 0 c) H'):RunW P (Instr.makeSlice t (.int kl 0) (.int kc (c:Int))) H K:=by
 obtain⟨ht,hsz,i,z,hi,hz,rfl,rfl,hzs⟩:=T;intro w hw0;subst hw0;have hb':(i.bytes:Int)*(c:Int)≤281474976710656:=by
  have h:((i.bytes*c:Nat):Int)≤281474976710656:=by omega
  rwa [zax] at h
 have hr:=run_make (P:=P) w t e i z ht hi hz kl kc 0 c (z9k _) (by omega) hb' (by omega);simp only [Int.toNat_zero,z8t] at hr;refine⟨_,_,hr,⟨rfl,rfl,rfl⟩,k _ _ ?_⟩;have hp:SatL _ _:=h.push (.cells (madeCells z.cells (c*i.size)) e (0,0));refine SatL.mono hp fun p hp=>⟨by simp,.inr ⟨_,[],(madeCells z.cells (c*i.size)).toList,e,(0,0),rfl,z9c _,?_,fun _ j _ _ hh=>by simp at hh,by simpa using hp⟩⟩
 rw [za0,size_madeCells,Nat.sub_zero];exact z8v _
theorem SatL.mk1 {P:Program}{t bytes:Nat}(T:SlT P t e 1 bytes){z0:Value}(hz0:qxi P e=some z0)(h1:z0.cells=#[z0]){K:Value→Heap→Prop}{kl kc:IntKind}{c:Nat}(h:SatL H L)(hb:bytes*c≤281474976710656)(h63:c≤1099511627776)
  (k:∀a H',SatL H' (slA e 1 a c c (List.replicate c z0)::L)→K (.slice a c c) H'):RunW P (Instr.makeSlice t (.int kl (c:Int)) (.int kc (c:Int))) H K:=by
 obtain⟨ht,hsz,i,z,hi,hz,hs1,rfl,hzs⟩:=T;intro w hw0;subst hw0;have hb':(i.bytes:Int)*(c:Int)≤281474976710656:=by
  have h:((i.bytes*c:Nat):Int)≤281474976710656:=by omega
  rwa [zax] at h
 have hr:=run_make (P:=P) w t e i z ht hi hz kl kc c c (by omega) (z9k _) hb' (by omega);simp only [z8t] at hr;have ez:z=z0:=by
  unfold qxi at hz0;rw [hi] at hz0;simpa [hz] using hz0
 subst ez;refine⟨_,_,hr,⟨rfl,rfl,rfl⟩,k _ _ ?_⟩;have hp:SatL _ _:=h.push (.cells (madeCells z.cells (c*i.size)) e (0,0));have e2:(madeCells z.cells (c*i.size))=(List.replicate c z).toArray:=by
  rw [hs1,za9,h1];unfold madeCells;apply Array.ext
  ·simp
  ·intro j h3 h4;simp [Nat.mod_one]
 rw [e2] at hp ⊢;exact SatL.sl_pt (e:=e) hp 1 c (by simp)
end
open Go
theorem qfy {P:Program}{t:TypeId}{xs ys:List Value}{r:Bool}(h:q7u P t xs ys=some r)(w:World):(Op.equalIn 10000 t (.agg ⟨xs⟩) (.agg ⟨ys⟩)).run P w=.ok r w:=by
 unfold q7u at h
 split at h
 ·rename_i fs hu
  split at h
  ·rename_i hg;have hf:P.fieldsOf t=fs:=by simp [Program.fieldsOf,hu]
   have hu':P.underlying t=some (.struct (P.fieldsOf t)):=by rw [hf]; exact hu
   show (Op.equalIn (9998+1+1) t (.agg ⟨xs⟩) (.agg ⟨ys⟩)).run P w=.ok r w;generalize 9998=n;rw [run_equalIn_struct w (n+1) t ⟨xs⟩ ⟨ys⟩ hu' hg.1,hf];exact q9u n h
  ·cases h
 ·cases h
theorem z4z {P:Program}{em:Bool}{n:Nat}{t:TypeId}{v:Value}(h:q1f (P.underlying t) v=true)(w:World):(Instr.checkKey em (n+1) t v).run P w=.ok () w:=by
 cases hu:P.underlying t with
 | none=>rw [hu] at h; simp [q1f] at h
 | some d=>
  rw [hu] at h
  cases d <;> cases v <;> simp [q1f] at h <;> simp [Instr.checkKey,run_underlying hu]
def chkF (P:Program)(xs:List Value):List Field→Bool
 | []=>true
 | f::r=>(match lget xs f.offset with|some v=>q1f (P.underlying f.type) v|none=>false) && chkF P xs r
theorem z03 {P:Program}{em:Bool}{n:Nat}{t:TypeId}{xs:List Value}{fs:Array Field}(hu:P.underlying t=some (.struct fs))(h:chkF P xs fs.toList=true)(w:World) :
  (Instr.checkKey em (n+1+1) t (.agg ⟨xs⟩)).run P w=.ok () w:=by
 rw [Instr.checkKey];simp only [Sem.run_bind,run_underlying hu,Result.andThen_ok];rw [← Array.forIn_toList];generalize fs.toList=l at h
 induction l with
 | nil=>simp
 | cons f r ih=>
  simp only [chkF,z8q] at h;have ih:=ih h.2;have h1:=h.1
  split at h1
  ·rename_i v hv;have hp:=q7v (w:=w) h1 hv;have hc:=z4z (em:=em) (n:=n) h1 w;rw [List.forIn_cons]
   by_cases hn:f.name= "_"
   ·simp only [hn,ne_eq,not_true_eq_false,if_false,Sem.run_bind,Sem.run_pure,Result.andThen_ok];exact ih
   ·simp only [hn,ne_eq,not_false_eq_true,if_true,Sem.run_bind,Sem.run_pure,hp,hc,Result.andThen_ok];exact ih
  ·cases h1
theorem qes {κ:Type}[DecidableEq κ]{P:Program}{k:TypeId}{V:κ→Value}(heq:∀x y w,(Op.equal k (V x) (V y)).run P w=.ok (decide (x=y)) w)(x:κ)(w:World):∀(es:List MapEntry) (ks:List κ) (i:Nat),es.map (·.key)=ks.map V→
  (x∉ks→(Instr.findAsking k (V x) es i).run P w=.ok none w)∧∀j en,ks[j]?=some x→(∀l,l < j→ks[l]?≠some x)→es[j]?=some en→(Instr.findAsking k (V x) es i).run P w=.ok (some (i+j,en.val)) w
 | [],[],i,_=>⟨fun _=>by simp [Instr.findAsking],fun j e h=>by simp at h⟩
 | [],_::_,i,h=>by simp at h
 | _::_,[],i,h=>by simp at h
 | e0::es,y::ks,i,h=>by
  simp only [z9j,List.cons.injEq] at h;obtain⟨ih1,ih2⟩:=qes heq x w es ks (i+1) h.2;have hq:=heq x y w;rw [← h.1] at hq
  by_cases e:x=y
  ·subst e;refine⟨fun hx=>absurd (by simp) hx,fun j e1 hj hl he=>?_⟩
   have:j=0:=by
    cases j with
    | zero=>rfl
    | succ j=>exact absurd rfl (hl 0 (by omega))
   subst this;simp at he; subst he;simp [Instr.findAsking,Sem.run_bind,hq]
  ·refine⟨fun hx=>?_,fun j e1 hj hl he=>?_⟩
   ·simp only [z91,not_or] at hx;simp [Instr.findAsking,Sem.run_bind,hq,e,ih1 hx.2]
   ·cases j with
    | zero=>simp at hj; exact absurd hj.symm e
    | succ j=>
     have:=ih2 j e1 (by simpa using hj) (fun l hl'=>by simpa using hl (l+1) (by omega)) (by simpa using he)
     simp only [Instr.findAsking,Sem.run_bind,hq,e,decide_false,Result.andThen_ok,zao,if_false,this];rw [show i+1+j=i+(j+1) by omega]
theorem qi7 {d:TypeDesc}(x:Value)(hx:∃a,x=.agg a):∀(es:List MapEntry) (i:Nat),es≠[]→Instr.findNow d x es i=none
 | [],_,h=>absurd rfl h
 | e0::es,i,_=>by
  obtain⟨a,rfl⟩:=hx;have:Instr.sameNow d (.agg a) e0.key=none:=by cases d <;> rfl
  simp [Instr.findNow,this]
theorem qqa {κ:Type}[DecidableEq κ]{P:Program}{k:TypeId}{fs:Array Field}{enc:κ→List Value}(hu:P.underlying k=some (.struct fs))(hi:∀x y,enc x=enc y→x=y)
  (hq:∀x y,q7u P k (enc x) (enc y)=some (decide (x=y))) (hc:∀x,chkF P (enc x) fs.toList=true) (hb:∀x n,Instr.sameBits (n+1+1) (.agg ⟨enc x⟩) (.agg ⟨enc x⟩)=true):qn2 P k (fun x=>.agg ⟨enc x⟩) where
 inj x y h:=hi x y (by simpa using h)
 chk em x w:=z03 (n:=9998) hu (hc x) w
 non x ks es w hk2 hx:=by
  simp only [Instr.findKey,Sem.run_bind,run_underlying hu,Result.andThen_ok]
  cases es with
  | nil=>simp [Instr.findNow]
  | cons e0 r=>
   rw [qi7 (.agg ⟨enc x⟩) ⟨_,rfl⟩ (e0::r) 0 (by simp)];exact (qes (V:=fun x=>.agg ⟨enc x⟩) (fun x y w=>qfy (hq x y) w) x w _ ks 0 hk2).1 hx
 fnd x ks es w i en hk2 h1 h2 h3:=by
  simp only [Instr.findKey,Sem.run_bind,run_underlying hu,Result.andThen_ok]
  cases es with
  | nil=>simp at h3
  | cons e0 r=>
   rw [qi7 (.agg ⟨enc x⟩) ⟨_,rfl⟩ (e0::r) 0 (by simp)];have:=(qes (V:=fun x=>.agg ⟨enc x⟩) (fun x y w=>qfy (hq x y) w) x w _ ks 0 hk2).2 i en h1 h2 h3
   rw [z99] at this;exact this
 stay x w:=by simp [Instr.keyThatStays,hb x 9998]
open Go
def q2j (s:ByteArray):List Int:=s.data.toList.map fun b=>(b.toNat:Int)
theorem q4j (s:ByteArray):(q2j s).length=s.size:=by
 rw [q2j,z96,za0]; rfl
theorem z51 (s:ByteArray):∀x∈q2j s,0≤x∧x < 256:=by
 intro x hx;simp only [q2j,z8u] at hx;obtain⟨b,_,rfl⟩:=hx;have:=b.toNat_lt;omega
section
variable {H:Heap} {F:Assn} {e sz n c:Nat} {a:Option Addr} {cs:List Value}
theorem q9w {P:Program}(s:ByteArray)(size:Nat)(w:World):(Builtin.firstCells size s.size (.string s)).run P w=.ok (((q2j s).map U8).toArray) w:=by
 have h1:s.extract 0 s.size=s:=by simp
 have h2:s.data.map (fun b=>Value.int .u8 b.toNat)=((q2j s).map U8).toArray:=by
  apply Array.ext';rw [Array.toList_map,List.toList_toArray,q2j,z9o];rfl
 simp only [Builtin.firstCells,h1,h2];rfl
theorem qub {P:Program}{t ts bytes ty:Nat}(T:SlT P t e 1 bytes)(hts:P.underlying ts=some .string){s:ByteArray}{K:Value→Heap→Prop}(h:Sat H (slA e 1 a n c cs*F))
  (hb:(n+s.size)*bytes≤140737488355328) (hn:n+s.size≤140737488355328)
  (k:∀a' c' H',Sat H' (slA e 1 a' (n+s.size) c' (cs++(q2j s).map U8)*F)→K (.slice a' (n+s.size) c') H') :
  RunW P (Builtin.append_ #[t,ts] ty #[.slice a n c,.string s]) H K:=by
 obtain⟨ht,hsz,i,z,hi,hz,hs1,rfl,hzs⟩:=T;intro w hw0;subst hw0;obtain⟨hlen,h2⟩:=q3g h;have hl:((q2j s).map U8).length=s.size:=by rw [z96,q4j]
 have hp:q08 ((q2j s).map U8)=true:=qi4 (fun _=>rfl) _
 have h63:¬(9223372036854775807 < (n:Int)+(s.size:Int)):=by omega
 have hfw:=q9w (P:=P) s i.size w;have hfd:=q9w (P:=P) s i.size w.drew;have hfo:=q3t (P:=P) (w:=w.drew) (a2:=a) (m:=n) (c2:=c) (z4p h) hlen;generalize hws:(q2j s).map U8=ws at *;rw [← hs1] at hlen h2 hzs hfo
 by_cases hroom:n+s.size≤c
 ·rcases h2 with ⟨h2,h3,h4,h5⟩|⟨b,pre,post,e',fr,h2,h3,h4,hf,h5⟩
  ·subst h2; subst h3; subst h4;have h0:s.size=0:=by omega
   obtain rfl:ws=[]:=za8 (by omega);obtain rfl:cs=[]:=za8 (by simpa using hlen);refine⟨.slice none (0+s.size) 0,w,?_,Rest.refl w,k _ _ _ ?_⟩
   ·rw [h0] at hfw;simp [Builtin.append_,run_underlying ht,run_underlying hts,sizeOf,typeInfo,hi,Builtin.lenOf,h0,hfw]
   ·rw [h0]; exact qhv h5
  ·subst h2;have hs1':i.size=1:=hs1.symm▸rfl;have hfit:ws.length≤post.length:=by
    rw [hs1'] at h4;omega
   have hcan:q35 w.heap b (pre.length+n*i.size) ws:=h5.canG ws _ (by rw [hs1'] at hlen ⊢; simp [hlen]; rw [hs1'] at h4; omega) fun j h6 h7=>hf j (by omega) (by rw [hs1'] at h7 ⊢; omega)
   obtain⟨w',h6,h7,h8⟩:=q2y (P:=P) (b:=b) ws (pre.length+n*i.size) 0 w (by simpa using hcan) (by simpa using q6a _ _ hcan) hp;refine⟨.slice (some ⟨b,pre.length,none⟩) (n+s.size) c,w',?_,h7,k _ _ _ ?_⟩
   ·simp [Builtin.append_,run_underlying ht,run_underlying hts,sizeOf,typeInfo,hi,Builtin.lenOf,hroom,hfw,q3h,h6]
   ·rw [h8];have h9:=Sat.setsG ws (pre.length+n*i.size) h5;have e1:pre.length+n*i.size=(pre++cs).length:=by simp [hlen]
    rw [e1,q6b _ _ _ hfit] at h9;rw [zai,e1];rw [hs1'] at hlen h4;refine h9.frame fun p hp=>⟨by simp [hlen,hl],.inr ⟨b,pre,post.drop ws.length,e',fr,rfl,hroom,?_,fun h=>by rw [hs1'] at hf; exact hf,by simpa using hp⟩⟩
    rw [z9d,hl];omega
 ·have h48:¬(281474976710656 < Builtin.nextslicecap (n+s.size) c*i.bytes):=by
   have:=growslice_fits (need:=n+s.size) (old:=c) (bytes:=i.bytes) (by omega) hb;omega
  refine⟨.slice (some ⟨w.heap.size,0,none⟩) (n+s.size) (grownCap w (n+s.size) c e),w.drew.alloc (.cells (cs.toArray++ws.toArray++Builtin.zeroCells z.cells (grownCap w (n+s.size) c e - (n+s.size))) e),?_,⟨rfl,rfl,rfl⟩,k _ _ _ ?_⟩
  ·simp [Builtin.append_,run_underlying ht,run_underlying hts,sizeOf,typeInfo,zeroValue,hi,hz,Builtin.lenOf,hroom,h63,h48,Question.forced,hfo,hfd,newRow,grownCap];congr 2;apply Array.ext';simp [z8x]
  ·have h5:Sat w.heap F:=h.drop';have h6:=h5.push (.cells (cs.toArray++ws.toArray++Builtin.zeroCells z.cells (grownCap w (n+s.size) c e - (n+s.size))) e);have hge:=grownCap_ge w (n+s.size) c e;have hs1':i.size=1:=hs1.symm▸rfl;rw [hs1'] at hlen hzs;refine h6.frame fun p hp=>⟨by simp [hlen,hl],.inr ⟨w.heap.size,[],(Builtin.zeroCells z.cells (grownCap w (n+s.size) c e - (n+s.size))).toList,e,(0,0),rfl,hge,?_,fun _ i _ _ hh=>by simp at hh,?_⟩⟩
   ·rw [za0,size_zeroCells,hzs];exact z8v _
   ·have e2:(([]:List Value)++(cs++ws)++(Builtin.zeroCells z.cells (grownCap w (n+s.size) c e - (n+s.size))).toList).toArray=cs.toArray++ws.toArray++Builtin.zeroCells z.cells (grownCap w (n+s.size) c e - (n+s.size)):=by
     apply Array.ext'; simp
    rw [e2];exact hp
end
theorem SatL.appendS {P:Program}{t ts bytes ty e n c:Nat}{a:Option Addr}{cs:List Value}{H:Heap}{L:List Assn}(T:SlT P t e 1 bytes)(hts:P.underlying ts=some .string){s:ByteArray}{K:Value→Heap→Prop}(h:SatL H L)(i:Nat)(hA:nth i L=slA e 1 a n c cs)
  (hb:(n+s.size)*bytes≤140737488355328) (hn:n+s.size≤140737488355328)
  (k:∀a' c' H',SatL H' (put i (slA e 1 a' (n+s.size) c' (cs++(q2j s).map U8)) L)→K (.slice a' (n+s.size) c') H') :
  RunW P (Builtin.append_ #[t,ts] ty #[.slice a n c,.string s]) H K:=by
 have h2:=h.foc i;rw [hA] at h2;exact qub T hts h2 hb hn fun a' c' H' h3=>k a' c' H' (SatL.back h3)
open Go
def qd9 (P:Program)(e:TypeId)(xs ys:List Value):List Nat→Option Bool
 | []=>some true
 | i::r=>match lget xs i,lget ys i with
  | some a,some b=>if q1f (P.underlying e) a && q1f (P.underlying e) b then
    match qn5 a b,qd9 P e xs ys r with
    | some p,some s=>some (p && s)
    | _,_=>none
   else none
  | _,_=>none
def arrEqB (P:Program)(t:TypeId)(xs ys:List Value):Option Bool:=
 match P.underlying t with
 | some (.array n e)=>if P.cellsOf e=1∧P.eqGuardType P.depth t=false∧(P.info? e).isSome=true then qd9 P e xs ys (List.range n) else none
 | _=>none
theorem qi8 {P:Program}{w:World}{e:TypeId}{xs ys:List Value}(d:Nat):∀{is:List Nat} {r:Bool},qd9 P e xs ys is=some r→(Op.eqItems (d+1) e 1 ⟨xs⟩ ⟨ys⟩ is).run P w=.ok r w
 | [],r,h=>by simp [qd9] at h; subst h; simp [Op.eqItems]
 | i::is,r,h=>by
  simp only [qd9] at h
  split at h
  ·rename_i a b hx hy
   split at h
   ·rename_i hp;simp only [z8q] at hp
    split at h
    ·rename_i r1 s hr hs
     cases h
     simp only [Op.eqItems,za9,Sem.run_bind,q7v hp.1 hx,q7v hp.2 hy,Result.andThen_ok,qi2 hp.1 hp.2 hr]
     cases r1
     ·simp
     ·simp [qi8 d hs]
    ·cases h
   ·cases h
  ·cases h
theorem qi9 {P:Program}{t:TypeId}{xs ys:List Value}{r:Bool}(h:arrEqB P t xs ys=some r):q4e P .eql t (.agg ⟨xs⟩) (.agg ⟨ys⟩) r∧q4e P .neq t (.agg ⟨xs⟩) (.agg ⟨ys⟩) (!r):=by
 unfold arrEqB at h
 split at h
 ·rename_i n e hu
  split at h
  ·rename_i hg;obtain⟨i,hi⟩:=zau.1 hg.2.2;have he:∀w,(Op.equalIn 10000 t (.agg ⟨xs⟩) (.agg ⟨ys⟩)).run P w=.ok r w:=by
    intro w;show (Op.equalIn (9998+1+1) t (.agg ⟨xs⟩) (.agg ⟨ys⟩)).run P w=.ok r w;generalize 9998=n;rw [run_equalIn_array w (n+1) ⟨xs⟩ ⟨ys⟩ hu hi,hg.1];exact qi8 n h
   constructor
   ·intro ox oy w;simp only [Sem.run_bind,run_eqGuard_agg w .eql t ox oy ⟨xs⟩ ⟨ys⟩ hg.2.1,Result.andThen_ok,run_eql_struct,he]
   ·intro ox oy w;simp only [Sem.run_bind,run_eqGuard_agg w .neq t ox oy ⟨xs⟩ ⟨ys⟩ hg.2.1,Result.andThen_ok,run_neq_struct,he]
  ·cases h
 ·cases h
open Go Go.ChangeShapes Go.WideShapes Go.ChangeAt Go.RowKit
section
variable {H:Type} {enc:TypeId × Value→H} {P:Program}
theorem qk6 {f:Func}{s:ChangeSpec}{apart fresh handsOn again:Bool}{W W':World}{args:Array Value}{v:Value}{ds gs:List (DataW H)}{before pa pv:List MemPlace}
  (hW:DataW.Whole enc P f.params.toList s.vars apart W args.toList ds gs before)
  (hres:∀(b:Nat) (sp:Nat→Bool) (hd:Bool),DataW.TrodAll enc P W' b sp hd f.resultTypes.toList (v.resultList f.resultTypes.size) (s.fn H (ds++gs)).results [])
  (hargs:∀sp:Nat→Bool,(∀p∈before,sp p.block=true)→DataW.TrodAll enc P W' 0 sp true f.params.toList args.toList (s.fn H (ds++gs)).args pa)
  (hvars:∀sp:Nat→Bool,(∀p∈before,sp p.block=true)→DataW.TrodVars enc P W' sp s.vars (s.fn H (ds++gs)).vars pv)
  (hps:before=pa++pv) (hb:Below W.heap.size W W')
  (hok:∀(j:Nat) (t:TypeId) (r:Value),f.resultTypes[j]?=some t→(v.resultList f.resultTypes.size)[j]?=some r→Value.okWide P W' .any 0 t r) :
  s.post enc P f apart fresh handsOn again W args v W':=by
 have hlt:∀p∈before,p.block < W.heap.size:=fun p hp=>hW.lt p hp
 have hold:∀p∈before,(fun b=>decide (b < W.heap.size)) p.block=true:=fun p hp=>by simpa using hlt p hp
 refine⟨ds,gs,before,[],pa,pv,hW,hres _ _ _,hargs _ hold,hvars _ hold,World.keptBut_mono (fun p hp=>⟨hp,?_⟩) (hb.frame (·∈before)),fun _=>?_⟩
 ·rw [hps,z9q] at hp;exact Or.inr hp
 ·obtain⟨_,_,_,_,_,hz,hn⟩:=hW;refine⟨hok,_,_,([]++pa)++pv,⟨[]++pa,pv,trodAll_append (hargs _ (fun _ _=>rfl)) (hres _ _ _),hvars _ (fun _ _=>rfl),rfl,?_,?_⟩,?_⟩
  ·intro b off hp;have hin:MemPlace.cell b off∈before:=by rw [hps]; simpa using hp
   rw [hb.frozen (hlt _ hin)];exact hz b off hin
  ·intro ha;have:=hn ha;rw [hps] at this;simpa using this
  ·intro p hp _;rw [hps];simpa using hp
theorem qda (hl:laidOutB P=true){W W':World}(hb:Below W.heap.size W W'){sp:Nat→Bool}:∀{ts:List TypeId} {vs:List Value} {ds:List (DataW H)} {ps:List MemPlace},(∀t∈ts,P.readableRec t=true∧t < P.types.size)→
  DataW.TrodAll enc P W 0 (fun _=>true) true ts vs ds ps→(∀x∈ps,x.block < W.heap.size)→(∀x∈ps,sp x.block=true)→DataW.TrodAll enc P W' 0 sp true ts vs ds ps
 | [],[],[],_,_,h,_,_=>h
 | [],[],_::_,_,_,h,_,_=>h.elim
 | [],_::_,_,_,_,h,_,_=>h.elim
 | _::_,[],_,_,_,h,_,_=>h.elim
 | _::_,_::_,[],_,_,h,_,_=>h.elim
 | t::ts,v::vs,d::ds,ps,hr,h,hlt,hsp=>by
  obtain⟨p,q,h1,h2,rfl⟩:=h;have hr1:=hr t (by simp);exact⟨p,q,Go.WideElems.Trod_stays hl hr1.1 hr1.2 h1 (fun x hx=>hb.same (hlt x (by simp [hx]))) (fun x hx=>hsp x (by simp [hx])),qda hl hb (fun t ht=>hr t (by simp [ht])) h2 (fun x hx=>hlt x (by simp [hx])) (fun x hx=>hsp x (by simp [hx])),rfl⟩
theorem z52 {w w':World}(g:Grow w.heap w'.heap)(r:Rest w w'):Below w.heap.size w w':=⟨r.os,r.tape,r.output,g.size,fun k hk=>g k hk⟩
theorem law_post (laid:laidOutB P=true){fid:FuncId}{f:Func}{s:ChangeSpec}{apart fresh handsOn again:Bool}{W:World}{args:Array Value}{ds gs:List (DataW H)}{before:List MemPlace}{tb:TypeId}
  (hW:DataW.Whole enc P f.params.toList s.vars apart W args.toList ds gs before) (hvars:s.vars=[]) (hres:f.resultTypes=#[tb]) (hbool:P.underlying tb=some .bool)
  (hfn:(s.fn H (ds++gs))={ results:=[.lit (.bool true)],args:=ds }) (hread:f.params.toList.all (fun t=>P.readableRec t && decide (t < P.types.size))=true)
  (hc:qcn P fid args W.heap fun v H'=>v=.bool true∧Grow W.heap H') :
  Calls P fid args W fun e W'=>∃v,e=.returned v∧s.post enc P f apart fresh handsOn again W args v W':=by
 refine (hc W rfl).mono fun e W' he=>?_
 cases e <;> simp only [Fin] at he
 obtain⟨hrest,rfl,hg⟩:=he;have hb:=z52 hg hrest;refine⟨_,rfl,?_⟩;have hW':=hW;obtain⟨p,q,hA,hV,hbe,hfz,hnd⟩:=hW;rw [hvars] at hV;obtain⟨rfl,rfl⟩:=trodVars_none hV;have hread':∀t∈f.params.toList,P.readableRec t=true∧t < P.types.size:=fun t ht=>by
  have:=z9p.1 hread t ht;simpa using this
 refine qk6 (pa:=p) (pv:=[]) hW' (fun _ _ _=>?_) (fun sp hsp=>?_) (fun sp _=>?_) hbe hb (ok_one hres rfl (okWide_bool_mk hbool _))
 ·rw [hfn,hres];exact trodAll_cons_mk (shut_bool hbool _) trodAll_mk0
 ·rw [hfn];have hlt:∀x∈p,x.block < W.heap.size:=fun x hx=>hW'.lt x (by rw [hbe]; simp [hx])
  exact qda laid hb hread' hA hlt (fun x hx=>hsp x (by rw [hbe]; simp [hx]))
 ·rw [hvars,hfn]; rfl
end
def qc4 {H:Type}(enc:TypeId × Value→H)(P:Program)(W:World)(t:TypeId)(cs:List Value):Prop:=∃fuel x,DataW.trod enc P W 0 (fun _=>true) true fuel t cs=some x
section
variable {H:Type} {enc:TypeId × Value→H} {P:Program} {W:World}
theorem q0r {t:TypeId}{k:IntKind}{cs:List Value}(ht:P.underlying t=some (.int k))(h:qc4 enc P W t cs):∃n,cs=[.int k n]∧k.min≤n∧n≤k.max:=by
 obtain⟨fuel,x,h⟩:=h;obtain⟨n,h1,_,h2⟩:=DataW.trod_int ht h;simp only [Lit.wf,z8q,z8o] at h2;exact⟨n,h1,h2.1,h2.2⟩
theorem q9x {t:TypeId}{cs:List Value}(ht:P.underlying t=some .string)(h:qc4 enc P W t cs):∃s:ByteArray,cs=[.string s]∧s.size≤maxLen:=by
 obtain⟨fuel,x,h⟩:=h;obtain⟨s,h1,_,h2⟩:=DataW.trod_string ht h;exact⟨s,h1,h2⟩
theorem q47 {t:TypeId}{fs:Array Field}{cs:List Value}(ht:P.underlying t=some (.struct fs))(h:qc4 enc P W t cs) :
  cs.length=P.cellsOf t∧∀f∈fs.toList,qc4 enc P W f.type ((cs.drop f.offset).take (P.cellsOf f.type)):=by
 obtain⟨fuel,x,h⟩:=h;obtain⟨xs,n,_,_,h1,h2,h3⟩:=DataW.trod_struct ht h;refine⟨h1,fun f hf=>?_⟩
 obtain⟨i,hi⟩:=List.getElem?_of_mem hf;have hi':fs[i]?=some f:=by simpa using hi
 have hlt:i < xs.length:=by rw [h2]; have:=(List.getElem?_eq_some_iff.1 hi).1; simpa using this
 have:=h3 i f hi';rw [List.getElem?_eq_getElem hlt] at this;exact⟨n,_,this⟩
theorem qxq {α β:Type}{f:α→Option β}:∀{l:List α} {r:List β},l.mapM f=some r→r.length=l.length∧∀(i:Nat) x,l[i]?=some x→f x=r[i]?
 | [],r,h=>by simp at h; subst h; simp
 | a::l,r,h=>by
  rw [List.mapM_cons] at h
  cases hf:f a with
  | none=>simp [hf] at h
  | some b=>
   cases hg:l.mapM f with
   | none=>simp [hf,hg] at h
   | some bs=>
    simp [hf,hg] at h;subst h;obtain⟨h1,h2⟩:=qxq hg;refine⟨by simp [h1],fun i x hx=>?_⟩
    cases i with
    | zero=>simp at hx; subst hx; simpa using hf
    | succ i=>simpa using h2 i x (by simpa using hx)
theorem cells?_spec {base:Nat}{a:Addr}{n:Nat}{vs:List Value}(h:W.cells? base a n=some vs):vs.length=n∧∀j v,lget vs j=some v→W.cell? (a.add j)=some v:=by
 unfold World.cells? at h
 split at h
 ·obtain⟨h1,h2⟩:=qxq h;rw [List.length_range] at h1;refine⟨h1,fun j v hj=>?_⟩
  have hlt:=q8g hj;rw [h2 j j (by rw [List.getElem?_range (by omega)]),← q0v]; exact hj
 ·cases h
theorem cell?_at {a:Addr}{v:Value}(h:W.cell? a=some v):a=⟨a.block,a.off,none⟩∧q02 W.heap a.block a.off=some v:=by
 unfold World.cell? at h
 split at h
 ·rename_i c x y hb
  split at h
  ·cases h
  ·rename_i hs;refine⟨?_,by unfold q02; rw [hb]; exact h⟩;obtain⟨b,o,s⟩:=a
   cases s <;> simp_all
 ·cases h
theorem quc {t e:TypeId}{cs:List Value}(ht:P.underlying t=some (.slice e))(hs:0 < P.cellsOf e)(h:qc4 enc P W t cs) :
  ∃a n c,cs=[.slice a n c]∧n≤c∧c≤maxLen∧∀i,i < n→∃vs,qc4 enc P W e vs∧vs.length=P.cellsOf e∧a=some ⟨adrB a,adrO a,none⟩∧∀f v,lget vs f=some v→q02 W.heap (adrB a) (adrO a+i*P.cellsOf e+f)=some v:=by
 obtain⟨fuel,x,h⟩:=h
 rcases DataW.trod_slice ht h with ⟨h1,_⟩|⟨a,len,cap,elems,rest,n,_,h1,_,hb,hl,hm,hel,he,_⟩
 ·exact⟨none,0,0,h1,z8v _,z9c _,fun i hi=>absurd hi (by omega)⟩
 ·have each:∀i,i < len→∃vs,W.cells? 0 (a.add (i*P.cellsOf e)) (P.cellsOf e)=some vs∧qc4 enc P W e vs:=by
   intro i hi;have h2:=he i hi;rw [List.getElem?_eq_getElem (by omega)] at h2;obtain⟨vs,h3,h4⟩:=Option.bind_eq_some_iff.1 h2;exact⟨vs,h3,n,_,h4⟩
  refine⟨some a,len,cap,h1,hl,hm,fun i hi=>?_⟩
  have hspot:a=⟨a.block,a.off,none⟩:=by
   obtain⟨vs,h3,_⟩:=each 0 (by omega);obtain⟨h4,h5⟩:=cells?_spec h3;have h6:=h5 0 _ (qd3 (by omega));simp only [Nat.zero_mul] at h6;have h7:(a.add 0).add 0=a:=by simp [Addr.add]
   rw [h7] at h6;exact (cell?_at h6).1
  obtain⟨vs,h3,h4⟩:=each i hi;obtain⟨h5,h6⟩:=cells?_spec h3;refine⟨vs,h4,h5,by rw [adrB,adrO,← hspot],fun f v hf=>?_⟩
  have h7:=h6 f v hf;rw [hspot,q3h,q3h] at h7;exact (cell?_at h7).2
theorem z54 {α:Type}{n:Nat}{Q:Nat→α→Prop}(h:∀i,i < n→∃x,Q i x):∃xs:List α,xs.length=n∧∀i (hi:i < xs.length),Q i xs[i]:=by
 induction n with
 | zero=>exact⟨[],rfl,fun i hi=>absurd hi (by simp)⟩
 | succ n ih=>
  obtain⟨xs,h1,h2⟩:=ih fun i hi=>h i (by omega)
  obtain⟨x,hx⟩:=h n (by omega);refine⟨xs++[x],by simp [h1],fun i hi=>?_⟩
  by_cases e:i < xs.length
  ·rw [List.getElem_append_left e]; exact h2 i e
  ·have:i=n:=by simp at hi; omega
   subst this;rw [List.getElem_append_right (by omega)];simp [h1]; exact hx
theorem qet {α:Type}{ec:α→List Value}{Q:α→Prop}{t e sz:TypeId}{cs:List Value}(ht:P.underlying t=some (.slice e))(hs:P.cellsOf e=sz)(hp:0 < sz)(h:qc4 enc P W t cs)
  (el:∀vs,qc4 enc P W e vs→vs.length=sz→∃x,vs=ec x∧Q x) (hec:∀x,(ec x).length=sz) :
  ∃a c xs,cs=[.slice a xs.length c]∧xs.length≤maxLen∧rdS W.heap a (flat ec xs)∧∀x∈xs,Q x:=by
 subst hs;obtain⟨a,n,c,h1,h2,h3,h4⟩:=quc ht hp h;have h5:∀i,i < n→∃x:α,Q x∧a=some ⟨adrB a,adrO a,none⟩∧∀f v,lget (ec x) f=some v→q02 W.heap (adrB a) (adrO a+i*P.cellsOf e+f)=some v:=by
  intro i hi;obtain⟨vs,r1,r2,r3,r4⟩:=h4 i hi;obtain⟨x,rfl,hq⟩:=el vs r1 r2;exact⟨x,hq,r3,r4⟩
 obtain⟨xs,h6,h7⟩:=z54 h5;refine⟨a,c,xs,by rw [h6]; exact h1,by omega,fun j v hj=>?_,fun x hx=>?_⟩
 ·have hlt:=q8g hj;rw [q0l hec] at hlt;have hk:j / P.cellsOf e < xs.length:=Nat.div_lt_of_lt_mul (by rw [Nat.mul_comm]; exact hlt);have hf:j % P.cellsOf e < P.cellsOf e:=za1 _ hp;have hj2:j / P.cellsOf e*P.cellsOf e+j % P.cellsOf e=j:=by rw [Nat.mul_comm]; exact Nat.div_add_mod _ _
  obtain⟨_,g1,g2⟩:=h7 _ hk;refine⟨g1,?_⟩;have:=g2 (j % P.cellsOf e) v (by rw [← qd5 hec hk _ hf,hj2]; exact hj);rw [z9w,hj2] at this;exact this
 ·obtain⟨i,hi,rfl⟩:=zas hx;exact (h7 i hi).1
theorem args_cons {t:TypeId}{ts:List TypeId}{vs:List Value}{ds:List (DataW H)}{ps:List MemPlace}(h:DataW.TrodAll enc P W 0 (fun _=>true) true (t::ts) vs ds ps) :
  ∃v r d ds' ps',vs=v::r∧ds=d::ds'∧qc4 enc P W t v.cells.toList∧DataW.TrodAll enc P W 0 (fun _=>true) true ts r ds' ps':=by
 cases vs with
 | nil=>exact h.elim
 | cons v r=>
  cases ds with
  | nil=>exact h.elim
  | cons d ds'=>
   obtain⟨p,q,⟨fuel,h1⟩,h2,_⟩:=h;exact⟨v,r,d,ds',q,rfl,rfl,⟨fuel,_,h1⟩,h2⟩
theorem args_nil {vs:List Value}{ds:List (DataW H)}{ps:List MemPlace}(h:DataW.TrodAll enc P W 0 (fun _=>true) true [] vs ds ps):vs=[]:=by
 cases vs with
 | nil=>rfl
 | cons v r=>exact h.elim
end
open Go
def partV (P:Program)(t:TypeId)(xs:List Value)(o:Nat):Option Value:=
 match P.underlying t with
 | none=>none
 | some (.struct _)=>if (P.info? t).isSome then some (.agg ⟨(xs.drop o).take (P.cellsOf t)⟩) else none
 | some (.array _ _)=>if (P.info? t).isSome then some (.agg ⟨(xs.drop o).take (P.cellsOf t)⟩) else none
 | some (.int _)=>lget xs o
 | some .bool=>lget xs o
 | some .string=>lget xs o
 | _=>none
def qud (P:Program):Nat→TypeId→Value→Bool
 | 0,_,_=>false
 | n+1,t,v=>match P.underlying t,v with
  | some (.int _),.int _ _=>true
  | some .bool,.bool _=>true
  | some .string,.string _=>true
  | some (.struct fs),.agg xs=>!P.stoodInHeld t && fs.toList.all fun f=>(f.name != "_") && match partV P f.type xs.toList f.offset with
   | some a=>qud P n f.type a
   | none=>false
  | some (.array k e),.agg xs=>(P.info? e).isSome && (List.range k).all fun i=>match partV P e xs.toList (i*P.cellsOf e) with
   | some a=>qud P n e a
   | none=>false
  | _,_=>false
theorem qqb {P:Program}{w:World}{t:TypeId}{xs:Array Value}{o:Nat}{a:Value}(h:partV P t xs.toList o=some a):(part t xs o).run P w=.ok a w:=by
 unfold partV at h
 cases hu:P.underlying t with
 | none=>rw [hu] at h; cases h
 | some k=>
  rw [hu] at h;obtain⟨xs⟩:=xs
  cases k <;> dsimp only at h
  case int=>rw [q0v] at h; simp [part,isAgg,run_underlying hu,h]
  case bool=>rw [q0v] at h; simp [part,isAgg,run_underlying hu,h]
  case string=>rw [q0v] at h; simp [part,isAgg,run_underlying hu,h]
  case struct fs=>
   split at h
   ·rename_i hi;obtain⟨i,hi⟩:=zau.1 hi
    cases h
    simp [part,isAgg,run_underlying hu,run_sizeOf w hi,List.extract_eq_take_drop]
   ·cases h
  case array n e=>
   split at h
   ·rename_i hi;obtain⟨i,hi⟩:=zau.1 hi
    cases h
    simp [part,isAgg,run_underlying hu,run_sizeOf w hi,List.extract_eq_take_drop]
   ·cases h
  all_goals cases h
theorem qxr {P:Program}:∀(n:Nat) {t:TypeId} {v:Value},qud P n t v=true→∀(d:Nat) (w:World),n≤d→(Op.equalIn d t v v).run P w=.ok true w
 | 0,t,v,h,d,w,hd=>by simp [qud] at h
 | n+1,t,v,h,0,w,hd=>by omega
 | n+1,t,v,h,d+1,w,hd=>by
  have ih:=@qxr P n
  cases hu:P.underlying t with
  | none=>unfold qud at h; rw [hu] at h; cases h
  | some k=>
   cases k <;> cases v <;> (unfold qud at h; rw [hu] at h; dsimp only at h) <;> try (cases h)
   case some.int.int.refl=>simp [Op.equalIn,run_underlying hu]
   case some.bool.bool.refl=>simp [Op.equalIn,run_underlying hu]
   case some.string.string.refl=>simp [Op.equalIn,run_underlying hu,beq_toListBytes]
   case some.struct.agg fs xs=>
    have hf:P.fieldsOf t=fs:=by simp [Program.fieldsOf,hu]
    have hu':P.underlying t=some (.struct (P.fieldsOf t)):=by rw [hf]; exact hu
    rw [z8q] at h;rw [run_equalIn_struct w d t xs xs hu' (by simpa using h.1),hf];have h2:=h.2;generalize fs.toList=l at h2
    induction l with
    | nil=>simp [Op.eqFields]
    | cons f l il=>
     rw [List.all_cons,z8q,z8q] at h2;obtain⟨⟨h3,h4⟩,h5⟩:=h2
     split at h4
     ·rename_i a ha;have hn:f.name≠ "_":=by simpa using h3
      simp only [Op.eqFields,ne_eq,hn,not_false_eq_true,if_true,Sem.run_bind,qqb ha,Result.andThen_ok,ih h4 d w (by omega)];simpa using il h5
     ·cases h4
   case some.array.agg k e xs=>
    rw [z8q] at h;obtain⟨i,hi⟩:=zau.1 h.1;rw [run_equalIn_array w d xs xs hu hi];have h2:=h.2;generalize List.range k=l at h2
    induction l with
    | nil=>simp [Op.eqItems]
    | cons j l il=>
     rw [List.all_cons,z8q] at h2;obtain⟨h4,h5⟩:=h2
     split at h4
     ·rename_i a ha;simp only [Op.eqItems,Sem.run_bind,qqb ha,Result.andThen_ok,ih h4 d w (by omega)];simpa using il h5
     ·cases h4
theorem self_eql {P:Program}{t:TypeId}{xs:Array Value}{n:Nat}(hg:P.eqGuardType P.depth t=false)(h:qud P n t (.agg xs)=true)(hn:n≤10000):q4e P .eql t (.agg xs) (.agg xs) true∧q4e P .neq t (.agg xs) (.agg xs) false:=by
 have he:∀w,(Op.equalIn 10000 t (.agg xs) (.agg xs)).run P w=.ok true w:=fun w=>qxr n h 10000 w hn
 constructor
 ·intro ox oy w;simp only [Sem.run_bind,run_eqGuard_agg w .eql t ox oy xs xs hg,Result.andThen_ok,run_eql_struct,he]
 ·intro ox oy w;simp only [Sem.run_bind,run_eqGuard_agg w .neq t ox oy xs xs hg,Result.andThen_ok,run_neq_struct,he];rfl
end Go.Nm
namespace Go.Proofs
open Go.Shelf
def Tryz.keysA_ren:Go.Shelf.Ren:=⟨fun|7=>123|10=>178|n=>n,fun|23=>206|26=>2|3=>78|28=>219|0=>0|27=>218|33=>189|4=>4|n=>n,fun|n=>n⟩
theorem Tryz.keysA:Go.Proofs.SlLaysZI.n7 Tryz.prog Tryz.keysA_ren:={
 mixed:=by kernel_rfl
 f7:=⟨Tryz.f123.name,by decide,Tryz.func123.trans (congrArg some (by kernel_rfl))⟩
 f10:=⟨Tryz.f178.name,by decide,Tryz.func178.trans (congrArg some (by kernel_rfl))⟩
 t0:=Tryz.underlying0
 a0:=Tryz.isAgg0
 z0:=Tryz.sizeOf0
 v0:=Tryz.zeroValue0
 t4:=Tryz.underlying4
 a4:=Tryz.isAgg4
 z4:=Tryz.sizeOf4
 v4:=Tryz.zeroValue4
 t23:=Tryz.underlying206
 a23:=Tryz.isAgg206
 z23:=Tryz.sizeOf206
 v23:=Tryz.zeroValue206
 t26:=Tryz.underlying2
 a26:=Tryz.isAgg2
 z26:=Tryz.sizeOf2
 v26:=Tryz.zeroValue2
 t27:=Tryz.underlying218
 a27:=Tryz.isAgg218
 z27:=Tryz.sizeOf218
 v27:=Tryz.zeroValue218
 t28:=Tryz.underlying219
 a28:=Tryz.isAgg219
 z28:=Tryz.sizeOf219
 v28:=Tryz.zeroValue219
 t33:=Tryz.underlying189
 a33:=Tryz.isAgg189
 z33:=Tryz.sizeOf189
 v33:=Tryz.zeroValue189 }
def Tryz.keysA2_ren:Go.Shelf.Ren:=⟨fun|7=>154|10=>199|n=>n,fun|23=>209|26=>2|3=>95|28=>219|0=>0|27=>218|33=>189|4=>4|n=>n,fun|n=>n⟩
theorem Tryz.keysA2:Go.Proofs.SlLaysZI.n7 Tryz.prog Tryz.keysA2_ren:={
 mixed:=by kernel_rfl
 f7:=⟨Tryz.f154.name,by decide,Tryz.func154.trans (congrArg some (by kernel_rfl))⟩
 f10:=⟨Tryz.f199.name,by decide,Tryz.func199.trans (congrArg some (by kernel_rfl))⟩
 t0:=Tryz.underlying0
 a0:=Tryz.isAgg0
 z0:=Tryz.sizeOf0
 v0:=Tryz.zeroValue0
 t4:=Tryz.underlying4
 a4:=Tryz.isAgg4
 z4:=Tryz.sizeOf4
 v4:=Tryz.zeroValue4
 t23:=Tryz.underlying209
 a23:=Tryz.isAgg209
 z23:=Tryz.sizeOf209
 v23:=Tryz.zeroValue209
 t26:=Tryz.underlying2
 a26:=Tryz.isAgg2
 z26:=Tryz.sizeOf2
 v26:=Tryz.zeroValue2
 t27:=Tryz.underlying218
 a27:=Tryz.isAgg218
 z27:=Tryz.sizeOf218
 v27:=Tryz.zeroValue218
 t28:=Tryz.underlying219
 a28:=Tryz.isAgg219
 z28:=Tryz.sizeOf219
 v28:=Tryz.zeroValue219
 t33:=Tryz.underlying189
 a33:=Tryz.isAgg189
 z33:=Tryz.sizeOf189
 v33:=Tryz.zeroValue189 }
def Tryz.keysA3_ren:Go.Shelf.Ren:=⟨fun|7=>227|10=>264|n=>n,fun|23=>116|26=>2|3=>80|28=>219|0=>0|27=>218|33=>189|4=>4|n=>n,fun|n=>n⟩
theorem Tryz.keysA3:Go.Proofs.SlLaysZI.n7 Tryz.prog Tryz.keysA3_ren:={
 mixed:=by kernel_rfl
 f7:=⟨Tryz.f227.name,by decide,Tryz.func227.trans (congrArg some (by kernel_rfl))⟩
 f10:=⟨Tryz.f264.name,by decide,Tryz.func264.trans (congrArg some (by kernel_rfl))⟩
 t0:=Tryz.underlying0
 a0:=Tryz.isAgg0
 z0:=Tryz.sizeOf0
 v0:=Tryz.zeroValue0
 t4:=Tryz.underlying4
 a4:=Tryz.isAgg4
 z4:=Tryz.sizeOf4
 v4:=Tryz.zeroValue4
 t23:=Tryz.underlying116
 a23:=Tryz.isAgg116
 z23:=Tryz.sizeOf116
 v23:=Tryz.zeroValue116
 t26:=Tryz.underlying2
 a26:=Tryz.isAgg2
 z26:=Tryz.sizeOf2
 v26:=Tryz.zeroValue2
 t27:=Tryz.underlying218
 a27:=Tryz.isAgg218
 z27:=Tryz.sizeOf218
 v27:=Tryz.zeroValue218
 t28:=Tryz.underlying219
 a28:=Tryz.isAgg219
 z28:=Tryz.sizeOf219
 v28:=Tryz.zeroValue219
 t33:=Tryz.underlying189
 a33:=Tryz.isAgg189
 z33:=Tryz.sizeOf189
 v33:=Tryz.zeroValue189 }
def Tryz.sortedA_ren:Go.Shelf.Ren:=⟨fun|6=>122|8=>176|9=>177|11=>211|13=>213|12=>212|23=>246|24=>152|14=>237|15=>238|16=>239|17=>240|18=>241|19=>242|20=>243|21=>244|22=>245|25=>271|26=>272|27=>273|28=>274|29=>275|30=>216|31=>285|n=>n,fun|26=>2|28=>219|24=>164|0=>0|3=>3|37=>251|48=>350|50=>56|4=>4|40=>343|39=>342|45=>347|5=>5|9=>9|51=>371|55=>374|57=>385|58=>386|33=>189|n=>n,fun|n=>n⟩
theorem Tryz.sortedA:Go.Proofs.SlLaysZI.n6 Tryz.prog Tryz.sortedA_ren:={
 mixed:=by kernel_rfl
 f6:=⟨Tryz.f122.name,by decide,Tryz.func122.trans (congrArg some (by kernel_rfl))⟩
 f8:=⟨Tryz.f176.name,by decide,Tryz.func176.trans (congrArg some (by kernel_rfl))⟩
 f11:=⟨Tryz.f211.name,by decide,Tryz.func211.trans (congrArg some (by kernel_rfl))⟩
 t0:=Tryz.underlying0
 a0:=Tryz.isAgg0
 z0:=Tryz.sizeOf0
 v0:=Tryz.zeroValue0
 t24:=Tryz.underlying164
 a24:=Tryz.isAgg164
 z24:=Tryz.sizeOf164
 v24:=Tryz.zeroValue164
 t26:=Tryz.underlying2
 a26:=Tryz.isAgg2
 z26:=Tryz.sizeOf2
 v26:=Tryz.zeroValue2
 t28:=Tryz.underlying219
 a28:=Tryz.isAgg219
 z28:=Tryz.sizeOf219
 v28:=Tryz.zeroValue219
 i26:=by kernel_rfl }
def Tryz.sortA_ren:Go.Shelf.Ren:=⟨fun|5=>177|8=>213|7=>212|19=>246|20=>152|10=>237|11=>238|12=>239|13=>240|14=>241|15=>242|16=>243|17=>244|18=>245|30=>271|31=>272|32=>273|33=>274|34=>275|35=>216|40=>285|n=>n,fun|23=>164|25=>2|3=>3|32=>251|22=>164|0=>0|44=>350|46=>56|4=>4|36=>343|35=>342|41=>347|5=>5|9=>9|53=>371|57=>374|63=>385|64=>386|n=>n,fun|n=>n⟩
theorem Tryz.sortA:Go.Proofs.SlLaysM.n5 Tryz.prog Tryz.sortA_ren:={
 mixed:=by kernel_rfl
 f5:=⟨Tryz.f177.name,by decide,Tryz.func177.trans (congrArg some (by kernel_rfl))⟩
 f7:=⟨Tryz.f212.name,by decide,Tryz.func212.trans (congrArg some (by kernel_rfl))⟩
 f8:=Tryz.func213.trans (congrArg some (by kernel_rfl))
 f10:=⟨Tryz.f237.name,by decide,Tryz.func237.trans (congrArg some (by kernel_rfl))⟩
 f11:=⟨Tryz.f238.name,by decide,Tryz.func238.trans (congrArg some (by kernel_rfl))⟩
 f12:=⟨Tryz.f239.name,by decide,Tryz.func239.trans (congrArg some (by kernel_rfl))⟩
 f13:=⟨Tryz.f240.name,by decide,Tryz.func240.trans (congrArg some (by kernel_rfl))⟩
 f14:=⟨Tryz.f241.name,by decide,Tryz.func241.trans (congrArg some (by kernel_rfl))⟩
 f15:=⟨Tryz.f242.name,by decide,Tryz.func242.trans (congrArg some (by kernel_rfl))⟩
 f16:=⟨Tryz.f243.name,by decide,Tryz.func243.trans (congrArg some (by kernel_rfl))⟩
 f17:=⟨Tryz.f244.name,by decide,Tryz.func244.trans (congrArg some (by kernel_rfl))⟩
 f18:=⟨Tryz.f245.name,by decide,Tryz.func245.trans (congrArg some (by kernel_rfl))⟩
 f19:=Tryz.func246.trans (congrArg some (by kernel_rfl))
 f20:=Tryz.func152.trans (congrArg some (by kernel_rfl))
 f30:=⟨Tryz.f271.name,by decide,Tryz.func271.trans (congrArg some (by kernel_rfl))⟩
 f31:=Tryz.func272.trans (congrArg some (by kernel_rfl))
 f32:=Tryz.func273.trans (congrArg some (by kernel_rfl))
 f33:=⟨Tryz.f274.name,by decide,Tryz.func274.trans (congrArg some (by kernel_rfl))⟩
 f34:=⟨Tryz.f275.name,by decide,Tryz.func275.trans (congrArg some (by kernel_rfl))⟩
 f35:=⟨Tryz.f216.name,by decide,Tryz.func216.trans (congrArg some (by kernel_rfl))⟩
 f40:=⟨Tryz.f285.name,by decide,Tryz.func285.trans (congrArg some (by kernel_rfl))⟩
 t0:=Tryz.underlying0
 a0:=Tryz.isAgg0
 z0:=Tryz.sizeOf0
 v0:=Tryz.zeroValue0
 t3:=Tryz.underlying3
 a3:=Tryz.isAgg3
 z3:=Tryz.sizeOf3
 v3:=Tryz.zeroValue3
 t4:=Tryz.underlying4
 a4:=Tryz.isAgg4
 z4:=Tryz.sizeOf4
 v4:=Tryz.zeroValue4
 t5:=Tryz.underlying5
 a5:=Tryz.isAgg5
 z5:=Tryz.sizeOf5
 v5:=Tryz.zeroValue5
 t9:=Tryz.underlying9
 a9:=Tryz.isAgg9
 z9:=Tryz.sizeOf9
 v9:=Tryz.zeroValue9
 t22:=Tryz.underlying164
 a22:=Tryz.isAgg164
 z22:=Tryz.sizeOf164
 v22:=Tryz.zeroValue164
 t23:=Tryz.underlying164
 a23:=Tryz.isAgg164
 z23:=Tryz.sizeOf164
 v23:=Tryz.zeroValue164
 t25:=Tryz.underlying2
 a25:=Tryz.isAgg2
 z25:=Tryz.sizeOf2
 v25:=Tryz.zeroValue2
 t32:=Tryz.underlying251
 a32:=Tryz.isAgg251
 z32:=Tryz.sizeOf251
 v32:=Tryz.zeroValue251
 t35:=Tryz.underlying342
 a35:=Tryz.isAgg342
 z35:=Tryz.sizeOf342
 v35:=Tryz.zeroValue342
 t36:=Tryz.underlying343
 a36:=Tryz.isAgg343
 z36:=Tryz.sizeOf343
 v36:=Tryz.zeroValue343
 t41:=Tryz.underlying347
 a41:=Tryz.isAgg347
 z41:=Tryz.sizeOf347
 v41:=Tryz.zeroValue347
 t44:=Tryz.underlying350
 a44:=Tryz.isAgg350
 z44:=Tryz.sizeOf350
 v44:=Tryz.zeroValue350
 t46:=Tryz.underlying56
 a46:=Tryz.isAgg56
 z46:=Tryz.sizeOf56
 v46:=Tryz.zeroValue56
 t53:=Tryz.underlying371
 a53:=Tryz.isAgg371
 z53:=Tryz.sizeOf371
 v53:=Tryz.zeroValue371
 t57:=Tryz.underlying374
 a57:=Tryz.isAgg374
 z57:=Tryz.sizeOf374
 v57:=Tryz.zeroValue374
 t63:=Tryz.underlying385
 a63:=Tryz.isAgg385
 z63:=Tryz.sizeOf385
 v63:=Tryz.zeroValue385
 t64:=Tryz.underlying386
 a64:=Tryz.isAgg386
 z64:=Tryz.sizeOf386
 v64:=Tryz.zeroValue386 }
def Tryz.cloneA_ren:Go.Shelf.Ren:=⟨fun|5=>121|7=>175|n=>n,fun|23=>206|25=>2|3=>78|4=>4|20=>20|n=>n,fun|n=>n⟩
theorem Tryz.cloneA:Go.Proofs.SlLaysW.n5 Tryz.prog Tryz.cloneA_ren:={
 mixed:=by kernel_rfl
 f5:=⟨Tryz.f121.name,by decide,Tryz.func121.trans (congrArg some (by kernel_rfl))⟩
 f7:=Tryz.func175.trans (congrArg some (by kernel_rfl))
 t4:=Tryz.underlying4
 a4:=Tryz.isAgg4
 z4:=Tryz.sizeOf4
 v4:=Tryz.zeroValue4
 t20:=Tryz.underlying20
 a20:=Tryz.isAgg20
 z20:=Tryz.sizeOf20
 v20:=Tryz.zeroValue20
 t23:=Tryz.underlying206
 a23:=Tryz.isAgg206
 z23:=Tryz.sizeOf206
 v23:=Tryz.zeroValue206 }
def Tryz.cloneA2_ren:Go.Shelf.Ren:=⟨fun|5=>156|7=>175|n=>n,fun|23=>116|25=>2|3=>80|4=>4|20=>20|n=>n,fun|n=>n⟩
theorem Tryz.cloneA2:Go.Proofs.SlLaysW.n5 Tryz.prog Tryz.cloneA2_ren:={
 mixed:=by kernel_rfl
 f5:=⟨Tryz.f156.name,by decide,Tryz.func156.trans (congrArg some (by kernel_rfl))⟩
 f7:=Tryz.func175.trans (congrArg some (by kernel_rfl))
 t4:=Tryz.underlying4
 a4:=Tryz.isAgg4
 z4:=Tryz.sizeOf4
 v4:=Tryz.zeroValue4
 t20:=Tryz.underlying20
 a20:=Tryz.isAgg20
 z20:=Tryz.sizeOf20
 v20:=Tryz.zeroValue20
 t23:=Tryz.underlying116
 a23:=Tryz.isAgg116
 z23:=Tryz.sizeOf116
 v23:=Tryz.zeroValue116 }
def Tryz.cloneA3_ren:Go.Shelf.Ren:=⟨fun|5=>157|7=>175|n=>n,fun|23=>209|25=>2|3=>95|4=>4|20=>20|n=>n,fun|n=>n⟩
theorem Tryz.cloneA3:Go.Proofs.SlLaysW.n5 Tryz.prog Tryz.cloneA3_ren:={
 mixed:=by kernel_rfl
 f5:=⟨Tryz.f157.name,by decide,Tryz.func157.trans (congrArg some (by kernel_rfl))⟩
 f7:=Tryz.func175.trans (congrArg some (by kernel_rfl))
 t4:=Tryz.underlying4
 a4:=Tryz.isAgg4
 z4:=Tryz.sizeOf4
 v4:=Tryz.zeroValue4
 t20:=Tryz.underlying20
 a20:=Tryz.isAgg20
 z20:=Tryz.sizeOf20
 v20:=Tryz.zeroValue20
 t23:=Tryz.underlying209
 a23:=Tryz.isAgg209
 z23:=Tryz.sizeOf209
 v23:=Tryz.zeroValue209 }
open Go.Shelf
def Tryz.sortKA_ren:Go.Shelf.Ren:=⟨fun|6=>180|15=>213|14=>215|28=>246|29=>152|20=>247|21=>248|22=>249|23=>250|24=>251|25=>252|26=>253|27=>254|46=>276|47=>272|48=>273|49=>277|50=>278|57=>286|n=>n,fun|22=>225|24=>55|25=>230|3=>3|39=>251|0=>0|53=>350|55=>56|4=>4|46=>343|45=>342|50=>347|5=>5|9=>9|66=>371|70=>374|76=>385|77=>386|n=>n,fun|n=>n⟩
theorem Tryz.sortKA:Go.Proofs.SlLaysF0.n6 Tryz.prog Tryz.sortKA_ren:={
 mixed:=by kernel_rfl
 f6:=⟨Tryz.f180.name,by decide,Tryz.func180.trans (congrArg some (by kernel_rfl))⟩
 f14:=⟨Tryz.f215.name,by decide,Tryz.func215.trans (congrArg some (by kernel_rfl))⟩
 f15:=Tryz.func213.trans (congrArg some (by kernel_rfl))
 f20:=⟨Tryz.f247.name,by decide,Tryz.func247.trans (congrArg some (by kernel_rfl))⟩
 f21:=⟨Tryz.f248.name,by decide,Tryz.func248.trans (congrArg some (by kernel_rfl))⟩
 f22:=⟨Tryz.f249.name,by decide,Tryz.func249.trans (congrArg some (by kernel_rfl))⟩
 f23:=⟨Tryz.f250.name,by decide,Tryz.func250.trans (congrArg some (by kernel_rfl))⟩
 f24:=⟨Tryz.f251.name,by decide,Tryz.func251.trans (congrArg some (by kernel_rfl))⟩
 f25:=⟨Tryz.f252.name,by decide,Tryz.func252.trans (congrArg some (by kernel_rfl))⟩
 f26:=⟨Tryz.f253.name,by decide,Tryz.func253.trans (congrArg some (by kernel_rfl))⟩
 f27:=⟨Tryz.f254.name,by decide,Tryz.func254.trans (congrArg some (by kernel_rfl))⟩
 f28:=Tryz.func246.trans (congrArg some (by kernel_rfl))
 f29:=Tryz.func152.trans (congrArg some (by kernel_rfl))
 f46:=⟨Tryz.f276.name,by decide,Tryz.func276.trans (congrArg some (by kernel_rfl))⟩
 f47:=Tryz.func272.trans (congrArg some (by kernel_rfl))
 f48:=Tryz.func273.trans (congrArg some (by kernel_rfl))
 f49:=⟨Tryz.f277.name,by decide,Tryz.func277.trans (congrArg some (by kernel_rfl))⟩
 f50:=⟨Tryz.f278.name,by decide,Tryz.func278.trans (congrArg some (by kernel_rfl))⟩
 f57:=⟨Tryz.f286.name,by decide,Tryz.func286.trans (congrArg some (by kernel_rfl))⟩
 t0:=Tryz.underlying0
 a0:=Tryz.isAgg0
 z0:=Tryz.sizeOf0
 v0:=Tryz.zeroValue0
 t3:=Tryz.underlying3
 a3:=Tryz.isAgg3
 z3:=Tryz.sizeOf3
 v3:=Tryz.zeroValue3
 t4:=Tryz.underlying4
 a4:=Tryz.isAgg4
 z4:=Tryz.sizeOf4
 v4:=Tryz.zeroValue4
 t5:=Tryz.underlying5
 a5:=Tryz.isAgg5
 z5:=Tryz.sizeOf5
 v5:=Tryz.zeroValue5
 t9:=Tryz.underlying9
 a9:=Tryz.isAgg9
 z9:=Tryz.sizeOf9
 v9:=Tryz.zeroValue9
 t22:=Tryz.underlying225
 a22:=Tryz.isAgg225
 z22:=Tryz.sizeOf225
 v22:=Tryz.zeroValue225
 t25:=Tryz.underlying230
 a25:=Tryz.isAgg230
 z25:=Tryz.sizeOf230
 v25:=Tryz.zeroValue230
 t39:=Tryz.underlying251
 a39:=Tryz.isAgg251
 z39:=Tryz.sizeOf251
 v39:=Tryz.zeroValue251
 t45:=Tryz.underlying342
 a45:=Tryz.isAgg342
 z45:=Tryz.sizeOf342
 v45:=Tryz.zeroValue342
 t46:=Tryz.underlying343
 a46:=Tryz.isAgg343
 z46:=Tryz.sizeOf343
 v46:=Tryz.zeroValue343
 t50:=Tryz.underlying347
 a50:=Tryz.isAgg347
 z50:=Tryz.sizeOf347
 v50:=Tryz.zeroValue347
 t53:=Tryz.underlying350
 a53:=Tryz.isAgg350
 z53:=Tryz.sizeOf350
 v53:=Tryz.zeroValue350
 t55:=Tryz.underlying56
 a55:=Tryz.isAgg56
 z55:=Tryz.sizeOf56
 v55:=Tryz.zeroValue56
 t66:=Tryz.underlying371
 a66:=Tryz.isAgg371
 z66:=Tryz.sizeOf371
 v66:=Tryz.zeroValue371
 t70:=Tryz.underlying374
 a70:=Tryz.isAgg374
 z70:=Tryz.sizeOf374
 v70:=Tryz.zeroValue374
 t76:=Tryz.underlying385
 a76:=Tryz.isAgg385
 z76:=Tryz.sizeOf385
 v76:=Tryz.zeroValue385
 t77:=Tryz.underlying386
 a77:=Tryz.isAgg386
 z77:=Tryz.sizeOf386
 v77:=Tryz.zeroValue386 }
def Tryz.cloneA4_ren:Go.Shelf.Ren:=⟨fun|5=>128|7=>175|n=>n,fun|23=>198|25=>55|3=>62|4=>4|20=>20|n=>n,fun|n=>n⟩
theorem Tryz.cloneA4:Go.Proofs.SlLaysW.n5 Tryz.prog Tryz.cloneA4_ren:={
 mixed:=by kernel_rfl
 f5:=⟨Tryz.f128.name,by decide,Tryz.func128.trans (congrArg some (by kernel_rfl))⟩
 f7:=Tryz.func175.trans (congrArg some (by kernel_rfl))
 t4:=Tryz.underlying4
 a4:=Tryz.isAgg4
 z4:=Tryz.sizeOf4
 v4:=Tryz.zeroValue4
 t20:=Tryz.underlying20
 a20:=Tryz.isAgg20
 z20:=Tryz.sizeOf20
 v20:=Tryz.zeroValue20
 t23:=Tryz.underlying198
 a23:=Tryz.isAgg198
 z23:=Tryz.sizeOf198
 v23:=Tryz.zeroValue198 }
def Tryz.joinA_ren:Go.Shelf.Ren:=⟨fun|156=>220|165=>259|166=>260|169=>261|240=>280|241=>281|276=>287|277=>288|n=>n,fun|31=>294|9=>9|3=>3|4=>4|0=>0|20=>20|72=>360|76=>364|70=>358|37=>24|75=>363|127=>378|164=>389|5=>5|80=>300|n=>n,fun|n=>n⟩
theorem Tryz.joinA:Go.Proofs.Lays.n156 Tryz.prog Tryz.joinA_ren:={
 mixed:=by kernel_rfl
 f156:=Tryz.func220.trans (congrArg some (by kernel_rfl))
 f165:=Tryz.func259.trans (congrArg some (by kernel_rfl))
 f166:=Tryz.func260.trans (congrArg some (by kernel_rfl))
 f169:=Tryz.func261.trans (congrArg some (by kernel_rfl))
 f240:=Tryz.func280.trans (congrArg some (by kernel_rfl))
 f241:=Tryz.func281.trans (congrArg some (by kernel_rfl))
 f276:=Tryz.func287.trans (congrArg some (by kernel_rfl))
 f277:=Tryz.func288.trans (congrArg some (by kernel_rfl))
 t0:=Tryz.underlying0
 a0:=Tryz.isAgg0
 z0:=Tryz.sizeOf0
 v0:=Tryz.zeroValue0
 t3:=Tryz.underlying3
 a3:=Tryz.isAgg3
 z3:=Tryz.sizeOf3
 v3:=Tryz.zeroValue3
 t4:=Tryz.underlying4
 a4:=Tryz.isAgg4
 z4:=Tryz.sizeOf4
 v4:=Tryz.zeroValue4
 t9:=Tryz.underlying9
 a9:=Tryz.isAgg9
 z9:=Tryz.sizeOf9
 v9:=Tryz.zeroValue9
 t20:=Tryz.underlying20
 a20:=Tryz.isAgg20
 z20:=Tryz.sizeOf20
 v20:=Tryz.zeroValue20
 t31:=Tryz.underlying294
 a31:=Tryz.isAgg294
 z31:=Tryz.sizeOf294
 v31:=Tryz.zeroValue294
 t37:=Tryz.underlying24
 a37:=Tryz.isAgg24
 z37:=Tryz.sizeOf24
 v37:=Tryz.zeroValue24
 t70:=Tryz.underlying358
 a70:=Tryz.isAgg358
 z70:=Tryz.sizeOf358
 v70:=Tryz.zeroValue358
 t72:=Tryz.underlying360
 a72:=Tryz.isAgg360
 z72:=Tryz.sizeOf360
 v72:=Tryz.zeroValue360
 t75:=Tryz.underlying363
 a75:=Tryz.isAgg363
 z75:=Tryz.sizeOf363
 v75:=Tryz.zeroValue363
 t76:=Tryz.underlying364
 a76:=Tryz.isAgg364
 z76:=Tryz.sizeOf364
 v76:=Tryz.zeroValue364
 t127:=Tryz.underlying378
 a127:=Tryz.isAgg378
 z127:=Tryz.sizeOf378
 v127:=Tryz.zeroValue378
 t164:=Tryz.underlying389
 a164:=Tryz.isAgg389
 z164:=Tryz.sizeOf389
 v164:=Tryz.zeroValue389 }
end Go.Proofs
namespace Go.Proofs.YtfmkddccnjidmaaGreatDoor
open Go.Nm
noncomputable def X:Ctx:={ P:=Tryz.prog,quiet:=[14,23,24,28,35,58,60,63,70,78,82,97,102,108,109,111,116,119,124,125,134,152,166,167,168,169,171,174,182,183,187,198,202,209,213,216,217,218,229,233,243,246,255,256,258,268,269,272,279,283,284],calls:=[2,3,4,5,6,7,8,9,10,11,12,13,14,15,16,17,18,19,20,21,22,23,24,25,26,27,28,29,30,31,32,33,34,35,36,37,38,39,40,41,42,43,44,45,46,47,48,49,50,51,52,53,54,55,56,57,58,59,60,61,62,63,64,65,66,67,68,69,70,71,72,73,74,75,76,77,78,79,80,81,82,83,84,85,86,87,88,89,90,91,92,93,94,95,96,97,98,99,100,101,102,103,104,105,106,107,108,109,110,111,112,113,114,115,116,117,118,119,120,121,122,123,124,125,126,127,128,129,130,131,132,133,134,135,136,137,138,139,140,141,142,143,144,145,146,147,148,149,150,151,152,153,154,155,156,157,158,159,160,161,162,163,164,165,166,167,168,169,170,171,172,173,174,176,177,178,179,180,181,182,183,184,185,186,187,188,189,190,191,192,193,194,195,196,197,199,200,201,202,203,204,205,206,207,208,209,210,211,212,213,214,215,216,217,218,219,220,221,222,223,224,225,226,227,228,229,230,231,232,233,234,235,236,237,238,239,240,241,242,243,244,245,246,247,248,249,250,251,252,253,254,255,256,257,258,259,260,261,262,263,264,265,266,268,269,270,271,272,273,274,275,276,277,278,279,280,281,282,284,285,286,313],pan:=[40,41,42,43,44,45,47,49,94,107],ext:=[198,283] }
theorem X_P:X.P=Tryz.prog:=rfl
theorem qxs:X.P.follows .mixedOrders=true:=by kernel_rfl
theorem X_all:X.calls.all (qmz X.P)=true:=by kernel_rfl
theorem qgt:∀f,memN f X.calls=true→q38 X.P f:=qzq X_all
abbrev KT:=Value→Heap→Prop
abbrev CF:=qcn Tryz.prog
abbrev CP:=qzf Tryz.prog
abbrev CQ:=q1k Tryz.prog
theorem cE {f:FuncId}{args:List Value}{H:Heap}{K:Value→Heap→Prop}{C:Prop}(h:C)(he:vcG X f args H K=C:=by kernel_rfl):qcn Tryz.prog f ⟨args⟩ H K:=callG X_P qxs qgt (he▸h)
theorem cP {f:FuncId}{args:List Value}{H:Heap}{K KP:Value→Heap→Prop}{C:Prop}(h:C)(he:vcGP X f args H K KP=C:=by kernel_rfl):qzf Tryz.prog f ⟨args⟩ H K KP:=callGP X_P qxs qgt (he▸h)
end Go.Proofs.YtfmkddccnjidmaaGreatDoor
namespace Go.Nm
abbrev Ann.r (x:Ann):Ann:=.seq .reg x
end Go.Nm
namespace Go.Proofs.YtfmkddccnjidmaaGreatDoor
open Go.Nm
abbrev gQ_b (c:Prop)(f:FuncId)(l:List Value)(H:Heap)(k:Bool→Prop):Prop:=∃a0,(c→CQ f ⟨l⟩ H (.bool a0))∧k a0
abbrev Q_b (f:FuncId)(l:List Value)(H:Heap)(k:Bool→Prop):Prop:=∃a0,CQ f ⟨l⟩ H (.bool a0)∧k a0
abbrev L_i2 (a0 a1:Int):List Value:=[I64 a0,I64 a1]
abbrev IA (i n:Int)(a:Option Addr)(k:Nat→Nat→Prop):Prop:=(0≤i∧i < n)∧∃b o:Nat,a=some ⟨b,o,none⟩∧k b o
abbrev IN (c:Prop)[Decidable c](p q:Prop):Prop:=IF (!decide c) p q
abbrev rd_i (H:Heap)(b o:Nat)(k:Int→Prop):Prop:=∃a0,q02 H b o=some (I64 a0)∧k a0
abbrev ID (c:Prop)[Decidable c](p q:Prop):Prop:=IF (decide c) p q
abbrev q1m:=Int→Heap→Prop
abbrev q37:=Int→Heap→Nat
abbrev qqc (a0:Int)(a1 a2 a3:Bool):Value:=.agg ⟨[I64 a0,.bool a1,.bool a2,.bool a3]⟩
abbrev L_iv (a0:Int)(a1:Value):List Value:=[I64 a0,a1]
abbrev Y_b (l:Nat)(vs:List Value)(H:Heap)(k:Bool→Heap→Prop):Prop:=q4f Tryz.prog l vs H fun u H'=>∃a0,u=.bool a0∧k a0 H'
abbrev C_l (f:FuncId)(l:List Value)(H:Heap)(k:Option Addr→Nat→Nat→Heap→Prop):Prop:=CF f ⟨l⟩ H fun u H'=>∃a0 a1 a2,u=.slice a0 a1 a2∧k a0 a1 a2 H'
abbrev C_f (f:FuncId)(l:List Value)(H:Heap)(k:FuncId→List Value→Heap→Prop):Prop:=CF f ⟨l⟩ H fun u H'=>∃a0 a1,u=.func (.func a0) #[] ⟨a1⟩∧k a0 a1 H'
abbrev C_m (f:FuncId)(l:List Value)(H:Heap)(k:Option Nat→Heap→Prop):Prop:=CF f ⟨l⟩ H fun u H'=>∃a0,u=.map a0∧k a0 H'
abbrev rd_m (H:Heap)(b o:Nat)(k:Option Nat→Prop):Prop:=∃a0,q02 H b o=some (.map a0)∧k a0
abbrev rd_p (H:Heap)(b o:Nat)(k:Option Addr→Prop):Prop:=∃a0,q02 H b o=some (.pointer a0)∧k a0
abbrev L_va (a0:Value)(a1 a2:Nat):List Value:=[a0,PA a1 a2]
abbrev J_HP:=Heap→Prop
abbrev gd_i (c:Prop)(H:Heap)(b o:Nat)(k:Int→Prop):Prop:=∃a0,(c→q02 H b o=some (I64 a0))∧k a0
abbrev rd_b (H:Heap)(b o:Nat)(k:Bool→Prop):Prop:=∃a0,q02 H b o=some (.bool a0)∧k a0
abbrev L_a5 (a0 a1 a2 a3 a4 a5 a6 a7 a8 a9:Nat):List Value:=[PA a0 a1,PA a2 a3,PA a4 a5,PA a6 a7,PA a8 a9]
abbrev L_a2 (a0 a1 a2 a3:Nat):List Value:=[PA a0 a1,PA a2 a3]
abbrev AP (ts:Array Nat)(t:Nat)(l:List Value)(H:Heap)(k:Option Addr→Nat→Nat→Heap→Prop):Prop:=RunW Tryz.prog (Builtin.append_ ts t ⟨l⟩) H fun u H'=>∃a n c,u=.slice a n c∧k a n c H'
abbrev L_l2 (a0:Option Addr)(a1 a2:Nat)(a3:Option Addr)(a4 a5:Nat):List Value:=[.slice a0 a1 a2,.slice a3 a4 a5]
abbrev L_s2 (a0 a1:ByteArray):List Value:=[.string a0,.string a1]
abbrev z56 (a0 a1 a2:Int):Value:=.tuple #[.int .u64 a0,I64 a1,I64 a2]
abbrev rd_y (H:Heap)(b o:Nat)(k:Int→Prop):Prop:=∃a0,q02 H b o=some (.int .u8 a0)∧k a0
abbrev q9y:=Int→Int→Heap→Prop
abbrev qia:=Int→Int→Heap→Nat
abbrev L_i3 (a0 a1 a2:Int):List Value:=[I64 a0,I64 a1,I64 a2]
abbrev V_i3 (a0 a1 a2:Int):Value:=.tuple #[I64 a0,I64 a1,I64 a2]
abbrev L_li (a0:Option Addr)(a1 a2:Nat)(a3:Int):List Value:=[.slice a0 a1 a2,I64 a3]
abbrev L_piv (a0:Option Addr)(a1:Int)(a2:Value):List Value:=[.pointer a0,I64 a1,a2]
abbrev C_i (f:FuncId)(l:List Value)(H:Heap)(k:Int→Heap→Prop):Prop:=CF f ⟨l⟩ H fun u H'=>∃a0,u=I64 a0∧k a0 H'
abbrev J_n4HP:=Nat→Nat→Nat→Nat→Heap→Prop
abbrev gd_p (c:Prop)(H:Heap)(b o:Nat)(k:Option Addr→Prop):Prop:=∃a0,(c→q02 H b o=some (.pointer a0))∧k a0
abbrev L_ai (a0 a1:Nat)(a2:Int):List Value:=[PA a0 a1,I64 a2]
abbrev L_aiv (a0 a1:Nat)(a2:Int)(a3:Value):List Value:=[PA a0 a1,I64 a2,a3]
abbrev qnb (a0 a1:Nat)(a2 a3:Int):List Value:=[PA a0 a1,I64 a2,I64 a3]
abbrev V_ni (a0:Int):Value:=.tuple #[.slice none 0 0,I64 a0]
abbrev q54:List Value:=[I64 0,I64 0,.string (⟨#[]⟩:ByteArray),.slice none 0 0]
abbrev qib (a0 a1:Int)(a2:ByteArray)(a3:Option Addr)(a4 a5:Nat):List Value:=[I64 a0,I64 a1,.string a2,.slice a3 a4 a5]
abbrev MU (t:Nat)(m x v:Value)(H:Heap)(k:Heap→Prop):Prop:=RunW Tryz.prog (Instr.mapUpdate t m x v) H fun _ H'=>k H'
abbrev qqd (a0 a1:Int)(a2:ByteArray)(a3:Option Addr)(a4 a5:Nat):Value:=.agg ⟨[I64 a0,I64 a1,.string a2,.slice a3 a4 a5]⟩
abbrev q16 (H:Heap)(b o:Nat)(k:List Value→Prop):Prop:=∃a0 a1 a2 a3 a4 a5,q03 H b o ([I64 a0,I64 a1,.string a2,.slice a3 a4 a5])∧k ([I64 a0,I64 a1,.string a2,.slice a3 a4 a5])
abbrev qqe (t:Nat)(m x:Value)(H:Heap)(k:List Value→Bool→Prop):Prop:=∃a0 a1 a2 a3 a4 a5,∃th,q0c Tryz.prog (Instr.lookup t m x true) H (.tuple #[.agg ⟨[I64 a0,I64 a1,.string a2,.slice a3 a4 a5]⟩,.bool th])∧k ([I64 a0,I64 a1,.string a2,.slice a3 a4 a5]) th
abbrev V_li (a0:Option Addr)(a1 a2:Nat)(a3:Int):Value:=.tuple #[.slice a0 a1 a2,I64 a3]
abbrev V_vb (a0:Value)(a1:Bool):Value:=.tuple #[a0,.bool a1]
abbrev q0x:=(Option Addr)→Nat→Nat→Int→Heap→Prop
abbrev q0y:=(Option Addr)→Nat→Nat→Int→Heap→Nat
abbrev L_ail (a0 a1:Nat)(a2:Int)(a3:Option Addr)(a4 a5:Nat):List Value:=[PA a0 a1,I64 a2,.slice a3 a4 a5]
abbrev q7w:List Value:=[I64 0,.bool false,.bool false,.bool false]
abbrev que (a0:Int)(a1 a2 a3:Bool):List Value:=[I64 a0,.bool a1,.bool a2,.bool a3]
abbrev q8j (H:Heap)(b o:Nat)(k:List Value→Prop):Prop:=∃a0 a1 a2 a3,q03 H b o ([I64 a0,.bool a1,.bool a2,.bool a3])∧k ([I64 a0,.bool a1,.bool a2,.bool a3])
abbrev qgu (t:Nat)(m x:Value)(H:Heap)(k:List Value→Bool→Prop):Prop:=∃a0 a1 a2 a3,∃th,q0c Tryz.prog (Instr.lookup t m x true) H (.tuple #[.agg ⟨[I64 a0,.bool a1,.bool a2,.bool a3]⟩,.bool th])∧k ([I64 a0,.bool a1,.bool a2,.bool a3]) th
abbrev BD (l h n:Int):Prop:=0≤l∧l≤h∧h≤n
abbrev L_li2 (a0:Option Addr)(a1 a2:Nat)(a3 a4:Int):List Value:=[.slice a0 a1 a2,I64 a3,I64 a4]
abbrev A_i3 (a0 a1 a2:Int):Value:=.agg ⟨[I64 a0,I64 a1,I64 a2]⟩
abbrev z04 (a0:Value)(a1:Bool)(a2:Int):Value:=.tuple #[a0,.bool a1,I64 a2]
abbrev q15 (H:Heap)(b o:Nat)(k:List Value→Prop):Prop:=∃a0 a1 a2,q03 H b o ([I64 a0,I64 a1,I64 a2])∧k ([I64 a0,I64 a1,I64 a2])
abbrev qnc (t:Nat)(m x:Value)(H:Heap)(k:List Value→Bool→Prop):Prop:=∃a0 a1 a2,∃th,q0c Tryz.prog (Instr.lookup t m x true) H (.tuple #[.agg ⟨[I64 a0,I64 a1,I64 a2]⟩,.bool th])∧k ([I64 a0,I64 a1,I64 a2]) th
abbrev L_lu (a0:Option Addr)(a1 a2:Nat)(a3:Int):List Value:=[.slice a0 a1 a2,.int .u64 a3]
abbrev L_ls (a0:Option Addr)(a1 a2:Nat)(a3:ByteArray):List Value:=[.slice a0 a1 a2,.string a3]
abbrev rd_s (H:Heap)(b o:Nat)(k:ByteArray→Prop):Prop:=∃a0,q02 H b o=some (.string a0)∧k a0
abbrev rd_u (H:Heap)(b o:Nat)(k:Int→Prop):Prop:=∃a0,q02 H b o=some (.int .u64 a0)∧k a0
abbrev rd_l (H:Heap)(b o:Nat)(k:Option Addr→Nat→Nat→Prop):Prop:=∃a0 a1 a2,q02 H b o=some (.slice a0 a1 a2)∧k a0 a1 a2
abbrev C_b (f:FuncId)(l:List Value)(H:Heap)(k:Bool→Heap→Prop):Prop:=CF f ⟨l⟩ H fun u H'=>∃a0,u=.bool a0∧k a0 H'
abbrev gd_l (c:Prop)(H:Heap)(b o:Nat)(k:Option Addr→Nat→Nat→Prop):Prop:=∃a0 a1 a2,(c→q02 H b o=some (.slice a0 a1 a2))∧k a0 a1 a2
abbrev Q_i (f:FuncId)(l:List Value)(H:Heap)(k:Int→Prop):Prop:=∃a0,CQ f ⟨l⟩ H (I64 a0)∧k a0
abbrev C_u (f:FuncId)(l:List Value)(H:Heap)(k:Int→Heap→Prop):Prop:=CF f ⟨l⟩ H fun u H'=>∃a0,u=.int .u64 a0∧k a0 H'
abbrev V_pi (a0:Option Addr)(a1:Int):Value:=.tuple #[.pointer a0,I64 a1]
abbrev NM (H:Heap)(k:Nat→Heap→Prop):Prop:=∀(b:Nat) (H':Heap),b=H.size→H'=H.push (.map #[] 0)→k b H'
abbrev V_ai (a0 a1:Nat)(a2:Int):Value:=.tuple #[PA a0 a1,I64 a2]
abbrev L_iM (a0:Int)(a1:Nat):List Value:=[I64 a0,.map (some a1)]
abbrev V_iv (a0:Int)(a1:Value):Value:=.tuple #[I64 a0,a1]
abbrev V_bv2 (a0:Bool)(a1 a2:Value):Value:=.tuple #[.bool a0,a1,a2]
abbrev J_Hn:=Heap→Nat
abbrev V_i2 (a0 a1:Int):Value:=.tuple #[I64 a0,I64 a1]
abbrev L_ub (a0:Int)(a1:Bool):List Value:=[.int .u64 a0,.bool a1]
abbrev V_u2 (a0 a1:Int):Value:=.tuple #[.int .u64 a0,.int .u64 a1]
abbrev L_u3 (a0 a1 a2:Int):List Value:=[.int .u64 a0,.int .u64 a1,.int .u64 a2]
abbrev L_u2 (a0 a1:Int):List Value:=[.int .u64 a0,.int .u64 a1]
abbrev IX (i n:Int):Prop:=0≤i∧i < n
abbrev A_i2 (a0 a1:Int):Value:=.agg ⟨[I64 a0,I64 a1]⟩
abbrev q0b (H:Heap)(b o:Nat)(k:List Value→Prop):Prop:=∃a0 a1,q03 H b o ([I64 a0,I64 a1])∧k ([I64 a0,I64 a1])
abbrev L_i3b (a0 a1 a2:Int)(a3:Bool):List Value:=[I64 a0,I64 a1,I64 a2,.bool a3]
abbrev L_v2 (a0 a1:Value):List Value:=[a0,a1]
abbrev V_vi (a0:Value)(a1:Int):Value:=.tuple #[a0,I64 a1]
abbrev L_vi (a0:Value)(a1:Int):List Value:=[a0,I64 a1]
abbrev ql4 (f:FuncId)(l:List Value)(H:Heap)(k:Int→Int→Heap→Prop):Prop:=CF f ⟨l⟩ H fun u H'=>∃a0 a1,u=.tuple #[I64 a0,I64 a1]∧k a0 a1 H'
abbrev L_vlv (a0:Value)(a1:Option Addr)(a2 a3:Nat)(a4:Value):List Value:=[a0,.slice a1 a2 a3,a4]
abbrev q1x (f:FuncId)(l:List Value)(H:Heap)(k:List Value→Int→Heap→Prop):Prop:=CF f ⟨l⟩ H fun u H'=>∃a0 a1 a2,u=.tuple #[.agg ⟨[I64 a0,I64 a1]⟩,I64 a2]∧k ([I64 a0,I64 a1]) a2 H'
abbrev ZL_i4:List Value:=[I64 0,I64 0,I64 0,I64 0]
abbrev L_i4 (a0 a1 a2 a3:Int):List Value:=[I64 a0,I64 a1,I64 a2,I64 a3]
abbrev quf:=Nat→Nat→Int→Heap→Prop
abbrev A_i4 (a0 a1 a2 a3:Int):Value:=.agg ⟨[I64 a0,I64 a1,I64 a2,I64 a3]⟩
abbrev z58 (a0:Value)(a1 a2:Int):List Value:=[a0,I64 a1,I64 a2]
abbrev q5x (H:Heap)(b o:Nat)(k:List Value→Prop):Prop:=∃a0 a1 a2 a3,q03 H b o ([I64 a0,I64 a1,I64 a2,I64 a3])∧k ([I64 a0,I64 a1,I64 a2,I64 a3])
abbrev L_av (a0 a1:Nat)(a2:Value):List Value:=[PA a0 a1,a2]
abbrev A_s2 (a0 a1:ByteArray):Value:=.agg ⟨[.string a0,.string a1]⟩
abbrev L_sy (a0:ByteArray)(a1:Int):List Value:=[.string a0,.int .u8 a1]
abbrev V_ri (a0 a1:Int):Value:=.tuple #[.int .i32 a0,I64 a1]
abbrev gQ_i (c:Prop)(f:FuncId)(l:List Value)(H:Heap)(k:Int→Prop):Prop:=∃a0,(c→CQ f ⟨l⟩ H (I64 a0))∧k a0
abbrev q7m (H:Heap)(b o:Nat)(k:List Value→Prop):Prop:=∃a0 a1,q03 H b o ([.string a0,.string a1])∧k ([.string a0,.string a1])
abbrev L_l2f (a0:Option Addr)(a1 a2:Nat)(a3:Option Addr)(a4 a5:Nat)(a6:FuncId)(a7:List Value):List Value:=[.slice a0 a1 a2,.slice a3 a4 a5,.func (.func a6) #[] ⟨a7⟩]
abbrev L_s2i (a0 a1:ByteArray)(a2:Int):List Value:=[.string a0,.string a1,I64 a2]
abbrev V_sb (a0:ByteArray)(a1:Bool):Value:=.tuple #[.string a0,.bool a1]
abbrev z05 (a0 a1:ByteArray)(a2:Bool):Value:=.tuple #[.string a0,.string a1,.bool a2]
abbrev L_sl (a0:ByteArray)(a1:Option Addr)(a2 a3:Nat):List Value:=[.string a0,.slice a1 a2 a3]
abbrev L_l2v (a0:Option Addr)(a1 a2:Nat)(a3:Option Addr)(a4 a5:Nat)(a6:Value):List Value:=[.slice a0 a1 a2,.slice a3 a4 a5,a6]
abbrev A_sl (a0:ByteArray)(a1:Option Addr)(a2 a3:Nat):Value:=.agg ⟨[.string a0,.slice a1 a2 a3]⟩
abbrev qeu:=Bool→Heap→Prop
abbrev JF (c p q:Prop):Prop:=(c→p)∧(¬c→q)
abbrev q5y (c:Prop)(H:Heap)(b o:Nat)(k:List Value→Prop):Prop:=∃a0 a1 a2 a3,(c→q03 H b o ([.string a0,.slice a1 a2 a3]))∧k ([.string a0,.slice a1 a2 a3])
abbrev q9z (a0 a1 a2 a3 a4 a5 a6 a7 a8 a9:Int)(a10:Option Addr)(a11 a12:Nat)(a13:ByteArray)(a14:Option Addr)(a15 a16:Nat)(a17:Option Addr)(a18 a19:Nat):List Value:=[I64 a0,I64 a1,I64 a2,I64 a3,I64 a4,I64 a5,I64 a6,I64 a7,I64 a8,I64 a9,.slice a10 a11 a12,.string a13,.slice a14 a15 a16,.slice a17 a18 a19]
abbrev L_i7 (a0 a1 a2 a3 a4 a5 a6:Int):List Value:=[I64 a0,I64 a1,I64 a2,I64 a3,I64 a4,I64 a5,I64 a6]
abbrev A_i7 (a0 a1 a2 a3 a4 a5 a6:Int):Value:=.agg ⟨[I64 a0,I64 a1,I64 a2,I64 a3,I64 a4,I64 a5,I64 a6]⟩
abbrev qa0 (a0 a1 a2 a3 a4 a5 a6 a7 a8 a9:Int)(a10:Option Addr)(a11 a12:Nat)(a13:ByteArray)(a14:Option Addr)(a15 a16:Nat)(a17:Option Addr)(a18 a19:Nat):Value:=.agg ⟨[I64 a0,I64 a1,I64 a2,I64 a3,I64 a4,I64 a5,I64 a6,I64 a7,I64 a8,I64 a9,.slice a10 a11 a12,.string a13,.slice a14 a15 a16,.slice a17 a18 a19]⟩
abbrev C_s (f:FuncId)(l:List Value)(H:Heap)(k:ByteArray→Heap→Prop):Prop:=CF f ⟨l⟩ H fun u H'=>∃a0,u=.string a0∧k a0 H'
abbrev q26 (H:Heap)(b o:Nat)(k:List Value→Prop):Prop:=∃a0 a1 a2 a3,q03 H b o ([.string a0,.slice a1 a2 a3])∧k ([.string a0,.slice a1 a2 a3])
abbrev C_Wi7_ (f:FuncId)(l:List Value)(H:Heap)(k:List Value→Heap→Prop):Prop:=CF f ⟨l⟩ H fun u H'=>∃a0 a1 a2 a3 a4 a5 a6,u=.agg ⟨[I64 a0,I64 a1,I64 a2,I64 a3,I64 a4,I64 a5,I64 a6]⟩∧k ([I64 a0,I64 a1,I64 a2,I64 a3,I64 a4,I64 a5,I64 a6]) H'
abbrev qfz (c:Prop)(H:Heap)(b o:Nat)(k:List Value→Prop):Prop:=∃a0 a1 a2 a3 a4 a5 a6 a7 a8 a9 a10 a11 a12 a13 a14 a15 a16 a17 a18 a19,(c→q03 H b o ([I64 a0,I64 a1,I64 a2,I64 a3,I64 a4,I64 a5,I64 a6,I64 a7,I64 a8,I64 a9,.slice a10 a11 a12,.string a13,.slice a14 a15 a16,.slice a17 a18 a19]))∧k ([I64 a0,I64 a1,I64 a2,I64 a3,I64 a4,I64 a5,I64 a6,I64 a7,I64 a8,I64 a9,.slice a10 a11 a12,.string a13,.slice a14 a15 a16,.slice a17 a18 a19])
abbrev gd_s (c:Prop)(H:Heap)(b o:Nat)(k:ByteArray→Prop):Prop:=∃a0,(c→q02 H b o=some (.string a0))∧k a0
abbrev L_il (a0:Int)(a1:Option Addr)(a2 a3:Nat):List Value:=[I64 a0,.slice a1 a2 a3]
abbrev L_a3 (a0 a1 a2 a3 a4 a5:Nat):List Value:=[PA a0 a1,PA a2 a3,PA a4 a5]
abbrev L_a6 (a0 a1 a2 a3 a4 a5 a6 a7 a8 a9 a10 a11:Nat):List Value:=[PA a0 a1,PA a2 a3,PA a4 a5,PA a6 a7,PA a8 a9,PA a10 a11]
abbrev L_a4 (a0 a1 a2 a3 a4 a5 a6 a7:Nat):List Value:=[PA a0 a1,PA a2 a3,PA a4 a5,PA a6 a7]
abbrev qev:=(Option Addr)→Nat→Nat→Heap→Prop
abbrev L_sn (a0:ByteArray):List Value:=[.string a0,.slice none 0 0]
abbrev qew:List Value:=[I64 0,I64 0,I64 0,I64 0,I64 0,I64 0,I64 0,I64 0,I64 0,I64 0,.slice none 0 0,.string (⟨#[]⟩:ByteArray),.slice none 0 0,.slice none 0 0]
abbrev q7e (H:Heap)(b o:Nat)(k:List Value→Prop):Prop:=∃a0 a1 a2 a3 a4 a5 a6 a7 a8 a9 a10 a11 a12 a13 a14 a15 a16 a17 a18 a19,q03 H b o ([I64 a0,I64 a1,I64 a2,I64 a3,I64 a4,I64 a5,I64 a6,I64 a7,I64 a8,I64 a9,.slice a10 a11 a12,.string a13,.slice a14 a15 a16,.slice a17 a18 a19])∧k ([I64 a0,I64 a1,I64 a2,I64 a3,I64 a4,I64 a5,I64 a6,I64 a7,I64 a8,I64 a9,.slice a10 a11 a12,.string a13,.slice a14 a15 a16,.slice a17 a18 a19])
abbrev q4k (a0:Nat→Int):List Value:=vecL .i64 a0 65 0
abbrev q3r (a0:Nat→Int):Value:=.agg ⟨vecL .i64 a0 65 0⟩
abbrev q1u (H:Heap)(b o:Nat)(k:(Nat→Int)→Prop):Prop:=∃a0,q03 H b o (vecL .i64 a0 65 0)∧k a0
abbrev L_iu (a0 a1:Int):List Value:=[I64 a0,.int .u64 a1]
abbrev A_iu (a0 a1:Int):Value:=.agg ⟨[I64 a0,.int .u64 a1]⟩
abbrev q55 (H:Heap)(b o:Nat)(k:List Value→Prop):Prop:=∃a0 a1,q03 H b o ([I64 a0,.int .u64 a1])∧k ([I64 a0,.int .u64 a1])
abbrev q11 (a0 a1 a2 a3 a4 a5 a6:Int)(a7:Nat→Int):List Value:=[I64 a0,I64 a1,.int .u64 a2,I64 a3,I64 a4,I64 a5,I64 a6]++vecL .i64 a7 65 0
abbrev q0a:List Value:=[I64 0,I64 0,.int .u64 0,I64 0,I64 0,I64 0,I64 0]++vecL .i64 Z0 65 0
abbrev q2a (a0 a1 a2 a3 a4 a5 a6:Int)(a7:Nat→Int):Value:=.agg ⟨[I64 a0,I64 a1,.int .u64 a2,I64 a3,I64 a4,I64 a5,I64 a6]++vecL .i64 a7 65 0⟩
abbrev q06 (H:Heap)(b o:Nat)(k:List Value→Prop):Prop:=∃a0 a1 a2 a3 a4 a5 a6 a7,q03 H b o ([I64 a0,I64 a1,.int .u64 a2,I64 a3,I64 a4,I64 a5,I64 a6]++vecL .i64 a7 65 0)∧k ([I64 a0,I64 a1,.int .u64 a2,I64 a3,I64 a4,I64 a5,I64 a6]++vecL .i64 a7 65 0)
abbrev qug:=Int→Nat→Nat→Heap→Prop
abbrev qic (f:FuncId)(l:List Value)(H:Heap)(k:List Value→Int→Heap→Prop):Prop:=CF f ⟨l⟩ H fun u H'=>∃a0 a1 a2,u=.tuple #[.agg ⟨[I64 a0,.int .u64 a1]⟩,I64 a2]∧k ([I64 a0,.int .u64 a1]) a2 H'
abbrev qqf (f:FuncId)(l:List Value)(H:Heap)(k:List Value→Heap→Prop):Prop:=CF f ⟨l⟩ H fun u H'=>∃a0 a1,u=.agg ⟨[I64 a0,.int .u64 a1]⟩∧k ([I64 a0,.int .u64 a1]) H'
abbrev J_pHP:=(Option Addr)→Heap→Prop
abbrev L_vb (a0:Value)(a1:Bool):List Value:=[a0,.bool a1]
abbrev A_is (a0:Int)(a1:ByteArray):Value:=.agg ⟨[I64 a0,.string a1]⟩
abbrev q6o (t:Nat)(m x:Value)(H:Heap)(k:List Value→Bool→Prop):Prop:=∃a0 a1 a2 a3 a4 a5 a6 a7,∃th,q0c Tryz.prog (Instr.lookup t m x true) H (.tuple #[.agg ⟨[I64 a0,I64 a1,.int .u64 a2,I64 a3,I64 a4,I64 a5,I64 a6]++vecL .i64 a7 65 0⟩,.bool th])∧k ([I64 a0,I64 a1,.int .u64 a2,I64 a3,I64 a4,I64 a5,I64 a6]++vecL .i64 a7 65 0) th
abbrev z59 (a0 a1:Nat)(a2 a3:Int)(a4:ByteArray):List Value:=[PA a0 a1,I64 a2,I64 a3,.string a4]
abbrev L_is (a0:Int)(a1:ByteArray):List Value:=[I64 a0,.string a1]
abbrev q31 (H:Heap)(b o:Nat)(k:List Value→Prop):Prop:=∃a0 a1,q03 H b o ([I64 a0,.string a1])∧k ([I64 a0,.string a1])
abbrev L_lf (a0:Option Addr)(a1 a2:Nat)(a3:FuncId)(a4:List Value):List Value:=[.slice a0 a1 a2,.func (.func a3) #[] ⟨a4⟩]
abbrev q3i (f:FuncId)(l:List Value)(H:Heap)(k:List Value→Int→Heap→Prop):Prop:=CF f ⟨l⟩ H fun u H'=>∃a0 a1 a2 a3 a4 a5 a6 a7 a8,u=.tuple #[.agg ⟨[I64 a0,I64 a1,.int .u64 a2,I64 a3,I64 a4,I64 a5,I64 a6]++vecL .i64 a7 65 0⟩,I64 a8]∧k ([I64 a0,I64 a1,.int .u64 a2,I64 a3,I64 a4,I64 a5,I64 a6]++vecL .i64 a7 65 0) a8 H'
abbrev q5k (a0:Int)(a1:ByteArray)(a2 a3 a4 a5 a6 a7 a8:Int)(a9:Nat→Int):List Value:=[I64 a0,.string a1,I64 a2,I64 a3,.int .u64 a4,I64 a5,I64 a6,I64 a7,I64 a8]++vecL .i64 a9 65 0
abbrev qa1 (t:Nat)(m x:Value)(H:Heap)(k:List Value→Prop):Prop:=∃a0 a1 a2 a3 a4 a5 a6 a7,q0c Tryz.prog (Instr.lookup t m x false) H (.agg ⟨[I64 a0,I64 a1,.int .u64 a2,I64 a3,I64 a4,I64 a5,I64 a6]++vecL .i64 a7 65 0⟩)∧k ([I64 a0,I64 a1,.int .u64 a2,I64 a3,I64 a4,I64 a5,I64 a6]++vecL .i64 a7 65 0)
abbrev q6p:List Value:=[I64 0,.string (⟨#[]⟩:ByteArray),I64 0,I64 0,.int .u64 0,I64 0,I64 0,I64 0,I64 0]++vecL .i64 Z0 65 0
abbrev q17 (H:Heap)(b o:Nat)(k:List Value→Prop):Prop:=∃a0 a1 a2 a3 a4 a5 a6 a7 a8 a9,q03 H b o ([I64 a0,.string a1,I64 a2,I64 a3,.int .u64 a4,I64 a5,I64 a6,I64 a7,I64 a8]++vecL .i64 a9 65 0)∧k ([I64 a0,.string a1,I64 a2,I64 a3,.int .u64 a4,I64 a5,I64 a6,I64 a7,I64 a8]++vecL .i64 a9 65 0)
abbrev V_v2 (a0 a1:Value):Value:=.tuple #[a0,a1]
abbrev J_i3HP:=Int→Int→Int→Heap→Prop
abbrev J_i3Hn:=Int→Int→Int→Heap→Nat
abbrev L_aiai (a0 a1:Nat)(a2:Int)(a3 a4:Nat)(a5:Int):List Value:=[PA a0 a1,I64 a2,PA a3 a4,I64 a5]
abbrev z5a (a0:Option Addr)(a1 a2:Int):List Value:=[.pointer a0,I64 a1,I64 a2]
abbrev qqg (a0 a1 a2 a3 a4 a5 a6 a7 a8 a9:Int)(a10:Option Addr)(a11 a12:Nat)(a13:ByteArray):List Value:=[I64 a0,I64 a1,I64 a2,I64 a3,I64 a4,I64 a5,I64 a6,I64 a7,I64 a8,I64 a9,.slice a10 a11 a12,.string a13,.slice none 0 0,.slice none 0 0]
abbrev qa2 (f:FuncId)(l:List Value)(H:Heap)(k:Option Addr→Nat→Nat→Int→Heap→Prop):Prop:=CF f ⟨l⟩ H fun u H'=>∃a0 a1 a2 a3,u=.tuple #[.slice a0 a1 a2,I64 a3]∧k a0 a1 a2 a3 H'
abbrev qgv (f:FuncId)(l:List Value)(H:Heap)(k:List Value→Heap→Prop)(kp:Value→Heap→Prop):Prop:=CP f ⟨l⟩ H (fun u H'=>∃a0 a1 a2 a3 a4 a5,u=.agg ⟨[I64 a0,I64 a1,.string a2,.slice a3 a4 a5]⟩∧k ([I64 a0,I64 a1,.string a2,.slice a3 a4 a5]) H') kp
abbrev P_i (f:FuncId)(l:List Value)(H:Heap)(k:Int→Heap→Prop)(kp:Value→Heap→Prop):Prop:=CP f ⟨l⟩ H (fun u H'=>∃a0,u=I64 a0∧k a0 H') kp
abbrev q0z (H:Heap)(b o:Nat)(k:Option Addr→Prop):Prop:=∃a0,q03 H b o ([.pointer a0])∧k a0
abbrev L_p2i (a0 a1:Option Addr)(a2:Int):List Value:=[.pointer a0,.pointer a1,I64 a2]
abbrev q6q (f:FuncId)(l:List Value)(H:Heap)(k:Option Addr→Int→Heap→Prop):Prop:=CF f ⟨l⟩ H fun u H'=>∃a0 a1,u=.tuple #[.pointer a0,I64 a1]∧k a0 a1 H'
abbrev P_T_ (f:FuncId)(l:List Value)(H:Heap)(k:Heap→Prop)(kp:Value→Heap→Prop):Prop:=CP f ⟨l⟩ H (fun u H'=>u=.tuple #[]∧k  H') kp
abbrev qex:List Value:=[I64 0,I64 0,I64 0,I64 0,I64 0,I64 0,I64 0,I64 0,I64 0,I64 0,I64 0,.slice none 0 0]
abbrev L_pi (a0:Option Addr)(a1:Int):List Value:=[.pointer a0,I64 a1]
abbrev qey (f:FuncId)(l:List Value)(H:Heap)(k:List Value→Bool→Heap→Prop):Prop:=CF f ⟨l⟩ H fun u H'=>∃a0 a1 a2 a3 a4,u=.tuple #[.agg ⟨[I64 a0,.bool a1,.bool a2,.bool a3]⟩,.bool a4]∧k ([I64 a0,.bool a1,.bool a2,.bool a3]) a4 H'
abbrev q2t (a0 a1 a2 a3 a4 a5 a6 a7 a8 a9 a10 a11 a12 a13:Int)(a14:ByteArray)(a15 a16 a17 a18 a19 a20 a21:Int)(a22:Nat→Int):List Value:=[I64 a0,I64 a1,I64 a2,I64 a3,I64 a4,I64 a5,I64 a6,I64 a7,I64 a8,I64 a9,I64 a10,I64 a11,I64 a12,I64 a13,.string a14,I64 a15,I64 a16,.int .u64 a17,I64 a18,I64 a19,I64 a20,I64 a21]++vecL .i64 a22 65 0
abbrev qbt (a0 a1 a2 a3 a4 a5 a6 a7 a8 a9 a10:Int)(a11:Option Addr)(a12 a13:Nat):List Value:=[I64 a0,I64 a1,I64 a2,I64 a3,I64 a4,I64 a5,I64 a6,I64 a7,I64 a8,I64 a9,I64 a10,.slice a11 a12 a13]
abbrev L_aipi (a0 a1:Nat)(a2:Int)(a3:Option Addr)(a4:Int):List Value:=[PA a0 a1,I64 a2,.pointer a3,I64 a4]
abbrev LK_p (t:Nat)(m x:Value)(H:Heap)(k:Option Addr→Prop):Prop:=∃a0,q0c Tryz.prog (Instr.lookup t m x false) H (.pointer a0)∧k a0
abbrev qdb (a0 a1 a2 a3 a4 a5 a6 a7 a8 a9 a10:Int)(a11:Option Addr)(a12 a13:Nat):Value:=.agg ⟨[I64 a0,I64 a1,I64 a2,I64 a3,I64 a4,I64 a5,I64 a6,I64 a7,I64 a8,I64 a9,I64 a10,.slice a11 a12 a13]⟩
abbrev C_p (f:FuncId)(l:List Value)(H:Heap)(k:Option Addr→Heap→Prop):Prop:=CF f ⟨l⟩ H fun u H'=>∃a0,u=.pointer a0∧k a0 H'
abbrev J_n2biHP:=Nat→Nat→Bool→Int→Heap→Prop
abbrev L_pi3 (a0:Option Addr)(a1 a2 a3:Int):List Value:=[.pointer a0,I64 a1,I64 a2,I64 a3]
abbrev ql5 (f:FuncId)(l:List Value)(H:Heap)(k:List Value→Bool→Int→Heap→Prop):Prop:=CF f ⟨l⟩ H fun u H'=>∃a0 a1 a2 a3 a4,u=.tuple #[.agg ⟨[I64 a0,I64 a1,I64 a2]⟩,.bool a3,I64 a4]∧k ([I64 a0,I64 a1,I64 a2]) a3 a4 H'
abbrev qxt:=Nat→Nat→Heap→Prop
abbrev qid (f:FuncId)(l:List Value)(H:Heap)(k:List Value→Bool→Heap→Prop):Prop:=CF f ⟨l⟩ H fun u H'=>∃a0 a1 a2 a3,u=.tuple #[.agg ⟨[I64 a0,I64 a1,I64 a2]⟩,.bool a3]∧k ([I64 a0,I64 a1,I64 a2]) a3 H'
abbrev L_i6 (a0 a1 a2 a3 a4 a5:Int):List Value:=[I64 a0,I64 a1,I64 a2,I64 a3,I64 a4,I64 a5]
abbrev P_u (f:FuncId)(l:List Value)(H:Heap)(k:Int→Heap→Prop)(kp:Value→Heap→Prop):Prop:=CP f ⟨l⟩ H (fun u H'=>∃a0,u=.int .u64 a0∧k a0 H') kp
abbrev A_i6 (a0 a1 a2 a3 a4 a5:Int):Value:=.agg ⟨[I64 a0,I64 a1,I64 a2,I64 a3,I64 a4,I64 a5]⟩
abbrev ZA_i6:Value:=.agg ⟨[I64 0,I64 0,I64 0,I64 0,I64 0,I64 0]⟩
abbrev z5b (c:Prop)(H:Heap)(b o:Nat)(k:List Value→Prop):Prop:=∃a0 a1 a2 a3,(c→q03 H b o ([I64 a0,I64 a1,I64 a2,I64 a3]))∧k ([I64 a0,I64 a1,I64 a2,I64 a3])
abbrev q0s (H:Heap)(b o:Nat)(k:List Value→Prop):Prop:=∃a0 a1 a2 a3 a4 a5 a6 a7 a8 a9 a10 a11 a12 a13,q03 H b o ([I64 a0,I64 a1,I64 a2,I64 a3,I64 a4,I64 a5,I64 a6,I64 a7,I64 a8,I64 a9,I64 a10,.slice a11 a12 a13])∧k ([I64 a0,I64 a1,I64 a2,I64 a3,I64 a4,I64 a5,I64 a6,I64 a7,I64 a8,I64 a9,I64 a10,.slice a11 a12 a13])
abbrev qie:List Value:=[I64 0,I64 0,I64 0,I64 0,.bool false,.bool false,.bool false,I64 0,I64 0,I64 0,I64 0]
abbrev L_i4b3i4 (a0 a1 a2 a3:Int)(a4 a5 a6:Bool)(a7 a8 a9 a10:Int):List Value:=[I64 a0,I64 a1,I64 a2,I64 a3,.bool a4,.bool a5,.bool a6,I64 a7,I64 a8,I64 a9,I64 a10]
abbrev qif (H:Heap)(b o:Nat)(k:List Value→Prop):Prop:=∃a0 a1 a2 a3 a4 a5 a6 a7 a8 a9 a10,q03 H b o ([I64 a0,I64 a1,I64 a2,I64 a3,.bool a4,.bool a5,.bool a6,I64 a7,I64 a8,I64 a9,I64 a10])∧k ([I64 a0,I64 a1,I64 a2,I64 a3,.bool a4,.bool a5,.bool a6,I64 a7,I64 a8,I64 a9,I64 a10])
abbrev L_pv (a0:Option Addr)(a1:Value):List Value:=[.pointer a0,a1]
abbrev L_i9 (a0 a1 a2 a3 a4 a5 a6 a7 a8:Int):List Value:=[I64 a0,I64 a1,I64 a2,I64 a3,I64 a4,I64 a5,I64 a6,I64 a7,I64 a8]
abbrev A_i9 (a0 a1 a2 a3 a4 a5 a6 a7 a8:Int):Value:=.agg ⟨[I64 a0,I64 a1,I64 a2,I64 a3,I64 a4,I64 a5,I64 a6,I64 a7,I64 a8]⟩
abbrev qqh (f:FuncId)(l:List Value)(H:Heap)(k:List Value→Int→Heap→Prop):Prop:=CF f ⟨l⟩ H fun u H'=>∃a0 a1 a2 a3,u=.tuple #[.agg ⟨[I64 a0,I64 a1,I64 a2]⟩,I64 a3]∧k ([I64 a0,I64 a1,I64 a2]) a3 H'
abbrev qig (H:Heap)(b o:Nat)(k:List Value→Prop):Prop:=∃a0 a1 a2 a3 a4 a5 a6 a7 a8,q03 H b o ([I64 a0,I64 a1,I64 a2,I64 a3,I64 a4,I64 a5,I64 a6,I64 a7,I64 a8])∧k ([I64 a0,I64 a1,I64 a2,I64 a3,I64 a4,I64 a5,I64 a6,I64 a7,I64 a8])
abbrev q60 (f:FuncId)(l:List Value)(H:Heap)(k:List Value→List Value→Heap→Prop)(kp:Value→Heap→Prop):Prop:=CP f ⟨l⟩ H (fun u H'=>∃a0 a1 a2 a3 a4 a5 a6 a7 a8 a9,u=.tuple #[.agg ⟨[I64 a0,.string a1]⟩,.agg ⟨[I64 a2,I64 a3,.int .u64 a4,I64 a5,I64 a6,I64 a7,I64 a8]++vecL .i64 a9 65 0⟩]∧k ([I64 a0,.string a1]) ([I64 a2,I64 a3,.int .u64 a4,I64 a5,I64 a6,I64 a7,I64 a8]++vecL .i64 a9 65 0) H') kp
abbrev L_vl (a0:Value)(a1:Option Addr)(a2 a3:Nat):List Value:=[a0,.slice a1 a2 a3]
abbrev C_Wi11l_ (f:FuncId)(l:List Value)(H:Heap)(k:List Value→Heap→Prop):Prop:=CF f ⟨l⟩ H fun u H'=>∃a0 a1 a2 a3 a4 a5 a6 a7 a8 a9 a10 a11 a12 a13,u=.agg ⟨[I64 a0,I64 a1,I64 a2,I64 a3,I64 a4,I64 a5,I64 a6,I64 a7,I64 a8,I64 a9,I64 a10,.slice a11 a12 a13]⟩∧k ([I64 a0,I64 a1,I64 a2,I64 a3,I64 a4,I64 a5,I64 a6,I64 a7,I64 a8,I64 a9,I64 a10,.slice a11 a12 a13]) H'
abbrev ql6 (a0 a1 a2 a3 a4 a5 a6 a7 a8 a9 a10:Int):Value:=.agg ⟨[I64 a0,I64 a1,I64 a2,I64 a3,I64 a4,I64 a5,I64 a6,I64 a7,I64 a8,I64 a9,I64 a10,.slice none 0 0]⟩
abbrev qbu (f:FuncId)(l:List Value)(H:Heap)(k:List Value→Heap→Prop):Prop:=CF f ⟨l⟩ H fun u H'=>∃a0 a1 a2 a3 a4 a5 a6 a7 a8,u=.agg ⟨[I64 a0,I64 a1,I64 a2,I64 a3,I64 a4,I64 a5,I64 a6,I64 a7,I64 a8]⟩∧k ([I64 a0,I64 a1,I64 a2,I64 a3,I64 a4,I64 a5,I64 a6,I64 a7,I64 a8]) H'
abbrev z5c (c:Prop)(H:Heap)(b o:Nat)(k:List Value→Prop):Prop:=∃a0 a1 a2 a3 a4 a5 a6 a7 a8 a9 a10 a11 a12 a13,(c→q03 H b o ([I64 a0,I64 a1,I64 a2,I64 a3,I64 a4,I64 a5,I64 a6,I64 a7,I64 a8,I64 a9,I64 a10,.slice a11 a12 a13]))∧k ([I64 a0,I64 a1,I64 a2,I64 a3,I64 a4,I64 a5,I64 a6,I64 a7,I64 a8,I64 a9,I64 a10,.slice a11 a12 a13])
abbrev qnd (f:FuncId)(l:List Value)(H:Heap)(k:List Value→Bool→Heap→Prop):Prop:=CF f ⟨l⟩ H fun u H'=>∃a0 a1 a2 a3 a4 a5 a6 a7 a8 a9 a10 a11,u=.tuple #[.agg ⟨[I64 a0,I64 a1,I64 a2,I64 a3,.bool a4,.bool a5,.bool a6,I64 a7,I64 a8,I64 a9,I64 a10]⟩,.bool a11]∧k ([I64 a0,I64 a1,I64 a2,I64 a3,.bool a4,.bool a5,.bool a6,I64 a7,I64 a8,I64 a9,I64 a10]) a11 H'
abbrev gd_u (c:Prop)(H:Heap)(b o:Nat)(k:Int→Prop):Prop:=∃a0,(c→q02 H b o=some (.int .u64 a0))∧k a0
abbrev rd_Au3_ (H:Heap)(b o:Nat)(k:Int→Int→Int→Prop):Prop:=∃a0 a1 a2,q03 H b o ([.int .u64 a0,.int .u64 a1,.int .u64 a2])∧k a0 a1 a2
open Go.Nm
section
variable {a b c d e f g i j k a0 a1 a2 a3 a4 a5 a6 a7 a8 a9 b0 b1 b2 b3 b4 b5 b6 b7 b8 b9 c0 c1 c2 c3 c4 c5 c6 c7 c8 c9 d0 d1 d2 d3 d4 d5 d6 d7 d8 d9 e0 e1 e2 e3 e4 e5 e6 e7 e8 e9 f0 f1 f2 f3 f4 f5 f6 f7 f8 f9 g0 g1 g2 g3 g4 g5 g6 g7 g8 g9 i0 i1 i2 i3 i4 i5 i6 i7 i9 k0 k1 k2 k3 k4 k5 k6 k7 k8 k9 m0 m1 m2 m3 m4 m5 m6 m7 m8 m9 n0:Int} {l m n o p q r n1 n2 n3 n4 n5 n6 n7 n8 n9 o0 o1 o2 o3 o4 o5 o6 o7 o8 o9 p0 p1 p2 p3 p4 p5 p6 p7 p8 p9 q0 q1 q2 q3 q4 q5 q6 q7 q8 q9 s0 s1 s2 s3 s4 s5 s6 s7 s8 s9 t0 t1 t2 t3 t4 t5 t6 t7 t8 t9 u0:Nat} {s t u v u1 u2 u3 u4 u5 u6 u7 u9 v0 v1 v2 v3 v4 v5 v6 v7 v8 v9 w0 w1 w2 w3 w4 w5 w6 w7 w8 w9 x0 x1:Option Addr} {w x x2 x3 x4 x5 x6 x7 x8 x9 z0 z1 z2 z3 z4 z5 z6:ByteArray} {y z7 z8 z9 aa ab ac ad ae af ag ai aj ak al am:Bool} {z an ao ap aq ar au av aw:Nat→Int} {az ah ba bb bc bd be bf:Value} {bj bk bl bm bn bo bp bq:List Value} {bt bu bv bw bx bz:FuncId} {cb cc cd ce cf cg ci cj ck cl cm cn:Option Nat} {H:Heap} {K KP:Value→Heap→Prop}
theorem qqi (h :
 ∃(c:q1m) (e:q37),c 0 H∧
 ∀a b,c a b→
 ID (a < l) (
 IA a l s fun f g=>
 rd_i b f (g+a.toNat) fun d=>
 IN (d=0) (
 K (I64 d) b) (
 c (i64.wrap (a+1)) b∧e (i64.wrap (a+1)) b < e a b)) (
 K (I64 0) b)):CF 229 ⟨[.slice s l m]⟩ H K:=cE h
theorem qqj (h :
 rd_p H m n fun c=>
 NN c (
 rd_m H (adrB c) ((adrO c)+3) fun r=>
 C_m 156 [.map r] H fun f s=>
 C_f 227 [.map f] s fun t u v=>
 C_l 122 [.func (.func t) #[] ⟨u⟩] v fun w g a0 x=>
 ∃(e:q1m) (q:q37),e 0 x∧
 ∀a b,e a b→
 ID (a < g) (
 IA a g w fun y z=>
 rd_i b y (z+a.toNat) fun i=>
 ∃j k o p,q0c Tryz.prog (Instr.lookup 116 (.map f) (I64 i) false) b (qqc j k o p)∧
 Y_b l (L_iv i (qqc j k o p)) b fun r1 d=>
 IF (!r1) (
 K (.tuple #[]) d) (
 e (i64.wrap (a+1)) d∧q (i64.wrap (a+1)) d < q a b)) (
 K (.tuple #[]) b))):CF 226 ⟨(L_va (.func (.yield l) #[] #[]) m n)⟩ H K:=cE h
theorem qne (h :
 rd_i H l m fun s=>
 rd_i H n o fun t=>
 rd_p H p q fun e=>
 NN e (
 rd_i H (adrB e) (adrO e) fun u=>
 ST H l (m+1) [.bool (decide (s < (i64.wrap (t - u))))] fun f=>
 rd_b f l (m+2) fun g=>
 ((g=false)→True)∧
 ∃j,((g=false)→q02 f l (m+1)=some (.bool j))∧
 ST f l (m+2) [.bool (g || j)] fun a=>
 rd_b a l (m+1) fun b=>
 (((!b)=true)→True)∧
 ∃c,(((!b)=true)→q02 a l (m+3)=some (.bool c))∧
 ∃d,((((!b) && (!c))=true)→q02 a r n1=some (.bool d))∧
 (((((!b) && (!c))=true)∧(!d)=false)→True)∧
 gd_i ((((!b) && (!c))=true)∧(!d)=false) a l m fun v=>
 gd_i ((((!b) && (!c))=true)∧(!d)=false) a n2 n3 fun w=>
 ∀i:J_HP,(∀k,(K (I64 0) k)→i k)→
 IF (((!b) && (!c)) && ((!d) || (decide (v < w)))) (
 rd_i a l m fun x=>
 ST a n2 n3 [I64 x] fun y=>
 ST y r n1 [.bool true] fun z=>
 i z) (
 i a))):CF 197 ⟨(L_a5 l m n o p q r n1 n2 n3)⟩ H K:=cE h
theorem z06 (h :
 AL H [PA l m] 111 fun a b=>
 K (.func (.func 226) #[] #[PA a 0]) b):CF 196 ⟨[PA l m]⟩ H K:=cE h
theorem qk7 (h :
 rd_i H n o fun c=>
 Q_b 108 [I64 c] H fun d=>
 IF (!d) (
 K (I64 11) H) (
 rd_i H l m fun a=>
 rd_i H n o fun b=>
 ST H l m [I64 (if b > a then b else a)] fun e=>
 K (I64 0) e)):CF 195 ⟨(L_a2 l m n o)⟩ H K:=cE h
theorem qba (h :
 IF s.isNone (
 K (.slice none 0 0) H) (
 AL H [] 267 fun a b=>
 AP #[91,91] 91 (L_l2 (some ⟨a,0,none⟩) 0 0 s l m) b fun c d e f=>
 K (.slice c d e) f)):CF 189 ⟨[.slice s l m]⟩ H K:=cE h
theorem qbb (h :
 IF s.isNone (
 K (.slice none 0 0) H) (
 AL H [] 95 fun a b=>
 AP #[44,44] 44 (L_l2 (some ⟨a,0,none⟩) 0 0 s l m) b fun c d e f=>
 K (.slice c d e) f)):CF 188 ⟨[.slice s l m]⟩ H K:=cE h
theorem qqk (h :
 ∃(e:q9y) (f:qia),e 0 0 H∧
 ∀d a b,e d a b→
 ID (a < l) (
 IA a l s fun g i=>
 rd_y b g (i+a.toNat) fun c=>
 IF (((decide (c=0)) && (decide (0 < a))) || ((decide (1 < c)) && (decide (a=9)))) (
 K (z56 0 0 10) b) (
 ((128:Int)≠0)∧
 ((0:Int)≤(i64.wrap (7*a)))∧
 ID (c < 128) (
 K (z56 (q0g .or .u64 d (u64.wrap ((u64.wrap (Int.tmod c 128))*2 ^ (min (Int.toNat (i64.wrap (7*a))) (u64.bits))))) (i64.wrap (a+1)) 0) b) (
 e (q0g .or .u64 d (u64.wrap ((u64.wrap (Int.tmod c 128))*2 ^ (min (Int.toNat (i64.wrap (7*a))) (u64.bits))))) (i64.wrap (a+1)) b∧f (q0g .or .u64 d (u64.wrap ((u64.wrap (Int.tmod c 128))*2 ^ (min (Int.toNat (i64.wrap (7*a))) (u64.bits))))) (i64.wrap (a+1)) b < f d a b))) (
 K (z56 0 0 15) b)):CF 174 ⟨[.slice s l m]⟩ H K:=cE h
theorem qnf (h :
 K (.bool ((((((decide (0≤a)) && (decide (a < 64))) && (decide (1≤b))) && (decide (b≤1099511627776))) && (decide (0≤c))) && (decide (c≤4611686018427387903)))) H):CF 169 ⟨(L_i3 a b c)⟩ H K:=cE h
theorem qql (h :
 ∃b r1 r2,CQ 174 #[.slice s l m] H (z56 b r1 r2)∧
 IN (r2=0) (
 K (V_i3 0 0 r2) H) (
 ID ((u64.wrap (if 0 > a then 0 else a)) < b) (
 K (V_i3 0 0 17) H) (
 K (V_i3 (i64.wrap b) r1 0) H))):CF 168 ⟨(L_li s l m a)⟩ H K:=cE h
theorem qng (h :
 ((0:Int)≤1)∧
 K (I64 (q0g .xor .i64 (i64.wrap (Int.fdiv a (2 ^ (min (Int.toNat 1) (u64.bits))))) (i64.wrap (0 - (i64.wrap (q0g .and .u64 a 1)))))) H):CF 167 ⟨[.int .u64 a]⟩ H K:=cE h
theorem qa3 (h :
 IF s.isNone (
 K (.slice none 0 0) H) (
 AL H [] 43 fun a b=>
 AP #[166,166] 166 (L_l2 (some ⟨a,0,none⟩) 0 0 s l m) b fun c d e f=>
 K (.slice c d e) f)):CF 155 ⟨[.slice s l m]⟩ H K:=cE h
def qih.y1 (e i j k l m:Nat)(a:Heap)(b:Loop)(n:List Value)(c:Heap)(K_:Value→Heap→Prop):Prop:=
 ∃f o p q r,n=(L_iv f (qqc o p q r))∧
 c[a.size+1]?=some (.loop b)∧
 c[a.size+1]?=some (.loop b)∧
 ∀d,d=q0n c (a.size+1) { b with state:=.busy }→
 rd_p d e 0 fun s=>
 C_i 143 (L_piv s f (.func (.func 197) #[] #[PA i 0,PA e 0,PA l m,PA j k])) d fun r1 g=>
 g[a.size+1]?=some (.loop { b with state:=.busy })∧K_ (.bool true) (q0n g (a.size+1) b)
theorem quh (h :
 AL H [PA l m] 111 fun c b7=>
 AL b7 [I64 a] 2 fun d e=>
 rd_i e d 0 fun b8=>
 Q_b 108 [I64 b8] e fun n=>
 gd_i ((!n)=false) e d 0 fun b9=>
 gd_p ((!n)=false) e c 0 fun t=>
 (((!n)=false)→isA t)∧
 gd_i ((!n)=false) e (adrB t) ((adrO t)+1) fun c0=>
 IF ((!n) || (decide (b9 < c0))) (
 K (I64 11) e) (
 rd_p e c 0 fun u=>
 rd_i e d 0 fun c1=>
 NN u (
 ST e (adrB u) ((adrO u)+1) [I64 c1] fun o=>
 ∀a0:J_n4HP,(∀x y b1 b2 z,(rd_p z c 0 fun c2=>
 C_f 196 [.pointer c2] z fun a2 c3 f=>
 memN a2 X.calls=true∧
 ∀j:Loop,j.state=.ready→j.pending=none→
 (∀(b3:List Value) (b4:Heap) (b5:Value→Heap→Prop),qih.y1 c d x y b1 b2 f j b3 b4 b5→q4f Tryz.prog (f.size+1) b3 b4 b5)→
 CF a2 ⟨(.func (.yield (f.size+1)) #[] #[])::c3⟩ ((f.push (.deferred (some []))).push (.loop j)) fun c8 a3=>∃(b6:LoopState) (a1:Option Code),b6≠.busy∧a3[f.size+1]?=some (.loop { j with state:=b6,pending:=a1 })∧
 ∀k:Heap,k=q0n a3 (f.size+1) { j with state:=.exhausted,pending:=a1 }→
 a1=none∧
 rd_p k c 0 fun v=>
 rd_p k c 0 fun w=>
 NN w (
 rd_i k (adrB w) ((adrO w)+2) fun a4=>
 rd_i k x y fun a5=>
 NN v (
 ST k (adrB v) ((adrO v)+2) [I64 (if a5 > a4 then a5 else a4)] fun a6=>
 a6[f.size]?=some (.deferred (some []))∧
 K (I64 0) (a6.setIfInBounds f.size (.deferred none)))))→a0 x y b1 b2 z)→
 rd_i o d 0 fun g=>
 rd_p o c 0 fun b=>
 NN b (
 rd_i o (adrB b) (adrO b) fun i=>
 (AL o [I64 0] 2 fun a7 p=>
 q02 p (adrB b) (adrO b)=some (I64 i)∧
 q02 p c 0=some (.pointer b)∧
 q02 p d 0=some (I64 g)∧
 AL p [.bool false] 4 fun a8 q=>
 q02 q (adrB b) (adrO b)=some (I64 i)∧
 q02 q c 0=some (.pointer b)∧
 q02 q d 0=some (I64 g)∧
 ST q a7 0 [I64 (i64.wrap (g - i))] fun c4=>
 ST c4 a8 0 [.bool false] fun c5=>
 a0 a7 0 a8 0 c5)∧
 (AL o [.bool false] 4 fun a9 r=>
 q02 r (adrB b) (adrO b)=some (I64 i)∧
 q02 r c 0=some (.pointer b)∧
 q02 r d 0=some (I64 g)∧
 AL r [I64 0] 2 fun b0 s=>
 q02 s (adrB b) (adrO b)=some (I64 i)∧
 q02 s c 0=some (.pointer b)∧
 q02 s d 0=some (I64 g)∧
 ST s b0 0 [I64 (i64.wrap (g - i))] fun c6=>
 ST c6 a9 0 [.bool false] fun c7=>
 a0 b0 0 a9 0 c7))))):CF 149 ⟨(L_ai l m a)⟩ H K:=cE h
theorem qqm (h :
 AL H [I64 b] 2 fun c d=>
 C_i 143 (L_aiv l m a (.func (.func 195) #[] #[PA c 0])) d fun e f=>
 K (I64 e) f):CF 148 ⟨(qnb l m a b)⟩ H K:=cE h
theorem qqn (h :
 IF ((decide (a < 0)) || (decide (2199023255552 < a))) (
 K (V_ni n) H) (
 ∃(z:q9y) (b3:qia),z 0 0 H∧
 ∀d b f,z d b f→
 ID (b < n) (
 IA b n s fun b5 b6=>
 q16 f b5 (b6+b.toNat*4) fun b7=>
 AL f q54 95 fun a1 b8=>
 ST b8 a1 0 b7 fun r=>
 rd_m r l (m+2) fun b9=>
 qqe 209 (.map b9) (I64 (i64.wrap (a+b))) r fun c0 c1=>
 AL r q54 95 fun c2 c3=>
 ST c3 c2 0 c0 fun c=>
 rd_i c l m fun c4=>
 ∀x:q1m,(∀v w,(z v (i64.wrap (b+1)) w∧b3 v (i64.wrap (b+1)) w < b3 d b f)→x v w)→
 IF ((decide ((i64.wrap (a+b)) < c4)) || c1) (
 x d c) (
 rd_i c l m fun c5=>
 rd_i c l (m+1) fun c6=>
 ∀y:q1m,(∀b1 b2,(x b1 b2)→y b1 b2)→
 ID ((i64.wrap (c5+c6))≤(i64.wrap (a+b))) (
 y (i64.wrap (d+1)) c) (
 rd_m c l (m+2) fun c7=>
 q16 c a1 0 fun c8=>
 MU 209 (.map c7) (I64 (i64.wrap (a+b))) (.agg ⟨c8⟩) c fun c9=>
 y d c9))) (
 ∃(a0:q0x) (b4:q0y),a0 none 0 0 d f∧
 ∀k p q g e,a0 k p q g e→
 rd_m e l (m+2) fun t=>
 rd_i e l m fun u=>
 qqe 209 (.map t) (I64 u) e fun a2 a3=>
 AL e q54 95 fun a4 i=>
 q0c Tryz.prog (Instr.lookup 209 (.map t) (I64 u) true) i (V_vb (.agg ⟨a2⟩) a3)∧
 q02 i l m=some (I64 u)∧
 q02 i l (m+2)=some (.map t)∧
 ST i a4 0 a2 fun j=>
 IF (!a3) (
 K (V_li k p q g) j) (
 rd_m j l (m+2) fun d0=>
 rd_i j l m fun d1=>
 RunW Tryz.prog (Builtin.delete_ #[209,2] 0 #[.map d0,I64 d1]) j fun d6 a5=>
 q16 a5 a4 0 fun d2=>
 AL a5 d2 95 fun d3 d4=>
 AP #[44,44] 44 (L_l2 k p q (some ⟨d3,0,none⟩) 1 1) d4 fun a6 a7 a8 a9=>
 rd_i a9 l m fun d5=>
 ST a9 l m [I64 (i64.wrap (d5+1))] fun b0=>
 a0 a6 a7 a8 g b0∧b4 a6 a7 a8 g b0 < b4 k p q g e)))):CF 145 ⟨(L_ail l m a s n o)⟩ H K:=cE h
theorem qnh (h :
 rd_b H n o fun a=>
 ST H l (m+3) [.bool a] fun b=>
 K (I64 0) b):CF 144 ⟨(L_a2 l m n o)⟩ H K:=cE h
theorem qni (h :
 rd_m H l (m+3) fun f=>
 qgu 116 (.map f) (I64 a) H fun g i=>
 AL H q7w 80 fun c j=>
 ST j c 0 g fun d=>
 IF (!i) (
 K (I64 19) d) (
 memN bt X.calls=true∧
 C_i bt ([PA c 0]++bj) d fun e b=>
 IN (e=0) (
 K (I64 e) b) (
 rd_m b l (m+3) fun k=>
 q8j b c 0 fun n=>
 MU 116 (.map k) (I64 a) (.agg ⟨n⟩) b fun o=>
 K (I64 0) o))):CF 143 ⟨[PA l m,I64 a,.func (.func bt) #[] ⟨bj⟩]⟩ H K:=cE h
theorem q9b (h :
 ((0:Int)≤a∧a≤b∧b≤(l:Int)∧(l:Int)≤(m:Int))∧
 ID (a=b) (
 K (.slice s l m) H) (
 (BD 0 a m)∧
 (BD b l m)∧
 AP #[166,166] 166 (L_l2 (slB s 0 m 4) a.toNat m (slB s b.toNat m 4) (l - b.toNat) (m - b.toNat)) H fun e c d f=>
 (BD c l d)∧
 RunW Tryz.prog (Builtin.clear_ #[166] 0 #[.slice (slB e c d 4) (l - c) (d - c)]) f fun i g=>
 K (.slice e c d) g)):CF 139 ⟨(L_li2 s l m a b)⟩ H K:=cE h
theorem qui (h :
 Q_b 109 [I64 a] H fun d=>
 gQ_b ((!d)=false) 108 [I64 b] H fun r1=>
 IF ((!d) || (!r1)) (
 K (I64 11) H) (
 rd_m H l (m+3) fun e=>
 qgu 116 (.map e) (I64 a) H fun f g=>
 AL H q7w 80 fun i j=>
 ST j i 0 f fun c=>
 IF g (
 K (I64 18) c) (
 rd_m c l (m+3) fun k=>
 MU 116 (.map k) (I64 a) (qqc b false false false) c fun n=>
 K (I64 0) n))):CF 138 ⟨(qnb l m a b)⟩ H K:=cE h
theorem qqo (h :
 rd_m H l (m+3) fun c=>
 qgu 116 (.map c) (I64 a) H fun d e=>
 AL H q7w 80 fun f g=>
 ST g f 0 d fun b=>
 IF (!e) (
 K (I64 19) b) (
 rd_m b l (m+3) fun i=>
 RunW Tryz.prog (Builtin.delete_ #[116,2] 0 #[.map i,I64 a]) b fun k j=>
 K (I64 0) j)):CF 137 ⟨(L_ai l m a)⟩ H K:=cE h
theorem qqp (h :
 AL H (L_i3 0 0 0) 78 fun e i=>
 Q_b 169 (L_i3 a b c) i fun v=>
 IF (!v) (
 ST i e 0 (L_i3 0 0 0) fun k=>
 q15 k e 0 fun w=>
 K (z04 (.agg ⟨w⟩) false 11) k) (
 rd_m i l (m+1) fun x=>
 qnc 206 (.map x) (I64 a) i fun y f=>
 AL i (L_i3 0 0 0) 78 fun g z=>
 ST z g 0 y fun d=>
 gd_i (f=true) d g 1 fun a0=>
 IF (f && (decide (a0=b))) (
 q15 d g 0 fun a1=>
 ST d e 0 a1 fun n=>
 q15 n e 0 fun a2=>
 K (z04 (.agg ⟨a2⟩) false 0) n) (
 gd_i (f=true) d g 1 fun a3=>
 IF (f && (decide (b < a3))) (
 ST d e 0 (L_i3 0 0 0) fun o=>
 q15 o e 0 fun a4=>
 K (z04 (.agg ⟨a4⟩) false 22) o) (
 gd_i (f=true) d g 0 fun a5=>
 IF (f && (decide (1099511627776≤a5))) (
 ST d e 0 (L_i3 0 0 0) fun p=>
 q15 p e 0 fun a6=>
 K (z04 (.agg ⟨a6⟩) false 17) p) (
 (((!f)=true)→True)∧
 ∃t,(((!f)=true)→q02 d l (m+1)=some (.map t))∧
 ∃u:Int,(((!f)=true)→q0c Tryz.prog (Builtin.len_ #[206] 3 #[.map t]) d (.int .i64 u))∧
 (((!f)=true)→True)∧
 gd_i ((!f)=true) d l m fun a7=>
 IF ((!f) && (decide (a7≤u))) (
 ST d e 0 (L_i3 0 0 0) fun q=>
 q15 q e 0 fun a8=>
 K (z04 (.agg ⟨a8⟩) false 20) q) (
 rd_i d g 0 fun a9=>
 ST d g 0 (L_i3 (i64.wrap (a9+1)) b c) fun j=>
 rd_m j l (m+1) fun b0=>
 q15 j g 0 fun b1=>
 MU 206 (.map b0) (I64 a) (.agg ⟨b1⟩) j fun r=>
 q15 r g 0 fun b2=>
 ST r e 0 b2 fun s=>
 q15 s e 0 fun b3=>
 K (z04 (.agg ⟨b3⟩) true 0) s)))))):CF 136 ⟨[PA l m,I64 a,I64 b,I64 c]⟩ H K:=cE h
theorem z5d (h :
 rd_m H l (m+1) fun f=>
 qnc 206 (.map f) (I64 a) H fun g c=>
 AL H (L_i3 0 0 0) 78 fun d i=>
 ST i d 0 g fun e=>
 gd_i (c=true) e d 0 fun j=>
 K (.bool (c && (decide (j=b)))) e):CF 135 ⟨(qnb l m a b)⟩ H K:=cE h
theorem qqq (h :
 ∃(f:q0x) (o:q0y),f none 0 0 0 H∧
 ∀c d e a b,f c d e a b→
 ID (a < l) (
 IA a l s fun p q=>
 rd_s b p (q+a.toNat) fun g=>
 C_l 118 (L_lu c d e (u64.wrap (g.size:Int))) b fun r t u v=>
 AP #[24,9] 24 (L_ls r t u g) v fun i j k n=>
 f i j k (i64.wrap (a+1)) n∧o i j k (i64.wrap (a+1)) n < o c d e a b) (
 K (.slice c d e) b)):CF 132 ⟨[.slice s l m]⟩ H K:=cE h
theorem qqr (h :
 C_l 83 [PA l m] H fun v g a5 w=>
 ∃(f:q0x) (u:q0y),f none 0 0 0 w∧
 ∀c d e b a,f c d e b a→
 ID (b < g) (
 IA b g v fun x y=>
 rd_i a x (y+b.toNat) fun z=>
 rd_m a l (m+2) fun a0=>
 ∃o p q r s t,q0c Tryz.prog (Instr.lookup 209 (.map a0) (I64 z) false) a (qqd o p q r s t)∧
 AL a (qib o p q r s t) 95 fun a1 a2=>
 AP #[44,44] 44 (L_l2 c d e (some ⟨a1,0,none⟩) 1 1) a2 fun i j k n=>
 f i j k (i64.wrap (b+1)) n∧u i j k (i64.wrap (b+1)) n < u c d e b a) (
 rd_m a l (m+2) fun a3=>
 RunW Tryz.prog (Builtin.clear_ #[209] 0 #[.map a3]) a fun a6 a4=>
 K (.slice c d e) a4)):CF 126 ⟨[PA l m]⟩ H K:=cE h
theorem qqs (h :
 rd_p H m n fun c=>
 NN c (
 rd_m H (adrB c) ((adrO c)+1) fun q=>
 C_m 121 [.map q] H fun f r=>
 C_f 123 [.map f] r fun s t u=>
 C_l 122 [.func (.func s) #[] ⟨t⟩] u fun v g z w=>
 ∃(e:q1m) (p:q37),e 0 w∧
 ∀a b,e a b→
 ID (a < g) (
 IA a g v fun x y=>
 rd_i b x (y+a.toNat) fun i=>
 ∃j k o,q0c Tryz.prog (Instr.lookup 206 (.map f) (I64 i) false) b (A_i3 j k o)∧
 Y_b l (L_iv i (A_i3 j k o)) b fun r1 d=>
 IF (!r1) (
 K (.tuple #[]) d) (
 e (i64.wrap (a+1)) d∧p (i64.wrap (a+1)) d < p a b)) (
 K (.tuple #[]) b))):CF 120 ⟨(L_va (.func (.yield l) #[] #[]) m n)⟩ H K:=cE h
theorem quj (h :
 ((0:Int)≤1)∧
 ((0:Int)≤63)∧
 K (.int .u64 (q0g .xor .u64 (u64.wrap ((u64.wrap a)*2 ^ (min (Int.toNat 1) (u64.bits)))) (u64.wrap (Int.fdiv a (2 ^ (min (Int.toNat 63) (i64.bits))))))) H):CF 119 ⟨[I64 a]⟩ H K:=cE h
theorem z07 (h :
 ∃(g:q0x) (o:q0y),g s l m a H∧
 ∀c d e b f,g c d e b f→
 ID (128≤b) (
 AL f [.int .u8 (q0g .or .u8 (u8.wrap b) 128)] 5 fun p q=>
 AP #[24,24] 24 (L_l2 c d e (some ⟨p,0,none⟩) 1 1) q fun i j k n=>
 ((0:Int)≤7)∧
 g i j k (Int.fdiv b (2 ^ (min (Int.toNat 7) (u64.bits)))) n∧o i j k (Int.fdiv b (2 ^ (min (Int.toNat 7) (u64.bits)))) n < o c d e b f) (
 AL f [.int .u8 (u8.wrap b)] 5 fun r t=>
 AP #[24,24] 24 (L_l2 c d e (some ⟨r,0,none⟩) 1 1) t fun u v w x=>
 K (.slice u v w) x)):CF 118 ⟨(L_lu s l m a)⟩ H K:=cE h
theorem qqt (h :
 ∃(f:q0x) (n:q0y),f none 0 0 0 H∧
 ∀c d e a b,f c d e a b→
 ID (a < l) (
 IA a l s fun o p=>
 rd_u b o (p+a.toNat) fun q=>
 C_l 118 (L_lu c d e q) b fun g i j k=>
 f g i j (i64.wrap (a+1)) k∧n g i j (i64.wrap (a+1)) k < n c d e a b) (
 K (.slice c d e) b)):CF 117 ⟨[.slice s l m]⟩ H K:=cE h
theorem q4l (h :
 rd_i H l (m+1) fun e=>
 IN (e=0) (
 K (.bool false) H) (
 IN (b=0) (
 ST H l (m+1) [I64 b] fun f=>
 K (.bool false) f) (
 rd_l H l m fun g d c=>
 (BD a d c)∧
 ST H l m [.slice (slB g a.toNat c 1) (d - a.toNat) (c - a.toNat)] fun i=>
 K (.bool true) i))):CF 115 ⟨(qnb l m a b)⟩ H K:=cE h
theorem qdc (h :
 rd_l H l m fun c d e=>
 ∃b r1 r2,CQ 174 #[.slice c d e] H (z56 b r1 r2)∧
 C_b 115 (qnb l m r1 r2) H fun r3 a=>
 IF (!r3) (
 K (.int .u64 0) a) (
 K (.int .u64 b) a)):CF 114 ⟨[PA l m]⟩ H K:=cE h
theorem qdd (h :
 rd_l H l m fun b a c=>
 K (I64 a) H):CF 111 ⟨[PA l m]⟩ H K:=cE h
def q2u.r1 (d e:Nat)(K:KT)(a r1 i:Int)(f:Heap):Prop:=
 rd_l f d e fun j k b=>
 C_b 115 (qnb d e (i64.wrap (r1+a)) i) f fun r3 c=>
 IF (!r3) (
 K (.string (⟨#[]⟩:ByteArray)) c) (
 (BD r1 (i64.wrap (r1+a)) b)∧
 ∃g:ByteArray,q0c Tryz.prog (convert 24 9 (.slice (slB j r1.toNat b 1) (((i64.wrap (r1+a)).toNat) - r1.toNat) (b - r1.toNat))) c (.string g)∧
 K (.string g) c)
theorem qde (h :
 rd_l H l m fun f g i=>
 ∃b r1 r2,CQ 168 #[.slice f g i,I64 a] H (V_i3 b r1 r2)∧
 (((decide (r2=0))=true)→True)∧
 gd_l ((decide (r2=0))=true) H l m fun k j n=>
 ∀c:q1m,(∀d e,q2u.r1 l m K b r1 d e→c d e)→
 IF ((decide (r2=0)) && (decide ((i64.wrap ((j:Int) - r1)) < b))) (
 c 15 H) (
 c r2 H)):CF 110 ⟨(L_ai l m a)⟩ H K:=cE h
theorem qk8 (h :
 K (.bool ((decide (0≤a)) && (decide (a < 64)))) H):CF 109 ⟨[I64 a]⟩ H K:=cE h
theorem qnj (h :
 K (.bool ((decide (0≤a)) && (decide (a≤4611686018427387903)))) H):CF 108 ⟨[I64 a]⟩ H K:=cE h
theorem z08 (h :
 AL H (L_i3 b c d) 78 fun g e=>
 rd_i e g 1 fun n=>
 rd_i e g 2 fun o=>
 Q_b 169 (L_i3 a n o) e fun i=>
 gd_i ((!i)=false) e g 0 fun j=>
 gd_i (((!i) || (decide (j < 1)))=false) e g 0 fun p=>
 IF (((!i) || (decide (j < 1))) || (decide (1099511627776 < p))) (
 K (I64 11) e) (
 rd_m e l (m+1) fun q=>
 qnc 206 (.map q) (I64 a) e fun r s=>
 AL e (L_i3 0 0 0) 78 fun t u=>
 ST u t 0 r fun f=>
 IF s (
 K (I64 18) f) (
 rd_m f l (m+1) fun v=>
 ∃k:Int,q0c Tryz.prog (Builtin.len_ #[206] 3 #[.map v]) f (.int .i64 k)∧
 rd_i f l m fun w=>
 ID (w≤k) (
 K (I64 20) f) (
 rd_m f l (m+1) fun x=>
 q15 f g 0 fun y=>
 MU 206 (.map x) (I64 a) (.agg ⟨y⟩) f fun z=>
 K (I64 0) z)))):CF 104 ⟨(L_aiv l m a (A_i3 b c d))⟩ H K:=cE h
theorem qc5 (h :
 rd_l H l m fun d e f=>
 ∃c r1 r2,CQ 168 #[.slice d e f,I64 a] H (V_i3 c r1 r2)∧
 C_b 115 (qnb l m r1 r2) H fun r3 b=>
 IF (!r3) (
 K (I64 0) b) (
 K (I64 c) b)):CF 103 ⟨(L_ai l m a)⟩ H K:=cE h
theorem qez (h :
 rd_i H l (m+1) fun a=>
 K (I64 a) H):CF 102 ⟨[PA l m]⟩ H K:=cE h
theorem qf0 (h :
 C_u 114 [PA l m] H fun b a=>
 Q_i 167 [.int .u64 b] a fun r1=>
 K (I64 r1) a):CF 101 ⟨[PA l m]⟩ H K:=cE h
theorem qnk (h :
 IF s.isNone (
 K (.slice none 0 0) H) (
 AL H [] 5 fun a b=>
 AP #[24,24] 24 (L_l2 (some ⟨a,0,none⟩) 0 0 s l m) b fun c d e f=>
 K (.slice c d e) f)):CF 100 ⟨[.slice s l m]⟩ H K:=cE h
theorem qqu (h :
 rd_i H l m fun b=>
 rd_i H l (m+1) fun c=>
 rd_m H l (m+2) fun d=>
 C_m 157 [.map d] H fun e a=>
 q02 a l (m+1)=some (I64 c)∧
 q02 a l m=some (I64 b)∧
 AL a [I64 b,I64 c,.map e] 211 fun f g=>
 K (PA f 0) g):CF 90 ⟨[PA l m]⟩ H K:=cE h
theorem qdf (h :
 IF s.isNone (
 K (.slice none 0 0) H) (
 AL H [] 64 fun a b=>
 AP #[86,86] 86 (L_l2 (some ⟨a,0,none⟩) 0 0 s l m) b fun c d e f=>
 K (.slice c d e) f)):CF 85 ⟨[.slice s l m]⟩ H K:=cE h
theorem qk9 (h :
 rd_m H l (m+2) fun a=>
 C_f 154 [.map a] H fun b c d=>
 C_l 122 [.func (.func b) #[] ⟨c⟩] d fun e f g i=>
 K (.slice e f g) i):CF 83 ⟨[PA l m]⟩ H K:=cE h
theorem quk (h :
 rd_i H l m fun a=>
 K (I64 a) H):CF 82 ⟨[PA l m]⟩ H K:=cE h
theorem z5e (h :
 AL H q7w 80 fun c b=>
 rd_m b l (m+3) fun g=>
 qgu 116 (.map g) (I64 a) b fun i j=>
 AL b q7w 80 fun d k=>
 ST k d 0 i fun e=>
 q8j e d 0 fun n=>
 ST e c 0 n fun f=>
 q8j f c 0 fun o=>
 K (V_vb (.agg ⟨o⟩) j) f):CF 81 ⟨(L_ai l m a)⟩ H K:=cE h
theorem z5f (h :
 AL H (L_i3 0 0 0) 78 fun c b=>
 rd_m b l (m+1) fun g=>
 qnc 206 (.map g) (I64 a) b fun i j=>
 AL b (L_i3 0 0 0) 78 fun d k=>
 ST k d 0 i fun e=>
 q15 e d 0 fun n=>
 ST e c 0 n fun f=>
 q15 f c 0 fun o=>
 K (V_vb (.agg ⟨o⟩) j) f):CF 80 ⟨(L_ai l m a)⟩ H K:=cE h
theorem qc6 (h :
 ((0:Int)≤a∧a≤b∧b≤(l:Int)∧(l:Int)≤(m:Int))∧
 ID (a=b) (
 K (.slice s l m) H) (
 (BD 0 a m)∧
 (BD b l m)∧
 AP #[86,86] 86 (L_l2 (slB s 0 m 74) a.toNat m (slB s b.toNat m 74) (l - b.toNat) (m - b.toNat)) H fun e c d f=>
 (BD c l d)∧
 RunW Tryz.prog (Builtin.clear_ #[86] 0 #[.slice (slB e c d 74) (l - c) (d - c)]) f fun i g=>
 K (.slice e c d) g)):CF 74 ⟨(L_li2 s l m a b)⟩ H K:=cE h
theorem qul (h :
 AL H [.bool y] 4 fun b c=>
 C_i 143 (L_aiv l m a (.func (.func 144) #[] #[PA b 0])) c fun d e=>
 K (I64 d) e):CF 69 ⟨[PA l m,I64 a,.bool y]⟩ H K:=cE h
theorem z09 (h :
 AL H [PA l m] 110 fun a b=>
 K (.func (.func 120) #[] #[PA a 0]) b):CF 61 ⟨[PA l m]⟩ H K:=cE h
theorem qqv (h :
 rd_i H l (m+2) fun a=>
 K (I64 a) H):CF 60 ⟨[PA l m]⟩ H K:=cE h
theorem qum (h :
 ∃(f:q0x) (o:q0y),f none 0 0 0 H∧
 ∀c d e a b,f c d e a b→
 ID (a < l) (
 IA a l s fun p q=>
 rd_i b p (q+a.toNat) fun r=>
 ∃n,CQ 119 #[I64 r] b (.int .u64 n)∧
 C_l 118 (L_lu c d e n) b fun g i j k=>
 f g i j (i64.wrap (a+1)) k∧o g i j (i64.wrap (a+1)) k < o c d e a b) (
 K (.slice c d e) b)):CF 59 ⟨[.slice s l m]⟩ H K:=cE h
theorem z0a (h :
 rd_i H l (m+1) fun a=>
 K (I64 a) H):CF 58 ⟨[PA l m]⟩ H K:=cE h
theorem z0b (h :
 IF ((((decide (a < 0)) || (decide (1099511627776 < a))) || (decide (b < 1))) || (decide (256 < b))) (
 K (V_pi none 11) H) (
 NM H fun c d=>
 AL d [I64 a,I64 b,.map (some c)] 211 fun e f=>
 K (V_ai e 0 0) f)):CF 56 ⟨(L_i2 a b)⟩ H K:=cE h
theorem z0c (h :
 IF ((decide (a < 1)) || (decide (64 < a))) (
 K (V_pi none 11) H) (
 NM H fun b c=>
 AL c (L_iM a b) 208 fun d e=>
 K (V_ai d 0 0) e)):CF 54 ⟨[I64 a]⟩ H K:=cE h
theorem z0d (h :
 IF ((decide (a < 1)) || (decide (1099511627776 < a))) (
 K (V_pi none 11) H) (
 NM H fun b c=>
 AL c [I64 a,I64 0,I64 (i64.wrap (0 - a)),.map (some b)] 191 fun d e=>
 K (V_ai d 0 0) e)):CF 52 ⟨[I64 a]⟩ H K:=cE h
theorem qnl (h :
 ∃a:ByteArray,q0c Tryz.prog (convert 24 9 (.slice s l m)) H (.string a)∧
 ∃b:ByteArray,q0c Tryz.prog (convert 24 9 (.slice t n o)) H (.string b)∧
 K (.bool (a.toList == b.toList)) H):CF 51 ⟨(L_l2 s l m t n o)⟩ H K:=cE h
theorem qf1 (h :
 rd_l H l m fun f c g=>
 ∀b:J_HP,(∀a,(rd_i a l (m+1) fun d=>
 K (I64 d) a)→b a)→
 ID (0 < (c:Int)) (
 C_b 115 (qnb l m 0 10) H fun i e=>
 b e) (
 b H)):CF 50 ⟨[PA l m]⟩ H K:=cE h
theorem ql7 (h :
 Q_b 108 [I64 a] H fun n=>
 (((!n)=false)→True)∧
 gd_i ((!n)=false) H l m fun a3=>
 IF (((!n) || (decide (b < (i64.wrap (a - a3))))) || (decide (a < b))) (
 K (I64 11) H) (
 NM H fun f a4=>
 RunW Tryz.prog (Instr.range 116 (.map cb)) a4 fun a5 a6=>
 ∃i:Nat,a5=.pointer (some ⟨i,0,none⟩)∧
 ∃(j:J_HP) (k:J_Hn),j a6∧
 ∀g,j g→
 RunW Tryz.prog (Instr.next (PA i 0) false 0) g fun s c=>
 (s=(.tuple #[.bool false])∧
 IF false (
 ∃q,∃v w x y,q0c Tryz.prog (Instr.entry (PA i 0)) c (V_iv q (qqc v w x y))∧
 AL c q7w 80 fun o a7=>
 ST a7 o 0 (que v w x y) fun d=>
 Q_b 109 [I64 q] d fun r1=>
 gd_i ((!r1)=false) d o 0 fun a8=>
 gQ_b ((!r1)=false) 108 [I64 a8] d fun r2=>
 IF ((!r1) || (!r2)) (
 K (I64 11) d) (
 q8j d o 0 fun a9=>
 MU 116 (.map (some f)) (I64 q) (.agg ⟨a9⟩) d fun t=>
 j t∧k t < k g)) (
 ST c l (m+1) [I64 a] fun b0=>
 ST b0 l (m+2) [I64 b] fun b1=>
 ST b1 l (m+3) [.map (some f)] fun b2=>
 K (I64 0) b2))∨
 (∃b9 c0:Value,s=(V_bv2 true b9 c0)∧
 IF true (
 ∃r,∃z a0 a1 a2,q0c Tryz.prog (Instr.entry (PA i 0)) c (V_iv r (qqc z a0 a1 a2))∧
 AL c q7w 80 fun p b3=>
 ST b3 p 0 (que z a0 a1 a2) fun e=>
 Q_b 109 [I64 r] e fun r3=>
 gd_i ((!r3)=false) e p 0 fun b4=>
 gQ_b ((!r3)=false) 108 [I64 b4] e fun r4=>
 IF ((!r3) || (!r4)) (
 K (I64 11) e) (
 q8j e p 0 fun b5=>
 MU 116 (.map (some f)) (I64 r) (.agg ⟨b5⟩) e fun u=>
 j u∧k u < k g)) (
 ST c l (m+1) [I64 a] fun b6=>
 ST b6 l (m+2) [I64 b] fun b7=>
 ST b7 l (m+3) [.map (some f)] fun b8=>
 K (I64 0) b8)))):CF 46 ⟨[PA l m,I64 a,I64 b,.map cb]⟩ H K:=cE h
theorem z0e (h :
 C_l 100 [.slice s l m] H fun a b c d=>
 AL d (L_li a b c 0) 184 fun e f=>
 K (PA e 0) f):CF 39 ⟨[.slice s l m]⟩ H K:=cE h
end
open Go.Nm Go.RowKit Go.Maps Go.Sort Go.Shelf
theorem q0t {P:Program}{f:FuncId}{args:Array Value}{w:World}{K:Value→Heap→Prop}{Q:Ending→World→Prop}(h:Calls P f args w Q)(hk:∀e w',Q e w'→∃v,e=.returned v∧Go.Nm.Rest w w'∧K v w'.heap):Calls P f args w (Fin w K):=
 h.mono fun e w' hq=>by
  obtain⟨v,rfl,h1,h2⟩:=hk e w' hq;exact⟨h1,h2⟩
theorem z5g (m:Nat):AnyZI.SortsIn Tryz.prog Tryz.sortedA_ren Fence.wide m:=
 ⟨fun blk off cap ss W hH hblk hsz=>callsIn_wide.2 (AnyM.slices_Sort_int Tryz.sortA blk off cap ss W hH hblk hsz),
  fun p cap W=>callsIn_wide.2 (AnyM.slices_Sort_int_none Tryz.sortA p cap W)⟩
theorem z0f {H:Heap}{mb:Option Nat}{K:Value→Heap→Prop}(k:K (.func (.func 178) #[] #[.pointer (some ⟨H.size,0,none⟩)]) (H.push (.cells #[.map mb] 206))) :
  CF 123 #[.map mb] H K:=by
 intro w hw;subst hw;have h:=(callsIn_wide (n:=5)).1 (AnyZI.keys_in Tryz.keysA Fence.wide 5 trivial rfl mb w);refine q0t h ?_;rintro e w' ⟨rfl,rfl⟩;exact⟨_,rfl,⟨rfl,rfl,rfl⟩,k⟩
set_option maxHeartbeats 1000000 in
theorem qqw {α:Type}{venc:α→Value}{H:Heap}{L:List Assn}{r:Nat}{m:List (Int × α)}(h:SatL H L)(i:Nat)(hA:nth i L=mapA (Value.int .i64) venc r m)(hr:∀x∈q00 m,wf64 x)(hsz:m.length≤17592186044416){K:Value→Heap→Prop}
  (k:∀a c H',SatL H' (slA 2 1 a m.length c ((q66 (q00 m)).map (Value.int .i64))::L)→Grow H H'→K (.slice a m.length c) H') :
  CF 122 #[.func (.func 178) #[] #[.pointer (some ⟨H.size,0,none⟩)]] (H.push (.cells #[.map (some r)] 206)) K:=by
 intro w hw;have g:Grow H w.heap:=by rw [hw]; exact Grow.push _ _
 have h2:SatL w.heap L:=h.grow g;have h3:=h2.foc i;rw [hA] at h3;obtain⟨D0,hown,hperm,hsize⟩:=qer (k:=2) Tryz.underlying2 h3 hr (by unfold maxLen; omega);have hcell:w.cell? ⟨H.size,0,none⟩=some (.map (some r)):=by
  simp [World.cell?,hw]
 have hseq:SeqGives Fence.wide 2 Tryz.prog 178 #[.pointer (some ⟨H.size,0,none⟩)] encZ (fun ss=>ss.Perm (intKeys D0)) (Maps.size D0) w:=
  AnyZI.keys_gives (ρ:=Tryz.keysA_ren) { Tryz.keysA with } Fence.wide _ trivial rfl (by omega) H.size r m.length D0 w (by rw [hw]; simp) hcell hown
 have cS:=AnyZI.sorted_in Tryz.sortedA Fence.wide 5 trivial trivial trivial trivial rfl (by omega) (z5g _) (enters_of Tryz.func177 (by kernel_rfl) rfl) 178 #[.pointer (some ⟨H.size,0,none⟩)] trivial (enters_of Tryz.func178 (by kernel_rfl) rfl) _ _ (by unfold maxLen; omega) (by omega) w hseq;change CallsIn _ _ Tryz.prog 122 _ _ _ at cS;refine q0t ((callsIn_wide (n:=5)).1 cS) ?_;rintro e w' ⟨v,ss,rfl,hS,hrow,hnil,hb⟩;obtain⟨a,c,rfl,h4⟩:=h2.of_row hb hrow;have hp:ss.Perm (q00 m):=hS.trans hperm;have hl:ss.length=m.length:=by rw [hp.length_eq]; simp [q00]
 have he:ss.mergeSort (fun x y=>decide (x≤y))=q66 (q00 m):=qeq hp
 rw [he,hl] at h4;refine⟨_,rfl,q67 hb,?_⟩;rw [hl];exact k a c _ h4 (g.trans (q4i hb))
theorem qun {α:Type}{venc:α→Value}{H:Heap}{L:List Assn}{r:Nat}{m:List (Int × α)}(h:SatL H L)(i:Nat)(hA:nth i L=mapA (Value.int .i64) venc r m){K:Value→Heap→Prop}
  (k:∀H',SatL H' (mapA (Value.int .i64) venc H.size m::L)→Grow H H'→K (.map (some H.size)) H') :
  CF 121 #[.map (some r)] H K:=by
 intro w hw;subst hw;have h3:=h.foc i;rw [hA] at h3;obtain⟨hn,es,clock,h4,h5,h6,h7⟩:=q3b h3;have hc:=AnyW.maps_Clone Tryz.cloneA r es clock w h7.get;refine q0t hc ?_;rintro e w' ⟨rfl,rfl⟩;refine⟨_,rfl,⟨rfl,rfl,rfl⟩,k _ ?_ (Grow.push _ _)⟩;exact (h.push (.map es clock)).mono fun p hp=>⟨hn,es,clock,h4,h5,h6,hp⟩
theorem z0g {H:Heap}{mb:Option Nat}{K:Value→Heap→Prop}(k:K (.func (.func 199) #[] #[.pointer (some ⟨H.size,0,none⟩)]) (H.push (.cells #[.map mb] 209))) :
  CF 154 #[.map mb] H K:=by
 intro w hw;subst hw;have h:=(callsIn_wide (n:=5)).1 (AnyZI.keys_in Tryz.keysA2 Fence.wide 5 trivial rfl mb w);refine q0t h ?_;rintro e w' ⟨rfl,rfl⟩;exact⟨_,rfl,⟨rfl,rfl,rfl⟩,k⟩
set_option maxHeartbeats 1000000 in
theorem qqx {α:Type}{venc:α→Value}{H:Heap}{L:List Assn}{r:Nat}{m:List (Int × α)}(h:SatL H L)(i:Nat)(hA:nth i L=mapA (Value.int .i64) venc r m)(hr:∀x∈q00 m,wf64 x)(hsz:m.length≤17592186044416){K:Value→Heap→Prop}
  (k:∀a c H',SatL H' (slA 2 1 a m.length c ((q66 (q00 m)).map (Value.int .i64))::L)→Grow H H'→K (.slice a m.length c) H') :
  CF 122 #[.func (.func 199) #[] #[.pointer (some ⟨H.size,0,none⟩)]] (H.push (.cells #[.map (some r)] 209)) K:=by
 intro w hw;have g:Grow H w.heap:=by rw [hw]; exact Grow.push _ _
 have h2:SatL w.heap L:=h.grow g;have h3:=h2.foc i;rw [hA] at h3;obtain⟨D0,hown,hperm,hsize⟩:=qer (k:=2) Tryz.underlying2 h3 hr (by unfold maxLen; omega);have hcell:w.cell? ⟨H.size,0,none⟩=some (.map (some r)):=by
  simp [World.cell?,hw]
 have hseq:SeqGives Fence.wide 2 Tryz.prog 199 #[.pointer (some ⟨H.size,0,none⟩)] encZ (fun ss=>ss.Perm (intKeys D0)) (Maps.size D0) w:=
  AnyZI.keys_gives (ρ:=Tryz.keysA2_ren) { Tryz.keysA2 with } Fence.wide _ trivial rfl (by omega) H.size r m.length D0 w (by rw [hw]; simp) hcell hown
 have cS:=AnyZI.sorted_in Tryz.sortedA Fence.wide 5 trivial trivial trivial trivial rfl (by omega) (z5g _) (enters_of Tryz.func177 (by kernel_rfl) rfl) 199 #[.pointer (some ⟨H.size,0,none⟩)] trivial (enters_of Tryz.func199 (by kernel_rfl) rfl) _ _ (by unfold maxLen; omega) (by omega) w hseq;change CallsIn _ _ Tryz.prog 122 _ _ _ at cS;refine q0t ((callsIn_wide (n:=5)).1 cS) ?_;rintro e w' ⟨v,ss,rfl,hS,hrow,hnil,hb⟩;obtain⟨a,c,rfl,h4⟩:=h2.of_row hb hrow;have hp:ss.Perm (q00 m):=hS.trans hperm;have hl:ss.length=m.length:=by rw [hp.length_eq]; simp [q00]
 have he:ss.mergeSort (fun x y=>decide (x≤y))=q66 (q00 m):=qeq hp
 rw [he,hl] at h4;refine⟨_,rfl,q67 hb,?_⟩;rw [hl];exact k a c _ h4 (g.trans (q4i hb))
theorem qup {α:Type}{venc:α→Value}{H:Heap}{L:List Assn}{r:Nat}{m:List (Int × α)}(h:SatL H L)(i:Nat)(hA:nth i L=mapA (Value.int .i64) venc r m){K:Value→Heap→Prop}
  (k:∀H',SatL H' (mapA (Value.int .i64) venc H.size m::L)→Grow H H'→K (.map (some H.size)) H') :
  CF 157 #[.map (some r)] H K:=by
 intro w hw;subst hw;have h3:=h.foc i;rw [hA] at h3;obtain⟨hn,es,clock,h4,h5,h6,h7⟩:=q3b h3;have hc:=AnyW.maps_Clone Tryz.cloneA3 r es clock w h7.get;refine q0t hc ?_;rintro e w' ⟨rfl,rfl⟩;refine⟨_,rfl,⟨rfl,rfl,rfl⟩,k _ ?_ (Grow.push _ _)⟩;exact (h.push (.map es clock)).mono fun p hp=>⟨hn,es,clock,h4,h5,h6,hp⟩
theorem z0h {H:Heap}{mb:Option Nat}{K:Value→Heap→Prop}(k:K (.func (.func 264) #[] #[.pointer (some ⟨H.size,0,none⟩)]) (H.push (.cells #[.map mb] 116))) :
  CF 227 #[.map mb] H K:=by
 intro w hw;subst hw;have h:=(callsIn_wide (n:=5)).1 (AnyZI.keys_in Tryz.keysA3 Fence.wide 5 trivial rfl mb w);refine q0t h ?_;rintro e w' ⟨rfl,rfl⟩;exact⟨_,rfl,⟨rfl,rfl,rfl⟩,k⟩
set_option maxHeartbeats 1000000 in
theorem qqy {α:Type}{venc:α→Value}{H:Heap}{L:List Assn}{r:Nat}{m:List (Int × α)}(h:SatL H L)(i:Nat)(hA:nth i L=mapA (Value.int .i64) venc r m)(hr:∀x∈q00 m,wf64 x)(hsz:m.length≤17592186044416){K:Value→Heap→Prop}
  (k:∀a c H',SatL H' (slA 2 1 a m.length c ((q66 (q00 m)).map (Value.int .i64))::L)→Grow H H'→K (.slice a m.length c) H') :
  CF 122 #[.func (.func 264) #[] #[.pointer (some ⟨H.size,0,none⟩)]] (H.push (.cells #[.map (some r)] 116)) K:=by
 intro w hw;have g:Grow H w.heap:=by rw [hw]; exact Grow.push _ _
 have h2:SatL w.heap L:=h.grow g;have h3:=h2.foc i;rw [hA] at h3;obtain⟨D0,hown,hperm,hsize⟩:=qer (k:=2) Tryz.underlying2 h3 hr (by unfold maxLen; omega);have hcell:w.cell? ⟨H.size,0,none⟩=some (.map (some r)):=by
  simp [World.cell?,hw]
 have hseq:SeqGives Fence.wide 2 Tryz.prog 264 #[.pointer (some ⟨H.size,0,none⟩)] encZ (fun ss=>ss.Perm (intKeys D0)) (Maps.size D0) w:=
  AnyZI.keys_gives (ρ:=Tryz.keysA3_ren) { Tryz.keysA3 with } Fence.wide _ trivial rfl (by omega) H.size r m.length D0 w (by rw [hw]; simp) hcell hown
 have cS:=AnyZI.sorted_in Tryz.sortedA Fence.wide 5 trivial trivial trivial trivial rfl (by omega) (z5g _) (enters_of Tryz.func177 (by kernel_rfl) rfl) 264 #[.pointer (some ⟨H.size,0,none⟩)] trivial (enters_of Tryz.func264 (by kernel_rfl) rfl) _ _ (by unfold maxLen; omega) (by omega) w hseq;change CallsIn _ _ Tryz.prog 122 _ _ _ at cS;refine q0t ((callsIn_wide (n:=5)).1 cS) ?_;rintro e w' ⟨v,ss,rfl,hS,hrow,hnil,hb⟩;obtain⟨a,c,rfl,h4⟩:=h2.of_row hb hrow;have hp:ss.Perm (q00 m):=hS.trans hperm;have hl:ss.length=m.length:=by rw [hp.length_eq]; simp [q00]
 have he:ss.mergeSort (fun x y=>decide (x≤y))=q66 (q00 m):=qeq hp
 rw [he,hl] at h4;refine⟨_,rfl,q67 hb,?_⟩;rw [hl];exact k a c _ h4 (g.trans (q4i hb))
theorem quq {α:Type}{venc:α→Value}{H:Heap}{L:List Assn}{r:Nat}{m:List (Int × α)}(h:SatL H L)(i:Nat)(hA:nth i L=mapA (Value.int .i64) venc r m){K:Value→Heap→Prop}
  (k:∀H',SatL H' (mapA (Value.int .i64) venc H.size m::L)→Grow H H'→K (.map (some H.size)) H') :
  CF 156 #[.map (some r)] H K:=by
 intro w hw;subst hw;have h3:=h.foc i;rw [hA] at h3;obtain⟨hn,es,clock,h4,h5,h6,h7⟩:=q3b h3;have hc:=AnyW.maps_Clone Tryz.cloneA2 r es clock w h7.get;refine q0t hc ?_;rintro e w' ⟨rfl,rfl⟩;refine⟨_,rfl,⟨rfl,rfl,rfl⟩,k _ ?_ (Grow.push _ _)⟩;exact (h.push (.map es clock)).mono fun p hp=>⟨hn,es,clock,h4,h5,h6,hp⟩
open Go.Nm
theorem sl32:SlT Tryz.prog 24 5 1 1:=q9o (by kernel_rfl)
section
variable {F L:List Assn} {H:Heap} {K:Value→Heap→Prop}
theorem z0i {a:Option Addr}{c:Nat}{bs:List Int}(h:SatL H L)(ha:∀H,SatL H L→rdS H a (bs.map U8))(hl:bs.length≤1099511627776)
  (k:∀a' c' H',SatL H' (slA 5 1 a' bs.length c' (bs.map U8)::L)→K (.slice a' bs.length c') H'):CF 100 #[.slice a bs.length c] H K:=by
 refine qnk ⟨fun hc=>?_,fun hc=>?_⟩
 ·have:a=none:=by simpa using hc
  subst this;have hz:=qb0 (ha H h);have:bs=[]:=by simpa using hz
  subst this;exact k none 0 H (h.sl_nil 5 1)
 ·refine h.al fun b _ h=>?_
  have hr:=ha _ h.tl;have h1:=SatL.sl_pt (cs:=[]) h 1 0 rfl;refine SatL.append (m:=bs.length) sl32 h1 0 rfl hr (by simp) (qi4 (fun _=>rfl) _) (by omega) (by omega) fun a' c' H' h2=>⟨_,_,_,rfl,?_⟩
  have h3:SatL H' (slA 5 1 a' (0+bs.length) c' ([]++bs.map U8)::L):=h2;rw [z99,za2] at h3;have:=k a' c' H' h3;simpa using this
end
end Go.Proofs.YtfmkddccnjidmaaGreatDoor
namespace Go.Nm
theorem rdS.subB {H:Heap}{a:Option Addr}{cs:List Value}{k c:Nat}(h:rdS H a cs)(hc:cs.length≤c):rdS H (slB a k c 1) (cs.drop k):=by
 intro j v hj;have hj2:lget cs (k+j)=Option.some v:=by
  rw [q0v] at hj ⊢;rw [List.getElem?_drop] at hj;exact hj
 obtain⟨h1,h2⟩:=h (k+j) v hj2;have hlt:=q8g hj2;have e:slB a k c 1=Option.some ⟨adrB a,adrO a+k,none⟩:=by
  unfold slB;rw [if_neg (by omega),h1,z9l,q3h,za9]; rfl
 rw [e];refine⟨rfl,?_⟩;show q02 H (adrB a) (adrO a+k+j)=Option.some v;rw [z9w]; exact h2
theorem u8w {x:Int}(h1:0≤x)(h2:x < 256):u8.wrap x=x:=by
 simp only [IntKind.wrap,IntKind.bits,IntKind.signed] at *
 first|omega|(simp; omega)
theorem u64w {x:Int}(h1:0≤x)(h2:x < 18446744073709551616):u64.wrap x=x:=by
 simp only [IntKind.wrap,IntKind.bits,IntKind.signed] at *
 first|omega|(simp; omega)
def q04 (l:List Int):Prop:=∀x∈l,0≤x∧x < 256
def q1n (u:Nat):List Int:=if h:u < 128 then [(u:Int)] else ((128+u % 128:Nat):Int)::q1n (u / 128)
termination_by u
decreasing_by omega
theorem qdg {u:Nat}(h:u < 128):q1n u=[(u:Int)]:=by rw [q1n,dif_pos h]
theorem qdh {u:Nat}(h:¬u < 128):q1n u=((128+u % 128:Nat):Int)::q1n (u / 128):=by rw [q1n,dif_neg h]
theorem q6r (u:Nat):q04 (q1n u):=by
 induction u using Nat.strongRecOn with
 | _ u ih=>
  by_cases h:u < 128
  ·rw [qdg h];intro x hx;rw [z9f] at hx;omega
  ·rw [qdh h];intro x hx
   rcases z91.1 hx with rfl|hx
   ·omega
   ·exact ih (u / 128) (by omega) x hx
inductive UR where
 | ok (u:Nat) (size:Nat)
 | form
 | ended
 deriving DecidableEq
def rdU:Nat→Nat→List Int→UR
 | _,_,[]=>.ended
 | acc,i,c::r=>if (c=0∧0 < i)∨(1 < c∧i=9) then .form else
   if c < 128 then .ok (acc+c.toNat % 128*2 ^ (7*i)) (i+1) else rdU (acc+c.toNat % 128*2 ^ (7*i)) (i+1) r
theorem qqz:∀{l:List Int} {acc i u n:Nat},q04 l→rdU acc i l=.ok u n→i≤9→
  ∃w,u=acc+w*2 ^ (7*i)∧i < n∧n - i≤l.length∧q1n w=l.take (n - i)∧n≤10∧(0 < i→w≠0)∧w*2 ^ (7*i) < 2 ^ 64
 | [],acc,i,u,n,_,h,_=>by simp [rdU] at h
 | c::r,acc,i,u,n,hb,h,hi=>by
  have hc:=hb c z92;rw [rdU] at h
  split at h
  ·cases h
  ·rename_i hf
   split at h
   ·rename_i hlt
    cases h
    refine⟨c.toNat,?_,by omega,?_,?_,by omega,fun h0=>?_,?_⟩
    ·rw [zae (by omega)]
    ·simp only [z8s]; omega
    ·rw [qdg (by omega),show i+1 - i=1 by omega];simp only [zam,zab];rw [zbe hc.1]
    ·intro e;exact hf (Or.inl ⟨by omega,h0⟩)
    ·by_cases h9:i=9
     ·subst h9;have:c.toNat≤1:=by
       by_cases h1:1 < c
       ·exact absurd (Or.inr ⟨h1,rfl⟩) hf
       ·omega
      calc c.toNat*2 ^ (7*9)≤1*2 ^ (7*9):=z9t _ this
       _ < 2 ^ 64:=by decide
     ·calc c.toNat*2 ^ (7*i) < 128*2 ^ (7*i):=(Nat.mul_lt_mul_right (zag _)).2 (by omega)
       _=2 ^ (7+7*i):=by rw [z9y]
       _≤2 ^ 64:=Nat.pow_le_pow_right (by decide) (by omega)
   ·rename_i hge;have h9:i≠9:=fun e=>hf (Or.inr ⟨by omega,e⟩)
    obtain⟨w,e1,e2,e3,e4,e5,e6,e7⟩:=qqz (fun x hx=>hb x (z93 _ hx)) h (by omega)
    have hw:=e6 (by omega);have em:c.toNat % 128+128*w=c.toNat % 128+w*128:=by omega
    have ep:(2:Nat) ^ (7*(i+1))=128*2 ^ (7*i):=by rw [show 7*(i+1)=7+7*i by omega,z9y]
    refine⟨c.toNat % 128+128*w,?_,by omega,?_,?_,e5,fun _=>by omega,?_⟩
    ·rw [e1,ep,z9i,← Nat.mul_assoc,Nat.mul_comm w 128,z9w]
    ·simp only [z8s]; omega
    ·rw [qdh (by omega),show n - i=(n - (i+1))+1 by omega,zam,← e4];congr 1
     ·omega
     ·congr 1;omega
    ·rw [ep] at e7;have h5:i+1≤9:=by omega
     have h6:w*2 ^ (7*(i+1)) < 2 ^ (64 - 7*(i+1))*2 ^ (7*(i+1)):=by
      rw [← z9y,show 64 - 7*(i+1)+7*(i+1)=64 by omega,ep];exact e7
     have h7:w < 2 ^ (64 - 7*(i+1)):=Nat.lt_of_mul_lt_mul_right h6
     calc (c.toNat % 128+128*w)*2 ^ (7*i) < (128*2 ^ (64 - 7*(i+1)))*2 ^ (7*i):=(Nat.mul_lt_mul_right (zag _)).2 (by omega)
      _=2 ^ 64:=by rw [show (128:Nat)=2 ^ 7 from rfl,← z9y,← z9y,show 7+(64 - 7*(i+1))+7*i=64 by omega]
theorem z5h:∀{w acc i:Nat} (r:List Int),w < 2 ^ (64 - 7*i)→i≤9→(0 < i→w≠0)→
  rdU acc i (q1n w++r)=.ok (acc+w*2 ^ (7*i)) (i+(q1n w).length):=by
 intro w
 induction w using Nat.strongRecOn with
 | _ w ih=>
  intro acc i r hw hi h0
  by_cases h:w < 128
  ·rw [qdg h,List.singleton_append,rdU,if_neg,if_pos (by omega)]
   ·rw [z8t,zae h];rfl
   ·rintro (⟨h1,h2⟩|⟨h1,h2⟩)
    ·exact h0 h2 (by omega)
    ·subst h2;have:w < 2:=by simpa using hw
     omega
  ·have h9:i≠9:=by
    intro e;subst e;have:w < 2:=by simpa using hw
    omega
   rw [qdh h,zap,rdU,if_neg,if_neg (by omega),ih (w / 128) (by omega) r ?_ (by omega) (fun _=>by omega)]
   ·have ep:(2:Nat) ^ (7*(i+1))=128*2 ^ (7*i):=by rw [show 7*(i+1)=7+7*i by omega,z9y]
    congr 1
    ·rw [z8t,ep,z9w,show (128+w % 128) % 128=w % 128 by omega,← Nat.mul_assoc,← z9i];congr 2;omega
    ·simp only [z8s]; omega
   ·rw [zal (by decide)]
    calc w < 2 ^ (64 - 7*i):=hw
     _=2 ^ (64 - 7*(i+1))*128:=by rw [show (128:Nat)=2 ^ 7 from rfl,← z9y,show 64 - 7*(i+1)+7=64 - 7*i by omega]
   ·rintro (⟨h1,h2⟩|⟨h1,h2⟩)
    ·omega
    ·exact h9 h2
theorem z5i:∀{w i:Nat},w < 2 ^ (64 - 7*i)→i≤9→i+(q1n w).length≤10:=by
 intro w
 induction w using Nat.strongRecOn with
 | _ w ih=>
  intro i hw hi
  by_cases h:w < 128
  ·rw [qdg h]; simp only [za7]; omega
  ·have h9:i≠9:=by
    intro e;subst e;have:w < 2:=by simpa using hw
    omega
   rw [qdh h];have:=ih (w / 128) (by omega) (i:=i+1) (by
    rw [zal (by decide)]
    calc w < 2 ^ (64 - 7*i):=hw
     _=2 ^ (64 - 7*(i+1))*128:=by rw [show (128:Nat)=2 ^ 7 from rfl,← z9y,show 64 - 7*(i+1)+7=64 - 7*i by omega]) (by omega)
   simp only [z8s];omega
theorem u8_of (n:Nat):u8.wrap (n:Int)=((n % 256:Nat):Int):=by
 simp only [IntKind.wrap,IntKind.bits,IntKind.signed]
 <;> (try simp) <;> (try omega)
theorem or8_all:∀n,n < 256→(n ||| 128)=128+n % 128:=by decide +kernel
theorem z5j (n:Nat):q0g .or .u8 (u8.wrap (n:Int)) 128=((128+n % 128:Nat):Int):=by
 rw [u8_of];unfold q0g;have e1:(BitVec.ofInt u8.bits ((n % 256:Nat):Int)).toNat=n % 256:=by
  rw [BitVec.ofInt_natCast,BitVec.toNat_ofNat];exact zae (za1 _ (by decide))
 have e2:(BitVec.ofInt u8.bits (128:Int)).toNat=128:=by decide
 have:u8.wrap (((n % 256) ||| 128:Nat):Int)=((128+n % 128:Nat):Int):=by
  rw [or8_all _ (za1 _ (by decide)),u8_of];omega
 show u8.wrap ((BitVec.ofInt u8.bits ((n % 256:Nat):Int) ||| BitVec.ofInt u8.bits 128).toNat:Int)=_;rw [BitVec.toNat_or,e1,e2,this]
theorem shift7 (n:Nat):Int.fdiv (n:Int) (2 ^ (min (Int.toNat 7) (u64.bits)))=((n / 128:Nat):Int):=by
 show Int.fdiv (n:Int) 128=_;rw [zb5 _ (by decide)];omega
end Go.Nm
namespace Go.Proofs.YtfmkddccnjidmaaGreatDoor
open Go.Nm
section
variable {F L:List Assn} {H:Heap} {K:Value→Heap→Prop}
theorem uintB_len10 {u:Nat}(hu:u < 18446744073709551616):(q1n u).length≤10:=by
 have:=z5i (w:=u) (i:=0) (by simpa using hu) (by omega);omega
theorem qnm {a:Option Addr}{c:Nat}{bs:List Int}{u:Nat}(h:SatL H (slA 5 1 a bs.length c (bs.map U8)::F))(hl:bs.length≤1099511627776)(hu:u < 18446744073709551616)
  (k:∀a' c' H',SatL H' (slA 5 1 a' (bs++q1n u).length c' ((bs++q1n u).map U8)::F)→K (.slice a' (bs++q1n u).length c') H') :
  CF 118 #[.slice a bs.length c,.int .u64 u] H K:=by
 refine z07 ?_;refine⟨fun a' n' c' u' H'=>∃(cs:List Int) (w:Nat),n'=cs.length∧u'=w∧w < 18446744073709551616∧cs++q1n w=bs++q1n u∧SatL H' (slA 5 1 a' cs.length c' (cs.map U8)::F),fun _ _ _ u _=>u.toNat,
  ⟨bs,u,rfl,rfl,hu,rfl,h⟩,?_⟩
 rintro a1 n1 c1 u1 H1 ⟨cs,w,rfl,rfl,hw,he,h1⟩;have hcl:cs.length≤1099511627786:=by
  have:=congrArg List.length he;simp only [z8m] at this;have:=uintB_len10 hu;omega
 refine⟨fun hc=>?_,fun hc=>?_⟩
 ·have h128:¬w < 128:=by simp at hc; omega
  rintro _ _ rfl rfl;rw [z5j,shift7];refine h1.append1 sl32 0 rfl (by rfl) (by rfl) (by omega) (by omega) fun a' c' H3 h3=>⟨_,_,_,rfl,by decide,?_,by dsimp only; omega⟩
  refine⟨cs++[((128+w % 128:Nat):Int)],w / 128,by simp,rfl,by omega,?_,?_⟩
  ·rw [← he,qdh h128,z8x,List.singleton_append]
  ·rw [z9e,z8m];exact h3
 ·have h128:w < 128:=by simp at hc; omega
  rintro _ _ rfl rfl;rw [u8_of];refine h1.append1 sl32 0 rfl (by rfl) (by rfl) (by omega) (by omega) fun a' c' H3 h3=>⟨_,_,_,rfl,?_⟩
  have:=k a' c' H3;rw [← he,qdg h128,z8m] at this;refine this ?_;rw [z9e];rw [zae (by omega)] at h3;exact h3
end
end Go.Proofs.YtfmkddccnjidmaaGreatDoor
namespace Go.Nm
theorem qxu {a m p:Nat}(ha:a < 2 ^ p)(h:a+m*2 ^ p < 18446744073709551616):q0g .or .u64 (a:Int) ((m*2 ^ p:Nat):Int)=((a+m*2 ^ p:Nat):Int):=by
 have h1:a < 18446744073709551616:=by omega
 have h2:m*2 ^ p < 18446744073709551616:=by omega
 have e1:(BitVec.ofInt u64.bits (a:Int)).toNat=a:=by
  rw [BitVec.ofInt_natCast,BitVec.toNat_ofNat]; exact zae h1
 have e2:(BitVec.ofInt u64.bits ((m*2 ^ p:Nat):Int)).toNat=m*2 ^ p:=by
  rw [BitVec.ofInt_natCast,BitVec.toNat_ofNat]; exact zae h2
 have e3:a ||| m*2 ^ p=a+m*2 ^ p:=by
  rw [Nat.mul_comm m,Nat.or_comm,← Nat.two_pow_add_eq_or_of_lt ha,Nat.add_comm]
 show u64.wrap ((BitVec.ofInt u64.bits (a:Int) ||| BitVec.ofInt u64.bits ((m*2 ^ p:Nat):Int)).toNat:Int)=_;rw [BitVec.toNat_or,e1,e2,e3,u64w (by omega) (by omega)]
theorem part64 {c:Int}{i:Nat}(h0:0≤c)(h1:c < 256)(hi:i≤9)(h9:i=9→c≤1) :
  u64.wrap ((u64.wrap (Int.tmod c 128))*2 ^ (min (7*i) 64))=((c.toNat % 128*2 ^ (7*i):Nat):Int)∧c.toNat % 128*2 ^ (7*i)+2 ^ (7*i)≤18446744073709551616:=by
 have em:Int.tmod c 128=((c.toNat % 128:Nat):Int):=by rw [Int.tmod_eq_emod_of_nonneg h0]; omega
 have hb:c.toNat % 128*2 ^ (7*i)+2 ^ (7*i)≤18446744073709551616:=by
  have e:c.toNat % 128*2 ^ (7*i)+2 ^ (7*i)=(c.toNat % 128+1)*2 ^ (7*i):=by rw [z9i,Nat.one_mul]
  rw [e]
  by_cases h:i=9
  ·have:=h9 h;subst h
   calc (c.toNat % 128+1)*2 ^ (7*9)≤2*2 ^ (7*9):=z9t _ (by omega)
    _=18446744073709551616:=by decide
  ·calc (c.toNat % 128+1)*2 ^ (7*i)≤128*2 ^ (7*8):=Nat.mul_le_mul (by omega) (Nat.pow_le_pow_right (by decide) (by omega))
    _≤18446744073709551616:=by decide
 refine⟨?_,hb⟩;have hp:0 < 2 ^ (7*i):=zag _;rw [em,u64w (x:=((c.toNat % 128:Nat):Int)) (by omega) (by omega),zak (by omega)];have:((c.toNat % 128:Nat):Int)*2 ^ (7*i)=((c.toNat % 128*2 ^ (7*i):Nat):Int):=by
  rw [zax,Int.natCast_pow]; rfl
 rw [this,u64w (by omega) (by omega)]
def firV:UR→Value
 | .ok u n=>.tuple #[.int .u64 u,.int .i64 n,.int .i64 0]
 | .form=>.tuple #[.int .u64 0,.int .i64 0,.int .i64 10]
 | .ended=>.tuple #[.int .u64 0,.int .i64 0,.int .i64 15]
inductive RStep (bs:List Int)(k acc:Nat):Prop where
 | fin (h:bs.length≤k) (e:rdU acc k (bs.drop k)=.ended)
 | go (h:k < bs.length) (c:Int) (hc:bs[k]=c) (h0:0≤c) (h1:c < 256) (hf:¬((c=0∧0 < k)∨(1 < c∧k=9)))
   (e1:c < 128→rdU acc k (bs.drop k)=.ok (acc+c.toNat % 128*2 ^ (7*k)) (k+1))
   (e2:¬c < 128→rdU acc k (bs.drop k)=rdU (acc+c.toNat % 128*2 ^ (7*k)) (k+1) (bs.drop (k+1)))
 | bad (h:k < bs.length) (c:Int) (hc:bs[k]=c) (hf:(c=0∧0 < k)∨(1 < c∧k=9)) (e:rdU acc k (bs.drop k)=.form)
theorem rstep {bs:List Int}(hb:q04 bs)(k acc:Nat):RStep bs k acc:=by
 rcases z9a k bs.length with h|h
 ·have hd:bs.drop k=bs[k]::bs.drop (k+1):=z9z h;have hx:=hb _ (z8w h)
  by_cases hf:(bs[k]=0∧0 < k)∨(1 < bs[k]∧k=9)
  ·exact .bad h _ rfl hf (by rw [hd,rdU,if_pos hf])
  ·refine .go h _ rfl hx.1 hx.2 hf (fun h1=>?_) (fun h1=>?_)
   ·rw [hd,rdU,if_neg hf,if_pos h1]
   ·rw [hd,rdU,if_neg hf,if_neg h1]
 ·exact .fin h (by rw [List.drop_eq_nil_of_le h]; rfl)
end Go.Nm
namespace Go.Proofs.YtfmkddccnjidmaaGreatDoor
open Go.Nm
theorem ql8 {H:Heap}{a:Option Addr}{c:Nat}{bs:List Int}(ha:rdS H a (bs.map U8))(hb:q04 bs)(hl:bs.length≤1099511627776) :
  q1k Tryz.prog 174 #[.slice a bs.length c] H (firV (rdU 0 0 bs)):=by
 unfold q1k;refine qqk ?_;refine⟨fun u i H'=>H'=H∧∃k acc:Nat,i=k∧u=acc∧k≤9∧k≤bs.length∧acc < 2 ^ (7*k)∧rdU acc k (bs.drop k)=rdU 0 0 bs,fun _ i _=>bs.length - i.toNat,⟨rfl,0,0,rfl,rfl,by decide,z9c _,by decide,rfl⟩,?_⟩
 rintro u i H' ⟨rfl,k,acc,rfl,rfl,h9,hk,hacc,he⟩;refine⟨fun hc=>?_,fun hc=>?_⟩
 ·have hlt:k < bs.length:=by simpa using hc
  have h1:=ha.at hlt;refine⟨⟨by omega,by omega⟩,_,_,h1.1,_,h1.2,?_⟩;have e7:i64.wrap (7*(k:Int))=((7*k:Nat):Int):=by rw [w64]; omega
  have ek:i64.wrap ((k:Int)+1)=((k+1:Nat):Int):=w64
  rcases rstep hb k acc with ⟨h,_⟩|⟨h,x,hx,h0,h1',hf,e1,e2⟩|⟨h,x,hx,hf,e⟩
  ·omega
  ·rw [hx];have hp:=part64 (c:=x) (i:=k) h0 h1' h9 (fun e9=>by
    rcases Int.lt_or_le 1 x with h2|h2
    ·exact absurd (Or.inr ⟨h2,e9⟩) hf
    ·exact h2)
   refine⟨fun hb1=>?_,fun _=>⟨by decide,by rw [e7]; omega,fun hb2=>?_,fun hb2=>?_⟩⟩
   ·exfalso;apply hf;simp only [z90,z8q,z8o] at hb1;omega
   ·rw [e7,ek,z8t];show _=_∧_;have hp1:u64.wrap (u64.wrap (Int.tmod x 128)*2 ^ (min (7*k) u64.bits))=((x.toNat % 128*2 ^ (7*k):Nat):Int):=hp.1;rw [hp1,qxu hacc (by omega),← he,e1 (by simpa using hb2)];exact⟨rfl,rfl⟩
   ·rw [e7,ek,z8t];have hp1:u64.wrap (u64.wrap (Int.tmod x 128)*2 ^ (min (7*k) u64.bits))=((x.toNat % 128*2 ^ (7*k):Nat):Int):=hp.1;have hge:¬x < 128:=by simpa using hb2
    rw [hp1,qxu hacc (by omega)];have k9:k≠9:=fun e9=>hf (Or.inr ⟨by omega,e9⟩)
    refine⟨⟨rfl,k+1,_,rfl,rfl,by omega,by omega,?_,?_⟩,by dsimp only; omega⟩
    ·calc acc+x.toNat % 128*2 ^ (7*k) < 2 ^ (7*k)+x.toNat % 128*2 ^ (7*k):=by omega
      _=(x.toNat % 128+1)*2 ^ (7*k):=by rw [z9i,Nat.one_mul,Nat.add_comm]
      _≤128*2 ^ (7*k):=z9t _ (by omega)
      _=2 ^ (7*(k+1)):=by rw [show 7*(k+1)=7+7*k by omega,z9y]
    ·rw [← he,e2 hge]
  ·rw [hx];refine⟨fun _=>?_,fun hb1=>?_⟩
   ·rw [← he,e];exact⟨rfl,rfl⟩
   ·exfalso;simp only [z8y,z9x,z8r] at hb1;omega
 ·have hk2:bs.length≤k:=by simp at hc; omega
  rcases rstep hb k acc with ⟨h,e⟩|⟨h,_⟩|⟨h,_⟩
  ·rw [← he,e];exact⟨rfl,rfl⟩
  ·omega
  ·omega
def cntV (most:Int):UR→Value
 | .ok u n=>if max most 0 < (u:Int) then .tuple #[.int .i64 0,.int .i64 0,.int .i64 17] else .tuple #[.int .i64 u,.int .i64 n,.int .i64 0]
 | .form=>.tuple #[.int .i64 0,.int .i64 0,.int .i64 10]
 | .ended=>.tuple #[.int .i64 0,.int .i64 0,.int .i64 15]
theorem ql9 {H:Heap}{a:Option Addr}{c:Nat}{bs:List Int}{most:Int}(ha:rdS H a (bs.map U8))(hb:q04 bs)(hl:bs.length≤1099511627776)(hm:wf64 most) :
  q1k Tryz.prog 168 #[.slice a bs.length c,.int .i64 most] H (cntV most (rdU 0 0 bs)):=by
 unfold q1k;refine qql ?_;have h1:=ql8 (c:=c) ha hb hl;have ew:u64.wrap (if 0 > most then 0 else most)=max most 0:=by
  unfold wf64 at hm
  split <;> rw [u64w (by omega) (by omega)] <;> omega
 rw [ew]
 cases hr:rdU 0 0 bs with
 | ok u n=>
  rw [hr] at h1;refine⟨_,_,_,h1,(fun hf=>by cases hf),fun _=>⟨fun hc=>?_,fun hc=>?_⟩⟩
  ·have hlt:max most 0 < (u:Int):=by simpa using hc
   unfold cntV;dsimp only;rw [if_pos hlt];exact⟨rfl,rfl⟩
  ·have hle:¬max most 0 < (u:Int):=by simpa using hc
   unfold cntV;unfold wf64 at hm;dsimp only;rw [if_neg hle,w64];exact⟨rfl,rfl⟩
 | form=>
  rw [hr] at h1;exact⟨_,_,_,h1,fun _=>⟨rfl,rfl⟩,(fun hf=>by cases hf)⟩
 | ended=>
  rw [hr] at h1;exact⟨_,_,_,h1,fun _=>⟨rfl,rfl⟩,(fun hf=>by cases hf)⟩
end Go.Proofs.YtfmkddccnjidmaaGreatDoor
namespace Go.Nm
structure RS where
 e:Int
 bs:List Int
def cRes (most:Int)(s:RS):Int × RS:=if s.e≠0 then (0,s) else match rdU 0 0 s.bs with
 | .ok u n=>if max most 0 < (u:Int) then (0,⟨17,s.bs⟩) else (u,⟨0,s.bs.drop n⟩)
 | .form=>(0,⟨10,s.bs⟩)
 | .ended=>(0,⟨15,s.bs⟩)
def tRes (most:Int)(s:RS):List Int × RS:=if s.e≠0 then ([],s) else match rdU 0 0 s.bs with
 | .ok u n=>if max most 0 < (u:Int) then ([],⟨17,s.bs⟩) else if s.bs.length < n+u then ([],⟨15,s.bs⟩) else ((s.bs.drop n).take u,⟨0,s.bs.drop (n+u)⟩)
 | .form=>([],⟨10,s.bs⟩)
 | .ended=>([],⟨15,s.bs⟩)
theorem rdU_size {bs:List Int}{u n:Nat}(hb:q04 bs)(h:rdU 0 0 bs=.ok u n):0 < n∧n≤bs.length∧u < 18446744073709551616:=by
 obtain⟨w,h1,h2,h3,_,_,_,h7⟩:=qqz hb h (by omega);refine⟨h2,by omega,?_⟩;simp only [Nat.mul_zero,Nat.pow_zero,za9] at h1 h7;omega
def crdA (b:Nat)(s:RS):Assn:=exS fun p:Option Addr × Nat=>cellsA b [.slice p.1 s.bs.length p.2,.int .i64 s.e] 184*slA 5 1 p.1 s.bs.length p.2 (s.bs.map U8)
theorem q1o {H:Heap}{b:Nat}{s:RS}{L:List Assn}:SatL H (crdA b s::L)↔∃a c,SatL H (cellsA b [.slice a s.bs.length c,.int .i64 s.e] 184::slA 5 1 a s.bs.length c (s.bs.map U8)::L):=by
 unfold crdA;rw [q0o]
 constructor
 ·rintro⟨p,h⟩; exact⟨p.1,p.2,q21.1 h⟩
 ·rintro⟨a,c,h⟩; exact⟨(a,c),q21.2 h⟩
def strB (s:List Int):ByteArray:=strOfNums s
end Go.Nm
namespace Go.Proofs.YtfmkddccnjidmaaGreatDoor
open Go.Nm
section
variable {F L:List Assn} {H:Heap} {K:Value→Heap→Prop}
theorem qur {b n c size:Nat}{a:Option Addr}(h:SatL H (cellsA b [.slice a n c,.int .i64 0] 184::F))(hs:size≤n)(hc:n≤c)
  (k:∀H',SatL H' (cellsA b [.slice (slB a size c 1) (n - size) (c - size),.int .i64 0] 184::F)→K (.bool true) H') :
  CF 115 #[.pointer (some ⟨b,0,none⟩),.int .i64 size,.int .i64 0] H K:=by
 refine q4l ?_;refine⟨_,h.r 0,(fun hf=>by cases hf),fun _=>⟨(fun hf=>by cases hf),fun _=>⟨_,_,_,h.r 0,⟨by omega,by omega,by omega⟩,?_⟩⟩⟩
 rw [z8t];exact h.st 0 rfl rfl fun H' h=>k _ h
theorem q5l {b n c:Nat}{size e:Int}{a:Option Addr}(h:SatL H (cellsA b [.slice a n c,.int .i64 0] 184::F))(he:e≠0)
  (k:∀H',SatL H' (cellsA b [.slice a n c,.int .i64 e] 184::F)→K (.bool false) H') :
  CF 115 #[.pointer (some ⟨b,0,none⟩),.int .i64 size,.int .i64 e] H K:=by
 refine q4l ?_;refine⟨_,h.r 0,(fun hf=>by cases hf),fun _=>⟨fun _=>?_,fun hf=>by simp [he] at hf⟩⟩
 exact h.st 0 rfl rfl fun H' h=>k _ h
theorem qgw {b n c:Nat}{size e e0:Int}{a:Option Addr}(h:SatL H (cellsA b [.slice a n c,.int .i64 e0] 184::F))(he:e0≠0)
  (k:K (.bool false) H):CF 115 #[.pointer (some ⟨b,0,none⟩),.int .i64 size,.int .i64 e] H K:=by
 refine q4l ?_;exact⟨_,h.r 0,fun _=>k,fun hf=>by simp [he] at hf⟩
theorem Err_spec {b n c:Nat}{e:Int}{a:Option Addr}(h:SatL H (cellsA b [.slice a n c,.int .i64 e] 184::F)):q1k Tryz.prog 102 #[.pointer (some ⟨b,0,none⟩)] H (.int .i64 e):=by
 unfold q1k;refine qez ?_;exact⟨_,h.r 0,rfl,rfl⟩
theorem z5k {b n c:Nat}{e:Int}{a:Option Addr}(h:SatL H (cellsA b [.slice a n c,.int .i64 e] 184::F)):q1k Tryz.prog 111 #[.pointer (some ⟨b,0,none⟩)] H (.int .i64 n):=by
 unfold q1k;refine qdd ?_;exact⟨_,_,_,h.r 0,rfl,rfl⟩
theorem qa4 {b:Nat}{s:RS}(h:SatL H (crdA b s::F)):q1k Tryz.prog 102 #[.pointer (some ⟨b,0,none⟩)] H (.int .i64 s.e):=by
 obtain⟨a,c,h⟩:=q1o.1 h;exact Err_spec h
theorem qb1 {b:Nat}{s:RS}(h:SatL H (crdA b s::F)):q1k Tryz.prog 111 #[.pointer (some ⟨b,0,none⟩)] H (.int .i64 s.bs.length):=by
 obtain⟨a,c,h⟩:=q1o.1 h;exact z5k h
theorem qii {a:Option Addr}{c:Nat}{bs:List Int}(h:SatL H F)(ha:∀H,SatL H F→rdS H a (bs.map U8))(hl:bs.length≤1099511627776)
  (k:∀b H',SatL H' (crdA b ⟨0,bs⟩::F)→K (.pointer (some ⟨b,0,none⟩)) H'):CF 39 #[.slice a bs.length c] H K:=by
 refine z0e ?_;refine z0i h ha hl fun a' c' H1 h=>⟨_,_,_,rfl,?_⟩
 refine h.al fun b H2 h=>k _ _ ?_
 exact q1o.2 ⟨_,_,h⟩
theorem qf2 {b:Nat}{s:RS}{most:Int}(h:SatL H (crdA b s::F))(hb:q04 s.bs)(hl:s.bs.length≤1099511627776)(hm:wf64 most)
  (k:∀H',SatL H' (crdA b (cRes most s).2::F)→K (.int .i64 (cRes most s).1) H') :
  CF 103 #[.pointer (some ⟨b,0,none⟩),.int .i64 most] H K:=by
 obtain⟨e,bs⟩:=s;dsimp only at hb hl;obtain⟨a,c,h⟩:=q1o.1 h;dsimp only at h;have hr:=h.sl_rd 1 rfl;have hn:=h.sl_nc 1 rfl;refine qc5 ?_;have hq:=ql9 (c:=c) hr hb hl hm;have fin:∀r1 e':Int,∀(r:Int),(cRes most ⟨e,bs⟩=(0,⟨e',bs⟩))→(∀K',(∀H',SatL H' (cellsA b [.slice a bs.length c,.int .i64 e'] 184::slA 5 1 a bs.length c (bs.map U8)::F)→K' (.bool false) H')→CF 115 #[.pointer (some ⟨b,0,none⟩),.int .i64 r1,.int .i64 r] H K')→
   CF 115 #[.pointer (some ⟨b,0,none⟩),.int .i64 r1,.int .i64 r] H fun u H_=>∃r3:Bool,u=(.bool r3)∧(((!r3))=true→K (.int .i64 0) H_)∧(((!r3))=false→K (.int .i64 (cRes most ⟨e,bs⟩).1) H_):=by
  intro r1 e' r he hk;rw [he] at k ⊢;exact hk _ fun H' h'=>⟨_,rfl,fun _=>k _ (q1o.2 ⟨_,_,h'⟩),fun hf=>by cases hf⟩
 by_cases he:e=0
 ·subst he
  cases hu:rdU 0 0 bs with
  | ok u n=>
   obtain⟨h1,h2,h3⟩:=rdU_size hb hu;rw [hu] at hq;unfold cntV at hq;dsimp only at hq
   by_cases hm1:max most 0 < (u:Int)
   ·rw [if_pos hm1] at hq;refine⟨_,_,_,h.r 0,_,_,_,hq,?_⟩;have hk:=fin 0 17 17 (by unfold cRes; simp [hu,hm1]) fun K' k'=>q5l h (by decide) k'
    have e0:(cRes most ⟨0,bs⟩).1=0:=by unfold cRes; simp [hu,hm1]
    rw [e0] at hk;exact hk
   ·rw [if_neg hm1] at hq;refine⟨_,_,_,h.r 0,_,_,_,hq,?_⟩;have ec:cRes most ⟨0,bs⟩=((u:Int),⟨0,bs.drop n⟩):=by unfold cRes; simp [hu,hm1]
    rw [ec] at k;refine qur h h2 hn fun H' h'=>⟨_,rfl,(fun hf=>by cases hf),fun _=>k _ ?_⟩
    have h4:=h'.sl_drop 1 rfl n h2;rw [za9,← List.map_drop] at h4;refine q1o.2 ⟨slB a n c 1,c - n,?_⟩;dsimp only;rw [z9d];exact h4
  | form=>
   rw [hu] at hq;refine⟨_,_,_,h.r 0,_,_,_,hq,?_⟩;have hk:=fin 0 10 10 (by unfold cRes; simp [hu]) fun K' k'=>q5l h (by decide) k'
   have e0:(cRes most ⟨0,bs⟩).1=0:=by unfold cRes; simp [hu]
   rw [e0] at hk;exact hk
  | ended=>
   rw [hu] at hq;refine⟨_,_,_,h.r 0,_,_,_,hq,?_⟩;have hk:=fin 0 15 15 (by unfold cRes; simp [hu]) fun K' k'=>q5l h (by decide) k'
   have e0:(cRes most ⟨0,bs⟩).1=0:=by unfold cRes; simp [hu]
   rw [e0] at hk;exact hk
 ·have ec:cRes most ⟨e,bs⟩=(0,⟨e,bs⟩):=by unfold cRes; simp [he]
  rw [ec] at k;have hv:∃r r1 r2:Int,cntV most (rdU 0 0 bs)=.tuple #[.int .i64 r,.int .i64 r1,.int .i64 r2]:=by
   unfold cntV
   split
   ·split <;> exact⟨_,_,_,rfl⟩
   ·exact⟨_,_,_,rfl⟩
   ·exact⟨_,_,_,rfl⟩
  obtain⟨r,r1,r2,hv⟩:=hv;rw [hv] at hq;refine⟨_,_,_,h.r 0,_,_,_,hq,?_⟩;exact qgw h he ⟨_,rfl,fun _=>k _ (q1o.2 ⟨_,_,h⟩),fun hf=>by cases hf⟩
theorem qdi {H:Heap}{a:Option Addr}{c:Nat}{bs:List Int}(hA:a=none∨∃b o,a=some ⟨b,o,none⟩)(ha:rdS H a (bs.map U8)):q0c Tryz.prog (convert 24 9 (.slice a bs.length c)) H (.string (strB bs)):=by
 intro w hw;subst hw
 rcases hA with rfl|⟨b,o,rfl⟩
 ·have:=qb0 ha;have hb:bs=[]:=by simpa using this
  subst hb;exact run_convert_bytes_nil w 24 5 (by kernel_rfl) (by kernel_rfl) _ _ 9 (by kernel_rfl)
 ·refine run_convert_bytes_arg w 24 5 (by kernel_rfl) (by kernel_rfl) b o _ c bs rfl (fun i hi=>?_) 9 (by kernel_rfl)
  have h1:=(ha.at hi).2;simp only [adrB,adrO] at h1;rw [show bs.getD i 0=bs[i] by simp [List.getD,List.getElem?_eq_getElem hi]];rw [cell?_cellAt];exact h1
theorem slB_is {e sz n c k:Nat}{a:Option Addr}{cs:List Value}(h:SatL H (slA e sz a n c cs::F)):slB a k c sz=none∨∃b o,slB a k c sz=some ⟨b,o,none⟩:=by
 have h2:a=none∨∃b o,a=some ⟨b,o,none⟩:=by
  rcases (q3g (F:=star F) h).2 with ⟨h2,_⟩|⟨b,pre,post,e',fr,h2,_⟩
  ·exact .inl h2
  ·exact .inr ⟨_,_,h2⟩
 unfold slB
 split
 ·exact h2
 ·rcases h2 with rfl|⟨b,o,rfl⟩
  ·exact .inl rfl
  ·right;rw [z9l,q3h];exact⟨_,_,rfl⟩
theorem q5s {b:Nat}{s:RS}{most:Int}(h:SatL H (crdA b s::F))(hb:q04 s.bs)(hl:s.bs.length≤1099511627776)(hm:wf64 most)
  (k:∀H',SatL H' (crdA b (tRes most s).2::F)→K (.string (strB (tRes most s).1)) H') :
  CF 110 #[.pointer (some ⟨b,0,none⟩),.int .i64 most] H K:=by
 obtain⟨e,bs⟩:=s;dsimp only at hb hl;obtain⟨a,c,h⟩:=q1o.1 h;dsimp only at h;have hr:=h.sl_rd 1 rfl;have hn:=h.sl_nc 1 rfl;refine qde ?_;have hq:=ql9 (c:=c) hr hb hl hm;have fin:∀(r r1 err e':Int),tRes most ⟨e,bs⟩=([],⟨e',bs⟩)→(∀K':Value→Heap→Prop,(∀H',SatL H' (cellsA b [.slice a bs.length c,.int .i64 e'] 184::slA 5 1 a bs.length c (bs.map U8)::F)→K' (.bool false) H')→CF 115 #[.pointer (some ⟨b,0,none⟩),.int .i64 (i64.wrap (r1+r)),.int .i64 err] H K')→
   q2u.r1 b 0 K r r1 err H:=by
  intro r r1 err e' he hk;unfold q2u.r1;rw [he] at k;refine⟨_,_,_,h.r 0,?_⟩;exact hk _ fun H' h'=>⟨_,rfl,fun _=>k _ (q1o.2 ⟨_,_,h'⟩),fun hf=>by cases hf⟩
 by_cases he:e=0
 ·subst he
  cases hu:rdU 0 0 bs with
  | ok u n=>
   obtain⟨h1,h2,h3⟩:=rdU_size hb hu;rw [hu] at hq;unfold cntV at hq;dsimp only at hq
   by_cases hm1:max most 0 < (u:Int)
   ·rw [if_pos hm1] at hq;refine⟨_,_,_,h.r 0,_,_,_,hq,fun _=>trivial,_,_,_,fun _=>h.r 0,fun Jn hJ=>⟨fun hf=>by simp at hf,fun _=>hJ _ _ ?_⟩⟩
    exact fin _ _ _ 17 (by unfold tRes; simp [hu,hm1]) fun K' k'=>q5l h (by decide) k'
   ·rw [if_neg hm1] at hq;unfold wf64 at hm;have hu2:(u:Int)≤9223372036854775807:=by omega
    have e1:i64.wrap (((bs.length:Nat):Int) - (n:Int))=((bs.length - n:Nat):Int):=by rw [w64]; omega
    refine⟨_,_,_,h.r 0,_,_,_,hq,fun _=>trivial,_,_,_,fun _=>h.r 0,fun Jn hJ=>⟨fun hc=>hJ _ _ ?_,fun hc=>hJ _ _ ?_⟩⟩
    ·rw [e1] at hc;have hlt:bs.length < n+u:=by simp at hc; omega
     exact fin _ _ _ 15 (by unfold tRes; simp [hu,hm1,hlt]) fun K' k'=>q5l h (by decide) k'
    ·rw [e1] at hc;have hge:¬bs.length < n+u:=by simp at hc; omega
     have et:tRes most ⟨0,bs⟩=((bs.drop n).take u,⟨0,bs.drop (n+u)⟩):=by unfold tRes; simp [hu,hm1,hge]
     rw [et] at k;unfold q2u.r1;have e2:i64.wrap ((n:Int)+(u:Int))=((n+u:Nat):Int):=by rw [w64]; omega
     refine⟨_,_,_,h.r 0,?_⟩;rw [e2];refine qur h (by omega) hn fun H' h'=>⟨_,rfl,(fun hf=>by cases hf),fun _=>⟨⟨by omega,by omega,by omega⟩,strB ((bs.drop n).take u),?_,k _ ?_⟩⟩
     ·rw [z8t,z8t,zb2];have h5:=h'.tl.sl_rd 0 rfl;have h6:=(h5.subB (k:=n) (c:=c) (by simpa using hn)).take u;rw [← List.map_drop,← List.map_take] at h6;have h7:=qdi (c:=c - n) (slB_is h'.tl) h6;rw [z95,z9d,zak (by omega)] at h7;exact h7
     ·have h4:=h'.sl_drop 1 rfl (n+u) (by omega);rw [za9,← List.map_drop] at h4;refine q1o.2 ⟨slB a (n+u) c 1,c - (n+u),?_⟩;dsimp only;rw [z9d];exact h4
  | form=>
   rw [hu] at hq;refine⟨_,_,_,h.r 0,_,_,_,hq,fun _=>trivial,_,_,_,fun _=>h.r 0,fun Jn hJ=>⟨fun hf=>by simp at hf,fun _=>hJ _ _ ?_⟩⟩
   exact fin _ _ _ 10 (by unfold tRes; simp [hu]) fun K' k'=>q5l h (by decide) k'
  | ended=>
   rw [hu] at hq;refine⟨_,_,_,h.r 0,_,_,_,hq,fun _=>trivial,_,_,_,fun _=>h.r 0,fun Jn hJ=>⟨fun hf=>by simp at hf,fun _=>hJ _ _ ?_⟩⟩
   exact fin _ _ _ 15 (by unfold tRes; simp [hu]) fun K' k'=>q5l h (by decide) k'
 ·have hv:∃r r1 r2:Int,cntV most (rdU 0 0 bs)=.tuple #[.int .i64 r,.int .i64 r1,.int .i64 r2]:=by
   unfold cntV
   split
   ·split <;> exact⟨_,_,_,rfl⟩
   ·exact⟨_,_,_,rfl⟩
   ·exact⟨_,_,_,rfl⟩
  obtain⟨r,r1,r2,hv⟩:=hv;rw [hv] at hq;have fin2:∀err,q2u.r1 b 0 K r r1 err H:=fun err=>fin r r1 err e (by unfold tRes; simp [he]) fun K' k'=>qgw h he (k' _ h)
  exact⟨_,_,_,h.r 0,_,_,_,hq,fun _=>trivial,_,_,_,fun _=>h.r 0,fun Jn hJ=>⟨fun hc=>hJ _ _ (fin2 _),fun _=>hJ _ _ (fin2 _)⟩⟩
end
end Go.Proofs.YtfmkddccnjidmaaGreatDoor
namespace Go.Nm
theorem qgx {xs:List Int}(h:q04 xs)(i:Nat)(hi:i < xs.length):((UInt8.ofNat (xs[i]).toNat).toNat:Int)=xs[i]:=by
 have:=h _ (z8w hi);rw [UInt8.toNat_ofNat'];omega
end Go.Nm
namespace Go.Proofs.YtfmkddccnjidmaaGreatDoor
open Go.Nm
section
variable {F L:List Assn} {H:Heap} {K:Value→Heap→Prop}
theorem qg0 {t:List Int}(hb:q04 t)(h:SatL H L)(k:∀a c H',SatL H' (slA 5 1 a t.length c (t.map U8)::L)→K (.slice a t.length c) H') :
  RunW Tryz.prog (convert 9 24 (.string (strB t))) H K:=by
 intro w hw;subst hw;have hs:(strB t).size=t.length:=strOfNums_size t;have hr:=run_bytes_of_string w 9 24 5 (strB t) (P:=Tryz.prog) (by kernel_rfl) (by kernel_rfl) (by kernel_rfl);rw [hs] at hr;have hcap:=grownCap_ge w t.length 0 5;obtain⟨cap,hcp⟩:∃cap,grownCap w t.length 0 5=cap:=⟨_,rfl⟩;rw [hcp] at hr hcap;have hrow:(bytesRow (strB t) cap).toList=t.map U8++List.replicate (cap - t.length) (U8 0):=by
  have e1:(bytesRow (strB t) cap).toList=(strB t).data.toList.map (fun b=>U8 (b.toNat:Int))++List.replicate (cap - (strB t).size) (U8 0):=by
   unfold bytesRow;simp only [Array.toList_append,Array.toList_map,Array.toList_replicate]
  have e2:(strB t).data.toList.map (fun b=>U8 (b.toNat:Int))=t.map U8:=by
   have:(strB t).data.toList=t.map fun n=>UInt8.ofNat n.toNat:=strOfNums_data t
   rw [this,z9o];refine za3 (by simp) fun i h1 h2=>?_
   simp only [za4,Function.comp_apply];rw [qgx hb i (by simpa using h2)]
  rw [e1,e2,hs]
 have hrow2:bytesRow (strB t) cap=(t.map U8++List.replicate (cap - t.length) (U8 0)).toArray:=by
  have:=congrArg List.toArray hrow
  rwa [Array.toArray_toList] at this
 refine⟨_,_,hr,⟨rfl,rfl,rfl⟩,k _ _ _ ?_⟩;rw [hrow2];have hp:SatL _ _:=h.push (.cells (t.map U8++List.replicate (cap - t.length) (U8 0)).toArray 5 ((t.map U8++List.replicate (cap - t.length) (U8 0)).toArray.size,(t.map U8++List.replicate (cap - t.length) (U8 0)).toArray.size+1));generalize hC:t.map U8++List.replicate (cap - t.length) (U8 0)=C at hp;have hCl:C.length=cap:=by rw [← hC]; simp; omega
 refine SatL.mono hp fun p hp=>⟨by simp,.inr ⟨_,[],List.replicate (cap - t.length) (U8 0),5,(C.toArray.size,C.toArray.size+1),rfl,hcap,by simp,fun _ i h1 h2 hh=>?_,?_⟩⟩
 ·have h3:=hh.1;simp only [List.size_toArray,hCl] at h3;simp only [z9b] at h2;omega
 ·rw [za2,hC];exact hp
end
open Go.Nm
section
variable {a b c d e f g i j k a0 a1 a2 a3 a4 a5 a6 a7 a8 a9 b0 b1 b2 b3 b4 b5 b6 b7 b8 b9 c0 c1 c2 c3 c4 c5 c6 c7 c8 c9 d0 d1 d2 d3 d4 d5 d6 d7 d8 d9 e0 e1 e2 e3 e4 e5 e6 e7 e8 e9 f0 f1 f2 f3 f4 f5 f6 f7 f8 f9 g0 g1 g2 g3 g4 g5 g6 g7 g8 g9 i0 i1 i2 i3 i4 i5 i6 i7 i9 k0 k1 k2 k3 k4 k5 k6 k7 k8 k9 m0 m1 m2 m3 m4 m5 m6 m7 m8 m9 n0:Int} {l m n o p q r n1 n2 n3 n4 n5 n6 n7 n8 n9 o0 o1 o2 o3 o4 o5 o6 o7 o8 o9 p0 p1 p2 p3 p4 p5 p6 p7 p8 p9 q0 q1 q2 q3 q4 q5 q6 q7 q8 q9 s0 s1 s2 s3 s4 s5 s6 s7 s8 s9 t0 t1 t2 t3 t4 t5 t6 t7 t8 t9 u0:Nat} {s t u v u1 u2 u3 u4 u5 u6 u7 u9 v0 v1 v2 v3 v4 v5 v6 v7 v8 v9 w0 w1 w2 w3 w4 w5 w6 w7 w8 w9 x0 x1:Option Addr} {w x x2 x3 x4 x5 x6 x7 x8 x9 z0 z1 z2 z3 z4 z5 z6:ByteArray} {y z7 z8 z9 aa ab ac ad ae af ag ai aj ak al am:Bool} {z an ao ap aq ar au av aw:Nat→Int} {az ah ba bb bc bd be bf:Value} {bj bk bl bm bn bo bp bq:List Value} {bt bu bv bw bx bz:FuncId} {cb cc cd ce cf cg ci cj ck cl cm cn:Option Nat} {H:Heap} {K KP:Value→Heap→Prop}
theorem qa5 (h :
 Q_i 152 [.int .u64 a] H fun b=>
 K (I64 (i64.wrap (64 - b))) H):CF 279 ⟨[.int .u64 a]⟩ H K:=cE h
theorem qnn (h :
 IF y (
 ID (9223372036854775808 < a) (
 K (V_i2 0 12) H) (
 K (V_i2 (i64.wrap (u64.wrap (0 - a))) 0) H)) (
 ID (9223372036854775807 < a) (
 K (V_i2 0 12) H) (
 K (V_i2 (i64.wrap a) 0) H))):CF 258 ⟨(L_ub a y)⟩ H K:=cE h
def q27.r1 (f b c:Int)(K:KT)(a d e:Int)(g:Heap):Prop:=
 ((0:Int)≤(u64.wrap a))∧
 K (V_u2 (u64.wrap ((u64.wrap (d*4294967296))+e)) (Int.fdiv (u64.wrap ((u64.wrap ((u64.wrap ((u64.wrap ((u64.wrap ((u64.wrap ((q0g .or .u64 (u64.wrap (f*2 ^ (min (Int.toNat (u64.wrap a)) (u64.bits)))) (Int.fdiv b (2 ^ (min (Int.toNat (u64.wrap (64 - (u64.wrap a)))) (u64.bits)))))*4294967296))+(Int.fdiv (u64.wrap (b*2 ^ (min (Int.toNat (u64.wrap a)) (u64.bits)))) (2 ^ (min (Int.toNat 32) (u64.bits)))))) - (u64.wrap (d*(u64.wrap (c*2 ^ (min (Int.toNat (u64.wrap a)) (u64.bits))))))))*4294967296))+(q0g .and .u64 (u64.wrap (b*2 ^ (min (Int.toNat (u64.wrap a)) (u64.bits)))) 4294967295))) - (u64.wrap (e*(u64.wrap (c*2 ^ (min (Int.toNat (u64.wrap a)) (u64.bits)))))))) (2 ^ (min (Int.toNat (u64.wrap a)) (u64.bits))))) g
def q27.r3 (g c b:Int)(K:KT)(a i:Int)(o:Heap):Prop:=
 ((Int.fdiv (u64.wrap (b*2 ^ (min (Int.toNat (u64.wrap a)) (u64.bits)))) (2 ^ (min (Int.toNat 32) (u64.bits))))≠0)∧
 ∀k:q1m,(∀m n,q27.r1 g c b K a i m n→k m n)→
 ∃(j:q9y) (l:qia),j (u64.wrap ((u64.wrap ((u64.wrap ((u64.wrap ((q0g .or .u64 (u64.wrap (g*2 ^ (min (Int.toNat (u64.wrap a)) (u64.bits)))) (Int.fdiv c (2 ^ (min (Int.toNat (u64.wrap (64 - (u64.wrap a)))) (u64.bits)))))*4294967296))+(Int.fdiv (u64.wrap (c*2 ^ (min (Int.toNat (u64.wrap a)) (u64.bits)))) (2 ^ (min (Int.toNat 32) (u64.bits)))))) - (u64.wrap (i*(u64.wrap (b*2 ^ (min (Int.toNat (u64.wrap a)) (u64.bits)))))))) - (u64.wrap ((u64.wrap (Int.tdiv (u64.wrap ((u64.wrap ((u64.wrap ((q0g .or .u64 (u64.wrap (g*2 ^ (min (Int.toNat (u64.wrap a)) (u64.bits)))) (Int.fdiv c (2 ^ (min (Int.toNat (u64.wrap (64 - (u64.wrap a)))) (u64.bits)))))*4294967296))+(Int.fdiv (u64.wrap (c*2 ^ (min (Int.toNat (u64.wrap a)) (u64.bits)))) (2 ^ (min (Int.toNat 32) (u64.bits)))))) - (u64.wrap (i*(u64.wrap (b*2 ^ (min (Int.toNat (u64.wrap a)) (u64.bits)))))))) (Int.fdiv (u64.wrap (b*2 ^ (min (Int.toNat (u64.wrap a)) (u64.bits)))) (2 ^ (min (Int.toNat 32) (u64.bits))))))*(Int.fdiv (u64.wrap (b*2 ^ (min (Int.toNat (u64.wrap a)) (u64.bits)))) (2 ^ (min (Int.toNat 32) (u64.bits)))))))) (u64.wrap (Int.tdiv (u64.wrap ((u64.wrap ((u64.wrap ((q0g .or .u64 (u64.wrap (g*2 ^ (min (Int.toNat (u64.wrap a)) (u64.bits)))) (Int.fdiv c (2 ^ (min (Int.toNat (u64.wrap (64 - (u64.wrap a)))) (u64.bits)))))*4294967296))+(Int.fdiv (u64.wrap (c*2 ^ (min (Int.toNat (u64.wrap a)) (u64.bits)))) (2 ^ (min (Int.toNat 32) (u64.bits)))))) - (u64.wrap (i*(u64.wrap (b*2 ^ (min (Int.toNat (u64.wrap a)) (u64.bits)))))))) (Int.fdiv (u64.wrap (b*2 ^ (min (Int.toNat (u64.wrap a)) (u64.bits)))) (2 ^ (min (Int.toNat 32) (u64.bits)))))) o∧
 ∀e d f,j e d f→
 IF ((decide (4294967296≤d)) || (decide ((u64.wrap ((u64.wrap (4294967296*e))+(q0g .and .u64 (u64.wrap (c*2 ^ (min (Int.toNat (u64.wrap a)) (u64.bits)))) 4294967295))) < (u64.wrap (d*(q0g .and .u64 (u64.wrap (b*2 ^ (min (Int.toNat (u64.wrap a)) (u64.bits)))) 4294967295)))))) (
 ID (4294967296≤(u64.wrap (e+(Int.fdiv (u64.wrap (b*2 ^ (min (Int.toNat (u64.wrap a)) (u64.bits)))) (2 ^ (min (Int.toNat 32) (u64.bits))))))) (
 k (u64.wrap (d - 1)) f) (
 j (u64.wrap (e+(Int.fdiv (u64.wrap (b*2 ^ (min (Int.toNat (u64.wrap a)) (u64.bits)))) (2 ^ (min (Int.toNat 32) (u64.bits)))))) (u64.wrap (d - 1)) f∧l (u64.wrap (e+(Int.fdiv (u64.wrap (b*2 ^ (min (Int.toNat (u64.wrap a)) (u64.bits)))) (2 ^ (min (Int.toNat 32) (u64.bits)))))) (u64.wrap (d - 1)) f < l e d f)) (
 k d f)
def q27.r5 (g d b:Int)(K:KT)(i:Heap):Prop:=
 ID (g=0) (
 (b≠0)∧
 (b≠0)∧
 K (V_u2 (u64.wrap (Int.tdiv d b)) (Int.tmod d b)) i) (
 Q_i 279 [.int .u64 b] i fun a=>
 ((0:Int)≤(u64.wrap a))∧
 ((0:Int)≤32)∧
 ((0:Int)≤(u64.wrap a))∧
 ((0:Int)≤(u64.wrap (64 - (u64.wrap a))))∧
 ((0:Int)≤(u64.wrap a))∧
 ((0:Int)≤32)∧
 ((Int.fdiv (u64.wrap (b*2 ^ (min (Int.toNat (u64.wrap a)) (u64.bits)))) (2 ^ (min (Int.toNat 32) (u64.bits))))≠0)∧
 ∀k:q1m,(∀m n,q27.r3 g d b K a m n→k m n)→
 ∃(j:q9y) (l:qia),j (u64.wrap (Int.tdiv (q0g .or .u64 (u64.wrap (g*2 ^ (min (Int.toNat (u64.wrap a)) (u64.bits)))) (Int.fdiv d (2 ^ (min (Int.toNat (u64.wrap (64 - (u64.wrap a)))) (u64.bits))))) (Int.fdiv (u64.wrap (b*2 ^ (min (Int.toNat (u64.wrap a)) (u64.bits)))) (2 ^ (min (Int.toNat 32) (u64.bits)))))) (u64.wrap ((q0g .or .u64 (u64.wrap (g*2 ^ (min (Int.toNat (u64.wrap a)) (u64.bits)))) (Int.fdiv d (2 ^ (min (Int.toNat (u64.wrap (64 - (u64.wrap a)))) (u64.bits))))) - (u64.wrap ((u64.wrap (Int.tdiv (q0g .or .u64 (u64.wrap (g*2 ^ (min (Int.toNat (u64.wrap a)) (u64.bits)))) (Int.fdiv d (2 ^ (min (Int.toNat (u64.wrap (64 - (u64.wrap a)))) (u64.bits))))) (Int.fdiv (u64.wrap (b*2 ^ (min (Int.toNat (u64.wrap a)) (u64.bits)))) (2 ^ (min (Int.toNat 32) (u64.bits))))))*(Int.fdiv (u64.wrap (b*2 ^ (min (Int.toNat (u64.wrap a)) (u64.bits)))) (2 ^ (min (Int.toNat 32) (u64.bits)))))))) i∧
 ∀c e f,j c e f→
 IF ((decide (4294967296≤c)) || (decide ((u64.wrap ((u64.wrap (4294967296*e))+(Int.fdiv (u64.wrap (d*2 ^ (min (Int.toNat (u64.wrap a)) (u64.bits)))) (2 ^ (min (Int.toNat 32) (u64.bits)))))) < (u64.wrap (c*(q0g .and .u64 (u64.wrap (b*2 ^ (min (Int.toNat (u64.wrap a)) (u64.bits)))) 4294967295)))))) (
 ID (4294967296≤(u64.wrap (e+(Int.fdiv (u64.wrap (b*2 ^ (min (Int.toNat (u64.wrap a)) (u64.bits)))) (2 ^ (min (Int.toNat 32) (u64.bits))))))) (
 k (u64.wrap (c - 1)) f) (
 j (u64.wrap (c - 1)) (u64.wrap (e+(Int.fdiv (u64.wrap (b*2 ^ (min (Int.toNat (u64.wrap a)) (u64.bits)))) (2 ^ (min (Int.toNat 32) (u64.bits)))))) f∧l (u64.wrap (c - 1)) (u64.wrap (e+(Int.fdiv (u64.wrap (b*2 ^ (min (Int.toNat (u64.wrap a)) (u64.bits)))) (2 ^ (min (Int.toNat 32) (u64.bits)))))) f < l c e f)) (
 k c f))
theorem qr0 (h :
 ∀i:J_HP,(∀d,(∀j:J_HP,(∀e,q27.r5 a b c K e→j e)→
 ID (c≤a) (
 ∃f,q02 d 2 0=some f∧
 panP f (fun (k:Value) (l:Heap)=>False) d) (
 j d))→i d)→
 ID (c=0) (
 ∃g,q02 H 1 0=some g∧
 panP g (fun (m:Value) (n:Heap)=>False) H) (
 i H)):CF 257 ⟨(L_u3 a b c)⟩ H K:=cE h
theorem qus (h :
 ID (a < 0) (
 K (.int .u64 (u64.wrap (0 - (u64.wrap a)))) H) (
 K (.int .u64 (u64.wrap a)) H)):CF 256 ⟨[I64 a]⟩ H K:=cE h
theorem qr1 (h :
 ((0:Int)≤32)∧
 ((0:Int)≤32)∧
 ((0:Int)≤32)∧
 ((0:Int)≤32)∧
 ((0:Int)≤32)∧
 K (V_u2 (u64.wrap ((u64.wrap ((u64.wrap ((Int.fdiv a (2 ^ (min (Int.toNat 32) (u64.bits))))*(Int.fdiv b (2 ^ (min (Int.toNat 32) (u64.bits))))))+(Int.fdiv (u64.wrap ((u64.wrap ((Int.fdiv a (2 ^ (min (Int.toNat 32) (u64.bits))))*(q0g .and .u64 b 4294967295)))+(Int.fdiv (u64.wrap ((q0g .and .u64 a 4294967295)*(q0g .and .u64 b 4294967295))) (2 ^ (min (Int.toNat 32) (u64.bits)))))) (2 ^ (min (Int.toNat 32) (u64.bits))))))+(Int.fdiv (u64.wrap ((q0g .and .u64 (u64.wrap ((u64.wrap ((Int.fdiv a (2 ^ (min (Int.toNat 32) (u64.bits))))*(q0g .and .u64 b 4294967295)))+(Int.fdiv (u64.wrap ((q0g .and .u64 a 4294967295)*(q0g .and .u64 b 4294967295))) (2 ^ (min (Int.toNat 32) (u64.bits)))))) 4294967295)+(u64.wrap ((q0g .and .u64 a 4294967295)*(Int.fdiv b (2 ^ (min (Int.toNat 32) (u64.bits)))))))) (2 ^ (min (Int.toNat 32) (u64.bits)))))) (u64.wrap (a*b))) H):CF 255 ⟨(L_u2 a b)⟩ H K:=cE h
theorem z5l (h :
 AL H (L_i2 a b) 53 fun d e=>
 q0b e d 0 fun f=>
 C_b 142 [.agg ⟨f⟩] e fun g c=>
 IF (!g) (
 K (I64 0) c) (
 rd_i c d 0 fun i=>
 rd_i c d 1 fun j=>
 rd_i c d 0 fun k=>
 rd_i c d 1 fun l=>
 ((0:Int)≤1)∧
 K (I64 (i64.wrap ((q0g .and .i64 i j)+(Int.fdiv (q0g .xor .i64 k l) (2 ^ (min (Int.toNat 1) (i64.bits))))))) c)):CF 224 ⟨[(A_i2 a b)]⟩ H K:=cE h
theorem qut (h :
 AL H (L_i2 a b) 53 fun d e=>
 q0b e d 0 fun f=>
 C_b 142 [.agg ⟨f⟩] e fun g c=>
 IF (!g) (
 K (.int .u64 0) c) (
 rd_i c d 1 fun i=>
 rd_i c d 0 fun j=>
 K (.int .u64 (u64.wrap ((u64.wrap i) - (u64.wrap j)))) c)):CF 223 ⟨[(A_i2 a b)]⟩ H K:=cE h
theorem qr2 (h :
 ID (c < 1) (
 K (V_i2 0 11) H) (
 ∃g,CQ 256 #[I64 a] H (.int .u64 g)∧
 ∃r1,CQ 256 #[I64 b] H (.int .u64 r1)∧
 ∃r2 r3,CQ 255 #[.int .u64 g,.int .u64 r1] H (V_u2 r2 r3)∧
 ID ((u64.wrap c)≤r2) (
 K (V_i2 0 12) H) (
 CF 257 ⟨(L_u3 r2 r3 (u64.wrap c))⟩ H fun j d=>∃r4 r5,j=(V_u2 r4 r5)∧
 ID (9223372036854775808 < r4) (
 K (V_i2 0 12) d) (
 ∀f:q1m,(∀i e,(∃r6 r7,CQ 258 #[.int .u64 i,.bool (!((decide (a < 0)) == (decide (b < 0))))] e (V_i2 r6 r7)∧
 K (V_i2 r6 r7) e)→f i e)→
 IF ((!decide (r5=0)) && (!((!((decide (a < 0)) == (decide (b < 0)))) == y))) (
 f (u64.wrap (r4+1)) d) (
 f r4 d))))):CF 219 ⟨(L_i3b a b c y)⟩ H K:=cE h
theorem qr3 (h :
 K (.bool ((decide (0≤a)) && (decide (a≤100000)))) H):CF 218 ⟨[I64 a]⟩ H K:=cE h
theorem qr4 (h :
 AL H (L_i2 a b) 53 fun f o=>
 AL o (L_i2 c d) 53 fun g p=>
 AL p (L_i2 0 0) 53 fun i e=>
 rd_i e f 0 fun j=>
 rd_i e g 0 fun k=>
 rd_i e f 1 fun l=>
 rd_i e g 1 fun m=>
 ST e i 0 (L_i2 (if k > j then k else j) (if m < l then m else l)) fun n=>
 q0b n i 0 fun q=>
 K (.agg ⟨q⟩) n):CF 201 ⟨(L_v2 (A_i2 a b) (A_i2 c d))⟩ H K:=cE h
theorem z0j (h :
 AL H (L_i2 a b) 53 fun f v=>
 AL v (L_i2 0 0) 53 fun d w=>
 ∃(k:q1m) (u:q37),k 0 w∧
 ∀c e,k c e→
 ID (c < l) (
 IA c l s fun x y=>
 q0b e x (y+c.toNat*2) fun z=>
 AL e (L_i2 0 0) 53 fun i a0=>
 ST a0 i 0 z fun n=>
 q0b n i 0 fun a1=>
 C_b 142 [.agg ⟨a1⟩] n fun a2 g=>
 IF (!a2) (
 ST g d 0 (L_i2 0 0) fun o=>
 q0b o d 0 fun a3=>
 K (V_vi (.agg ⟨a3⟩) 10) o) (
 q0b g f 0 fun a4=>
 q0b g i 0 fun a5=>
 memN bt X.calls=true∧
 CF bt ⟨((L_v2 (.agg ⟨a4⟩) (.agg ⟨a5⟩))++bj)⟩ g fun a6 a7=>∃t r1,a6=(A_i2 t r1)∧
 ST a7 f 0 (L_i2 t r1) fun p=>
 k (i64.wrap (c+1)) p∧u (i64.wrap (c+1)) p < u c e)) (
 q0b e f 0 fun a8=>
 C_b 142 [.agg ⟨a8⟩] e fun r2 j=>
 IF (!r2) (
 ST j d 0 (L_i2 0 0) fun q=>
 q0b q d 0 fun a9=>
 K (V_vi (.agg ⟨a9⟩) 13) q) (
 q0b j f 0 fun b0=>
 ST j d 0 b0 fun r=>
 q0b r d 0 fun b1=>
 K (V_vi (.agg ⟨b1⟩) 0) r))):CF 200 ⟨[(A_i2 a b),.slice s l m,.func (.func bt) #[] ⟨bj⟩]⟩ H K:=cE h
theorem quu (h :
 AL H (L_i3 a b c) 70 fun g q=>
 AL q (L_i2 d e) 53 fun k l=>
 q15 l g 0 fun r=>
 q0b l k 0 fun s=>
 CF 191 ⟨(L_v2 (.agg ⟨r⟩) (.agg ⟨s⟩))⟩ l fun t i=>∃j r1 r2,t=(V_i3 j r1 r2)∧
 IN (r2=0) (
 K (V_i2 0 r2) i) (
 q0b i k 0 fun u=>
 rd_i i g 2 fun n=>
 C_u 223 [.agg ⟨u⟩] i fun r3 f=>
 q02 f g 2=some (I64 n)∧
 ID ((u64.wrap n) < r3) (
 K (V_i2 0 17) f) (
 rd_i f g 1 fun m=>
 ID (m=0) (
 K (V_i2 j 0) f) (
 ID (m=1) (
 K (V_i2 r1 0) f) (
 ID (m=2) (
 q15 f g 0 fun o=>
 q0b f k 0 fun v=>
 C_i 224 [.agg ⟨v⟩] f fun r4 p=>
 q03 p g 0 o∧
 C_i 22 (L_vi (.agg ⟨o⟩) r4) p fun r5 w=>
 K (V_i2 r5 0) w) (
 IN (j=r1) (
 K (V_i2 0 17) f) (
 K (V_i2 j 0) f))))))):CF 193 ⟨(L_v2 (A_i3 a b c) (A_i2 d e))⟩ H K:=cE h
theorem qr5 (h :
 AL H (L_i3 a b c) 70 fun g o=>
 AL o (L_i2 d e) 53 fun i l=>
 q15 l g 0 fun p=>
 C_b 75 [.agg ⟨p⟩] l fun q j=>
 IF (!q) (
 K (V_i3 0 0 21) j) (
 q0b j i 0 fun r=>
 C_b 142 [.agg ⟨r⟩] j fun r1 f=>
 IF (!r1) (
 K (V_i3 0 0 10) f) (
 q15 f g 0 fun s=>
 rd_i f i 0 fun t=>
 q15 f g 0 fun m=>
 rd_i f i 1 fun n=>
 C_i 22 (L_vi (.agg ⟨s⟩) t) f fun r2 k=>
 q02 k i 1=some (I64 n)∧
 q03 k g 0 m∧
 C_i 22 (L_vi (.agg ⟨m⟩) n) k fun r3 u=>
 K (V_i3 r2 r3 0) u))):CF 191 ⟨(L_v2 (A_i3 a b c) (A_i2 d e))⟩ H K:=cE h
theorem z0k (h :
 ID ((q0g .and .i64 (q0g .xor .i64 a (i64.wrap (a+b))) (q0g .xor .i64 b (i64.wrap (a+b)))) < 0) (
 K (V_i2 0 12) H) (
 K (V_i2 (i64.wrap (a+b)) 0) H)):CF 187 ⟨(L_i2 a b)⟩ H K:=cE h
theorem qr6 (h :
 IF ((decide (a < (-4611686018427387904))) || (decide (4611686018427387904 < a))) (
 K (V_i2 0 11) H) (
 ql4 185 (L_i2 (i64.wrap (0 - a)) b) H fun c r1 d=>
 K (V_i2 (i64.wrap (0 - c)) r1) d)):CF 186 ⟨(L_i2 a b)⟩ H K:=cE h
theorem quv (h :
 gQ_b (((decide (a < (-4611686018427387904))) || (decide (4611686018427387904 < a)))=false) 218 [I64 b] H fun c=>
 IF (((decide (a < (-4611686018427387904))) || (decide (4611686018427387904 < a))) || (!c)) (
 K (V_i2 0 11) H) (
 ID (0 < a) (
 ql4 219 (L_i3b (i64.wrap (a - 1)) 1000000 (i64.wrap (1000000+b)) true) H fun r1 r2 d=>
 K (V_i2 (if r1 > 1 then r1 else 1) r2) d) (
 ql4 219 (L_i3b (i64.wrap (1 - a)) 1000000 (i64.wrap (1000000 - b)) false) H fun r3 r4 e=>
 K (V_i2 (i64.wrap (0 - r3)) r4) e))):CF 185 ⟨(L_i2 a b)⟩ H K:=cE h
theorem qka (h :
 K (.bool ((decide (0≤a)) && (decide (a≤4611686018427387903)))) H):CF 166 ⟨[I64 a]⟩ H K:=cE h
theorem z0l (h :
 AL H (L_i2 0 0) 53 fun a e=>
 AL e (L_i2 0 0) 53 fun b f=>
 ST f b 0 (L_i2 (-9223372036854775808) 9223372036854775807) fun c=>
 q0b c b 0 fun g=>
 q1x 200 (L_vlv (.agg ⟨g⟩) s l m (.func (.func 201) #[] #[])) c fun i j k=>
 ST k a 0 i fun d=>
 q0b d a 0 fun n=>
 K (V_vi (.agg ⟨n⟩) j) d):CF 159 ⟨[.slice s l m]⟩ H K:=cE h
theorem z0m (h :
 AL H (L_i2 0 0) 53 fun b d=>
 rd_l d l (m+4) fun d7 b2 d8=>
 ID ((b2:Int)=0) (
 ST d b 0 (L_i2 0 0) fun u=>
 q0b u b 0 fun b3=>
 K (V_vi (.agg ⟨b3⟩) 19) u) (
 Q_b 166 [I64 a] d fun b4=>
 IF (!b4) (
 ST d b 0 (L_i2 0 0) fun v=>
 q0b v b 0 fun b5=>
 K (V_vi (.agg ⟨b5⟩) 11) v) (
 rd_l d l (m+4) fun d9 b6 e0=>
 RunW Tryz.prog (Instr.makeSlice 239 (I64 0) (I64 b6)) d fun b7 w=>
 ∃a6 a7 a8,b7=(.slice a6 a7 a8)∧
 rd_l w l (m+4) fun b8 x e1=>
 ∃(t:q0x) (b1:q0y),t a6 a7 a8 0 w∧
 ∀g i j c e,t g i j c e→
 ID (c < x) (
 IA c x b8 fun b9 c0=>
 q5x e b9 (c0+c.toNat*4) fun c1=>
 AL e ZL_i4 43 fun n c2=>
 ST c2 n 0 c1 fun f=>
 ∀s:quf,(∀a9 b0 r k,(IN (r=0) (
 ST k b 0 (L_i2 0 0) fun y=>
 q0b y b 0 fun c3=>
 K (V_vi (.agg ⟨c3⟩) r) y) (
 q0b k a9 b0 fun c4=>
 AL k c4 53 fun c5 c6=>
 AP #[239,239] 239 (L_l2 g i j (some ⟨c5,0,none⟩) 1 1) c6 fun z a0 a1 a2=>
 t z a0 a1 (i64.wrap (c+1)) a2∧b1 z a0 a1 (i64.wrap (c+1)) a2 < b1 g i j c e))→s a9 b0 r k)→
 q5x f n 0 fun o=>
 rd_i f l m fun p=>
 (q1x 140 (z58 (.agg ⟨o⟩) a p) f fun c7 r2 c8=>
 AL c8 (L_i2 0 0) 53 fun a3 c9=>
 ST c9 a3 0 c7 fun d0=>
 s a3 0 r2 d0)∧
 (AL f (L_i2 0 0) 53 fun a4 q=>
 q02 q l m=some (I64 p)∧
 q03 q n 0 o∧
 q1x 140 (z58 (.agg ⟨o⟩) a p) q fun d1 r3 d2=>
 ST d2 a4 0 d1 fun d3=>
 s a4 0 r3 d3)) (
 q1x 159 [.slice g i j] e fun d4 r4 d5=>
 ST d5 b 0 d4 fun a5=>
 q0b a5 b 0 fun d6=>
 K (V_vi (.agg ⟨d6⟩) r4) a5)))):CF 158 ⟨(L_ai l m a)⟩ H K:=cE h
def q2k.r1 (K:KT)(a b:Int)(c:Heap):Prop:=
 (IX (u8.wrap a) (⟨#[0,1,2,2,3,3,3,3,4,4,4,4,4,4,4,4,5,5,5,5,5,5,5,5,5,5,5,5,5,5,5,5,6,6,6,6,6,6,6,6,6,6,6,6,6,6,6,6,6,6,6,6,6,6,6,6,6,6,6,6,6,6,6,6,7,7,7,7,7,7,7,7,7,7,7,7,7,7,7,7,7,7,7,7,7,7,7,7,7,7,7,7,7,7,7,7,7,7,7,7,7,7,7,7,7,7,7,7,7,7,7,7,7,7,7,7,7,7,7,7,7,7,7,7,7,7,7,7,8,8,8,8,8,8,8,8,8,8,8,8,8,8,8,8,8,8,8,8,8,8,8,8,8,8,8,8,8,8,8,8,8,8,8,8,8,8,8,8,8,8,8,8,8,8,8,8,8,8,8,8,8,8,8,8,8,8,8,8,8,8,8,8,8,8,8,8,8,8,8,8,8,8,8,8,8,8,8,8,8,8,8,8,8,8,8,8,8,8,8,8,8,8,8,8,8,8,8,8,8,8,8,8,8,8,8,8,8,8,8,8,8,8,8,8,8,8,8,8,8,8,8,8,8,8,8,8]⟩:ByteArray).size)∧
 K (I64 (i64.wrap (b+(i64.wrap (bAt (⟨#[0,1,2,2,3,3,3,3,4,4,4,4,4,4,4,4,5,5,5,5,5,5,5,5,5,5,5,5,5,5,5,5,6,6,6,6,6,6,6,6,6,6,6,6,6,6,6,6,6,6,6,6,6,6,6,6,6,6,6,6,6,6,6,6,7,7,7,7,7,7,7,7,7,7,7,7,7,7,7,7,7,7,7,7,7,7,7,7,7,7,7,7,7,7,7,7,7,7,7,7,7,7,7,7,7,7,7,7,7,7,7,7,7,7,7,7,7,7,7,7,7,7,7,7,7,7,7,7,8,8,8,8,8,8,8,8,8,8,8,8,8,8,8,8,8,8,8,8,8,8,8,8,8,8,8,8,8,8,8,8,8,8,8,8,8,8,8,8,8,8,8,8,8,8,8,8,8,8,8,8,8,8,8,8,8,8,8,8,8,8,8,8,8,8,8,8,8,8,8,8,8,8,8,8,8,8,8,8,8,8,8,8,8,8,8,8,8,8,8,8,8,8,8,8,8,8,8,8,8,8,8,8,8,8,8,8,8,8,8,8,8,8,8,8,8,8,8,8,8,8,8,8,8,8,8,8]⟩:ByteArray) (u8.wrap a).toNat))))) c
def q2k.r2 (K:KT)(a c:Int)(d:Heap):Prop:=
 ∀b:q9y,(∀e f g,q2k.r1 K e f g→b e f g)→
 ID (256≤a) (
 ((0:Int)≤8)∧
 b (Int.fdiv a (2 ^ (min (Int.toNat 8) (u64.bits)))) (i64.wrap (c+8)) d) (
 b a c d)
def q2k.r3 (K:KT)(a c:Int)(d:Heap):Prop:=
 ∀b:q9y,(∀e f g,q2k.r2 K e f g→b e f g)→
 ID (65536≤a) (
 ((0:Int)≤16)∧
 b (Int.fdiv a (2 ^ (min (Int.toNat 16) (u64.bits)))) (i64.wrap (c+16)) d) (
 b a c d)
theorem qr7 (h :
 ∀b:q9y,(∀c d e,q2k.r3 K c d e→b c d e)→
 ID (4294967296≤a) (
 ((0:Int)≤32)∧
 b (Int.fdiv a (2 ^ (min (Int.toNat 32) (u64.bits)))) 32 H) (
 b a 0 H)):CF 152 ⟨[.int .u64 a]⟩ H K:=cE h
theorem quw (h :
 AL H (L_i2 a b) 53 fun d c=>
 rd_i c d 0 fun e=>
 rd_i c d 1 fun f=>
 K (.bool (decide (e≤f))) c):CF 142 ⟨[(A_i2 a b)]⟩ H K:=cE h
theorem qno (h :
 q1x 159 [.slice s l m] H fun a b c=>
 AL c (L_i2 0 0) 53 fun d e=>
 ST e d 0 a fun f=>
 K (.bool ((decide (0 < (l:Int))) && (decide (b=0)))) f):CF 141 ⟨[.slice s l m]⟩ H K:=cE h
def q6s.r1 (K:KT)(a:Nat)(r3 b c:Int)(d:Heap):Prop:=
 ID ((if 4611686018427387903 < c then 4611686018427387903 else c) < (if 0 > (i64.wrap (b+r3)) then 0 else (i64.wrap (b+r3)))) (
 ST d a 0 (L_i2 0 0) fun e=>
 q0b e a 0 fun g=>
 K (V_vi (.agg ⟨g⟩) 13) e) (
 ST d a 0 (L_i2 (if 0 > (i64.wrap (b+r3)) then 0 else (i64.wrap (b+r3))) (if 4611686018427387903 < c then 4611686018427387903 else c)) fun f=>
 q0b f a 0 fun i=>
 K (V_vi (.agg ⟨i⟩) 0) f)
theorem qf3 (h :
 AL H (L_i4 a b c d) 43 fun i t=>
 AL t (L_i2 0 0) 53 fun j m=>
 q5x m i 0 fun u=>
 C_b 98 [.agg ⟨u⟩] m fun v g=>
 IF (!v) (
 ST g j 0 (L_i2 0 0) fun n=>
 q0b n j 0 fun w=>
 K (V_vi (.agg ⟨w⟩) 10) n) (
 Q_b 166 [I64 e] g fun r1=>
 gQ_b ((!r1)=false) 116 [I64 f] g fun r2=>
 IF ((!r1) || (!r2)) (
 ST g j 0 (L_i2 0 0) fun o=>
 q0b o j 0 fun x=>
 K (V_vi (.agg ⟨x⟩) 11) o) (
 rd_i g i 1 fun y=>
 ql4 185 (L_i2 (i64.wrap (e - y)) f) g fun r3 r4 p=>
 rd_i p i 2 fun z=>
 ql4 186 (L_i2 (i64.wrap (e - z)) f) p fun r5 r6 k=>
 rd_i k i 0 fun a0=>
 rd_i k i 3 fun a1=>
 ∃r7 q,CQ 187 #[I64 a1,I64 r5] k (V_i2 r7 q)∧
 ∀l:q1m,(∀r s,q6s.r1 K j r3 a0 r s→l r s)→
 IN (q=0) (
 l 4611686018427387903 k) (
 l r7 k)))):CF 140 ⟨(z58 (A_i4 a b c d) e f)⟩ H K:=cE h
theorem qkb (h :
 rd_i H l (m+1+2) fun a=>
 K (I64 a) H):CF 125 ⟨[PA l m]⟩ H K:=cE h
theorem qkc (h :
 K (.bool ((decide (0≤a)) && (decide (a≤100000)))) H):CF 116 ⟨[I64 a]⟩ H K:=cE h
theorem qux (h :
 IF ((decide (8 < (n:Int))) || (decide (a < 0))) (
 K (I64 10) H) (
 ∃(e:q1m) (i:q37),e 0 H∧
 ∀b c,e b c→
 ID (b < n) (
 IA b n s fun j k=>
 q5x c j (k+b.toNat*4) fun p=>
 AL c ZL_i4 43 fun f q=>
 ST q f 0 p fun g=>
 q5x g f 0 fun r=>
 C_b 98 [.agg ⟨r⟩] g fun t d=>
 IF (!t) (
 K (I64 10) d) (
 e (i64.wrap (b+1)) d∧i (i64.wrap (b+1)) d < i b c)) (
 C_l 155 [.slice s n o] c fun u v w x=>
 ST x l (m+1+1) [.bool y] fun z=>
 ST z l (m+1+2) [I64 a] fun a0=>
 ST a0 l (m+4) [.slice u v w] fun a1=>
 K (I64 0) a1))):CF 106 ⟨[PA l m,.bool y,I64 a,.slice s n o]⟩ H K:=cE h
theorem qbc (h :
 AL H (L_i4 a b c d) 43 fun g e=>
 rd_i e g 0 fun k=>
 Q_b 166 [I64 k] e fun f=>
 gd_i (f=true) e g 1 fun l=>
 gQ_b (f=true) 166 [I64 l] e fun r1=>
 gd_i ((f && r1)=true) e g 2 fun m=>
 gQ_b ((f && r1)=true) 166 [I64 m] e fun r2=>
 gd_i (((f && r1) && r2)=true) e g 3 fun n=>
 gQ_b (((f && r1) && r2)=true) 166 [I64 n] e fun r3=>
 gd_i ((((f && r1) && r2) && r3)=true) e g 0 fun i=>
 gd_i ((((f && r1) && r2) && r3)=true) e g 3 fun j=>
 gd_i (((((f && r1) && r2) && r3) && (decide (i≤j)))=true) e g 1 fun o=>
 gd_i (((((f && r1) && r2) && r3) && (decide (i≤j)))=true) e g 2 fun p=>
 K (.bool (((((f && r1) && r2) && r3) && (decide (i≤j))) && (decide (o≤p)))) e):CF 98 ⟨[(A_i4 a b c d)]⟩ H K:=cE h
theorem qij (h :
 rd_l H l (m+4) fun a b c=>
 C_l 155 [.slice a b c] H fun d e f g=>
 K (.slice d e f) g):CF 84 ⟨[PA l m]⟩ H K:=cE h
theorem qr8 (h :
 AL H (L_i3 a b c) 70 fun e d=>
 rd_i d e 0 fun f=>
 gd_i ((decide (1≤f))=true) d e 0 fun g=>
 gd_i (((decide (1≤f)) && (decide (g≤1099511627776)))=true) d e 1 fun i=>
 gd_i ((((decide (1≤f)) && (decide (g≤1099511627776))) && (decide (0≤i)))=true) d e 1 fun j=>
 gd_i (((((decide (1≤f)) && (decide (g≤1099511627776))) && (decide (0≤i))) && (decide (j≤3)))=true) d e 2 fun k=>
 gd_i ((((((decide (1≤f)) && (decide (g≤1099511627776))) && (decide (0≤i))) && (decide (j≤3))) && (decide (0≤k)))=true) d e 2 fun l=>
 K (.bool ((((((decide (1≤f)) && (decide (g≤1099511627776))) && (decide (0≤i))) && (decide (j≤3))) && (decide (0≤k))) && (decide (l≤4611686018427387903)))) d):CF 75 ⟨[(A_i3 a b c)]⟩ H K:=cE h
theorem qr9 (h :
 rd_b H l (m+1+1) fun a=>
 K (.bool a) H):CF 70 ⟨[PA l m]⟩ H K:=cE h
def qik.r7 (a b:Nat)(K:KT)(m:Nat)(ac:Heap):Prop:=
 rd_l ac a (b+4) fun bs av bt=>
 RunW Tryz.prog (Instr.makeSlice 239 (I64 0) (I64 av)) ac fun aw ak=>
 ∃ae af ag,aw=(.slice ae af ag)∧
 rd_l ak a (b+4) fun ax al bu=>
 ∃(n:q0x) (ad:q0y),n ae af ag 0 ak∧
 ∀e c k d f,n e c k d f→
 ID (d < al) (
 IA d al ax fun ay az=>
 q5x f ay (az+d.toNat*4) fun a0=>
 AL f ZL_i4 43 fun x a1=>
 ST a1 x 0 a0 fun i=>
 ∀s:quf,(∀o p ah q,(∀t:J_HP,(∀r,(q0b r o p fun a2=>
 AL r a2 53 fun a3 a4=>
 AP #[239,239] 239 (L_l2 e c k (some ⟨a3,0,none⟩) 1 1) a4 fun am an ao ap=>
 n am an ao (i64.wrap (d+1)) ap∧ad am an ao (i64.wrap (d+1)) ap < ad e c k d f)→t r)→
 IN (ah=0) (
 ST q o p (L_i2 1 0) fun a5=>
 t a5) (
 t q))→s o p ah q)→
 q5x i x 0 fun y=>
 rd_i i m 2 fun z=>
 rd_i i a b fun aa=>
 (q1x 140 (z58 (.agg ⟨y⟩) z aa) i fun a6 r2 a7=>
 AL a7 (L_i2 0 0) 53 fun aq a8=>
 ST a8 aq 0 a6 fun a9=>
 s aq 0 r2 a9)∧
 (AL i (L_i2 0 0) 53 fun ar l=>
 q02 l a b=some (I64 aa)∧
 q02 l m 2=some (I64 z)∧
 q03 l x 0 y∧
 q1x 140 (z58 (.agg ⟨y⟩) z aa) l fun ba r3 bb=>
 ST bb ar 0 ba fun bc=>
 s ar 0 r3 bc)) (
 C_b 141 [.slice e c k] f fun r4 j=>
 IF r4 (
 rd_i j a (b+1+2) fun bd=>
 ∀u:J_HP,(∀g,(rd_i g a (b+1+2) fun be=>
 rd_i g a (b+1) fun bf=>
 ∀v:J_HP,(∀ai,(K (I64 0) ai)→v ai)→
 ID (bf≤be) (
 ST g a (b+1+1) [.bool false] fun bg=>
 v bg) (
 v g))→u g)→
 ID (bd < 9223372036854775807) (
 rd_i j a (b+1+2) fun bh=>
 ST j a (b+1+2) [I64 (i64.wrap (bh+1))] fun bi=>
 u bi) (
 u j)) (
 ST j a (b+1+1) [.bool true] fun bj=>
 ST bj a (b+1+2) [I64 0] fun bk=>
 ST bk a (b+4) [.slice none 0 0] fun au=>
 IA (i64.wrap ((c:Int) - 1)) c e fun bl bm=>
 q0b au bl (bm+(i64.wrap ((c:Int) - 1)).toNat*2) fun bn=>
 C_b 142 [.agg ⟨bn⟩] au fun r5 ab=>
 ∀w:J_HP,(∀aj,(K (I64 21) aj)→w aj)→
 IF r5 (
 q5x ab m 0 fun bo=>
 AL ab bo 43 fun bp bq=>
 ST bq a (b+4) [.slice (some ⟨bp,0,none⟩) 1 1] fun br=>
 w br) (
 w ab)))
theorem quy (h :
 AL H (L_i4 a b c d) 43 fun g j=>
 q5x j g 0 fun r=>
 C_b 98 [.agg ⟨r⟩] j fun s e=>
 IF (!s) (
 K (I64 10) e) (
 rd_l e l (m+4) fun k n o=>
 q5x e g 0 fun t=>
 AL e t 43 fun u p=>
 q02 p l (m+4)=some (.slice k n o)∧
 AP #[166,166] 166 (L_l2 k n o (some ⟨u,0,none⟩) 1 1) p fun v w x y=>
 ST y l (m+4) [.slice v w x] fun f=>
 rd_l f l (m+4) fun a8 z a9=>
 ∀i:J_HP,(∀q,qik.r7 l m K g q→i q)→
 ID (8 < (z:Int)) (
 rd_l f l (m+4) fun a0 a1 a2=>
 C_l 139 (L_li2 a0 a1 a2 0 1) f fun a3 a4 a5 a6=>
 ST a6 l (m+4) [.slice a3 a4 a5] fun a7=>
 i a7) (
 i f))):CF 68 ⟨(L_av l m (A_i4 a b c d))⟩ H K:=cE h
theorem quz (h :
 Q_b 116 [I64 a] H fun c=>
 IF (((!c) || (decide (b < 0))) || (decide (100 < b))) (
 K (V_pi none 11) H) (
 AL H [I64 a,I64 b,.bool false,I64 0,.slice none 0 0] 205 fun d e=>
 K (V_ai d 0 0) e)):CF 53 ⟨(L_i2 a b)⟩ H K:=cE h
theorem qnp (h :
 AL H (L_i3 a b c) 70 fun f j=>
 q15 j f 0 fun n=>
 C_b 75 [.agg ⟨n⟩] j fun o e=>
 IF (!o) (
 K (I64 0) e) (
 rd_i e f 0 fun g=>
 (g≠0)∧
 rd_i e f 0 fun k=>
 (k≠0)∧
 ∀i:q1m,(∀l m,(K (I64 l) m)→i l m)→
 ID ((Int.tmod d k) < 0) (
 i (i64.wrap ((i64.wrap (Int.tdiv d g)) - 1)) e) (
 i (i64.wrap (Int.tdiv d g)) e))):CF 22 ⟨(L_vi (A_i3 a b c) d)⟩ H K:=cE h
theorem z0n (h :
 AL H (L_i3 0 0 0) 70 fun d k=>
 AL k (L_i3 0 0 0) 70 fun e l=>
 ST l e 0 (L_i3 a b c) fun g=>
 q15 g e 0 fun m=>
 C_b 75 [.agg ⟨m⟩] g fun n f=>
 IF (!n) (
 ST f d 0 (L_i3 0 0 0) fun i=>
 q15 i d 0 fun o=>
 K (V_vi (.agg ⟨o⟩) 11) i) (
 q15 f e 0 fun p=>
 ST f d 0 p fun j=>
 q15 j d 0 fun q=>
 K (V_vi (.agg ⟨q⟩) 0) j)):CF 20 ⟨(L_i3 a b c)⟩ H K:=cE h
end
open Go.Nm
section
variable {a b c d e f g i j k a0 a1 a2 a3 a4 a5 a6 a7 a8 a9 b0 b1 b2 b3 b4 b5 b6 b7 b8 b9 c0 c1 c2 c3 c4 c5 c6 c7 c8 c9 d0 d1 d2 d3 d4 d5 d6 d7 d8 d9 e0 e1 e2 e3 e4 e5 e6 e7 e8 e9 f0 f1 f2 f3 f4 f5 f6 f7 f8 f9 g0 g1 g2 g3 g4 g5 g6 g7 g8 g9 i0 i1 i2 i3 i4 i5 i6 i7 i9 k0 k1 k2 k3 k4 k5 k6 k7 k8 k9 m0 m1 m2 m3 m4 m5 m6 m7 m8 m9 n0:Int} {l m n o p q r n1 n2 n3 n4 n5 n6 n7 n8 n9 o0 o1 o2 o3 o4 o5 o6 o7 o8 o9 p0 p1 p2 p3 p4 p5 p6 p7 p8 p9 q0 q1 q2 q3 q4 q5 q6 q7 q8 q9 s0 s1 s2 s3 s4 s5 s6 s7 s8 s9 t0 t1 t2 t3 t4 t5 t6 t7 t8 t9 u0:Nat} {s t u v u1 u2 u3 u4 u5 u6 u7 u9 v0 v1 v2 v3 v4 v5 v6 v7 v8 v9 w0 w1 w2 w3 w4 w5 w6 w7 w8 w9 x0 x1:Option Addr} {w x x2 x3 x4 x5 x6 x7 x8 x9 z0 z1 z2 z3 z4 z5 z6:ByteArray} {y z7 z8 z9 aa ab ac ad ae af ag ai aj ak al am:Bool} {z an ao ap aq ar au av aw:Nat→Int} {az ah ba bb bc bd be bf:Value} {bj bk bl bm bn bo bp bq:List Value} {bt bu bv bw bx bz:FuncId} {cb cc cd ce cf cg ci cj ck cl cm cn:Option Nat} {H:Heap} {K KP:Value→Heap→Prop}
theorem qra (h :
 AL H (q4k z) 60 fun g d=>
 q1u d g 0 fun i=>
 ∃(c:q1m) (f:q37),c 0 d∧
 ∀a b,c a b→
 ID (a < 65) (
 ∃e,q4y Tryz.prog (Instr.index 60 (q3r i) (I64 a)) (I64 e)∧
 ID (e < 0) (
 K (.bool false) b) (
 c (i64.wrap (a+1)) b∧f (i64.wrap (a+1)) b < f a b)) (
 K (.bool true) b)):CF 282 ⟨[(q3r z)]⟩ H K:=cE h
theorem z0o (h :
 AL H (q4k z) 60 fun d k=>
 AL k (q4k Z0) 60 fun b e=>
 q1u e d 0 fun l=>
 C_b 282 [(q3r l)] e fun m c=>
 IF (!m) (
 ST c b 0 (q4k Z0) fun f=>
 q1u f b 0 fun n=>
 K (V_vi (q3r n) 10) f) (
 Q_i 78 [I64 a] c fun r1=>
 (IX r1 65)∧
 rd_i c d (0+r1.toNat) fun o=>
 ID (o=9223372036854775807) (
 ST c b 0 (q4k Z0) fun g=>
 q1u g b 0 fun p=>
 K (V_vi (q3r p) 12) g) (
 (IX r1 65)∧
 rd_i c d (0+r1.toNat) fun q=>
 (IX r1 65)∧
 ST c d (0+r1.toNat) [I64 (i64.wrap (q+1))] fun i=>
 q1u i d 0 fun r=>
 ST i b 0 (q4k r) fun j=>
 q1u j b 0 fun s=>
 K (V_vi (q3r s) 0) j))):CF 263 ⟨(L_vi (q3r z) a)⟩ H K:=cE h
theorem z0p (h :
 AL H (L_iu a b) 58 fun g o=>
 AL o (L_iu c d) 58 fun i p=>
 AL p (L_iu 0 0) 58 fun f e=>
 rd_u e g 1 fun q=>
 rd_u e i 1 fun r=>
 ∃n r1,qhc Tryz.prog 198 #[.int .u64 q,.int .u64 r,.int .u64 0] (V_u2 n r1)∧
 rd_i e g 0 fun j=>
 rd_i e i 0 fun k=>
 rd_i e g 0 fun s=>
 rd_i e i 0 fun t=>
 ID ((q0g .and .i64 (q0g .xor .i64 s (i64.wrap ((i64.wrap (j+k))+(i64.wrap r1)))) (q0g .xor .i64 t (i64.wrap ((i64.wrap (j+k))+(i64.wrap r1))))) < 0) (
 ST e f 0 (L_iu 0 0) fun l=>
 q55 l f 0 fun u=>
 K (V_vi (.agg ⟨u⟩) 12) l) (
 ST e f 0 (L_iu (i64.wrap ((i64.wrap (j+k))+(i64.wrap r1))) n) fun m=>
 q55 m f 0 fun v=>
 K (V_vi (.agg ⟨v⟩) 0) m)):CF 262 ⟨(L_v2 (A_iu a b) (A_iu c d))⟩ H K:=cE h
theorem z0q (h :
 AL H (q11 a b c d e f g z) 62 fun j b9=>
 AL b9 q0a 62 fun k a0=>
 q06 a0 j 0 fun c0=>
 C_b 25 [.agg ⟨c0⟩] a0 fun c1 l=>
 IF (!c1) (
 ST l k 0 q0a fun a1=>
 q06 a1 k 0 fun c2=>
 K (V_vi (.agg ⟨c2⟩) 10) a1) (
 rd_i l j 0 fun c3=>
 ∃r1 r2,CQ 187 #[I64 c3,I64 1] l (V_i2 r1 r2)∧
 IN (r2=0) (
 ST l k 0 q0a fun a2=>
 q06 a2 k 0 fun c4=>
 K (V_vi (.agg ⟨c4⟩) 12) a2) (
 ∀r:qug,(∀b8 w x p,(IN (b8=0) (
 ST p k 0 q0a fun a3=>
 q06 a3 k 0 fun c5=>
 K (V_vi (.agg ⟨c5⟩) 12) a3) (
 q1u p j 7 fun c6=>
 CF 263 ⟨(L_vi (q3r c6) i)⟩ p fun c7 c8=>∃r3 r4,c7=(V_vi (q3r r3) r4)∧
 AL c8 (q4k Z0) 60 fun n c9=>
 ST c9 n 0 (q4k r3) fun o=>
 IN (r4=0) (
 ST o k 0 q0a fun a4=>
 q06 a4 k 0 fun d0=>
 K (V_vi (.agg ⟨d0⟩) 12) a4) (
 rd_i o j 0 fun d1=>
 ∀y:J_HP,(∀q,(q55 q w x fun a5=>
 q1u q n 0 fun s=>
 ST q j 0 [I64 r1] fun t=>
 q03 t n 0 (q4k s)∧
 q03 t w x a5∧
 ST t j 1 a5 fun a6=>
 q03 a6 n 0 (q4k s)∧
 ST a6 j 7 (q4k s) fun u=>
 rd_i u j 3 fun a7=>
 rd_i u j 4 fun a8=>
 ST u j 3 [I64 (if i < a7 then i else a7)] fun d2=>
 ST d2 j 4 [I64 (if i > a8 then i else a8)] fun a9=>
 q06 a9 j 0 fun d3=>
 ST a9 k 0 d3 fun b0=>
 q06 b0 k 0 fun d4=>
 K (V_vi (.agg ⟨d4⟩) 0) b0)→y q)→
 ID (d1=0) (
 ST o j 3 [I64 i] fun d5=>
 ST d5 j 4 [I64 i] fun d6=>
 y d6) (
 y o))))→r b8 w x p)→
 q55 l j 1 fun m=>
 (qqf 77 [I64 i] l fun b1 v=>
 q03 v j 1 m∧
 (qic 262 (L_v2 (.agg ⟨m⟩) (.agg ⟨b1⟩)) v fun d7 r5 d8=>
 AL d8 (L_iu 0 0) 58 fun b2 d9=>
 ST d9 b2 0 d7 fun e0=>
 r r5 b2 0 e0)∧
 (AL v (L_iu 0 0) 58 fun b3 b4=>
 q03 b4 j 1 m∧
 qic 262 (L_v2 (.agg ⟨m⟩) (.agg ⟨b1⟩)) b4 fun e1 r6 e2=>
 ST e2 b3 0 e1 fun e3=>
 r r6 b3 0 e3))∧
 (AL l (L_iu 0 0) 58 fun b5 b6=>
 q03 b6 j 1 m∧
 qqf 77 [I64 i] b6 fun e4 b7=>
 q03 b7 j 1 m∧
 qic 262 (L_v2 (.agg ⟨m⟩) (.agg ⟨e4⟩)) b7 fun e5 r7 e6=>
 ST e6 b5 0 e5 fun e7=>
 r r7 b5 0 e7)))):CF 225 ⟨(L_vi (q2a a b c d e f g z) i)⟩ H K:=cE h
theorem qv0 (h :
 AL H (q11 a b c d e f g z) 62 fun l t=>
 AL t q0a 62 fun j o=>
 q06 o l 0 fun u=>
 C_b 25 [.agg ⟨u⟩] o fun v m=>
 IF (!v) (
 ST m j 0 q0a fun p=>
 q06 p j 0 fun w=>
 K (V_vi (.agg ⟨w⟩) 10) p) (
 ∀n:J_pHP,(∀i k,(NN i (
 rd_i k (adrB i) (adrO i) fun x=>
 ID (x=9223372036854775807) (
 ST k j 0 q0a fun q=>
 q06 q j 0 fun a0=>
 K (V_vi (.agg ⟨a0⟩) 12) q) (
 NN i (
 rd_i k (adrB i) (adrO i) fun a1=>
 NN i (
 ST k (adrB i) (adrO i) [I64 (i64.wrap (a1+1))] fun r=>
 q06 r l 0 fun a2=>
 ST r j 0 a2 fun s=>
 q06 s j 0 fun a3=>
 K (V_vi (.agg ⟨a3⟩) 0) s)))))→n i k)→
 IF y (
 n (some ⟨l,5,none⟩) m) (
 n (some ⟨l,6,none⟩) m))):CF 222 ⟨(L_vb (q2a a b c d e f g z) y)⟩ H K:=cE h
def qf4.r1 (e:Int→Int→Heap→Prop)(b:Int→Int→Heap→Nat)(f a:Int)(g:Heap)(c:Int)(d:Heap):Prop:=
 e c (i64.wrap (a+1)) d∧b c (i64.wrap (a+1)) d < b f a g
theorem qrb (h :
 ID (b < a) (
 K (.bool false) H) (
 rd_i H l m fun o=>
 ID ((u64.wrap o)≤(u64.wrap ((u64.wrap b) - (u64.wrap a)))) (
 K (.bool false) H) (
 rd_m H l (m+1) fun p=>
 ∃n:Int,q0c Tryz.prog (Builtin.len_ #[198] 3 #[.map p]) H (.int .i64 n)∧
 ∃(g:q9y) (x:qia),g n 0 H∧
 ∀d e c,g d e c→
 ID (e < (i64.wrap ((i64.wrap (u64.wrap ((u64.wrap b) - (u64.wrap a))))+1))) (
 rd_m c l (m+1) fun q=>
 q6o 198 (.map q) (A_is (i64.wrap (a+e)) w) c fun r s=>
 AL c q0a 62 fun t u=>
 ST u t 0 r fun i=>
 ∀f:q1m,(∀j k,qf4.r1 g x d e c j k→f j k)→
 IF (!s) (
 f (i64.wrap (d+1)) i) (
 f d i)) (
 rd_i c l m fun v=>
 K (.bool (decide (d≤v))) c)))):CF 221 ⟨(z59 l m a b w)⟩ H K:=cE h
theorem q9c (h :
 AL H [.slice s l m] 225 fun e a=>
 memN bt X.calls=true∧
 ∀b:Loop,b.state=.ready→b.pending=none→
 (∀(q:List Value) (f:Heap) (r:Value→Heap→Prop),(∃o p,q=[(A_is o p)]∧
 f[a.size+1]?=some (.loop b)∧
 AL f (L_is 0 (⟨#[]⟩:ByteArray)) 55 fun i u=>
 ST u i 0 (L_is o p) fun j=>
 j[a.size+1]?=some (.loop b)∧
 ∀c:Heap,c=q0n j (a.size+1) { b with state:=.busy }→
 rd_l c e 0 fun v w x=>
 q31 c i 0 fun y=>
 AL c y 55 fun z a0=>
 AP #[225,225] 225 (L_l2 v w x (some ⟨z,0,none⟩) 1 1) a0 fun a1 a2 a3 a4=>
 ST a4 e 0 [.slice a1 a2 a3] fun k=>
 k[a.size+1]?=some (.loop { b with state:=.busy })∧r (.bool true) (q0n k (a.size+1) b))→q4f Tryz.prog (a.size+1) q f r)→
 CF bt ⟨(.func (.yield (a.size+1)) #[] #[])::bj⟩ ((a.push (.deferred (some []))).push (.loop b)) fun a8 n=>∃(t:LoopState) (g:Option Code),t≠.busy∧n[a.size+1]?=some (.loop { b with state:=t,pending:=g })∧
 ∀d:Heap,d=q0n n (a.size+1) { b with state:=.exhausted,pending:=g }→
 g=none∧
 rd_l d e 0 fun a5 a6 a7=>
 d[a.size]?=some (.deferred (some []))∧
 K (.slice a5 a6 a7) (d.setIfInBounds a.size (.deferred none))):CF 214 ⟨(L_lf s l m bt bj)⟩ H K:=cE h
theorem qnq (h :
 AL H (L_is a w) 55 fun g d=>
 rd_m d l (m+1) fun i=>
 q31 d g 0 fun j=>
 q6o 198 (.map i) (.agg ⟨j⟩) d fun n o=>
 AL d q0a 62 fun e f=>
 q0c Tryz.prog (Instr.lookup 198 (.map i) (.agg ⟨j⟩) true) f (V_vb (.agg ⟨n⟩) o)∧
 q03 f g 0 j∧
 q02 f l (m+1)=some (.map i)∧
 ST f e 0 n fun k=>
 IF (!o) (
 K (I64 19) k) (
 q06 k e 0 fun q=>
 q3i 225 (L_vi (.agg ⟨q⟩) b) k fun r p s=>
 ST s e 0 r fun c=>
 IN (p=0) (
 K (I64 p) c) (
 rd_m c l (m+1) fun t=>
 q31 c g 0 fun u=>
 q06 c e 0 fun v=>
 MU 198 (.map t) (.agg ⟨u⟩) (.agg ⟨v⟩) c fun x=>
 K (I64 0) x))):CF 194 ⟨[PA l m,(A_is a w),I64 b]⟩ H K:=cE h
theorem qrc (h :
 ID (b < a) (
 K (I64 10) H) (
 C_b 221 (z59 l m a b w) H fun c2 a0=>
 IF (!c2) (
 K (I64 20) a0) (
 ∃(y:q0x) (b9:q0y),y none 0 0 0 a0∧
 ∀o f u d p,y o f u d p→
 ID (d < (i64.wrap ((i64.wrap (b - a))+1))) (
 AL p (L_is 0 (⟨#[]⟩:ByteArray)) 55 fun j c3=>
 ST c3 j 0 (L_is (i64.wrap (a+d)) w) fun e=>
 ∀x:quf,(∀a8 a9 v g,(IN (v=0) (
 K (I64 v) g) (
 ∃c0 b0,q03 g j 0 (L_is c0 b0)∧
 ∃b1 b2 b3 b4 b5 b6 b7 b8,q03 g a8 a9 (q11 b1 b2 b3 b4 b5 b6 b7 b8)∧
 AL g (q5k c0 b0 b1 b2 b3 b4 b5 b6 b7 b8) 64 fun c4 c5=>
 AP #[86,86] 86 (L_l2 o f u (some ⟨c4,0,none⟩) 1 1) c5 fun a1 a2 a3 a4=>
 y a1 a2 a3 (i64.wrap (d+1)) a4∧b9 a1 a2 a3 (i64.wrap (d+1)) a4 < b9 o f u d p))→x a8 a9 v g)→
 rd_m e l (m+1) fun q=>
 q31 e j 0 fun r=>
 qa1 198 (.map q) (.agg ⟨r⟩) e fun s=>
 (q3i 222 (L_vb (.agg ⟨s⟩) (decide (a=b))) e fun c6 c7 c8=>
 AL c8 q0a 62 fun a5 c9=>
 ST c9 a5 0 c6 fun d0=>
 x a5 0 c7 d0)∧
 (AL e q0a 62 fun a6 k=>
 q0c Tryz.prog (Instr.lookup 198 (.map q) (.agg ⟨r⟩) false) k (.agg ⟨s⟩)∧
 q03 k j 0 r∧
 q02 k l (m+1)=some (.map q)∧
 q3i 222 (L_vb (.agg ⟨s⟩) (decide (a=b))) k fun d1 d2 d3=>
 ST d3 a6 0 d1 fun d4=>
 x a6 0 d2 d4)) (
 ∃(z:q1m) (c1:q37),z 0 p∧
 ∀c i,z c i→
 ID (c < f) (
 IA c f o fun d5 d6=>
 q17 i d5 (d6+c.toNat*74) fun d7=>
 AL i q6p 64 fun t d8=>
 ST d8 t 0 d7 fun n=>
 rd_m n l (m+1) fun d9=>
 q31 n t 0 fun e0=>
 q06 n t 2 fun e1=>
 MU 198 (.map d9) (.agg ⟨e0⟩) (.agg ⟨e1⟩) n fun a7=>
 z (i64.wrap (c+1)) a7∧c1 (i64.wrap (c+1)) a7 < c1 c i) (
 K (I64 0) i))))):CF 192 ⟨(z59 l m a b w)⟩ H K:=cE h
theorem qrd (h :
 AL H (L_iu a b) 58 fun i n=>
 RunW Tryz.prog (Instr.makeSlice 24 (I64 16) (I64 16)) n fun o p=>
 ∃e f l,o=(.slice e f l)∧
 ∃(g:q1m) (m:q37),g 0 p∧
 ∀c d,g c d→
 ID (c < 8) (
 rd_i d i 0 fun q=>
 ((0:Int)≤(i64.wrap (8*c)))∧
 IA (i64.wrap (7 - c)) f e fun r s=>
 ST d r (s+(i64.wrap (7 - c)).toNat) [.int .u8 (u8.wrap (Int.fdiv (u64.wrap q) (2 ^ (min (Int.toNat (i64.wrap (8*c))) (u64.bits)))))] fun j=>
 rd_u j i 1 fun t=>
 ((0:Int)≤(i64.wrap (8*c)))∧
 IA (i64.wrap (15 - c)) f e fun u v=>
 ST j u (v+(i64.wrap (15 - c)).toNat) [.int .u8 (u8.wrap (Int.fdiv t (2 ^ (min (Int.toNat (i64.wrap (8*c))) (u64.bits)))))] fun k=>
 g (i64.wrap (c+1)) k∧m (i64.wrap (c+1)) k < m c d) (
 K (.slice e f l) d)):CF 184 ⟨[(A_iu a b)]⟩ H K:=cE h
theorem qdj (h :
 rd_m H m n fun u=>
 RunW Tryz.prog (Instr.range 198 (.map u)) H fun v w=>
 ∃c:Nat,v=.pointer (some ⟨c,0,none⟩)∧
 ∃(d:J_HP) (e:J_Hn),d w∧
 ∀b,d b→
 RunW Tryz.prog (Instr.next (PA c 0) false 0) b fun i a=>
 (i=(.tuple #[.bool false])∧
 IF false (
 ∃q r,∃a2,q0c Tryz.prog (Instr.entry (PA c 0)) a (V_v2 (A_is q r) a2)∧
 AL a (L_is 0 (⟨#[]⟩:ByteArray)) 55 fun j x=>
 ST x j 0 (L_is q r) fun k=>
 q31 k j 0 fun y=>
 Y_b l [.agg ⟨y⟩] k fun z f=>
 IF (!z) (
 K (.tuple #[]) f) (
 d f∧e f < e b)) (
 K (.tuple #[]) a))∨
 (∃a4 a5:Value,i=(V_bv2 true a4 a5)∧
 IF true (
 ∃s t,∃a3,q0c Tryz.prog (Instr.entry (PA c 0)) a (V_v2 (A_is s t) a3)∧
 AL a (L_is 0 (⟨#[]⟩:ByteArray)) 55 fun o a0=>
 ST a0 o 0 (L_is s t) fun p=>
 q31 p o 0 fun a1=>
 Y_b l [.agg ⟨a1⟩] p fun r1 g=>
 IF (!r1) (
 K (.tuple #[]) g) (
 d g∧e g < e b)) (
 K (.tuple #[]) a))):CF 181 ⟨(L_va (.func (.yield l) #[] #[]) m n)⟩ H K:=cE h
theorem qbd (h :
 C_l 214 [.slice none 0 0,.func (.func bt) #[] ⟨bj⟩] H fun a b c d=>
 K (.slice a b c) d):CF 179 ⟨[.func (.func bt) #[] ⟨bj⟩]⟩ H K:=cE h
theorem qv1 (h :
 AL H (L_iu 0 0) 58 fun e g=>
 IN ((l:Int)=16) (
 ST g e 0 (L_iu 0 0) fun i=>
 q55 i e 0 fun p=>
 K (V_vb (.agg ⟨p⟩) false) i) (
 ∃(f:J_i3HP) (o:J_i3Hn),f 0 0 0 g∧
 ∀c d a b,f c d a b→
 ID (a < 8) (
 ((0:Int)≤8)∧
 IA a l s fun q r=>
 rd_y b q (r+a.toNat) fun j=>
 ((0:Int)≤8)∧
 IA (i64.wrap (8+a)) l s fun t u=>
 rd_y b t (u+(i64.wrap (8+a)).toNat) fun k=>
 f (q0g .or .u64 (u64.wrap (c*2 ^ (min (Int.toNat 8) (u64.bits)))) (u64.wrap j)) (q0g .or .u64 (u64.wrap (d*2 ^ (min (Int.toNat 8) (u64.bits)))) (u64.wrap k)) (i64.wrap (a+1)) b∧o (q0g .or .u64 (u64.wrap (c*2 ^ (min (Int.toNat 8) (u64.bits)))) (u64.wrap j)) (q0g .or .u64 (u64.wrap (d*2 ^ (min (Int.toNat 8) (u64.bits)))) (u64.wrap k)) (i64.wrap (a+1)) b < o c d a b) (
 ST b e 0 (L_iu (i64.wrap c) d) fun n=>
 q55 n e 0 fun v=>
 K (V_vb (.agg ⟨v⟩) true) n))):CF 173 ⟨[.slice s l m]⟩ H K:=cE h
theorem qnr (h :
 q1u H m n fun j=>
 ∃(f:q1m) (i:q37),f 0 H∧
 ∀a b,f a b→
 ID (a < 65) (
 ∃d,q4y Tryz.prog (Instr.index 60 (q3r j) (I64 a)) (I64 d)∧
 ∀e:qeu,(∀g c,(IF g (
 K (.tuple #[]) c) (
 f (i64.wrap (a+1)) c∧i (i64.wrap (a+1)) c < i a b))→e g c)→
 JF ((!decide (d=0))=true) (
 Y_b l (L_i2 a d) b fun k o=>
 e (!k) o) (
 e false b)) (
 K (.tuple #[]) b)):CF 153 ⟨(L_va (.func (.yield l) #[] #[]) m n)⟩ H K:=cE h
theorem z0r (h :
 AL H (L_iu 0 0) 58 fun e n=>
 AL n (L_iu 0 0) 58 fun c o=>
 ∃(d:q1m) (k:q37),d 0 o∧
 ∀b a,d b a→
 ID (b < l) (
 IA b l s fun p q=>
 rd_i a p (q+b.toNat) fun f=>
 rd_u a c 1 fun r=>
 ∃j r1,qhc Tryz.prog 198 #[.int .u64 r,.int .u64 (u64.wrap f),.int .u64 0] (V_u2 j r1)∧
 rd_i a c 0 fun t=>
 ((0:Int)≤63)∧
 ST a c 0 (L_iu (i64.wrap ((i64.wrap (t+(Int.fdiv f (2 ^ (min (Int.toNat 63) (i64.bits))))))+(i64.wrap r1))) j) fun g=>
 d (i64.wrap (b+1)) g∧k (i64.wrap (b+1)) g < k b a) (
 q55 a c 0 fun u=>
 ST a e 0 u fun i=>
 q55 i e 0 fun v=>
 K (.agg ⟨v⟩) i)):CF 151 ⟨[.slice s l m]⟩ H K:=cE h
theorem qns (h :
 AL H [PA l m] 112 fun p b7=>
 AL b7 [I64 a] 2 fun b8 b9=>
 AL b9 [.slice none 0 0] 86 fun f q=>
 rd_p q p 0 fun c1=>
 C_f 64 [.pointer c1] q fun r c2 b=>
 memN r X.calls=true∧
 ∀c:Loop,c.state=.ready→c.pending=none→
 (∀(b5:List Value) (n:Heap) (o:Value→Heap→Prop),(∃w x y z a0 a1 a2 a3 a4 a5,b5=(L_v2 (A_is w x) (q2a y z a0 a1 a2 a3 a4 a5))∧
 n[b.size+1]?=some (.loop c)∧
 AL n (L_is 0 (⟨#[]⟩:ByteArray)) 55 fun g c3=>
 ST c3 g 0 (L_is w x) fun c4=>
 AL c4 q0a 62 fun s c5=>
 ST c5 s 0 (q11 y z a0 a1 a2 a3 a4 a5) fun t=>
 t[b.size+1]?=some (.loop c)∧
 ∀d:Heap,d=q0n t (b.size+1) { c with state:=.busy }→
 rd_i d g 0 fun c6=>
 rd_i d b8 0 fun c7=>
 ID (c7≤c6) (
 d[b.size+1]?=some (.loop { c with state:=.busy })∧o (.bool false) (q0n d (b.size+1) { c with state:=.done,pending:=some (.exit 0) })) (
 rd_l d f 0 fun c8 c9 d0=>
 ∃c0 a6,q03 d g 0 (L_is c0 a6)∧
 ∃a7 a8 a9 b0 b1 b2 b3 b4,q03 d s 0 (q11 a7 a8 a9 b0 b1 b2 b3 b4)∧
 AL d (q5k c0 a6 a7 a8 a9 b0 b1 b2 b3 b4) 64 fun d1 d2=>
 AP #[86,86] 86 (L_l2 c8 c9 d0 (some ⟨d1,0,none⟩) 1 1) d2 fun d3 d4 d5 d6=>
 ST d6 f 0 [.slice d3 d4 d5] fun i=>
 rd_p i p 0 fun k=>
 NN k (
 rd_m i (adrB k) ((adrO k)+1) fun d7=>
 q31 i g 0 fun d8=>
 RunW Tryz.prog (Builtin.delete_ #[198,55] 0 #[.map d7,.agg ⟨d8⟩]) i fun e5 u=>
 u[b.size+1]?=some (.loop { c with state:=.busy })∧o (.bool true) (q0n u (b.size+1) c))))→q4f Tryz.prog (b.size+1) b5 n o)→
 CF r ⟨(.func (.yield (b.size+1)) #[] #[])::c2⟩ ((b.push (.deferred (some []))).push (.loop c)) fun e6 v=>∃(b6:LoopState) (j:Option Code),b6≠.busy∧v[b.size+1]?=some (.loop { c with state:=b6,pending:=j })∧
 ∀e:Heap,e=q0n v (b.size+1) { c with state:=.exhausted,pending:=j }→
 ((j=none∧
 rd_l e f 0 fun d9 e0 e1=>
 e[b.size]?=some (.deferred (some []))∧
 K (.slice d9 e0 e1) (e.setIfInBounds b.size (.deferred none)))∨
 j=(some (.exit 0))∧
 rd_l e f 0 fun e2 e3 e4=>
 e[b.size]?=some (.deferred (some []))∧
 K (.slice e2 e3 e4) (e.setIfInBounds b.size (.deferred none)))):CF 150 ⟨(L_ai l m a)⟩ H K:=cE h
theorem qre (h :
 AL H (q11 a b c d e f g z) 62 fun k s=>
 q06 s k 0 fun a8=>
 C_b 25 [.agg ⟨a8⟩] s fun a9 l=>
 IF (!a9) (
 K (.slice none 0 0) l) (
 rd_i l k 0 fun b0=>
 rd_i l k 5 fun b1=>
 rd_i l k 6 fun b2=>
 AL l (L_u3 (u64.wrap b0) (u64.wrap b1) (u64.wrap b2)) 56 fun b3 b4=>
 C_l 117 [.slice (some ⟨b3,0,none⟩) 3 3] b4 fun b5 b6 b7 o=>
 rd_i o k 3 fun b8=>
 rd_i o k 4 fun b9=>
 AL o (L_i2 b8 b9) 2 fun c0 c1=>
 C_l 59 [.slice (some ⟨c0,0,none⟩) 2 2] c1 fun c2 c3 c4 c5=>
 AP #[24,24] 24 (L_l2 b5 b6 b7 c2 c3 c4) c5 fun c6 c7 c8 t=>
 q55 t k 1 fun c9=>
 C_l 184 [.agg ⟨c9⟩] t fun d0 d1 d2 u=>
 ∃a4:ByteArray,q0c Tryz.prog (convert 24 9 (.slice d0 d1 d2)) u (.string a4)∧
 AL u [.string a4] 9 fun d3 d4=>
 C_l 132 [.slice (some ⟨d3,0,none⟩) 1 1] d4 fun d5 d6 d7 d8=>
 AP #[24,24] 24 (L_l2 c6 c7 c8 d5 d6 d7) d8 fun d9 e0 e1 e2=>
 AL e2 [.slice none 0 0] 285 fun m v=>
 q1u v k 7 fun e3=>
 C_f 79 [(q3r e3)] v fun w e4 i=>
 memN w X.calls=true∧
 ∀j:Loop,j.state=.ready→j.pending=none→
 (∀(a5:List Value) (n:Heap) (a6:Value→Heap→Prop),(∃a2 a3,a5=(L_i2 a2 a3)∧
 n[i.size+1]?=some (.loop j)∧
 n[i.size+1]?=some (.loop j)∧
 ∀p:Heap,p=q0n n (i.size+1) { j with state:=.busy }→
 rd_l p m 0 fun e5 e6 e7=>
 AL p (L_u2 (u64.wrap a2) (u64.wrap a3)) 56 fun e8 e9=>
 AP #[285,285] 285 (L_l2 e5 e6 e7 (some ⟨e8,0,none⟩) 2 2) e9 fun f0 f1 f2 f3=>
 ST f3 m 0 [.slice f0 f1 f2] fun x=>
 x[i.size+1]?=some (.loop { j with state:=.busy })∧a6 (.bool true) (q0n x (i.size+1) j))→q4f Tryz.prog (i.size+1) a5 n a6)→
 CF w ⟨(.func (.yield (i.size+1)) #[] #[])::e4⟩ ((i.push (.deferred (some []))).push (.loop j)) fun i4 y=>∃(a7:LoopState) (r:Option Code),a7≠.busy∧y[i.size+1]?=some (.loop { j with state:=a7,pending:=r })∧
 ∀q:Heap,q=q0n y (i.size+1) { j with state:=.exhausted,pending:=r }→
 r=none∧
 rd_l q m 0 fun i5 f4 i6=>
 ((2:Int)≠0)∧
 AL q [(.int .u64 (u64.wrap (i64.wrap (Int.tdiv (f4:Int) 2))))] 56 fun f5 f6=>
 C_l 117 [.slice (some ⟨f5,0,none⟩) 1 1] f6 fun f7 f8 f9 g0=>
 AP #[24,24] 24 (L_l2 d9 e0 e1 f7 f8 f9) g0 fun g1 g2 g3 a0=>
 rd_l a0 m 0 fun g4 g5 g6=>
 C_l 117 [.slice g4 g5 g6] a0 fun g7 g8 g9 i0=>
 AP #[24,24] 24 (L_l2 g1 g2 g3 g7 g8 g9) i0 fun i1 i2 i3 a1=>
 a1[i.size]?=some (.deferred (some []))∧
 K (.slice i1 i2 i3) (a1.setIfInBounds i.size (.deferred none)))):CF 133 ⟨[(q2a a b c d e f g z)]⟩ H K:=cE h
theorem qgj (h :
 AL H [.map cb] 198 fun a b=>
 K (.func (.func 181) #[] #[PA a 0]) b):CF 130 ⟨[.map cb]⟩ H K:=cE h
theorem q8k (h :
 C_l 179 [.func (.func bt) #[] ⟨bj⟩] H fun a b c d=>
 CF 180 ⟨(L_lf a b c bu bk)⟩ d fun e f=>e=(.tuple #[])∧
 K (.slice a b c) f):CF 129 ⟨[.func (.func bt) #[] ⟨bj⟩,.func (.func bu) #[] ⟨bk⟩]⟩ H K:=cE h
theorem qnt (h :
 rd_p H m n fun d=>
 NN d (
 rd_m H (adrB d) ((adrO d)+1) fun o=>
 C_m 128 [.map o] H fun i p=>
 C_f 130 [.map i] p fun q r s=>
 C_l 129 [.func (.func q) #[] ⟨r⟩,.func (.func 131) #[] #[]] s fun t j a2 u=>
 ∃(g:q1m) (k:q37),g 0 u∧
 ∀a b,g a b→
 ID (a < j) (
 IA a j t fun v w=>
 q31 b v (w+a.toNat*2) fun x=>
 AL b (L_is 0 (⟨#[]⟩:ByteArray)) 55 fun e y=>
 ST y e 0 x fun c=>
 q31 c e 0 fun z=>
 q31 c e 0 fun a0=>
 qa1 198 (.map i) (.agg ⟨a0⟩) c fun a1=>
 Y_b l (L_v2 (.agg ⟨z⟩) (.agg ⟨a1⟩)) c fun r1 f=>
 IF (!r1) (
 K (.tuple #[]) f) (
 g (i64.wrap (a+1)) f∧k (i64.wrap (a+1)) f < k a b)) (
 K (.tuple #[]) b))):CF 127 ⟨(L_va (.func (.yield l) #[] #[]) m n)⟩ H K:=cE h
theorem qv2 (h :
 AL H (q4k z) 60 fun a b=>
 K (.func (.func 153) #[] #[PA a 0]) b):CF 79 ⟨[(q3r z)]⟩ H K:=cE h
theorem qnu (h :
 ID (a < 0) (
 K (I64 0) H) (
 ID (a=0) (
 K (I64 1) H) (
 Q_i 152 [.int .u64 (u64.wrap a)] H fun b=>
 K (I64 (i64.wrap ((i64.wrap (2+b)) - 1))) H))):CF 78 ⟨[I64 a]⟩ H K:=cE h
theorem z5m (h :
 AL H (L_iu 0 0) 58 fun b d=>
 ((0:Int)≤63)∧
 ST d b 0 (L_iu (Int.fdiv a (2 ^ (min (Int.toNat 63) (i64.bits)))) (u64.wrap a)) fun c=>
 q55 c b 0 fun e=>
 K (.agg ⟨e⟩) c):CF 77 ⟨[I64 a]⟩ H K:=cE h
theorem qrf (h :
 AL H (q4k z) 60 fun c d=>
 AL d (L_iu 0 0) 58 fun a e=>
 (BD 0 65 65)∧
 qqf 151 [.slice (slB (some ⟨c,0,none⟩) 0 65 1) 65 65] e fun f g=>
 ST g a 0 f fun b=>
 q55 b a 0 fun i=>
 K (.agg ⟨i⟩) b):CF 76 ⟨[(q3r z)]⟩ H K:=cE h
theorem qv3 (h :
 AL H [PA l m] 112 fun a b=>
 K (.func (.func 127) #[] #[PA a 0]) b):CF 64 ⟨[PA l m]⟩ H K:=cE h
theorem qv4 (h :
 rd_m H l (m+1) fun b=>
 ∃a:Int,q0c Tryz.prog (Builtin.len_ #[198] 3 #[.map b]) H (.int .i64 a)∧
 K (I64 a) H):CF 63 ⟨[PA l m]⟩ H K:=cE h
theorem qv5 (h :
 IF ((decide (a < 1)) || (decide (1024 < a))) (
 K (V_pi none 11) H) (
 NM H fun b c=>
 AL c (L_iM a b) 200 fun d e=>
 K (V_ai d 0 0) e)):CF 55 ⟨[I64 a]⟩ H K:=cE h
theorem qv6 (h :
 AL H (L_is a w) 55 fun o x=>
 AL x (q11 b c d e f g i z) 62 fun s k=>
 rd_m k l (m+1) fun p=>
 q31 k o 0 fun q=>
 q6o 198 (.map p) (.agg ⟨q⟩) k fun t u=>
 AL k q0a 62 fun y n=>
 q0c Tryz.prog (Instr.lookup 198 (.map p) (.agg ⟨q⟩) true) n (V_vb (.agg ⟨t⟩) u)∧
 q03 n o 0 q∧
 q02 n l (m+1)=some (.map p)∧
 ST n y 0 t fun r=>
 IF u (
 K (I64 18) r) (
 q06 r s 0 fun a0=>
 C_b 25 [.agg ⟨a0⟩] r fun a1 j=>
 IF (!a1) (
 K (I64 10) j) (
 rd_m j l (m+1) fun a2=>
 ∃v:Int,q0c Tryz.prog (Builtin.len_ #[198] 3 #[.map a2]) j (.int .i64 v)∧
 rd_i j l m fun a3=>
 ID (a3≤v) (
 K (I64 20) j) (
 rd_m j l (m+1) fun a4=>
 q31 j o 0 fun a5=>
 q06 j s 0 fun a6=>
 MU 198 (.map a4) (.agg ⟨a5⟩) (.agg ⟨a6⟩) j fun a7=>
 K (I64 0) a7)))):CF 48 ⟨[PA l m,(A_is a w),(q2a b c d e f g i z)]⟩ H K:=cE h
theorem qrg (h :
 AL H (q11 a b c d e f g z) 62 fun i e0=>
 AL e0 [.bool false] 4 fun k p=>
 rd_i p i 0 fun v=>
 gd_i ((decide (v < 0))=false) p i 5 fun a2=>
 gd_i (((decide (v < 0)) || (decide (a2 < 0)))=false) p i 6 fun a8=>
 gd_i ((((decide (v < 0)) || (decide (a2 < 0))) || (decide (a8 < 0)))=false) p i 3 fun e1=>
 gd_i ((((decide (v < 0)) || (decide (a2 < 0))) || (decide (a8 < 0)))=false) p i 4 fun e2=>
 IF ((((decide (v < 0)) || (decide (a2 < 0))) || (decide (a8 < 0))) || (decide (e2 < e1))) (
 ST p k 0 [.bool false] fun b7=>
 rd_b b7 k 0 fun e3=>
 K (.bool e3) b7) (
 q1u p i 7 fun e4=>
 ∃(b5:q1m) (d7:q37),b5 0 p∧
 ∀t q,b5 t q→
 ID (t < 65) (
 ∃d5,q4y Tryz.prog (Instr.index 60 (q3r e4) (I64 t)) (I64 d5)∧
 ID (d5 < 0) (
 ST q k 0 [.bool false] fun b8=>
 rd_b b8 k 0 fun e5=>
 K (.bool e5) b8) (
 b5 (i64.wrap (t+1)) q∧d7 (i64.wrap (t+1)) q < d7 t q)) (
 q1u q i 7 fun e6=>
 rd_i q i 0 fun b9=>
 qqf 76 [(q3r e6)] q fun e7 c0=>
 q02 c0 i 0=some (I64 b9)∧
 qqf 77 [I64 b9] c0 fun e8 l=>
 ∃d6:Bool,q4e Tryz.prog .neq 58 (.agg ⟨e7⟩) (.agg ⟨e8⟩) d6∧
 IF d6 (
 ST l k 0 [.bool false] fun c1=>
 rd_b c1 k 0 fun e9=>
 K (.bool e9) c1) (
 rd_i l i 0 fun f0=>
 ID (f0=0) (
 q55 l i 1 fun f1=>
 ∃a5:Bool,q4e Tryz.prog .eql 58 (.agg ⟨f1⟩) (A_iu 0 0) a5∧
 gd_i (a5=true) l i 3 fun c2=>
 gd_i ((a5 && (decide (c2=0)))=true) l i 4 fun f2=>
 ST l k 0 [.bool ((a5 && (decide (c2=0))) && (decide (f2=0)))] fun c3=>
 rd_b c3 k 0 fun f3=>
 K (.bool f3) c3) (
 ∀b4:J_n4HP,(∀b0 b1 b2 b3 r,(rd_i r b0 b1 fun c4=>
 (IX c4 65)∧
 rd_i r i (7+c4.toNat) fun a3=>
 gd_i ((decide (a3=0))=false) r b2 b3 fun c5=>
 (((decide (a3=0))=false)→(IX c5 65))∧
 gd_i ((decide (a3=0))=false) r i (7+c5.toNat) fun f4=>
 IF ((decide (a3=0)) || (decide (f4=0))) (
 ST r k 0 [.bool false] fun c6=>
 rd_b c6 k 0 fun f5=>
 K (.bool f5) c6) (
 q1u r i 7 fun f6=>
 C_f 79 [(q3r f6)] r fun c7 f7 j=>
 memN c7 X.calls=true∧
 ∀m:Loop,m.state=.ready→m.pending=none→
 (∀(d8:List Value) (a6:Heap) (b6:Value→Heap→Prop),(∃a4 g5,d8=(L_i2 a4 g5)∧
 a6[j.size+1]?=some (.loop m)∧
 a6[j.size+1]?=some (.loop m)∧
 ∀u:Heap,u=q0n a6 (j.size+1) { m with state:=.busy }→
 rd_i u b0 b1 fun c8=>
 gd_i ((decide (a4 < c8))=false) u b2 b3 fun f8=>
 IF ((decide (a4 < c8)) || (decide (f8 < a4))) (
 ST u k 0 [.bool false] fun c9=>
 c9[j.size+1]?=some (.loop { m with state:=.busy })∧b6 (.bool false) (q0n c9 (j.size+1) { m with state:=.done,pending:=some .ret })) (
 u[j.size+1]?=some (.loop { m with state:=.busy })∧b6 (.bool true) (q0n u (j.size+1) m)))→q4f Tryz.prog (j.size+1) d8 a6 b6)→
 CF c7 ⟨(.func (.yield (j.size+1)) #[] #[])::f7⟩ ((j.push (.deferred (some []))).push (.loop m)) fun g6 d0=>∃(d9:LoopState) (a7:Option Code),d9≠.busy∧d0[j.size+1]?=some (.loop { m with state:=d9,pending:=a7 })∧
 ∀a1:Heap,a1=q0n d0 (j.size+1) { m with state:=.exhausted,pending:=a7 }→
 ((a7=none∧
 ST a1 k 0 [.bool true] fun a9=>
 a9[j.size]?=some (.deferred (some []))∧
 rd_b (a9.setIfInBounds j.size (.deferred none)) k 0 fun f9=>
 K (.bool f9) (a9.setIfInBounds j.size (.deferred none)))∨
 a7=(some .ret)∧
 a1[j.size]?=some (.deferred (some []))∧
 rd_b (a1.setIfInBounds j.size (.deferred none)) k 0 fun g0=>
 K (.bool g0) (a1.setIfInBounds j.size (.deferred none)))))→b4 b0 b1 b2 b3 r)→
 rd_i l i 3 fun n=>
 Q_i 78 [I64 n] l fun s=>
 rd_i l i 4 fun o=>
 Q_i 78 [I64 o] l fun r2=>
 (AL l [I64 0] 3 fun d1 w=>
 CQ 78 #[I64 o] w (I64 r2)∧
 q02 w i 4=some (I64 o)∧
 CQ 78 #[I64 n] w (I64 s)∧
 q02 w i 3=some (I64 n)∧
 AL w [I64 0] 3 fun d2 x=>
 CQ 78 #[I64 o] x (I64 r2)∧
 q02 x i 4=some (I64 o)∧
 CQ 78 #[I64 n] x (I64 s)∧
 q02 x i 3=some (I64 n)∧
 ST x d1 0 [I64 s] fun g1=>
 ST g1 d2 0 [I64 r2] fun g2=>
 b4 d1 0 d2 0 g2)∧
 (AL l [I64 0] 3 fun d3 y=>
 CQ 78 #[I64 o] y (I64 r2)∧
 q02 y i 4=some (I64 o)∧
 CQ 78 #[I64 n] y (I64 s)∧
 q02 y i 3=some (I64 n)∧
 AL y [I64 0] 3 fun d4 a0=>
 CQ 78 #[I64 o] a0 (I64 r2)∧
 q02 a0 i 4=some (I64 o)∧
 CQ 78 #[I64 n] a0 (I64 s)∧
 q02 a0 i 3=some (I64 n)∧
 ST a0 d4 0 [I64 s] fun g3=>
 ST g3 d3 0 [I64 r2] fun g4=>
 b4 d4 0 d3 0 g4)))))):CF 25 ⟨[(q2a a b c d e f g z)]⟩ H K:=cE h
end
open Go.Nm
section
variable {a b c d e f g i j k a0 a1 a2 a3 a4 a5 a6 a7 a8 a9 b0 b1 b2 b3 b4 b5 b6 b7 b8 b9 c0 c1 c2 c3 c4 c5 c6 c7 c8 c9 d0 d1 d2 d3 d4 d5 d6 d7 d8 d9 e0 e1 e2 e3 e4 e5 e6 e7 e8 e9 f0 f1 f2 f3 f4 f5 f6 f7 f8 f9 g0 g1 g2 g3 g4 g5 g6 g7 g8 g9 i0 i1 i2 i3 i4 i5 i6 i7 i9 k0 k1 k2 k3 k4 k5 k6 k7 k8 k9 m0 m1 m2 m3 m4 m5 m6 m7 m8 m9 n0:Int} {l m n o p q r n1 n2 n3 n4 n5 n6 n7 n8 n9 o0 o1 o2 o3 o4 o5 o6 o7 o8 o9 p0 p1 p2 p3 p4 p5 p6 p7 p8 p9 q0 q1 q2 q3 q4 q5 q6 q7 q8 q9 s0 s1 s2 s3 s4 s5 s6 s7 s8 s9 t0 t1 t2 t3 t4 t5 t6 t7 t8 t9 u0:Nat} {s t u v u1 u2 u3 u4 u5 u6 u7 u9 v0 v1 v2 v3 v4 v5 v6 v7 v8 v9 w0 w1 w2 w3 w4 w5 w6 w7 w8 w9 x0 x1:Option Addr} {w x x2 x3 x4 x5 x6 x7 x8 x9 z0 z1 z2 z3 z4 z5 z6:ByteArray} {y z7 z8 z9 aa ab ac ad ae af ag ai aj ak al am:Bool} {z an ao ap aq ar au av aw:Nat→Int} {az ah ba bb bc bd be bf:Value} {bj bk bl bm bn bo bp bq:List Value} {bt bu bv bw bx bz:FuncId} {cb cc cd ce cf cg ci cj ck cl cm cn:Option Nat} {H:Heap} {K KP:Value→Heap→Prop}
theorem qbe (h :
 AL H (L_s2 w x) 267 fun b c=>
 AL c (L_s2 x2 x3) 267 fun d a=>
 rd_s a b 0 fun e=>
 rd_s a d 0 fun f=>
 Q_i 183 (L_s2 e f) a fun g=>
 K (I64 g) a):CF 266 ⟨(L_v2 (A_s2 w x) (A_s2 x2 x3))⟩ H K:=cE h
theorem q4m (h :
 ∃b,qhc Tryz.prog 283 #[.string w,.int .u8 a] (I64 b)∧
 K (I64 b) H):CF 265 ⟨(L_sy w a)⟩ H K:=cE h
theorem qbf (h :
 rd_s H m n fun a0=>
 ID ((a0.size:Int)=0) (
 ∃(i:J_HP) (y:J_Hn),i H∧
 ∀a,i a→
 rd_s a o p fun a1=>
 ID (0 < (a1.size:Int)) (
 rd_s a o p fun a2=>
 CF 235 ⟨[.string a2]⟩ a fun a3 k=>∃a8 r1,a3=(V_ri a8 r1)∧
 rd_s k o p fun s=>
 (BD 0 r1 s.size)∧
 Y_b l [.string (s.extract 0 r1.toNat)] k fun r2 g=>
 IF (!r2) (
 K (.tuple #[]) g) (
 rd_s g o p fun d=>
 (BD r1 d.size d.size)∧
 ST g o p [.string (d.extract r1.toNat d.size)] fun t=>
 i t∧y t < y a)) (
 K (.tuple #[]) a)) (
 ∃(j:J_HP) (z:J_Hn),j H∧
 ∀c,j c→
 rd_s c o p fun a4=>
 rd_s c m n fun a5=>
 C_i 236 (L_s2 a4 a5) c fun r3 b=>
 ID (r3 < 0) (
 rd_s b o p fun a6=>
 Y_b l [.string a6] b fun r4 a7=>
 K (.tuple #[]) a7) (
 rd_s b o p fun u=>
 rd_i b q r fun v=>
 (BD 0 (i64.wrap (r3+v)) u.size)∧
 Y_b l [.string (u.extract 0 ((i64.wrap (r3+v)).toNat))] b fun r5 e=>
 IF (!r5) (
 K (.tuple #[]) e) (
 rd_s e o p fun f=>
 rd_s e m n fun w=>
 (BD (i64.wrap (r3+(w.size:Int))) f.size f.size)∧
 ST e o p [(.string (f.extract ((i64.wrap (r3+(w.size:Int))).toNat) f.size))] fun x=>
 j x∧z x < z c)))):CF 234 ⟨[.func (.yield l) #[] #[],PA m n,PA o p,PA q r]⟩ H K:=cE h
theorem q8l (h :
 (((decide ((x.size:Int)≤(w.size:Int)))=true)→(BD (i64.wrap ((w.size:Int) - (x.size:Int))) w.size w.size))∧
 K (.bool ((decide ((x.size:Int)≤(w.size:Int))) && ((w.extract ((i64.wrap ((w.size:Int) - (x.size:Int))).toNat) w.size).toList == x.toList))) H):CF 233 ⟨(L_s2 w x)⟩ H K:=cE h
theorem qc7 (h :
 IF ((decide ((x.size:Int)=0)) || (x.toList == w.toList)) (
 K (I64 0) H) (
 ID ((x.size:Int)=1) (
 (IX 0 x.size)∧
 C_i 265 (L_sy w (bAt x 0)) H fun m n=>
 K (I64 m) n) (
 ID ((w.size:Int)≤(x.size:Int)) (
 K (I64 (-1)) H) (
 rd_i H 0 0 fun o=>
 IF ((decide (x.size≤o)) && (decide ((w.size:Int)≤64))) (
 False) (
 (IX 0 x.size)∧
 (IX 1 x.size)∧
 ∃(g:q9y) (l:qia),g 0 0 H∧
 ∀c d e,g c d e→
 ID (c < (i64.wrap ((i64.wrap ((w.size:Int) - (x.size:Int)))+1))) (
 (IX c w.size)∧
 ∀f:q1m,(∀a b,((IX (i64.wrap (a+1)) w.size)∧
 (((decide ((bAt w (i64.wrap (a+1)).toNat)=(bAt x 1)))=true)→(BD a (i64.wrap (a+(x.size:Int))) w.size))∧
 IF ((decide ((bAt w (i64.wrap (a+1)).toNat)=(bAt x 1))) && ((w.extract a.toNat ((i64.wrap (a+(x.size:Int))).toNat)).toList == x.toList)) (
 K (I64 a) b) (
 rd_i b 0 0 fun i=>
 gQ_i ((decide (x.size≤i))=true) 268 [I64 (i64.wrap (a+1))] b fun r1=>
 IF ((decide (x.size≤i)) && (decide (r1 < (i64.wrap (d+1))))) (
 (BD (i64.wrap (a+1)) w.size w.size)∧
 False) (
 rd_i b 0 0 fun j=>
 (((decide (j < x.size))=true)→((0:Int)≤4))∧
 IF (((decide (j < x.size)) && (decide ((i64.wrap (4+(Int.fdiv (i64.wrap (a+1)) (2 ^ (min (Int.toNat 4) (i64.bits))))))≤(i64.wrap (d+1))))) && (decide ((i64.wrap (a+1)) < (i64.wrap ((i64.wrap ((w.size:Int) - (x.size:Int)))+1))))) (
 (BD (i64.wrap (a+1)) w.size w.size)∧
 Q_i 269 (L_s2 (w.extract ((i64.wrap (a+1)).toNat) w.size) x) b fun r2=>
 ID (r2 < 0) (
 K (I64 (-1)) b) (
 K (I64 (i64.wrap ((i64.wrap (a+1))+r2))) b)) (
 g (i64.wrap (a+1)) (i64.wrap (d+1)) b∧l (i64.wrap (a+1)) (i64.wrap (d+1)) b < l c d e))))→f a b)→
 IN ((bAt w c.toNat)=(bAt x 0)) (
 (BD (i64.wrap (c+1)) (i64.wrap ((i64.wrap ((w.size:Int) - (x.size:Int)))+1)) w.size)∧
 C_i 265 (L_sy (w.extract ((i64.wrap (c+1)).toNat) ((i64.wrap ((i64.wrap ((w.size:Int) - (x.size:Int)))+1)).toNat)) (bAt x 0)) e fun r3 k=>
 ID (r3 < 0) (
 K (I64 (-1)) k) (
 f (i64.wrap (c+(i64.wrap (r3+1)))) k)) (
 f c e)) (
 K (I64 (-1)) e)))))):CF 232 ⟨(L_s2 w x)⟩ H K:=cE h
theorem qil (h :
 AL H (L_s2 w x) 267 fun c i=>
 AL i (L_s2 x2 x3) 267 fun d a=>
 q7m a c 0 fun j=>
 q7m a d 0 fun k=>
 rd_s a c 1 fun e=>
 rd_s a d 1 fun f=>
 C_i 266 (L_v2 (.agg ⟨j⟩) (.agg ⟨k⟩)) a fun l b=>
 q02 b d 1=some (.string f)∧
 q02 b c 1=some (.string e)∧
 Q_i 183 (L_s2 e f) b fun r1=>
 AL b (L_i2 l r1) 3 fun m g=>
 Q_i 229 [.slice (some ⟨m,0,none⟩) 2 2] g fun r2=>
 K (I64 r2) g):CF 231 ⟨(L_v2 (A_s2 w x) (A_s2 x2 x3))⟩ H K:=cE h
theorem q78 (h :
 ∃(f:q1m) (k:q37),f 0 H∧
 ∀a b,f a b→
 ID (a < l) (
 IA a l s fun p q=>
 q7m b p (q+a.toNat*2) fun r=>
 AL b (L_s2 (⟨#[]⟩:ByteArray) (⟨#[]⟩:ByteArray)) 267 fun g u=>
 ST u g 0 r fun c=>
 ID (n≤a) (
 K (I64 1) c) (
 IA a n t fun v w=>
 q7m c v (w+a.toNat*2) fun x=>
 AL c (L_s2 (⟨#[]⟩:ByteArray) (⟨#[]⟩:ByteArray)) 267 fun i y=>
 ST y i 0 x fun d=>
 q7m d g 0 fun z=>
 q7m d i 0 fun a0=>
 memN bt X.calls=true∧
 C_i bt ((L_v2 (.agg ⟨z⟩) (.agg ⟨a0⟩))++bj) d fun j e=>
 IN (j=0) (
 K (I64 j) e) (
 f (i64.wrap (a+1)) e∧k (i64.wrap (a+1)) e < k a b))) (
 ID ((l:Int) < (n:Int)) (
 K (I64 (-1)) b) (
 K (I64 0) b))):CF 230 ⟨(L_l2f s l m t n o bt bj)⟩ H K:=cE h
theorem qc8 (h :
 C_i 265 (L_sy w a) H fun b c=>
 K (I64 b) c):CF 228 ⟨(L_sy w a)⟩ H K:=cE h
theorem qdk (h :
 AL H [.string w] 9 fun b c=>
 AL c [.string x] 9 fun d e=>
 AL e [I64 a] 3 fun f g=>
 K (.func (.func 234) #[] #[PA d 0,PA b 0,PA f 0]) g):CF 210 ⟨(L_s2i w x a)⟩ H K:=cE h
theorem q8m (h :
 Q_b 233 (L_s2 w x) H fun a=>
 IF (!a) (
 K (V_sb w false) H) (
 (BD 0 (i64.wrap ((w.size:Int) - (x.size:Int))) w.size)∧
 K (V_sb (w.extract 0 ((i64.wrap ((w.size:Int) - (x.size:Int))).toNat)) true) H)):CF 209 ⟨(L_s2 w x)⟩ H K:=cE h
theorem qf5 (h :
 C_i 232 (L_s2 w x) H fun a b=>
 ID (0≤a) (
 (BD 0 a w.size)∧
 (BD (i64.wrap (a+(x.size:Int))) w.size w.size)∧
 K (z05 (w.extract 0 a.toNat) (w.extract ((i64.wrap (a+(x.size:Int))).toNat) w.size) true) b) (
 K (z05 w (⟨#[]⟩:ByteArray) false) b)):CF 208 ⟨(L_s2 w x)⟩ H K:=cE h
theorem qim (h :
 AL H (L_sl w s l m) 93 fun b e=>
 AL e (L_sl x t n o) 93 fun c a=>
 rd_s a b 0 fun f=>
 rd_s a c 0 fun g=>
 Q_i 183 (L_s2 f g) a fun i=>
 rd_l a b 1 fun j k p=>
 rd_l a c 1 fun q r u=>
 C_i 230 (L_l2v j k p q r u (.func (.func 231) #[] #[])) a fun r1 v=>
 AL v (L_i2 i r1) 3 fun y d=>
 Q_i 229 [.slice (some ⟨y,0,none⟩) 2 2] d fun r2=>
 K (I64 r2) d):CF 207 ⟨(L_v2 (A_sl w s l m) (A_sl x t n o))⟩ H K:=cE h
theorem qdl (h :
 AL H (qib a b w s l m) 95 fun i v=>
 AL v (qib c d x t n o) 95 fun j e=>
 ∀q:qeu,(∀r u,(K (.bool r) u)→q r u)→
 rd_i e i 0 fun f=>
 rd_i e j 0 fun g=>
 gd_i ((decide (f=g))=true) e i 1 fun k=>
 gd_i ((decide (f=g))=true) e j 1 fun p=>
 q5y (((decide (f=g)) && (decide (k=p)))=true) e i 2 fun y=>
 q5y (((decide (f=g)) && (decide (k=p)))=true) e j 2 fun z=>
 JF (((decide (f=g)) && (decide (k=p)))=true) (
 C_i 207 (L_v2 (.agg ⟨y⟩) (.agg ⟨z⟩)) e fun a0 a1=>
 q (decide (a0=0)) a1) (
 q false e)):CF 206 ⟨(L_v2 (qqd a b w s l m) (qqd c d x t n o))⟩ H K:=cE h
theorem q7x (h :
 IN ((l:Int)=(n:Int)) (
 K (.bool false) H) (
 ∃(e:q1m) (j:q37),e 0 H∧
 ∀a b,e a b→
 ID (a < l) (
 IA a l s fun k p=>
 q16 b k (p+a.toNat*4) fun q=>
 AL b q54 95 fun f r=>
 ST r f 0 q fun g=>
 IA a n t fun u v=>
 q16 g u (v+a.toNat*4) fun w=>
 AL g q54 95 fun i x=>
 ST x i 0 w fun c=>
 q16 c f 0 fun y=>
 q16 c i 0 fun z=>
 memN bt X.calls=true∧
 C_b bt ((L_v2 (.agg ⟨y⟩) (.agg ⟨z⟩))++bj) c fun a0 d=>
 IF (!a0) (
 K (.bool false) d) (
 e (i64.wrap (a+1)) d∧j (i64.wrap (a+1)) d < j a b)) (
 K (.bool true) b))):CF 205 ⟨(L_l2f s l m t n o bt bj)⟩ H K:=cE h
theorem qin (h :
 AL H (q9z a b c d e f g i j k s l m w t n o u p q) 104 fun v a6=>
 AL a6 [I64 0,I64 0,I64 0,I64 0,I64 0,I64 0,I64 0] 314 fun x r=>
 rd_i r v 3 fun a7=>
 rd_i r v 4 fun a8=>
 rd_i r v 5 fun a9=>
 rd_i r v 6 fun b0=>
 rd_i r v 7 fun b1=>
 rd_i r v 8 fun b2=>
 rd_i r v 9 fun b3=>
 ST r x 0 (L_i7 a7 a8 a9 b0 b1 b2 b3) fun y=>
 ∃z a0 a1 a2 a3 a4 a5,q03 y x 0 (L_i7 z a0 a1 a2 a3 a4 a5)∧
 K (A_i7 z a0 a1 a2 a3 a4 a5) y):CF 204 ⟨[(qa0 a b c d e f g i j k s l m w t n o u p q)]⟩ H K:=cE h
theorem qnv (h :
 AL H (L_s2 w x) 267 fun c f=>
 rd_s f c 1 fun l=>
 ID (64 < (l.size:Int)) (
 K (.bool false) f) (
 ∃(i:q1m) (k:q37),i 0 f∧
 ∀a b,i a b→
 rd_s b c 1 fun m=>
 ID (a < m.size) (
 rd_s b c 1 fun d=>
 (IX a d.size)∧
 ∀g:qeu,(∀j e,(IF j (
 K (.bool false) e) (
 i (i64.wrap (a+1)) e∧k (i64.wrap (a+1)) e < k a b))→g j e)→
 JF (((decide ((bAt d a.toNat) < 33)) || (decide (126 < (bAt d a.toNat))))=false) (
 C_i 228 (L_sy (⟨#[44,61,123,125]⟩:ByteArray) (bAt d a.toNat)) b fun n o=>
 g (decide (0≤n)) o) (
 g true b)) (
 rd_s b c 0 fun p=>
 Q_b 202 [.string p] b fun r1=>
 K (.bool r1) b))):CF 203 ⟨[(A_s2 w x)]⟩ H K:=cE h
theorem qnw (h :
 ((((decide ((w.size:Int) < 1)) || (decide (64 < (w.size:Int))))=false)→(IX 0 w.size))∧
 (((((decide ((w.size:Int) < 1)) || (decide (64 < (w.size:Int)))) || (decide ((bAt w 0) < 97)))=false)→(IX 0 w.size))∧
 IF ((((decide ((w.size:Int) < 1)) || (decide (64 < (w.size:Int)))) || (decide ((bAt w 0) < 97))) || (decide (122 < (bAt w 0)))) (
 K (.bool false) H) (
 ∃(c:q1m) (d:q37),c 0 H∧
 ∀a b,c a b→
 ID (a < w.size) (
 (IX a w.size)∧
 IF ((((decide ((bAt w a.toNat) < 97)) || (decide (122 < (bAt w a.toNat)))) && ((decide ((bAt w a.toNat) < 48)) || (decide (57 < (bAt w a.toNat))))) && (!decide ((bAt w a.toNat)=95))) (
 K (.bool false) b) (
 c (i64.wrap (a+1)) b∧d (i64.wrap (a+1)) b < d a b)) (
 K (.bool true) b))):CF 202 ⟨[.string w]⟩ H K:=cE h
theorem qc9 (h :
 AL H (L_sl w s l m) 93 fun b o=>
 q26 o b 0 fun z=>
 C_b 164 [.agg ⟨z⟩] o fun a0 c=>
 IF (!a0) (
 K (.string (⟨#[]⟩:ByteArray)) c) (
 rd_l c b 1 fun b1 a1 b2=>
 ID ((a1:Int)=0) (
 rd_s c b 0 fun a2=>
 K (.string a2) c) (
 rd_l c b 1 fun b3 p b4=>
 RunW Tryz.prog (Instr.makeSlice 294 (I64 p) (I64 p)) c fun a3 q=>
 ∃j k x,a3=(.slice j k x)∧
 rd_l q b 1 fun a4 r b5=>
 ∃(n:q1m) (y:q37),n 0 q∧
 ∀a d,n a d→
 ID (a < r) (
 IA a r a4 fun a5 a6=>
 q7m d a5 (a6+a.toNat*2) fun a7=>
 AL d (L_s2 (⟨#[]⟩:ByteArray) (⟨#[]⟩:ByteArray)) 267 fun f a8=>
 ST a8 f 0 a7 fun g=>
 rd_s g f 0 fun i=>
 (((i.size+(⟨#[61]⟩:ByteArray).size:Nat):Int)≤i64.max)∧
 rd_s g f 1 fun t=>
 ((((i++(⟨#[61]⟩:ByteArray)).size+t.size:Nat):Int)≤i64.max)∧
 IA a k j fun a9 b0=>
 ST g a9 (b0+a.toNat) [(.string ((i++(⟨#[61]⟩:ByteArray))++t))] fun u=>
 n (i64.wrap (a+1)) u∧y (i64.wrap (a+1)) u < y a d) (
 rd_s d b 0 fun e=>
 (((e.size+(⟨#[123]⟩:ByteArray).size:Nat):Int)≤i64.max)∧
 C_s 220 (L_ls j k x (⟨#[44]⟩:ByteArray)) d fun r1 v=>
 q02 v b 0=some (.string e)∧
 ((((e++(⟨#[123]⟩:ByteArray)).size+r1.size:Nat):Int)≤i64.max)∧
 (((((e++(⟨#[123]⟩:ByteArray))++r1).size+(⟨#[125]⟩:ByteArray).size:Nat):Int)≤i64.max)∧
 K (.string (((e++(⟨#[123]⟩:ByteArray))++r1)++(⟨#[125]⟩:ByteArray))) v)))):CF 190 ⟨[(A_sl w s l m)]⟩ H K:=cE h
theorem qdm (h :
 C_f 210 (L_s2i w x 0) H fun a b c=>
 K (.func (.func a) #[] ⟨b⟩) c):CF 172 ⟨(L_s2 w x)⟩ H K:=cE h
theorem qca (h :
 ∃a r1,CQ 209 #[.string w,.string x] H (V_sb a r1)∧
 K (V_sb a r1) H):CF 171 ⟨(L_s2 w x)⟩ H K:=cE h
theorem qnx (h :
 CF 208 ⟨(L_s2 w x)⟩ H fun b c=>∃a r1 r2,b=(z05 a r1 r2)∧
 K (z05 a r1 r2) c):CF 170 ⟨(L_s2 w x)⟩ H K:=cE h
theorem qrh (h :
 AL H (q9z a b c d e f g i j k s l m w t n o u p q) 104 fun b0 d0=>
 AL d0 (q9z a0 a1 a2 a3 a4 a5 a6 a7 a8 a9 v r n1 x u1 n2 n3 u2 n4 n5) 104 fun y b1=>
 ∀z:qeu,(∀c8 c9,(K (.bool c8) c9)→z c8 c9)→
 q15 b1 b0 0 fun d1=>
 q15 b1 y 0 fun d2=>
 ∃b5:Bool,q4e Tryz.prog .eql 102 (.agg ⟨d1⟩) (.agg ⟨d2⟩) b5∧
 qfz (b5=true) b1 b0 0 fun d3=>
 qfz (b5=true) b1 y 0 fun c1=>
 JF (b5=true) (
 C_Wi7_ 204 [.agg ⟨d3⟩] b1 fun d4 c7=>
 ((b5=true)→q03 c7 y 0 c1)∧
 C_Wi7_ 204 [.agg ⟨c1⟩] c7 fun d5 b2=>
 ∃c0:Bool,q4e Tryz.prog .eql 314 (.agg ⟨d4⟩) (.agg ⟨d5⟩) c0∧
 gd_l (c0=true) b2 b0 10 fun d6 d7 d8=>
 gd_l (c0=true) b2 y 10 fun d9 e0 e1=>
 JF (c0=true) (
 C_b 205 (L_l2v d6 d7 d8 d9 e0 e1 (.func (.func 206) #[] #[])) b2 fun c2 b3=>
 q5y (c2=true) b3 b0 11 fun e2=>
 q5y (c2=true) b3 y 11 fun e3=>
 JF (c2=true) (
 C_i 207 (L_v2 (.agg ⟨e2⟩) (.agg ⟨e3⟩)) b3 fun r7 b6=>
 gd_l ((decide (r7=0))=true) b6 b0 13 fun e4 e5 e6=>
 gd_l ((decide (r7=0))=true) b6 y 13 fun e7 e8 e9=>
 JF ((decide (r7=0))=true) (
 C_b 51 (L_l2 e4 e5 e6 e7 e8 e9) b6 fun f0 f1=>
 z f0 f1) (
 z false b6)) (
 gd_l (false=true) b3 b0 13 fun f2 f3 f4=>
 gd_l (false=true) b3 y 13 fun f5 f6 f7=>
 JF (false=true) (
 C_b 51 (L_l2 f2 f3 f4 f5 f6 f7) b3 fun f8 f9=>
 z f8 f9) (
 z false b3))) (
 q5y (false=true) b2 b0 11 fun g0=>
 q5y (false=true) b2 y 11 fun g1=>
 JF (false=true) (
 C_i 207 (L_v2 (.agg ⟨g0⟩) (.agg ⟨g1⟩)) b2 fun c3 b7=>
 gd_l ((decide (c3=0))=true) b7 b0 13 fun g2 g3 g4=>
 gd_l ((decide (c3=0))=true) b7 y 13 fun g5 g6 g7=>
 JF ((decide (c3=0))=true) (
 C_b 51 (L_l2 g2 g3 g4 g5 g6 g7) b7 fun g8 g9=>
 z g8 g9) (
 z false b7)) (
 gd_l (false=true) b2 b0 13 fun i0 i1 i2=>
 gd_l (false=true) b2 y 13 fun i3 i4 i5=>
 JF (false=true) (
 C_b 51 (L_l2 i0 i1 i2 i3 i4 i5) b2 fun i6 i7=>
 z i6 i7) (
 z false b2)))) (
 ((b5=true)→q03 b1 y 0 c1)∧
 gd_l (false=true) b1 b0 10 fun i9 k0 k1=>
 gd_l (false=true) b1 y 10 fun k2 k3 k4=>
 JF (false=true) (
 C_b 205 (L_l2v i9 k0 k1 k2 k3 k4 (.func (.func 206) #[] #[])) b1 fun c4 b4=>
 q5y (c4=true) b4 b0 11 fun k5=>
 q5y (c4=true) b4 y 11 fun k6=>
 JF (c4=true) (
 C_i 207 (L_v2 (.agg ⟨k5⟩) (.agg ⟨k6⟩)) b4 fun c5 b8=>
 gd_l ((decide (c5=0))=true) b8 b0 13 fun k7 k8 k9=>
 gd_l ((decide (c5=0))=true) b8 y 13 fun m0 m1 m2=>
 JF ((decide (c5=0))=true) (
 C_b 51 (L_l2 k7 k8 k9 m0 m1 m2) b8 fun m3 m4=>
 z m3 m4) (
 z false b8)) (
 gd_l (false=true) b4 b0 13 fun m5 m6 m7=>
 gd_l (false=true) b4 y 13 fun m8 m9 n0=>
 JF (false=true) (
 C_b 51 (L_l2 m5 m6 m7 m8 m9 n0) b4 fun n6 n7=>
 z n6 n7) (
 z false b4))) (
 q5y (false=true) b1 b0 11 fun n8=>
 q5y (false=true) b1 y 11 fun n9=>
 JF (false=true) (
 C_i 207 (L_v2 (.agg ⟨n8⟩) (.agg ⟨n9⟩)) b1 fun c6 b9=>
 gd_l ((decide (c6=0))=true) b9 b0 13 fun o0 o1 o2=>
 gd_l ((decide (c6=0))=true) b9 y 13 fun o3 o4 o5=>
 JF ((decide (c6=0))=true) (
 C_b 51 (L_l2 o0 o1 o2 o3 o4 o5) b9 fun o6 o7=>
 z o6 o7) (
 z false b9)) (
 gd_l (false=true) b1 b0 13 fun o8 o9 p0=>
 gd_l (false=true) b1 y 13 fun p1 p2 p3=>
 JF (false=true) (
 C_b 51 (L_l2 o8 o9 p0 p1 p2 p3) b1 fun p4 p5=>
 z p4 p5) (
 z false b1))))):CF 165 ⟨(L_v2 (qa0 a b c d e f g i j k s l m w t n o u p q) (qa0 a0 a1 a2 a3 a4 a5 a6 a7 a8 a9 v r n1 x u1 n2 n3 u2 n4 n5))⟩ H K:=cE h
theorem qbg (h :
 AL H (L_sl w s l m) 93 fun e b=>
 rd_s b e 0 fun q=>
 Q_b 202 [.string q] b fun i=>
 gd_l ((!i)=false) b e 1 fun a4 r a5=>
 IF ((!i) || (decide (8 < (r:Int)))) (
 K (.bool false) b) (
 rd_l b e 1 fun t j a6=>
 ∃(g:q1m) (p:q37),g 0 b∧
 ∀a d,g a d→
 ID (a < j) (
 IA a j t fun u v=>
 q7m d u (v+a.toNat*2) fun x=>
 AL d (L_s2 (⟨#[]⟩:ByteArray) (⟨#[]⟩:ByteArray)) 267 fun f y=>
 ST y f 0 x fun k=>
 q7m k f 0 fun z=>
 C_b 203 [.agg ⟨z⟩] k fun r1 c=>
 gd_l (((!r1)=false)∧(decide (0 < a))=true) c e 1 fun a0 a1 a7=>
 ((((!r1)=false)∧(decide (0 < a))=true)→(IX (i64.wrap (a - 1)) a1))∧∃n o:Nat,((((!r1)=false)∧(decide (0 < a))=true)→(a0=some ⟨n,o,none⟩))∧
 gd_s (((!r1)=false)∧(decide (0 < a))=true) c n (o+(i64.wrap (a - 1)).toNat*2) fun a2=>
 gd_s (((!r1)=false)∧(decide (0 < a))=true) c f 0 fun a3=>
 IF ((!r1) || ((decide (0 < a)) && (!Op.bytesLess a2.toList a3.toList))) (
 K (.bool false) c) (
 g (i64.wrap (a+1)) c∧p (i64.wrap (a+1)) c < p a d)) (
 K (.bool true) d))):CF 164 ⟨[(A_sl w s l m)]⟩ H K:=cE h
theorem qny (h :
 IF (((decide ((l:Int) < 1)) || (decide (64 < (l:Int)))) || (decide ((i64.wrap (1099511627776 - (l:Int))) < a))) (
 K (.bool false) H) (
 ∃(j:q1m) (o:q37),j 0 H∧
 ∀b d,j b d→
 ID (b < l) (
 IA b l s fun p q=>
 q16 d p (q+b.toNat*4) fun r=>
 AL d q54 95 fun e t=>
 ST t e 0 r fun c=>
 ∀i:qeu,(∀n f,(IF n (
 K (.bool false) f) (
 j (i64.wrap (b+1)) f∧o (i64.wrap (b+1)) f < o b d))→i n f)→
 rd_i c e 0 fun g=>
 gd_i ((decide (g < 0))=false) c e 0 fun k=>
 q5y (((decide (g < 0)) || (decide (4611686018427387903 < k)))=false) c e 2 fun u=>
 JF (((decide (g < 0)) || (decide (4611686018427387903 < k)))=false) (
 C_b 164 [.agg ⟨u⟩] c fun v w=>
 i (!v) w) (
 i true c)) (
 K (.bool true) d))):CF 163 ⟨(L_il a s l m)⟩ H K:=cE h
theorem qkd (h :
 rd_i H l m fun a=>
 ID (a=1) (
 AL H (L_a2 l (m+1) l (m+3)) 177 fun e f=>
 K (.slice (some ⟨e,0,none⟩) 2 2) f) (
 ID (a=2) (
 AL H (L_a3 l (m+1) l (m+3) l (m+2)) 177 fun g i=>
 K (.slice (some ⟨g,0,none⟩) 3 3) i) (
 ID (a=3) (
 AL H (L_a3 l (m+1) l (m+3) l (m+4)) 177 fun j k=>
 K (.slice (some ⟨j,0,none⟩) 3 3) k) (
 ID (a=4) (
 AL H (L_a6 l (m+1) l (m+2) l (m+3) l (m+4) l (m+5) l (m+6)) 177 fun n o=>
 K (.slice (some ⟨n,0,none⟩) 6 6) o) (
 ∀c:qeu,(∀d b,(IF d (
 AL b (L_a3 l (m+1) l (m+2) l (m+7)) 177 fun p q=>
 K (.slice (some ⟨p,0,none⟩) 3 3) q) (
 ID (a=7) (
 AL b (L_a4 l (m+1) l (m+2) l (m+7) l (m+8)) 177 fun r s=>
 K (.slice (some ⟨r,0,none⟩) 4 4) s) (
 ID (a=8) (
 AL b [PA l (m+9)] 177 fun t u=>
 K (.slice (some ⟨t,0,none⟩) 1 1) u) (
 K (.slice none 0 0) b))))→c d b)→
 ID (a=5) (
 c (decide (a=5)) H) (
 c (decide (a=6)) H)))))):CF 162 ⟨[PA l m]⟩ H K:=cE h
theorem qbh (h :
 AL H (L_sl w s l m) 93 fun a t=>
 q26 t a 0 fun a9=>
 C_b 164 [.agg ⟨a9⟩] t fun b0 c=>
 IF (!b0) (
 K (.slice none 0 0) c) (
 ∀j:qev,(∀a5 a6 a7 q,(rd_l q a 1 fun b1 u g6=>
 ∃(r:q0x) (a8:q0y),r a5 a6 a7 0 q∧
 ∀f g i b e,r f g i b e→
 ID (b < u) (
 IA b u b1 fun b2 b3=>
 q7m e b2 (b3+b.toNat*2) fun b4=>
 AL e (L_s2 (⟨#[]⟩:ByteArray) (⟨#[]⟩:ByteArray)) 267 fun k b5=>
 ST b5 k 0 b4 fun n=>
 rd_s n k 0 fun b6=>
 rd_s n k 1 fun b7=>
 AL n (L_s2 b6 b7) 9 fun b8 b9=>
 C_l 132 [.slice (some ⟨b8,0,none⟩) 2 2] b9 fun c0 c1 c2 c3=>
 AP #[24,24] 24 (L_l2 f g i c0 c1 c2) c3 fun v x y z=>
 r v x y (i64.wrap (b+1)) z∧a8 v x y (i64.wrap (b+1)) z < a8 f g i b e) (
 K (.slice f g i) e))→j a5 a6 a7 q)→
 rd_s c a 0 fun o=>
 rd_l c a 1 fun a0 d a1=>
 (AL c [.string o] 9 fun a2 p=>
 q02 p a 1=some (.slice a0 d a1)∧
 (C_l 132 [.slice (some ⟨a2,0,none⟩) 1 1] p fun c4 c5 c6 a3=>
 q02 a3 a 1=some (.slice a0 d a1)∧
 AL a3 [(.int .u64 (u64.wrap (d:Int)))] 56 fun c7 c8=>
 C_l 117 [.slice (some ⟨c7,0,none⟩) 1 1] c8 fun c9 d0 d1 d2=>
 AP #[24,24] 24 (L_l2 c4 c5 c6 c9 d0 d1) d2 fun d3 d4 d5 d6=>
 j d3 d4 d5 d6)∧
 (AL p [(.int .u64 (u64.wrap (d:Int)))] 56 fun d7 d8=>
 C_l 132 [.slice (some ⟨a2,0,none⟩) 1 1] d8 fun d9 e0 e1 e2=>
 C_l 117 [.slice (some ⟨d7,0,none⟩) 1 1] e2 fun e3 e4 e5 e6=>
 AP #[24,24] 24 (L_l2 d9 e0 e1 e3 e4 e5) e6 fun e7 e8 e9 f0=>
 j e7 e8 e9 f0))∧
 (AL c [(.int .u64 (u64.wrap (d:Int)))] 56 fun f1 a4=>
 q02 a4 a 0=some (.string o)∧
 AL a4 [.string o] 9 fun f2 f3=>
 C_l 132 [.slice (some ⟨f2,0,none⟩) 1 1] f3 fun f4 f5 f6 f7=>
 C_l 117 [.slice (some ⟨f1,0,none⟩) 1 1] f7 fun f8 f9 g0 g1=>
 AP #[24,24] 24 (L_l2 f4 f5 f6 f8 f9 g0) g1 fun g2 g3 g4 g5=>
 j g2 g3 g4 g5))):CF 161 ⟨[(A_sl w s l m)]⟩ H K:=cE h
theorem qri (h :
 AL H (L_sn (⟨#[]⟩:ByteArray)) 93 fun c u=>
 C_s 110 (L_ai l m 64) u fun v w=>
 AL w (L_sn (⟨#[]⟩:ByteArray)) 93 fun a x=>
 ST x a 0 (L_sn v) fun y=>
 C_i 103 (L_ai l m 8) y fun r1 z=>
 ∃(j:q1m) (t:q37),j 0 z∧
 ∀d b,j d b→
 ID (d < r1) (
 C_s 110 (L_ai l m 64) b fun r2 k=>
 rd_l k a 1 fun e f g=>
 C_s 110 (L_ai l m 64) k fun r3 n=>
 q02 n a 1=some (.slice e f g)∧
 AL n (L_s2 r2 r3) 267 fun a0 o=>
 q02 o a 1=some (.slice e f g)∧
 AP #[91,91] 91 (L_l2 e f g (some ⟨a0,0,none⟩) 1 1) o fun a1 a2 a3 a4=>
 ST a4 a 1 [.slice a1 a2 a3] fun p=>
 j (i64.wrap (d+1)) p∧t (i64.wrap (d+1)) p < t d b) (
 Q_i 102 [PA l m] b fun r4=>
 IN (r4=0) (
 ST b c 0 (L_sn (⟨#[]⟩:ByteArray)) fun q=>
 q26 q c 0 fun a5=>
 K (V_vi (.agg ⟨a5⟩) r4) q) (
 q26 b a 0 fun a6=>
 C_b 164 [.agg ⟨a6⟩] b fun r5 i=>
 IF (!r5) (
 ST i c 0 (L_sn (⟨#[]⟩:ByteArray)) fun r=>
 q26 r c 0 fun a7=>
 K (V_vi (.agg ⟨a7⟩) 10) r) (
 q26 i a 0 fun a8=>
 ST i c 0 a8 fun s=>
 q26 s c 0 fun a9=>
 K (V_vi (.agg ⟨a9⟩) 0) s)))):CF 160 ⟨[PA l m]⟩ H K:=cE h
theorem qnz (h :
 AL H (L_sn (⟨#[]⟩:ByteArray)) 93 fun b a3=>
 AL a3 [.bool false] 4 fun c a4=>
 CF 170 ⟨(L_s2 w (⟨#[123]⟩:ByteArray))⟩ a4 fun a5 a6=>∃y r1 r2,a5=(z05 y r1 r2)∧
 AL a6 (L_sn (⟨#[]⟩:ByteArray)) 93 fun e a7=>
 ST a7 e 0 (L_sn y) fun g=>
 IF r2 (
 ∃r3 r4,CQ 171 #[.string r1,(.string (⟨#[125]⟩:ByteArray))] g (V_sb r3 r4)∧
 IF (!r4) (
 ST g b 0 (L_sn (⟨#[]⟩:ByteArray)) fun a8=>
 ST a8 c 0 [.bool false] fun n=>
 q26 n b 0 fun a9=>
 rd_b n c 0 fun b0=>
 K (V_vb (.agg ⟨a9⟩) b0) n) (
 C_f 172 (L_s2 r3 (⟨#[44]⟩:ByteArray)) g fun t b1 a=>
 memN t X.calls=true∧
 ∀d:Loop,d.state=.ready→d.pending=none→
 (∀(a1:List Value) (l:Heap) (s:Value→Heap→Prop),(∃z,a1=[.string z]∧
 l[a.size+1]?=some (.loop d)∧
 l[a.size+1]?=some (.loop d)∧
 ∀a0:Heap,a0=q0n l (a.size+1) { d with state:=.busy }→
 CF 170 ⟨(L_s2 z (⟨#[61]⟩:ByteArray))⟩ a0 fun b2 i=>∃r5 r6 r7,b2=(z05 r5 r6 r7)∧
 gd_l ((!r7)=false) i e 1 fun e4 b3 e5=>
 IF ((!r7) || (decide ((b3:Int)=8))) (
 ST i b 0 (L_sn (⟨#[]⟩:ByteArray)) fun b4=>
 ST b4 c 0 [.bool false] fun u=>
 u[a.size+1]?=some (.loop { d with state:=.busy })∧s (.bool false) (q0n u (a.size+1) { d with state:=.done,pending:=some .ret })) (
 rd_l i e 1 fun b5 b6 b7=>
 AL i (L_s2 r5 r6) 267 fun b8 b9=>
 AP #[91,91] 91 (L_l2 b5 b6 b7 (some ⟨b8,0,none⟩) 1 1) b9 fun c0 c1 c2 c3=>
 ST c3 e 1 [.slice c0 c1 c2] fun v=>
 v[a.size+1]?=some (.loop { d with state:=.busy })∧s (.bool true) (q0n v (a.size+1) d)))→q4f Tryz.prog (a.size+1) a1 l s)→
 CF t ⟨(.func (.yield (a.size+1)) #[] #[])::b1⟩ ((a.push (.deferred (some []))).push (.loop d)) fun e6 x=>∃(a2:LoopState) (m:Option Code),a2≠.busy∧x[a.size+1]?=some (.loop { d with state:=a2,pending:=m })∧
 ∀f:Heap,f=q0n x (a.size+1) { d with state:=.exhausted,pending:=m }→
 ((m=none∧
 q26 f e 0 fun c4=>
 C_b 164 [.agg ⟨c4⟩] f fun c5 o=>
 IF (!c5) (
 ST o b 0 (L_sn (⟨#[]⟩:ByteArray)) fun c6=>
 ST c6 c 0 [.bool false] fun j=>
 j[a.size]?=some (.deferred (some []))∧
 q26 (j.setIfInBounds a.size (.deferred none)) b 0 fun c7=>
 rd_b (j.setIfInBounds a.size (.deferred none)) c 0 fun c8=>
 K (V_vb (.agg ⟨c7⟩) c8) (j.setIfInBounds a.size (.deferred none))) (
 q26 o e 0 fun c9=>
 ST o b 0 c9 fun d0=>
 ST d0 c 0 [.bool true] fun k=>
 k[a.size]?=some (.deferred (some []))∧
 q26 (k.setIfInBounds a.size (.deferred none)) b 0 fun d1=>
 rd_b (k.setIfInBounds a.size (.deferred none)) c 0 fun d2=>
 K (V_vb (.agg ⟨d1⟩) d2) (k.setIfInBounds a.size (.deferred none))))∨
 m=(some .ret)∧
 f[a.size]?=some (.deferred (some []))∧
 q26 (f.setIfInBounds a.size (.deferred none)) b 0 fun d3=>
 rd_b (f.setIfInBounds a.size (.deferred none)) c 0 fun d4=>
 K (V_vb (.agg ⟨d3⟩) d4) (f.setIfInBounds a.size (.deferred none))))) (
 q26 g e 0 fun d5=>
 C_b 164 [.agg ⟨d5⟩] g fun d6 p=>
 IF (!d6) (
 ST p b 0 (L_sn (⟨#[]⟩:ByteArray)) fun d7=>
 ST d7 c 0 [.bool false] fun q=>
 q26 q b 0 fun d8=>
 rd_b q c 0 fun d9=>
 K (V_vb (.agg ⟨d8⟩) d9) q) (
 q26 p e 0 fun e0=>
 ST p b 0 e0 fun e1=>
 ST e1 c 0 [.bool true] fun r=>
 q26 r b 0 fun e2=>
 rd_b r c 0 fun e3=>
 K (V_vb (.agg ⟨e2⟩) e3) r))):CF 112 ⟨[.string w]⟩ H K:=cE h
theorem qo0 (h :
 AL H (q9z a b c d e f g i j k s l m w t n o u p q) 104 fun r c7=>
 C_l 162 [PA r 0] c7 fun a1 b7 g2 a0=>
 gd_i (a1.isNone=false) a0 r 1 fun a4=>
 gd_i ((a1.isNone || (decide (a4 < 0)))=false) a0 r 1 fun a6=>
 gd_i (((a1.isNone || (decide (a4 < 0))) || (decide (64≤a6)))=false) a0 r 2 fun b8=>
 gd_i ((((a1.isNone || (decide (a4 < 0))) || (decide (64≤a6))) || (decide (b8 < 0)))=false) a0 r 2 fun c8=>
 IF ((((a1.isNone || (decide (a4 < 0))) || (decide (64≤a6))) || (decide (b8 < 0))) || (decide (1099511627776 < c8))) (
 K (.bool false) a0) (
 rd_i a0 r 0 fun c9=>
 AL a0 qew 104 fun a2 d0=>
 ST d0 a2 0 [I64 c9,I64 0,I64 0,I64 0,I64 0,I64 0,I64 0,I64 0,I64 0,I64 0,.slice none 0 0,.string (⟨#[]⟩:ByteArray),.slice none 0 0,.slice none 0 0] fun d1=>
 C_l 162 [PA a2 0] d1 fun d2 d3 g3 d4=>
 ∃(b6:q1m) (c6:q37),b6 0 d4∧
 ∀y v,b6 y v→
 ID (y < b7) (
 IA y b7 a1 fun d5 d6=>
 rd_p v d5 (d6+y.toNat) fun x=>
 NN x (
 rd_i v (adrB x) (adrO x) fun a7=>
 (((decide (a7 < 0))=false)→isA x)∧
 gd_i ((decide (a7 < 0))=false) v (adrB x) (adrO x) fun d7=>
 IF ((decide (a7 < 0)) || (decide (4611686018427387903 < d7))) (
 K (.bool false) v) (
 IA y d3 d2 fun d8 d9=>
 rd_p v d8 (d9+y.toNat) fun a8=>
 NN x (
 rd_i v (adrB x) (adrO x) fun e0=>
 NN a8 (
 ST v (adrB a8) (adrO a8) [I64 e0] fun b9=>
 b6 (i64.wrap (y+1)) b9∧c6 (i64.wrap (y+1)) b9 < c6 y v))))) (
 rd_i v r 0 fun a3=>
 ∀b1:J_HP,(∀a5,(q7e a5 r 0 fun e1=>
 q7e a5 a2 0 fun e2=>
 C_b 165 (L_v2 (.agg ⟨e1⟩) (.agg ⟨e2⟩)) a5 fun e3 e4=>
 K (.bool e3) e4)→b1 a5)→
 ID (a3=4) (
 rd_i v r 6 fun e5=>
 rd_i v r 5 fun e6=>
 ID (e5 < e6) (
 K (.bool false) v) (
 b1 v)) (
 ∀b2:J_HP,(∀c2,(b1 c2)→b2 c2)→
 ID (a3=5) (
 rd_l v r 10 fun e7 e8 e9=>
 ST v a2 10 [.slice e7 e8 e9] fun a9=>
 rd_i a9 r 7 fun f0=>
 rd_l a9 r 10 fun f1 f2 f3=>
 C_b 163 (L_il f0 f1 f2 f3) a9 fun r1 c0=>
 IF (!r1) (
 K (.bool false) c0) (
 b2 c0)) (
 ∀b3:qeu,(∀c3 z,(∀b4:J_HP,(∀c4,(b2 c4)→b4 c4)→
 IF c3 (
 rd_i z r 7 fun f4=>
 ID (1099511627776 < f4) (
 K (.bool false) z) (
 b4 z)) (
 ∀b5:J_HP,(∀c5,(b4 c5)→b5 c5)→
 ID (a3=8) (
 q26 z r 11 fun f5=>
 rd_l z r 13 fun f6 f7 f8=>
 ST z a2 11 f5 fun f9=>
 ST f9 a2 13 [.slice f6 f7 f8] fun c1=>
 q26 c1 r 11 fun g0=>
 C_b 164 [.agg ⟨g0⟩] c1 fun r2 b0=>
 gd_l ((!r2)=false) b0 r 13 fun g4 g1 g5=>
 IF ((!r2) || (decide (4096 < (g1:Int)))) (
 K (.bool false) b0) (
 b5 b0)) (
 b5 z)))→b3 c3 z)→
 ID (a3=6) (
 b3 (decide (a3=6)) v) (
 b3 (decide (a3=7)) v)))))):CF 96 ⟨[(qa0 a b c d e f g i j k s l m w t n o u p q)]⟩ H K:=cE h
end
open Go.Nm
section
variable {a b c d e f g i j k a0 a1 a2 a3 a4 a5 a6 a7 a8 a9 b0 b1 b2 b3 b4 b5 b6 b7 b8 b9 c0 c1 c2 c3 c4 c5 c6 c7 c8 c9 d0 d1 d2 d3 d4 d5 d6 d7 d8 d9 e0 e1 e2 e3 e4 e5 e6 e7 e8 e9 f0 f1 f2 f3 f4 f5 f6 f7 f8 f9 g0 g1 g2 g3 g4 g5 g6 g7 g8 g9 i0 i1 i2 i3 i4 i5 i6 i7 i9 k0 k1 k2 k3 k4 k5 k6 k7 k8 k9 m0 m1 m2 m3 m4 m5 m6 m7 m8 m9 n0:Int} {l m n o p q r n1 n2 n3 n4 n5 n6 n7 n8 n9 o0 o1 o2 o3 o4 o5 o6 o7 o8 o9 p0 p1 p2 p3 p4 p5 p6 p7 p8 p9 q0 q1 q2 q3 q4 q5 q6 q7 q8 q9 s0 s1 s2 s3 s4 s5 s6 s7 s8 s9 t0 t1 t2 t3 t4 t5 t6 t7 t8 t9 u0:Nat} {s t u v u1 u2 u3 u4 u5 u6 u7 u9 v0 v1 v2 v3 v4 v5 v6 v7 v8 v9 w0 w1 w2 w3 w4 w5 w6 w7 w8 w9 x0 x1:Option Addr} {w x x2 x3 x4 x5 x6 x7 x8 x9 z0 z1 z2 z3 z4 z5 z6:ByteArray} {y z7 z8 z9 aa ab ac ad ae af ag ai aj ak al am:Bool} {z an ao ap aq ar au av aw:Nat→Int} {az ah ba bb bc bd be bf:Value} {bj bk bl bm bn bo bp bq:List Value} {bt bu bv bw bx bz:FuncId} {cb cc cd ce cf cg ci cj ck cl cm cn:Option Nat} {H:Heap} {K KP:Value→Heap→Prop}
theorem qio (h :
 C_i 232 (L_s2 w x) H fun a b=>
 K (I64 a) b):CF 236 ⟨(L_s2 w x)⟩ H K:=cE h
end
end Go.Proofs.YtfmkddccnjidmaaGreatDoor
