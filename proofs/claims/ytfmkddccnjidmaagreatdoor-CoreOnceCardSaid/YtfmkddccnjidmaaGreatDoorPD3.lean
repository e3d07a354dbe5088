/-
  Lemmas for CoreOnce: part 3 of what it rests on. Conditions: none.
-/
import Derived.Test.YtfmkddccnjidmaaGreatDoorPD2
set_option linter.unusedVariables false
set_option linter.unusedSimpArgs false
set_option maxRecDepth 100000
open Go.IntKind (i64 u64 i8 u8 i32 u32 i16 u16)
namespace Go.Nm
theorem z6n (x:Int):0≤u64.wrap x∧u64.wrap x < 18446744073709551616:=by
 simp only [IntKind.wrap,IntKind.bits,IntKind.signed]
 constructor
 ·simp; omega
 ·simp; omega
theorem i64in (x:Int):wf64 (i64.wrap x):=by
 unfold wf64;simp only [IntKind.wrap,IntKind.bits,IntKind.signed];simp;omega
def qvk (v:Int):Int:=q0g .xor .u64 (u64.wrap ((u64.wrap v)*2 ^ (min (Int.toNat 1) (u64.bits)))) (u64.wrap (Int.fdiv v (2 ^ (min (Int.toNat 63) (i64.bits)))))
def qfa (u:Int):Int:=q0g .xor .i64 (i64.wrap (Int.fdiv u (2 ^ (min (Int.toNat 1) (u64.bits))))) (i64.wrap (0 - (i64.wrap (q0g .and .u64 u 1))))
theorem qy3 (v:Int):0≤qvk v∧qvk v < 18446744073709551616:=z6n _
theorem q81 (u:Int):wf64 (qfa u):=i64in _
def turnN (v:Int):Nat:=(qvk v).toNat
theorem qoi (v:Int):(turnN v:Int)=qvk v:=zbl (qy3 v).1
theorem qdt (v:Int):turnN v < 18446744073709551616:=by have h1:=qoi v; have h2:=qy3 v; omega
def q2d (l:List Nat):List Int:=l.flatMap q1m
def q2g (l:List Int):List Int:=l.flatMap fun v=>q1m (turnN v)
def q2m (s:ByteArray):List Int:=q1m s.size++q2j s
def q19 (l:List ByteArray):List Int:=l.flatMap q2m
theorem q0d {a b:List Int}(ha:q04 a)(hb:q04 b):q04 (a++b):=fun x hx=>(za4.1 hx).elim (ha x) (hb x)
theorem q10 {α:Type}{f:α→List Int}{l:List α}(h:∀x∈l,q04 (f x)):q04 (l.flatMap f):=fun x hx=>by
 obtain⟨y,hy,hx⟩:=List.mem_flatMap.1 hx;exact h y hy x hx
theorem q2s:q04 []:=fun x hx=>by cases hx
theorem qac (l:List Nat):q04 (q2d l):=q10 fun _ _=>q6q _
theorem q6w (l:List Int):q04 (q2g l):=q10 fun _ _=>q6q _
theorem q6x (s:ByteArray):q04 (q2m s):=q0d (q6q _) (z59 s)
theorem qs4 (l:List ByteArray):q04 (q19 l):=q10 fun _ _=>q6x _
theorem q82:∀{l:List Nat},(∀u∈l,u < 18446744073709551616)→(q2d l).length≤10*l.length
 | [],_=>by simp [q2d]
 | u::r,h=>by
  have h1:=Go.Proofs.YtfmkddccnjidmaaGreatDoor.uintB_len10 (h u z98);have h2:=q82 (l:=r) fun x hx=>h x (z99 _ hx)
  simp only [q2d,z9w,z8t,z8y] at h2 ⊢;omega
theorem q3x:∀(l:List Int),(q2g l).length≤10*l.length
 | []=>by simp [q2g]
 | v::r=>by
  have h1:=Go.Proofs.YtfmkddccnjidmaaGreatDoor.uintB_len10 (qdt v);have h2:=q3x r;simp only [q2g,z9w,z8t,z8y] at h2 ⊢;omega
theorem q3f {s:ByteArray}(h:s.size < 18446744073709551616):(q2m s).length≤10+s.size:=by
 have:=Go.Proofs.YtfmkddccnjidmaaGreatDoor.uintB_len10 h;rw [q2m,z8t,q4k];omega
theorem q11 {α β:Type}{f:α→List β}{l:List α}{i:Nat}(h:i < l.length):(l.take (i+1)).flatMap f=(l.take i).flatMap f++f l[i]:=by
 rw [List.take_add_one,List.getElem?_eq_getElem h,zbm];simp
def uRes (s:RS):Nat × RS:=if s.e≠0 then (0,s) else match rdU 0 0 s.bs with
 | .ok u n=>(u,⟨0,s.bs.drop n⟩)
 | .form=>(0,⟨10,s.bs⟩)
 | .ended=>(0,⟨15,s.bs⟩)
def iRes (s:RS):Int × RS:=(qfa (uRes s).1,(uRes s).2)
def q21 (s:RS):RS:=if s.bs=[] then s else if s.e≠0 then s else ⟨10,s.bs⟩
theorem qh8 {bs:List Int}(n:Nat)(h:q04 bs):q04 (bs.drop n):=fun x hx=>h x (zaz hx)
theorem q0v {s:RS}(h:q04 s.bs):q04 (uRes s).2.bs:=by
 unfold uRes
 split
 ·exact h
 ·split
  ·exact qh8 _ h
  ·exact h
  ·exact h
theorem q4p (s:RS):(uRes s).2.bs.length≤s.bs.length:=by
 unfold uRes
 split
 ·exact z91 _
 ·split
  ·simp only [z9m]; omega
  ·exact z91 _
  ·exact z91 _
theorem qvl {s:RS}(h:q04 s.bs):(uRes s).1 < 18446744073709551616:=by
 unfold uRes
 split
 ·exact zb7 rfl
 ·split
  ·rename_i u n hu; exact (rdU_size h hu).2.2
  ·exact zb7 rfl
  ·exact zb7 rfl
theorem q83 {s:RS}{m:Int}(h:q04 s.bs):q04 (cRes m s).2.bs:=by
 unfold cRes
 split
 ·exact h
 ·split
  ·split
   ·exact h
   ·exact qh8 _ h
  ·exact h
  ·exact h
theorem qdu (s:RS)(m:Int):(cRes m s).2.bs.length≤s.bs.length:=by
 unfold cRes
 split
 ·exact z91 _
 ·split
  ·split
   ·exact z91 _
   ·simp only [z9m]; omega
  ·exact z91 _
  ·exact z91 _
theorem q2n {s:RS}{m:Int}(h:q04 s.bs):q04 (tRes m s).2.bs∧q04 (tRes m s).1:=by
 unfold tRes
 split
 ·exact⟨h,q2s⟩
 ·split
  ·split
   ·exact⟨h,q2s⟩
   ·split
    ·exact⟨h,q2s⟩
    ·exact⟨qh8 _ h,fun x hx=>qh8 _ h x (zb5 hx)⟩
  ·exact⟨h,q2s⟩
  ·exact⟨h,q2s⟩
theorem q5k (s:RS)(m:Int):(tRes m s).2.bs.length≤s.bs.length∧(tRes m s).1.length≤s.bs.length:=by
 unfold tRes
 split
 ·exact⟨z91 _,z9l _⟩
 ·split
  ·split
   ·exact⟨z91 _,z9l _⟩
   ·split
    ·exact⟨z91 _,z9l _⟩
    ·simp only [z9m,z9d]; omega
  ·exact⟨z91 _,z9l _⟩
  ·exact⟨z91 _,z9l _⟩
end Go.Nm
namespace Go.Proofs.YtfmkddccnjidmaaGreatDoor
open Go.Nm
section
variable {F L:List Assn} {H:Heap} {K:Value→Heap→Prop}
theorem z6o {v:Int}:q1k Tryz.prog 119 #[.int .i64 v] H (.int .u64 (qvk v)):=by
 refine qui ?_;exact⟨by decide,by decide,rfl,rfl⟩
theorem qvm {u:Int}:q1k Tryz.prog 167 #[.int .u64 u] H (.int .i64 (qfa u)):=by
 refine qnq ?_;exact⟨by decide,rfl,rfl⟩
theorem q5c {a:Option Addr}{c:Nat}{us:List Nat}(h:SatL H F)(ha:∀H,SatL H F→rdS H a (us.map fun u=>.int .u64 (u:Nat)))(hu:∀u∈us,u < 18446744073709551616)(hl:us.length≤1000000)
  (k:∀a' c' H',SatL H' (slA 5 1 a' (q2d us).length c' ((q2d us).map U8)::F)→K (.slice a' (q2d us).length c') H') :
  CF 117 #[.slice a us.length c] H K:=by
 refine qqu ?_;refine⟨fun a' n' c' i H'=>∃j:Nat,i=j∧j≤us.length∧n'=(q2d (us.take j)).length∧SatL H' (slA 5 1 a' (q2d (us.take j)).length c' ((q2d (us.take j)).map U8)::F),fun _ _ _ i _=>us.length - i.toNat,
  ⟨0,rfl,z9l _,rfl,h.sl_nil 5 1⟩,?_⟩
 rintro a1 n1 c1 i H1 ⟨j,rfl,hj,rfl,h1⟩;refine⟨fun hc=>?_,fun hc=>?_⟩
 ·have hlt:j < us.length:=by simpa using hc
  have hr:=(ha _ h1.tl).at hlt;refine⟨⟨by omega,by omega⟩,_,_,hr.1,us[j],hr.2,?_⟩;have hw:i64.wrap ((j:Int)+1)=((j+1:Nat):Int):=by rw [w64]; omega
  have e:q2d (us.take (j+1))=q2d (us.take j)++q1m us[j]:=q11 hlt;have hb:(q2d (us.take j)).length≤1099511627776:=by
   have:=q82 (l:=us.take j) fun u hu'=>hu u (zb5 hu')
   rw [z9d] at this;omega
  rw [hw];refine qnw h1 hb (hu _ (z92 hlt)) fun a' c' H' h3=>⟨_,_,_,rfl,⟨j+1,rfl,hlt,by rw [e],?_⟩,by simp only [z8z]; omega⟩
  rw [e]; exact h3
 ·have hge:us.length≤j:=by simpa using hc
  have e:us.take j=us:=z9f hge;rw [e] at h1 ⊢;exact k _ _ _ h1
theorem qs5 {a:Option Addr}{c:Nat}{vs:List Int}(h:SatL H F)(ha:∀H,SatL H F→rdS H a (vs.map fun v=>.int .i64 v))(hl:vs.length≤1000000)
  (k:∀a' c' H',SatL H' (slA 5 1 a' (q2g vs).length c' ((q2g vs).map U8)::F)→K (.slice a' (q2g vs).length c') H') :
  CF 59 #[.slice a vs.length c] H K:=by
 refine qul ?_;refine⟨fun a' n' c' i H'=>∃j:Nat,i=j∧j≤vs.length∧n'=(q2g (vs.take j)).length∧SatL H' (slA 5 1 a' (q2g (vs.take j)).length c' ((q2g (vs.take j)).map U8)::F),fun _ _ _ i _=>vs.length - i.toNat,
  ⟨0,rfl,z9l _,rfl,h.sl_nil 5 1⟩,?_⟩
 rintro a1 n1 c1 i H1 ⟨j,rfl,hj,rfl,h1⟩;refine⟨fun hc=>?_,fun hc=>?_⟩
 ·have hlt:j < vs.length:=by simpa using hc
  have hr:=(ha _ h1.tl).at hlt;refine⟨⟨by omega,by omega⟩,_,_,hr.1,vs[j],hr.2,_,z6o,?_⟩;have hw:i64.wrap ((j:Int)+1)=((j+1:Nat):Int):=by rw [w64]; omega
  have e:q2g (vs.take (j+1))=q2g (vs.take j)++q1m (turnN vs[j]):=q11 hlt;have hb:(q2g (vs.take j)).length≤1099511627776:=by
   have:=q3x (vs.take j);rw [z9d] at this;omega
  rw [hw,← qoi];refine qnw h1 hb (qdt _) fun a' c' H' h3=>⟨_,_,_,rfl,⟨j+1,rfl,hlt,by rw [e],?_⟩,by simp only [z8z]; omega⟩
  rw [e]; exact h3
 ·have hge:vs.length≤j:=by simpa using hc
  have e:vs.take j=vs:=z9f hge;rw [e] at h1 ⊢;exact k _ _ _ h1
theorem qb1 {a:Option Addr}{c:Nat}{ts:List ByteArray}(h:SatL H F)(ha:∀H,SatL H F→rdS H a (ts.map fun s=>.string s))(hs:∀i,(q19 (ts.take i)).length≤1000000000)(hz:∀s∈ts,s.size≤1000000000)(hl:ts.length≤1000000)
  (k:∀a' c' H',SatL H' (slA 5 1 a' (q19 ts).length c' ((q19 ts).map U8)::F)→K (.slice a' (q19 ts).length c') H') :
  CF 132 #[.slice a ts.length c] H K:=by
 refine qqr ?_;refine⟨fun a' n' c' i H'=>∃j:Nat,i=j∧j≤ts.length∧n'=(q19 (ts.take j)).length∧SatL H' (slA 5 1 a' (q19 (ts.take j)).length c' ((q19 (ts.take j)).map U8)::F),fun _ _ _ i _=>ts.length - i.toNat,
  ⟨0,rfl,z9l _,rfl,h.sl_nil 5 1⟩,?_⟩
 rintro a1 n1 c1 i H1 ⟨j,rfl,hj,rfl,h1⟩;refine⟨fun hc=>?_,fun hc=>?_⟩
 ·have hlt:j < ts.length:=by simpa using hc
  have hr:=(ha _ h1.tl).at hlt;have hsz:=hz _ (z92 hlt);refine⟨⟨by omega,by omega⟩,_,_,hr.1,ts[j],hr.2,?_⟩;have hw:i64.wrap ((j:Int)+1)=((j+1:Nat):Int):=by rw [w64]; omega
  have hw2:u64.wrap ((ts[j].size:Nat):Int)=((ts[j].size:Nat):Int):=u64w (by omega) (by omega);have e:q19 (ts.take (j+1))=(q19 (ts.take j)++q1m ts[j].size)++q2j ts[j]:=by
   rw [z93];exact q11 (f:=q2m) hlt
  have hb:=hs j;have hu10:=uintB_len10 (u:=ts[j].size) (by omega);dsimp only;rw [hw,hw2];refine qnw h1 (by omega) (by omega) fun a' c' H' h3=>⟨_,_,_,rfl,?_⟩
  refine h3.appendS sl32 (ts:=9) (by kernel_rfl) 0 rfl (by rw [z8t]; omega) (by rw [z8t]; omega) fun a2 c2 H4 h4=>⟨_,_,_,rfl,⟨j+1,rfl,hlt,?_,?_⟩,by simp only [z8z]; omega⟩
  ·rw [e,z8t (bs:=q2j ts[j]),q4k]
  ·rw [e,z8t (bs:=q2j ts[j]),q4k,z9k (l₂:=q2j ts[j])];exact h4
 ·have hge:ts.length≤j:=by simpa using hc
  have e:ts.take j=ts:=z9f hge;rw [e] at h1 ⊢;exact k _ _ _ h1
theorem q6y {b:Nat}{s:RS}(h:SatL H (crdA b s::F))(hb:q04 s.bs)(hl:s.bs.length≤1099511627776)
  (k:∀H',SatL H' (crdA b (uRes s).2::F)→K (.int .u64 ((uRes s).1:Nat)) H') :
  CF 114 #[.pointer (some ⟨b,0,none⟩)] H K:=by
 obtain⟨e,bs⟩:=s;dsimp only at hb hl;obtain⟨a,c,h⟩:=q1n.1 h;dsimp only at h;have hr:=h.sl_rd 1 rfl;have hn:=h.sl_nc 1 rfl;refine qde ?_;have hq:=qlk (c:=c) hr hb hl
 by_cases he:e=0
 ·subst he
  cases hu:rdU 0 0 bs with
  | ok u n=>
   obtain⟨h1,h2,h3⟩:=rdU_size hb hu;rw [hu] at hq;unfold firV at hq;dsimp only at hq;refine⟨_,_,_,h.r 0,_,_,_,hq,?_⟩;have ec:uRes ⟨0,bs⟩=(u,⟨0,bs.drop n⟩):=by unfold uRes; simp [hu]
   rw [ec] at k;refine quq h h2 hn fun H' h'=>⟨_,rfl,(fun hf=>by cases hf),fun _=>k _ ?_⟩
   have h4:=h'.sl_drop 1 rfl n h2;rw [zah,← List.map_drop] at h4;refine q1n.2 ⟨slB a n c 1,c - n,?_⟩;dsimp only;rw [z9m];exact h4
  | form=>
   rw [hu] at hq;have ec:uRes ⟨0,bs⟩=(0,⟨10,bs⟩):=by unfold uRes; simp [hu]
   rw [ec] at k;refine⟨_,_,_,h.r 0,_,_,_,hq,?_⟩;exact q5j h (by decide) fun H' h'=>⟨_,rfl,fun _=>k _ (q1n.2 ⟨_,_,h'⟩),fun hf=>by cases hf⟩
  | ended=>
   rw [hu] at hq;have ec:uRes ⟨0,bs⟩=(0,⟨15,bs⟩):=by unfold uRes; simp [hu]
   rw [ec] at k;refine⟨_,_,_,h.r 0,_,_,_,hq,?_⟩;exact q5j h (by decide) fun H' h'=>⟨_,rfl,fun _=>k _ (q1n.2 ⟨_,_,h'⟩),fun hf=>by cases hf⟩
 ·have ec:uRes ⟨e,bs⟩=(0,⟨e,bs⟩):=by unfold uRes; simp [he]
  rw [ec] at k;have hv:∃r r1 r2:Int,firV (rdU 0 0 bs)=.tuple #[.int .u64 r,.int .i64 r1,.int .i64 r2]:=by
   unfold firV
   split <;> exact⟨_,_,_,rfl⟩
  obtain⟨r,r1,r2,hv⟩:=hv;rw [hv] at hq;refine⟨_,_,_,h.r 0,_,_,_,hq,?_⟩;exact qh3 h he ⟨_,rfl,fun _=>k _ (q1n.2 ⟨_,_,h⟩),fun hf=>by cases hf⟩
theorem qoj {b:Nat}{s:RS}(h:SatL H (crdA b s::F))(hb:q04 s.bs)(hl:s.bs.length≤1099511627776)
  (k:∀H',SatL H' (crdA b (iRes s).2::F)→K (.int .i64 (iRes s).1) H') :
  CF 101 #[.pointer (some ⟨b,0,none⟩)] H K:=by
 refine qez ?_;exact q6y h hb hl fun H' h'=>⟨_,rfl,_,qvm,k _ h'⟩
theorem qok {b:Nat}{s:RS}(h:SatL H (crdA b s::F))
  (k:∀H',SatL H' (crdA b (q21 s)::F)→K (.int .i64 (q21 s).e) H') :
  CF 50 #[.pointer (some ⟨b,0,none⟩)] H K:=by
 obtain⟨e,bs⟩:=s;obtain⟨a,c,h⟩:=q1n.1 h;dsimp only at h;refine qf0 ?_;refine⟨_,_,_,h.r 0,fun Jn hJ=>⟨fun hc=>?_,fun hc=>?_⟩⟩
 ·have hne:bs≠[]:=by
   rintro rfl
   cases hc
  by_cases he:e=0
  ·subst he;have ec:q21 ⟨0,bs⟩=⟨10,bs⟩:=by unfold q21; simp [hne]
   rw [ec] at k;refine q5j h (by decide) fun H' h'=>⟨_,rfl,hJ _ ?_⟩
   exact⟨_,h'.r 0,k _ (q1n.2 ⟨_,_,h'⟩)⟩
  ·have ec:q21 ⟨e,bs⟩=⟨e,bs⟩:=by unfold q21; simp [hne,he]
   rw [ec] at k;refine qh3 h he ⟨_,rfl,hJ _ ?_⟩;exact⟨_,h.r 0,k _ (q1n.2 ⟨_,_,h⟩)⟩
 ·have he:bs=[]:=by
   cases bs with
   | nil=>rfl
   | cons x r=>exfalso; simp at hc
  have ec:q21 ⟨e,bs⟩=⟨e,bs⟩:=by unfold q21; simp [he]
  rw [ec] at k;refine hJ _ ?_;exact⟨_,h.r 0,k _ (q1n.2 ⟨_,_,h⟩)⟩
end
end Go.Proofs.YtfmkddccnjidmaaGreatDoor
namespace Go.Nm
def wNat (z:Int)(p:Nat):Nat:=if p < 8 then (whi z % B64).toNat / 2 ^ (8*(7 - p)) % 256 else (wlo z).toNat / 2 ^ (8*(15 - p)) % 256
def q3u (z:Int):List Int:=(List.range 16).map fun p=>(wNat z p:Int)
def q84 (z:Int)(t:Nat):List Int:=(List.range 16).map fun p=>if (p≤7∧7 < p+t)∨(8≤p∧15 < p+t) then (wNat z p:Int) else 0
theorem z6p (z:Int)(t:Nat):(q84 z t).length=16:=by simp [q84]
theorem q85 (z:Int):(q3u z).length=16:=by simp [q3u]
theorem qvn (z:Int):q04 (q3u z):=by
 intro x hx;obtain⟨p,_,rfl⟩:=z90.1 hx;unfold wNat
 split <;> omega
theorem z2c (z:Int):q84 z 0=List.replicate 16 0:=by
 refine za9 (by simp [q84]) fun i h1 h2=>?_
 have:i < 16:=by simpa [q84] using h1
 simp only [q84,zaa,zbn,List.getElem_replicate];rw [if_neg (by omega)]
theorem z6q (z:Int):q84 z 8=q3u z:=by
 refine za9 (by simp [q84,q3u]) fun i h1 h2=>?_
 have:i < 16:=by simpa [q84] using h1
 simp only [q84,q3u,zaa,zbn];rw [if_pos (by omega)]
theorem z2d (z:Int){t:Nat}(ht:t < 8):((q84 z t).set (7 - t) (wNat z (7 - t):Int)).set (15 - t) (wNat z (15 - t):Int)=q84 z (t+1):=by
 refine za9 (by simp [q84]) fun i h1 h2=>?_
 have hi:i < 16:=by simpa [q84] using h1
 simp only [List.getElem_set,q84,zaa,zbn]
 by_cases e1:15 - t=i
 ·rw [if_pos e1,if_pos (by omega),e1]
 ·rw [if_neg e1]
  by_cases e2:7 - t=i
  ·rw [if_pos e2,if_pos (by omega),e2]
  ·rw [if_neg e2]
   by_cases e3:(i≤7∧7 < i+t)∨(8≤i∧15 < i+t)
   ·rw [if_pos e3,if_pos (by omega)]
   ·rw [if_neg e3,if_neg (by omega)]
def accB (l:List Int):Nat:=l.foldl (fun a b=>a*256 % 18446744073709551616+b.toNat) 0
theorem q8p (l:List Int)(b:Int):accB (l++[b])=accB l*256 % 18446744073709551616+b.toNat:=by unfold accB; rw [zb6]; rfl
theorem z6r {l:List Int}(h:q04 l):accB l < 18446744073709551616:=by
 rcases List.eq_nil_or_concat l with rfl|⟨r,b,rfl⟩
 ·exact zb7 rfl
 ·rw [zbj] at h ⊢;rw [q8p];have:=h b (by simp);omega
def q5u (bs:List Int):Int:=i64.wrap (accB (bs.take 8):Nat)*B64+(accB (bs.drop 8):Nat)
theorem qy4 {a:Nat}{b:Int}(h0:0≤b)(h1:b < 256):q0g .or .u64 (u64.wrap ((a:Int)*2 ^ (min (Int.toNat 8) (u64.bits)))) (u64.wrap b)=((a*256 % 18446744073709551616+b.toNat:Nat):Int):=by
 have e1:u64.wrap ((a:Int)*2 ^ (min (Int.toNat 8) (u64.bits)))=((a*256 % 18446744073709551616:Nat):Int):=by
  show u64.wrap ((a:Int)*256)=_;rw [u64e]; omega
 have e2:u64.wrap b=((b.toNat:Nat):Int):=by rw [u64e]; omega
 rw [e1,e2,or64 (by omega) (by omega)];congr 1;have hq:a*256 % 18446744073709551616=2 ^ 8*(a % 72057594037927936):=by omega
 rw [hq];exact (Nat.two_pow_add_eq_or_of_lt (by show b.toNat < 256; omega) _).symm
theorem z2e {bs:List Int}(h:q04 bs):whi (q5u bs)=i64.wrap (accB (bs.take 8):Nat)∧wlo (q5u bs)=(accB (bs.drop 8):Nat):=by
 have h1:=z6r (l:=bs.drop 8) fun x hx=>h x (zaz hx)
 unfold q5u whi wlo B64;generalize i64.wrap _=q;omega
theorem qs6 (bs:List Int)(h:q04 bs):q6s (q5u bs):=by
 have h1:=z6r (l:=bs.drop 8) fun x hx=>h x (zaz hx)
 have h2:wf64 (i64.wrap (accB (bs.take 8):Nat)):=qua _;unfold wf64 at h2;unfold q5u q6s B64;omega
end Go.Nm
namespace Go.Proofs.YtfmkddccnjidmaaGreatDoor
open Go.Nm
section
variable {F L:List Assn} {H:Heap} {K:Value→Heap→Prop}
theorem z6s {x:Int}(h0:0≤x){t:Nat}(ht:t < 8):u8.wrap (Int.fdiv x (2 ^ (min (Int.toNat (i64.wrap (8*(t:Int)))) (u64.bits))))=((x.toNat / 2 ^ (8*t) % 256:Nat):Int):=by
 rw [w64 (x:=8*(t:Int))];have e1:min (Int.toNat (8*(t:Int))) u64.bits=8*t:=by show min _ 64=_; omega
 obtain⟨n,rfl⟩:∃n:Nat,x=n:=⟨x.toNat,by omega⟩;rw [e1,z01,u8_of,z8z]
theorem qvo {z:Int}(hz:q6s z)(h:SatL H F)(k:∀a c H',SatL H' (slA 5 1 a 16 c ((q3u z).map U8)::F)→K (.slice a 16 c) H') :
  CF 184 #[aggW z] H K:=by
 refine qre ?_;refine h.al fun b _ h=>?_
 refine SatL.mk1 (c:=16) sl32 (z0:=U8 0) (by kernel_rfl) rfl h (by decide) (by decide) fun a H1 h=>⟨_,_,_,rfl,?_⟩
 have e0:List.replicate 16 (U8 0)=(q84 z 0).map U8:=by rw [z2c]; rfl
 rw [e0] at h;refine⟨fun i H'=>∃t:Nat,i=t∧t≤8∧SatL H' (slA 5 1 a 16 16 ((q84 z t).map U8)::cellsA b [I64 (whi z),.int .u64 (wlo z)] 58::F),fun i _=>8 - i.toNat,⟨0,rfl,by omega,h⟩,?_⟩
 rintro i H2 ⟨t,rfl,ht,h⟩;refine⟨fun hc=>?_,fun hc=>?_⟩
 ·have hlt:t < 8:=by have:=z8s hc; omega
  have hl16:((q84 z t).map U8).length=16:=by rw [z9c,z6p]
  have e7:i64.wrap (7 - (t:Int))=((7 - t:Nat):Int):=by rw [w64]; omega
  have e15:i64.wrap (15 - (t:Int))=((15 - t:Nat):Int):=by rw [w64]; omega
  have e8:i64.wrap (8*(t:Int))=8*(t:Int):=w64;have eu:u64.wrap (whi z)=whi z % B64:=u64e _;have hm:0≤whi z % B64:=by unfold B64; omega
  have q1:(whi z % B64).toNat / 2 ^ (8*t) % 256=wNat z (7 - t):=by unfold wNat; rw [if_pos (by omega),show 7 - (7 - t)=t by omega]
  have q2:(wlo z).toNat / 2 ^ (8*t) % 256=wNat z (15 - t):=by unfold wNat; rw [if_neg (by omega),show 15 - (15 - t)=t by omega]
  refine⟨_,h.r 1,by rw [e8]; omega,?_⟩;rw [eu,z6s hm hlt,q1,e7,e15];obtain⟨s1,s2,s3⟩:=h.sl_set 0 rfl (7 - t) [U8 (wNat z (7 - t))] (by rw [hl16]; simp; omega) (by simp);refine⟨⟨by omega,by omega⟩,_,_,s1,?_⟩;rw [z8z];refine⟨s2,?_⟩;rintro H3 rfl;have h:=s3;refine⟨_,h.r 1,by rw [e8]; omega,⟨by omega,by omega⟩,_,_,s1,?_⟩;rw [z8z,z6s (q5r z).1 hlt,q2];obtain⟨_,t2,t3⟩:=h.sl_set 0 rfl (15 - t) [U8 (wNat z (15 - t))] (by rw [q5o,hl16]; show 15 - t+1≤16; omega) (by simp);refine⟨t2,?_⟩;rintro H4 rfl;rw [show i64.wrap ((t:Int)+1)=((t+1:Nat):Int) by rw [w64]; omega];refine⟨⟨t+1,rfl,hlt,?_⟩,by simp only [z8z]; omega⟩;have es:q1l (q1l ((q84 z t).map U8) (7 - t) [U8 (wNat z (7 - t))]) (15 - t) [U8 (wNat z (15 - t))]=(q84 z (t+1)).map U8:=by
   rw [← z2d z hlt,List.map_set,List.map_set]; rfl
  rw [← es];exact t3
 ·have:t=8:=by have:=z8v hc; omega
  subst this;rw [z6q] at h;exact k _ _ _ (h.o [0] 2)
theorem z2f {a:Option Addr}{c n:Nat}{bs:List Int}(hn:bs.length=n)(hb:q04 bs)(h:SatL H F)(ha:∀H,SatL H F→rdS H a (bs.map U8))(hl:n≤1000000000)
  (k1:n≠16→∀H',SatL H' F→K (.tuple #[aggW 0,.bool false]) H')
  (k2:n=16→∀H',SatL H' F→K (.tuple #[aggW (q5u bs),.bool true]) H'):CF 173 #[.slice a n c] H K:=by
 subst hn;refine qv0 ?_;refine h.al fun b _ h=>⟨fun hc=>?_,fun hc=>?_⟩
 ·have hne:bs.length≠16:=by
   intro e;rw [e] at hc;simp at hc
  refine h.sta 0 rfl rfl fun H1 h=>⟨_,_,h.rda 0 rfl,k1 hne _ h.tl⟩
 ·have he:bs.length=16:=by simp at hc; omega
  refine⟨fun hi lo i H'=>∃t:Nat,i=t∧t≤8∧hi=(accB (bs.take t):Nat)∧lo=(accB ((bs.drop 8).take t):Nat)∧SatL H' (cellsA b [I64 0,.int .u64 0] 58::F),fun _ _ i _=>8 - i.toNat,⟨0,rfl,by omega,rfl,rfl,h⟩,?_⟩
  rintro hi lo i H2 ⟨t,rfl,ht,rfl,rfl,h⟩;refine⟨fun hc2=>?_,fun hc2=>?_⟩
  ·have hlt:t < 8:=by have:=z8s hc2; omega
   have e8:i64.wrap (8+(t:Int))=((8+t:Nat):Int):=by rw [w64]; omega
   have r1:=(ha _ h.tl).at (j:=t) (by omega);have r2:=(ha _ h.tl).at (j:=8+t) (by omega);have b1:=hb _ (z92 (show t < bs.length by omega));have b2:=hb _ (z92 (show 8+t < bs.length by omega));rw [e8];refine⟨by decide,⟨by omega,by omega⟩,_,_,r1.1,_,r1.2,by decide,⟨by omega,by omega⟩,_,_,r2.1,_,r2.2,?_⟩;dsimp only;rw [qy4 b1.1 b1.2,qy4 b2.1 b2.2];rw [show i64.wrap ((t:Int)+1)=((t+1:Nat):Int) by rw [w64]; omega];refine⟨⟨t+1,rfl,hlt,?_,?_,h⟩,by simp only [z8z]; omega⟩
   ·rw [za5 (by omega),q8p]
   ·have hd:t < (bs.drop 8).length:=by rw [z9m]; omega
    rw [za5 hd,q8p,List.getElem_drop]
  ·have:t=8:=by have:=z8v hc2; omega
   subst this;have e2:(bs.drop 8).take 8=bs.drop 8:=z9f (by rw [z9m]; omega);rw [e2];obtain⟨w1,w2⟩:=z2e hb;rw [← w1,← w2];refine h.sta 0 rfl rfl fun H1 h=>⟨_,_,h.rda 0 rfl,k2 he _ h.tl⟩
end
end Go.Proofs.YtfmkddccnjidmaaGreatDoor
namespace Go.Nm
def q7o (h:Nat→Int)(n:Nat):List Nat:=(List.range n).flatMap fun i=>if h i=0 then [] else [i,(h i).toNat]
theorem qfb (h:Nat→Int)(n:Nat):q7o h (n+1)=q7o h n++(if h n=0 then [] else [n,(h n).toNat]):=by
 unfold q7o;rw [List.range_succ,zbm];simp
theorem qdv (h:Nat→Int):∀n,(q7o h n).length≤2*n
 | 0=>by simp [q7o]
 | n+1=>by
  rw [qfb,z8t];have:=qdv h n
  split
  ·simp only [z9j]; omega
  ·simp only [z8y,z9j]; omega
theorem qy5 {h:Nat→Int}(hh:wfH h)(n:Nat)(hn:n≤65):∀u∈q7o h n,u < 18446744073709551616:=by
 intro u hu;obtain⟨i,hi,hu⟩:=List.mem_flatMap.1 hu;have hi:=zac.1 hi;have:=hh i (by omega);unfold wf64 at this
 split at hu
 ·cases hu
 ·rcases z96.1 hu with rfl|hu
  ·omega
  ·rw [z9q] at hu;omega
def q36 (c:Cl):List Int:=if q3e c then q2d [c.n.toNat,c.cer.toNat,c.pos.toNat]++q2g [c.mn,c.mx]++q2m (strB (q3u c.sum))++q2d [(q7o c.h 65).length / 2]++q2d (q7o c.h 65) else []
theorem qfc {c:Cl}(h:q3e c=true):0≤c.n∧0≤c.cer∧0≤c.pos∧(∀i,i < 65→0≤c.h i):=by
 unfold q3e at h;simp only [z8w,z9a,z94,z8x] at h;obtain⟨⟨⟨⟨⟨⟨h1,h2⟩,h3⟩,h4⟩,h5⟩,h6⟩,h7⟩:=h;exact⟨by omega,by omega,by omega,q56.1 h5⟩
theorem qvp (c:Cl):q04 (q36 c):=by
 unfold q36
 split
 ·exact q0d (q0d (q0d (q0d (qac _) (q6w _)) (q6x _)) (qac _)) (qac _)
 ·exact q2s
theorem q4q (l:List Int):(strB l).size=l.length:=Go.strOfNums_size l
theorem qdw {c:Cl}(wc:WC c):(q36 c).length≤5000:=by
 unfold q36
 split
 ·rename_i hr;obtain⟨p1,p2,p3,p4⟩:=qfc hr;have hn:=wc.n; have hc:=wc.cer; have hp:=wc.pos;unfold wf64 at hn hc hp;have l1:(q2d [c.n.toNat,c.cer.toNat,c.pos.toNat]).length≤30:=q82 (by
   intro u hu;simp only [z96,zak,or_false] at hu;omega)
  have l2:=q3x [c.mn,c.mx];have l3:(q2m (strB (q3u c.sum))).length≤26:=by
   have:=q3f (s:=strB (q3u c.sum)) (by rw [q4q,q85]; decide);rw [q4q,q85] at this;omega
  have hfl:=qdv c.h 65;have l4:(q2d [(q7o c.h 65).length / 2]).length≤10:=q82 (by
   intro u hu;simp only [z96,zak,or_false] at hu;omega)
  have l5:=q82 (qy5 wc.h 65 (z91 _));simp only [z8t,z8y,z9j] at *;omega
 ·simp
end Go.Nm
namespace Go.Proofs.YtfmkddccnjidmaaGreatDoor
open Go.Nm
theorem sl285:SlT Tryz.prog 285 56 1 8:=q9n (by kernel_rfl)
abbrev U64 (n:Nat):Value:=.int .u64 (n:Int)
section
variable {F L:List Assn} {H:Heap} {K:Value→Heap→Prop}
theorem qy6 {v:Int}(h0:0≤v)(h:wf64 v):u64.wrap v=((v.toNat:Nat):Int):=by unfold wf64 at h; rw [u64e]; omega
theorem appB {a a2:Option Addr}{n c m c2 i:Nat}{x y:List Int}(h:SatL H L)(hA:nth i L=slA 5 1 a n c (x.map U8))(hn:n=x.length)(hm:y.length=m)(hw:rdS H a2 (y.map U8))(hl:x.length+y.length≤1000000000)
  (k:∀a' c' H',SatL H' (put i (slA 5 1 a' (x++y).length c' ((x++y).map U8)) L)→K (.slice a' (x++y).length c') H') :
  RunW Tryz.prog (Builtin.append_ #[24,24] 24 #[.slice a n c,.slice a2 m c2]) H K:=by
 subst hn hm;refine h.append sl32 i hA hw (by simp) (qle _ _) (by omega) (by omega) fun a' c' H' h=>?_
 have:=k a' c' H';rw [z8t,z9k] at this;exact this h
set_option maxHeartbeats 1000000 in
theorem qvq {c:Cl}(wc:WC c)(h:SatL H F)
  (k:∀a c' H',SatL H' (slA 5 1 a (q36 c).length c' ((q36 c).map U8)::F)→K (.slice a (q36 c).length c') H') :
  CF 133 #[aggC c] H K:=by
 refine qrf ?_;have hcl:=qdw wc;unfold q36 at k hcl;refine h.al fun b _ h=>⟨_,_,_,_,_,_,_,_,h.rda 0 rfl,?_⟩
 refine q6t wc h fun H1 h=>⟨_,rfl,fun hc=>?_,fun hc=>?_⟩
 ·rw [if_neg (by simpa using hc)] at k;exact k none 0 _ (h.tl.sl_nil 5 1)
 have hr:q3e c=true:=by simpa using hc
 rw [if_pos hr] at k hcl;obtain⟨p1,p2,p3,p4⟩:=qfc hr;simp only [z8t] at hcl;have hn:=wc.n; have hce:=wc.cer; have hpo:=wc.pos;refine⟨_,h.r 0,_,h.r 0,_,h.r 0,?_⟩;dsimp only;rw [qy6 p1 hn,qy6 p2 hce,qy6 p3 hpo];unfold wf64 at hn hce hpo;refine h.al fun b1 _ h=>?_
 refine q5c (us:=[c.n.toNat,c.cer.toNat,c.pos.toNat]) h (fun H h=>h.ce_rd 0 rfl) (by
   intro u hu;simp only [z96,zak,or_false] at hu;omega) (by simp) fun a1 c1 H3 h=>⟨_,_,_,rfl,?_⟩
 refine⟨_,h.r 2,_,h.r 2,?_⟩;refine h.al fun b2 _ h=>?_
 refine qs5 (vs:=[c.mn,c.mx]) h (fun H h=>h.ce_rd 0 rfl) (by simp) fun a2 c2 H5 h=>⟨_,_,_,rfl,?_⟩
 refine appB h (i:=2) rfl rfl rfl (h.sl_rd 0 rfl) (by omega) fun a3 c3 H6 h=>⟨_,_,_,rfl,?_⟩
 refine⟨_,_,h.rdv (l:=[_]) (vs:=[_,_]) 4 rfl rfl,?_⟩;refine qvo wc.sum h fun a4 c4 H7 h=>⟨_,_,_,rfl,?_⟩
 have hs:=qdk (c:=c4) (bs:=q3u c.sum) (slB_is (k:=0) (c:=c4) h |> fun hh=>by
  rcases (q3i (F:=star _) h).2 with ⟨h2,_⟩|⟨b,pre,post,e',fr,h2,_⟩
  ·exact .inl h2
  ·exact .inr ⟨_,_,h2⟩) (h.sl_rd 0 rfl)
 rw [q85] at hs;refine⟨_,hs,?_⟩;refine h.al fun b3 _ h=>?_
 have hsz:(strB (q3u c.sum)).size=16:=by rw [q4q,q85]
 have etb:q19 [strB (q3u c.sum)]=q2m (strB (q3u c.sum)):=by simp [q19]
 have htl:(q2m (strB (q3u c.sum))).length≤26:=by have:=q3f (s:=strB (q3u c.sum)) (by omega); omega
 refine qb1 (ts:=[strB (q3u c.sum)]) h (fun H h=>h.ce_rd 0 rfl) (fun i=>by
   rcases zbk i with rfl|hi
   ·simp [q19]
   ·rw [z9f (show [strB (q3u c.sum)].length≤i from hi),etb]; omega) (by intro s hs'; rw [z9q] at hs'; rw [hs',hsz]; decide) (by simp) fun a5 c5 H9 h=>⟨_,_,_,rfl,?_⟩
 rw [etb] at h ⊢;refine appB h (i:=5) rfl rfl rfl (h.sl_rd 0 rfl) (by simp only [z8t]; omega) fun a6 c6 H10 h=>⟨_,_,_,rfl,?_⟩
 refine h.al fun b4 _ h=>⟨c.h,h.rdt (l:=[_,_,_,_,_,_,_]) 8 rfl rfl,?_⟩
 have h:=h.o [0,6] 9;refine qrw h fun fb H12 h=>⟨_,_,rfl,rfl,fun R hR1 hR2 hy=>?_⟩
 have h:=h.rng R;have h:=h.sl_nil 56 1;refine qlu (f:=c.h) (fun j=>exS fun p:Option Addr × Nat=>star [cellsA b4 [.slice p.1 (q7o c.h j).length p.2] 285,slA 56 1 p.1 (q7o c.h j).length p.2 ((q7o c.h j).map U64),pt (H12.size+1) (.loop R)]) (pur False)
  (F:=pt H12.size (.deferred (some []))::slA 5 1 a6 (q2d [c.n.toNat,c.cer.toNat,c.pos.toNat]++q2g [c.mn,c.mx]++q2m (strB (q3u c.sum))).length c6 ((q2d [c.n.toNat,c.cer.toNat,c.pos.toNat]++q2g [c.mn,c.mx]++q2m (strB (q3u c.sum))).map U8)::F) ?_ ?_ ?_ ?_ ?_
 ·exact q0n.2 ⟨(none,0),SatL.shut [_,_,_] (h.o [4,0,1,3,2,5] 6)⟩
 ·intro j hj hz;rw [show q7o c.h (j+1)=q7o c.h j by rw [qfb,if_pos hz,z9o]]
 ·intro j hj hne G H13 K1 h kt _;obtain⟨⟨a,c'⟩,h⟩:=q0n.1 h;have h:=SatL.open (A:=[_,_,_]) h;refine hy _ _ _ ?_;have hfl:=qdv c.h j;have hhj:=wc.h j hj;have hpj:=p4 j hj;refine⟨_,_,rfl,h.getO 2 rfl,h.getO 2 rfl,h.stl 2 rfl fun H14 h=>⟨_,_,_,h.r 0,?_⟩⟩
  rw [qy6 hpj hhj,u64n (show j < 18446744073709551616 by omega)];refine h.al fun b5 _ h=>?_
  refine h.append (m:=2) (ws:=[U64 j,U64 (c.h j).toNat]) sl285 2 rfl (h.ce_rd 0 rfl) rfl rfl (by omega) (by omega) fun a' c'' H16 h=>⟨_,_,_,rfl,?_⟩
  refine h.sta 1 rfl rfl fun H17 h=>⟨h.getO 3 rfl,kt _ ?_⟩
  have h:=h.setO 3 rfl (.loop R);refine q0n.2 ⟨(a',c''),SatL.shut [_,_,_] ?_⟩;rw [qfb,if_neg hne,z8t,z9k];exact h.o [1,2,3] 4
 ·intro H13 h;obtain⟨⟨a,c'⟩,h⟩:=q0n.1 h;have h:=SatL.open (A:=[_,_,_]) h;refine⟨.ready,none,by decide,by rw [q66 hR1 hR2]; exact h.getO 2 rfl,h.stl 2 rfl fun H19 h=>⟨rfl,?_⟩⟩
  refine⟨_,_,_,h.r 0,by decide,?_⟩;have hfl:=qdv c.h 65;have ehalf:u64.wrap (i64.wrap (Int.tdiv ((q7o c.h 65).length:Int) 2))=(((q7o c.h 65).length / 2:Nat):Int):=by
   rw [show Int.tdiv ((q7o c.h 65).length:Int) 2=(((q7o c.h 65).length / 2:Nat):Int) from rfl,w64,u64n (by omega)]
  rw [ehalf];refine h.al fun b6 _ h=>?_
  refine q5c (us:=[(q7o c.h 65).length / 2]) h (fun H h=>h.ce_rd 0 rfl) (by
    intro u hu;rw [z9q] at hu;omega) (by simp) fun a7 c7 H21 h=>⟨_,_,_,rfl,?_⟩
  refine appB h (i:=7) rfl rfl rfl (h.sl_rd 0 rfl) (by simp only [z8t]; omega) fun a8 c8 H22 h=>⟨_,_,_,rfl,?_⟩
  refine⟨_,_,_,h.r 2,?_⟩;refine q5c (us:=q7o c.h 65) h (fun H h=>h.sl_rd 3 rfl) (qy5 wc.h 65 (z91 _)) (by omega) fun a9 c9 H23 h=>⟨_,_,_,rfl,?_⟩
  refine appB h (i:=8) rfl rfl rfl (h.sl_rd 0 rfl) (by simp only [z8t]; omega) fun a10 c10 H24 h=>⟨_,_,_,rfl,h.getO 7 rfl,?_⟩
  have h:=h.setO 7 rfl (.deferred none);exact k _ _ _ (h.o [8] 9)
 ·intro H13 h;exact (SatL.consP h).1.elim
end
end Go.Proofs.YtfmkddccnjidmaaGreatDoor
namespace Go.Nm
abbrev labB (l:Lab):List Int:=q2m l.name++q2m l.value
def serB (name:ByteArray)(labs:List Lab):List Int:=(q2m name++q1m labs.length)++labs.flatMap labB
def serR (name:ByteArray)(labs:List Lab):List Int:=if q3s name labs then serB name labs else []
theorem z2g (name:ByteArray)(labs:List Lab):q04 (serB name labs):=
 q0d (q0d (q6x _) (q6q _)) (q10 fun _ _=>q0d (q6x _) (q6x _))
theorem z2h (name:ByteArray)(labs:List Lab):q04 (serR name labs):=by
 unfold serR; split
 ·exact z2g _ _
 ·exact q2s
theorem z6t (s:ByteArray):q19 [s]=q2m s:=by simp [q19]
theorem qol (n:Nat):q2d [n]=q1m n:=by simp [q2d]
theorem z6u (l:Lab):q19 [l.name,l.value]=labB l:=by simp [q19,labB]
theorem qy7 {l:Lab}(h:q4b l=true):(labB l).length≤148:=by
 have:=q5b h;have h1:=q3f (s:=l.name) (by omega);have h2:=q3f (s:=l.value) (by omega);rw [z8t]; omega
theorem qs7 {labs:List Lab}:(∀l∈labs,q4b l=true)→(labs.flatMap labB).length≤148*labs.length:=by
 induction labs with
 | nil=>intro _; simp
 | cons a l ih=>
  intro h;have h1:=ih fun x hx=>h x (z99 _ hx)
  have h2:=qy7 (h a (z98 ..));rw [z9w,z8t,z8y]; omega
def q3o:Nat→RS→List Lab × RS
 | 0,s=>([],s)
 | n+1,s=>((q3o n s).1++[⟨strB (tRes 64 (q3o n s).2).1,strB (tRes 64 (tRes 64 (q3o n s).2).2).1⟩],(tRes 64 (tRes 64 (q3o n s).2).2).2)
structure SRes where
 name:ByteArray
 labs:List Lab
 e:Int
 rest:RS
def q5d (s:RS):SRes:=
 if (q3o (cRes 8 (tRes 64 s).2).1.toNat (cRes 8 (tRes 64 s).2).2).2.e≠0 then ⟨⟨#[]⟩,[],(q3o (cRes 8 (tRes 64 s).2).1.toNat (cRes 8 (tRes 64 s).2).2).2.e,(q3o (cRes 8 (tRes 64 s).2).1.toNat (cRes 8 (tRes 64 s).2).2).2⟩
 else if q3s (strB (tRes 64 s).1) (q3o (cRes 8 (tRes 64 s).2).1.toNat (cRes 8 (tRes 64 s).2).2).1 then ⟨strB (tRes 64 s).1,(q3o (cRes 8 (tRes 64 s).2).1.toNat (cRes 8 (tRes 64 s).2).2).1,0,(q3o (cRes 8 (tRes 64 s).2).1.toNat (cRes 8 (tRes 64 s).2).2).2⟩
 else ⟨⟨#[]⟩,[],10,(q3o (cRes 8 (tRes 64 s).2).1.toNat (cRes 8 (tRes 64 s).2).2).2⟩
theorem qci {s:RS}(h:q04 s.bs):∀n,q04 (q3o n s).2.bs
 | 0=>h
 | n+1=>(q2n (q2n (qci h n)).1).1
theorem qj5 (s:RS):∀n,(q3o n s).2.bs.length≤s.bs.length
 | 0=>z91 _
 | n+1=>z95 (q5k _ _).1 (z95 (q5k _ _).1 (qj5 s n))
theorem qvr (s:RS):∀n,(q3o n s).1.length=n
 | 0=>rfl
 | n+1=>by unfold q3o; rw [z8t,qvr s n]; rfl
theorem z6v (s:RS):0≤(cRes 8 s).1∧(cRes 8 s).1≤8:=by
 unfold cRes
 split
 ·dsimp only; omega
 ·split
  ·split
   ·dsimp only; omega
   ·dsimp only; omega
  ·dsimp only; omega
  ·dsimp only; omega
theorem qj6 {s:RS}(h:q04 s.bs):q04 (q5d s).rest.bs:=by
 have:=qci (q83 (m:=8) (q2n (m:=64) h).1) (cRes 8 (tRes 64 s).2).1.toNat
 unfold q5d; split
 ·exact this
 ·split <;> exact this
theorem qs8 (s:RS):(q5d s).rest.bs.length≤s.bs.length:=by
 have:=qj5 (cRes 8 (tRes 64 s).2).2 (cRes 8 (tRes 64 s).2).1.toNat
 have h2:=qdu (tRes 64 s).2 8;have h3:=(q5k s 64).1;unfold q5d; split
 ·dsimp only; omega
 ·split <;> dsimp only <;> omega
end Go.Nm
namespace Go.Proofs.YtfmkddccnjidmaaGreatDoor
open Go.Nm
theorem qy8 {name:ByteArray}{labs:List Lab}(h:RightP name labs):(serB name labs).length≤1300:=by
 have h1:=q5a h.named;have h2:=q3f (s:=name) (by omega);have h3:=uintB_len10 (u:=labs.length) (by have:=h.len; omega);have h4:=qs7 h.val;have h5:=h.len;unfold serB;rw [z8t,z8t]; omega
theorem qy9 (name:ByteArray)(labs:List Lab):(serR name labs).length≤1300:=by
 unfold serR; split
 ·rename_i h; exact qy8 (q7f h)
 ·simp
section
variable {F L:List Assn} {H:Heap} {K:Value→Heap→Prop}
theorem qcj {a:Option Addr}{c:Nat}{s:ByteArray}(h:SatL H F)(ha:∀H,SatL H F→rdS H a [.string s])(hs:s.size≤100000000)
  (k:∀a' c' H',SatL H' (slA 5 1 a' (q2m s).length c' ((q2m s).map U8)::F)→K (.slice a' (q2m s).length c') H') :
  CF 132 #[.slice a 1 c] H K:=by
 have hl:=q3f (s:=s) (by omega);refine qb1 (ts:=[s]) h ha (fun i=>?_) (fun x hx=>by rw [z9q] at hx; subst hx; omega) (by simp) ?_
 ·rcases zbk i with rfl|hi
  ·simp [q19]
  ·rw [z9f (show [s].length≤i from hi),z6t]; omega
 ·rw [z6t]; exact k
theorem qvs {name:ByteArray}{a:Option Addr}{c:Nat}{labs:List Lab}(h:SatL H F)(ha:∀H,SatL H F→rdS H a (flat encL labs))
  (k:∀a' c' H',SatL H' (slA 5 1 a' (serR name labs).length c' ((serR name labs).map U8)::F)→K (.slice a' (serR name labs).length c') H') :
  CF 161 #[.agg #[.string name,.slice a labs.length c]] H K:=by
 refine qbh ?_;refine h.al fun b _ h=>?_
 refine⟨_,_,_,_,h.q 0,?_⟩;refine q58 h (fun H h=>ha H h.tl) fun H1 h=>⟨_,rfl,fun hc=>?_,fun hc=>?_⟩
 ·have e:serR name labs=[]:=by unfold serR; rw [if_neg (by simpa using hc)]
  rw [e] at k;exact k none 0 _ (h.tl.sl_nil 5 1)
 ·simp only [z9u] at hc;have hp:=q7f hc;have e:serR name labs=serB name labs:=by unfold serR; rw [if_pos hc]
  rw [e] at k;have h8:=hp.len;have hns:=q5a hp.named;have hbl:=qy8 hp;have ht:=q3f (s:=name) (by omega);have hu:=uintB_len10 (u:=labs.length) (by omega);intro Jn hJ;have hJ':∀(ba:Option Addr) (bc:Nat) H2,SatL H2 (slA 5 1 ba (q2m name++q1m labs.length).length bc ((q2m name++q1m labs.length).map U8)::cellsA b [.string name,.slice a labs.length c] 93::F)→Jn ba (q2m name++q1m labs.length).length bc H2:=by
   intro ba bc H2 h;refine hJ _ _ _ _ ?_;refine⟨_,_,_,h.r 1,?_⟩;refine⟨fun a' n' c' i H'=>∃j:Nat,i=j∧j≤labs.length∧n'=((q2m name++q1m labs.length)++(labs.take j).flatMap labB).length∧
    SatL H' (slA 5 1 a' ((q2m name++q1m labs.length)++(labs.take j).flatMap labB).length c' (((q2m name++q1m labs.length)++(labs.take j).flatMap labB).map U8)::cellsA b [.string name,.slice a labs.length c] 93::F),
    fun _ _ _ i _=>labs.length - i.toNat,⟨0,rfl,by omega,by simp,by simpa using h⟩,?_⟩
   rintro a1 n1 c1 i H1 ⟨j,rfl,hj,rfl,h⟩;refine⟨fun hc=>?_,fun hc=>?_⟩
   ·have hlt:j < labs.length:=by have:=z8s hc; omega
    have hr:=ha _ h.tl.tl;have hv:=q5b (hp.val _ (z92 hlt));have hvl:=qy7 (hp.val _ (z92 hlt));have hfl:=qs7 (labs:=labs.take j) fun l hl=>hp.val l (zb5 hl)
    have htk:(labs.take j).length≤labs.length:=by rw [z9d]; omega
    refine⟨by omega,_,_,hr.some q1b (by omega) hlt,_,_,hr.els q1b hlt,?_⟩;refine h.al fun b2 _ h=>?_
    refine h.st 0 rfl rfl ?_;intro H3 h;refine⟨_,h.r 0,_,h.r 0,?_⟩;refine h.al fun b3 _ h=>?_
    refine qb1 (ts:=[labs[j].name,labs[j].value]) h (fun H h=>h.ce_rd 0 rfl) (fun i=>?_) ?_ (by simp) fun a' c' H4 h=>?_
    ·have:(q19 ([labs[j].name,labs[j].value].take i)).length≤(q19 [labs[j].name,labs[j].value]).length:=by
      have:[labs[j].name,labs[j].value]=[labs[j].name,labs[j].value].take i++[labs[j].name,labs[j].value].drop i:=(zba _ _).symm;rw [show (q19 [labs[j].name,labs[j].value]).length=(q19 ([labs[j].name,labs[j].value].take i++[labs[j].name,labs[j].value].drop i)).length by rw [← this]];unfold q19;rw [zbm,z8t]; omega
     rw [z6u] at this;omega
    ·intro s hs;simp only [z96,zak,or_false] at hs
     rcases hs with rfl|rfl <;> omega
    ·rw [z6u] at h ⊢;refine⟨_,_,_,rfl,?_⟩;refine appB h (i:=3) rfl rfl rfl (h.sl_rd 0 rfl) (by simp only [z8t] at *; omega) fun a3 c3 H6 h=>⟨_,_,_,rfl,?_⟩
     rw [w64 (x:=(j:Int)+1)];have e5:((q2m name++q1m labs.length)++(labs.take (j+1)).flatMap labB)=((q2m name++q1m labs.length)++(labs.take j).flatMap labB)++labB labs[j]:=by
      rw [q11 hlt,z93 _ _ (labB labs[j])]
     refine⟨⟨j+1,by omega,hlt,by rw [e5],?_⟩,by dsimp only; omega⟩;rw [e5];exact h.o [3,4] 5
   ·have hge:labs.length≤j:=by have:=z8v hc; omega
    have e1:labs.take j=labs:=z9f hge;rw [e1] at h ⊢;exact k _ _ _ (h.o [0] 2)
  have hw:u64.wrap ((labs.length:Nat):Int)=((labs.length:Nat):Int):=by rw [u64e]; omega
  refine⟨_,h.r 0,_,_,_,h.r 0,?_⟩;dsimp only;rw [hw];refine⟨?_,?_⟩
  ·refine h.al fun b4 _ h=>⟨h.r 1,?_,?_⟩
   ·refine qcj h (fun H h=>h.ce_rd 0 rfl) (by omega) fun a1 c1 H3 h=>⟨_,_,_,rfl,h.r 2,?_⟩
    refine h.al fun b5 _ h=>?_
    refine q5c (us:=[labs.length]) h (fun H h=>h.ce_rd 0 rfl) (by simp; omega) (by simp) fun a2 c2 H5 h=>⟨_,_,_,rfl,?_⟩
    rw [qol] at h ⊢;refine appB h (i:=2) rfl rfl rfl (h.sl_rd 0 rfl) (by omega) fun a3 c3 H6 h=>⟨_,_,_,rfl,?_⟩
    exact hJ' _ _ _ (h.o [2,4] 5)
   ·refine h.al fun b5 _ h=>?_
    refine qcj h (fun H h=>h.ce_rd 1 rfl) (by omega) fun a1 c1 H3 h=>⟨_,_,_,rfl,?_⟩
    refine q5c (us:=[labs.length]) h (fun H h=>h.ce_rd 1 rfl) (by simp; omega) (by simp) fun a2 c2 H5 h=>⟨_,_,_,rfl,?_⟩
    rw [qol] at h ⊢;refine appB h (i:=1) rfl rfl rfl (h.sl_rd 0 rfl) (by omega) fun a3 c3 H6 h=>⟨_,_,_,rfl,?_⟩
    exact hJ' _ _ _ (h.o [1,4] 5)
  ·refine h.al fun b5 _ h=>⟨h.r 1,?_⟩
   refine h.al fun b4 _ h=>?_
   refine qcj h (fun H h=>h.ce_rd 0 rfl) (by omega) fun a1 c1 H3 h=>⟨_,_,_,rfl,?_⟩
   refine q5c (us:=[labs.length]) h (fun H h=>h.ce_rd 2 rfl) (by simp; omega) (by simp) fun a2 c2 H5 h=>⟨_,_,_,rfl,?_⟩
   rw [qol] at h ⊢;refine appB h (i:=1) rfl rfl rfl (h.sl_rd 0 rfl) (by omega) fun a3 c3 H6 h=>⟨_,_,_,rfl,?_⟩
   exact hJ' _ _ _ (h.o [1,4] 5)
theorem z2i {rb:Nat}{s:RS}(h:SatL H (crdA rb s::F))(hb:q04 s.bs)(hl:s.bs.length≤1099511627776)
  (k:∀a c H',SatL H' (crdA rb (q5d s).rest::slA 267 2 a (q5d s).labs.length c (flat encL (q5d s).labs)::F)→
   K (.tuple #[.agg #[.string (q5d s).name,.slice a (q5d s).labs.length c],I64 (q5d s).e]) H'):CF 160 #[PA rb 0] H K:=by
 refine qrj ?_;refine h.al fun b _ h=>?_
 have h:=h.o [1,0] 2;refine q5q (most:=64) h hb hl (by unfold wf64; decide) fun H1 h=>⟨_,rfl,?_⟩
 have hb1:=(q2n (m:=64) hb).1;have hl1:=(q5k s 64).1;refine h.al fun b1 _ h=>?_
 refine h.st 0 rfl rfl ?_;intro H3 h;have h:=h.o [1,0,2] 3;refine qf1 (most:=8) h hb1 (by omega) (by unfold wf64; decide) fun H4 h=>⟨_,rfl,?_⟩
 have hb2:=q83 (m:=8) hb1;have hl2:=qdu (tRes 64 s).2 8;have hc8:=z6v (tRes 64 s).2;unfold q5d at k;generalize hcr:cRes 8 (tRes 64 s).2=C at *;obtain⟨cn,s1⟩:=C;dsimp only at *;obtain⟨n,rfl⟩:∃n:Nat,cn=n:=⟨cn.toNat,by omega⟩;rw [z8z] at k;refine⟨fun i H'=>∃j:Nat,i=j∧j≤n∧∃a c,SatL H' (crdA rb (q3o j s1).2::slA 267 2 a j c (flat encL (q3o j s1).1)::cellsA b1 [.string (strB (tRes 64 s).1),.slice a j c] 93::cellsA b [.string ⟨#[]⟩,.slice none 0 0] 93::F),
  fun i _=>n - i.toNat,⟨0,rfl,by omega,none,0,((h.sl_nil 267 2).o [1,0,2,3] 4)⟩,?_⟩
 rintro i H1 ⟨j,rfl,hj,a,c,h⟩;have hbj:=qci hb2 j;have hlj:=qj5 s1 j;refine⟨fun hc=>?_,fun hc=>?_⟩
 ·have hlt:j < n:=by have:=z8s hc; omega
  refine q5q (most:=64) h hbj (by omega) (by unfold wf64; decide) fun H2 h=>⟨_,rfl,_,_,_,h.r 2,?_⟩
  have hb3:=(q2n (m:=64) hbj).1;have hl3:=(q5k (q3o j s1).2 64).1;refine q5q (most:=64) h hb3 (by omega) (by unfold wf64; decide) fun H3 h=>⟨_,rfl,h.r 2,?_⟩
  refine h.al fun b2 _ h=>⟨h.r 3,?_⟩
  have hn:=qvr s1 j;refine h.append (m:=1) (ws:=encL ⟨strB (tRes 64 (q3o j s1).2).1,strB (tRes 64 (tRes 64 (q3o j s1).2).2).1⟩) sl91 2 rfl (h.ce_rd 0 rfl) rfl (qf8 _) (by omega) (by omega) fun a' c' H5 h=>⟨_,_,_,rfl,?_⟩
  refine h.st 3 rfl rfl ?_;intro H6 h;rw [w64 (x:=(j:Int)+1)];refine⟨⟨j+1,by omega,hlt,a',c',?_⟩,by dsimp only; omega⟩;have e:flat encL (q3o (j+1) s1).1=flat encL (q3o j s1).1++encL ⟨strB (tRes 64 (q3o j s1).2).1,strB (tRes 64 (tRes 64 (q3o j s1).2).2).1⟩:=by
   show flat encL (_++[_])=_;rw [q0k]; simp [flat]
  rw [e];exact h.o [1,2,3,4] 5
 ·have hge:j=n:=by have:=z8v hc; omega
  subst hge;have hn:=qvr s1 j;refine⟨_,qa5 h,fun he=>?_,fun he=>?_⟩
  ·have he:(q3o j s1).2.e≠0:=by simpa using he
   rw [if_pos he] at k;refine h.st 3 rfl rfl ?_;intro H6 h;refine⟨_,_,_,_,h.q 3,?_⟩;exact k none 0 _ (((h.sl_nil 267 2).o [1,0] 5))
  ·have he:¬(q3o j s1).2.e≠0:=by simpa using he
   rw [if_neg he] at k;refine⟨_,_,_,_,h.q 2,?_⟩;have hL:CF 164 #[.agg #[.string (strB (tRes 64 s).1),.slice a (q3o j s1).1.length c]] H1 (fun u H'=>u=.bool (q3s (strB (tRes 64 s).1) (q3o j s1).1)∧SatL H' (crdA rb (q3o j s1).2::slA 267 2 a j c (flat encL (q3o j s1).1)::cellsA b1 [.string (strB (tRes 64 s).1),.slice a j c] 93::cellsA b [.string ⟨#[]⟩,.slice none 0 0] 93::F)):=
    q58 h (fun H h=>h.sl_rd 1 rfl) fun H' h=>⟨rfl,h⟩
   rw [hn] at hL;refine hL.mono ?_;rintro u H7 ⟨rfl,h⟩;refine⟨_,rfl,fun hr=>?_,fun hr=>?_⟩
   ·rw [if_neg (by simpa using hr)] at k;refine h.st 3 rfl rfl ?_;intro H6 h;refine⟨_,_,_,_,h.q 3,?_⟩;exact k none 0 _ (((h.sl_nil 267 2).o [1,0] 5))
   ·rw [if_pos (by simpa using hr)] at k;refine⟨_,_,_,_,h.q 2,?_⟩;refine h.st 3 rfl rfl ?_;intro H6 h;refine⟨_,_,_,_,h.q 3,?_⟩;have hk:=k a c _ (by dsimp only; rw [hn]; exact h.o [0,1] 4);dsimp only at hk;rw [hn] at hk;exact hk
end
end Go.Proofs.YtfmkddccnjidmaaGreatDoor
namespace Go.Nm
def cutS (c:UInt8)(s:ByteArray):ByteArray × ByteArray × Bool:=
 if 0≤idxU c (lsB s) then (s.extract 0 (idxU c (lsB s)).toNat,s.extract ((idxU c (lsB s)).toNat+1) s.size,true) else (s,⟨#[]⟩,false)
def sufS (c:UInt8)(s:ByteArray):ByteArray × Bool:=
 if decide (1≤s.size) && ((s.extract (s.size - 1) s.size).toList == (⟨#[c]⟩:ByteArray).toList) then (s.extract 0 (s.size - 1),true) else (s,false)
def q4u:Nat→ByteArray→List ByteArray
 | 0,s=>[s]
 | n+1,s=>if idxU 44 (lsB s) < 0 then [s] else s.extract 0 (idxU 44 (lsB s)).toNat::q4u n (s.extract ((idxU 44 (lsB s)).toNat+1) s.size)
def q3y (s:ByteArray):List ByteArray:=q4u s.size s
def z2j (acc:Option (List Lab))(p:ByteArray):Option (List Lab):=match acc with
 | none=>none
 | some labs=>if (cutS 61 p).2.2 && !decide (labs.length=8) then some (labs++[⟨(cutS 61 p).1,(cutS 61 p).2.1⟩]) else none
def q7g (ps:List ByteArray):Option (List Lab):=ps.foldl z2j (some [])
def q6z (t:ByteArray):ByteArray × List Lab × Bool:=
 if (cutS 123 t).2.2 then
  if (sufS 125 (cutS 123 t).2.1).2 then match q7g (q3y (sufS 125 (cutS 123 t).2.1).1) with
   | none=>(⟨#[]⟩,[],false)
   | some labs=>if q3s (cutS 123 t).1 labs then ((cutS 123 t).1,labs,true) else (⟨#[]⟩,[],false)
  else (⟨#[]⟩,[],false)
 else if q3s (cutS 123 t).1 [] then ((cutS 123 t).1,[],true) else (⟨#[]⟩,[],false)
theorem qya (c:UInt8)(s:ByteArray):-1≤idxU c (lsB s)∧idxU c (lsB s) < s.size:=by
 have:=idxU_ge c (lsB s);rw [q57] at this;exact this
theorem z2k (ps:List ByteArray):ps.foldl z2j none=none:=by
 induction ps with
 | nil=>rfl
 | cons p r ih=>exact ih
theorem qvt {ps:List ByteArray}{j:Nat}(h:j < ps.length):q7g (ps.take (j+1))=z2j (q7g (ps.take j)) ps[j]:=by
 unfold q7g;rw [za5 h,zb6]; rfl
theorem qvu {ps:List ByteArray}{j:Nat}(h:q7g (ps.take j)=none):q7g ps=none:=by
 have:ps=ps.take j++ps.drop j:=(zba _ _).symm;rw [this];unfold q7g at h ⊢;rw [zb6,h,z2k]
theorem qj7:∀(n:Nat) (s p:ByteArray),p∈q4u n s→p.size≤s.size
 | 0,s,p,h=>by
  have:p=s:=z9q.1 h;subst this; exact z91 _
 | n+1,s,p,h=>by
  unfold q4u at h
  split at h
  ·have:p=s:=z9q.1 h;subst this; exact z91 _
  ·rcases z96.1 h with h|h
   ·rw [h,ByteArray.size_extract]; omega
   ·have:=qj7 n _ p h;rw [ByteArray.size_extract,Nat.min_self] at this;omega
theorem qlz (n:Nat)(s:ByteArray):q4u n s≠[]:=by
 cases n with
 | zero=>simp [q4u]
 | succ n=>unfold q4u; split <;> simp
end Go.Nm
namespace Go.Proofs.YtfmkddccnjidmaaGreatDoor
open Go.Nm
section
variable {F L:List Assn} {H:Heap} {K:Value→Heap→Prop}
theorem qm0 {s:ByteArray}{c:UInt8}(k:K (I64 (idxU c (lsB s))) H):CF 232 #[.string s,.string ⟨#[c]⟩] H K:=by
 refine qc8 ⟨fun hc=>?_,fun hc=>⟨fun hd=>?_,fun hd=>?_⟩⟩
 ·simp only [z97,z8u] at hc
  rcases hc with hc|hc
  ·exact absurd hc (by show ¬((1:Int)=0); omega)
  ·have e:(⟨#[c]⟩:ByteArray)=s:=ba_ext (by simpa using hc);have:idxU c (lsB s)=0:=by
    rw [← e];show idxU c [c]=0;unfold idxU;simp
   rw [← this]; exact k
 ·refine⟨⟨by omega,by show (0:Int) < 1; omega⟩,?_⟩;refine q4n ⟨_,natIdx,_,rfl,?_⟩;have:(bAt (⟨#[c]⟩:ByteArray) 0).toNat.toUInt8=c:=by
   show ((c.toNat:Int)).toNat.toUInt8=c;simp
  rw [this];exact k
 ·exact absurd (z8v hd) (by show ¬¬((1:Int)=1); omega)
theorem qyb {s:ByteArray}{c:UInt8}(hs:s.size≤1099511627776)(k:K (.tuple #[.string (cutS c s).1,.string (cutS c s).2.1,.bool (cutS c s).2.2]) H) :
  CF 170 #[.string s,.string ⟨#[c]⟩] H K:=by
 refine qo7 (qf4 ?_);refine qm0 ⟨_,rfl,fun hc=>?_,fun hc=>?_⟩
 ·have hc:=z8s hc;have hi:=qya c s;have hw:i64.wrap (idxU c (lsB s)+(((⟨#[c]⟩:ByteArray).size:Nat):Int))=idxU c (lsB s)+1:=by
   show i64.wrap (idxU c (lsB s)+1)=_;rw [w64]
  rw [hw];refine⟨by omega,by omega,_,_,_,rfl,?_⟩;unfold cutS at k;rw [if_pos hc] at k;rw [show (idxU c (lsB s)+1).toNat=(idxU c (lsB s)).toNat+1 by omega];exact k
 ·have hc:=z8v hc;unfold cutS at k;rw [if_neg hc] at k;exact⟨_,_,_,rfl,k⟩
theorem qkq {s:ByteArray}{c:UInt8}(hs:s.size≤1099511627776):q1k Tryz.prog 171 #[.string s,.string ⟨#[c]⟩] H (.tuple #[.string (sufS c s).1,.bool (sufS c s).2]):=by
 have h1:(((⟨#[c]⟩:ByteArray).size:Nat):Int)=1:=rfl;have hw:∀h:1≤s.size,i64.wrap ((s.size:Int) - 1)=((s.size - 1:Nat):Int):=fun h=>by rw [w64]; omega
 refine qcb ⟨_,_,q8k ⟨decide (1≤s.size) && ((s.extract (s.size - 1) s.size).toList == (⟨#[c]⟩:ByteArray).toList),q8j ⟨fun hc=>?_,?_,rfl⟩,fun hc=>?_,fun hc=>?_⟩,rfl,rfl⟩
 ·have hc:=z8s hc;rw [h1] at hc ⊢;rw [hw (by omega)]; omega
 ·rw [h1]
  by_cases hz:1≤s.size
  ·rw [hw hz,z8z,z9b hz,z9b (show (1:Int)≤s.size by omega)]
  ·rw [za8 hz,za8 (show ¬(1:Int)≤s.size by omega),Bool.false_and,Bool.false_and]
 ·unfold sufS;rw [if_neg (by rw [z9a,] at hc; rw [hc]; simp)];exact⟨rfl,rfl⟩
 ·have hc:(decide (1≤s.size) && ((s.extract (s.size - 1) s.size).toList == (⟨#[c]⟩:ByteArray).toList))=true:=by simpa using hc
  have hz:1≤s.size:=by
   rw [z8w] at hc;exact z8s hc.1
  unfold sufS;rw [if_pos hc,h1,hw hz];exact⟨by omega,rfl,rfl⟩
theorem qvv {l c0 c1 c2:Nat}{s:ByteArray}(hs:s.size≤1099511627776)(A:Nat→Assn)(Ax:Nat→Assn)
  (h:SatL H (A 0::cellsA c0 [.string ⟨#[44]⟩] 9::cellsA c1 [.string s] 9::cellsA c2 [I64 0] 3::F))
  (hy:∀j (hj:j < (q3y s).length) (G:List Assn) (H1:Heap) (K1:Value→Heap→Prop),SatL H1 (A j::G)→(∀H2,SatL H2 (A (j+1)::G)→K1 (.bool true) H2)→(∀H2,SatL H2 (Ax j::G)→K1 (.bool false) H2)→
   q4g Tryz.prog l [.string (q3y s)[j]] H1 K1)
  (k:∀H',SatL H' (A (q3y s).length::F)→K (.tuple #[]) H')
  (kx:∀j H',j < (q3y s).length→SatL H' (Ax j::F)→K (.tuple #[]) H') :
  CF 234 #[.func (.yield l) #[] #[],PA c0 0,PA c1 0,PA c2 0] H K:=by
 refine qbf ?_;refine⟨_,h.r 1,fun hc=>absurd (z8s hc) (by show ¬((1:Int)=0); omega),fun hc=>?_⟩
 refine⟨fun H'=>∃(j n:Nat) (r:ByteArray),j < (q3y s).length∧(q3y s).drop j=q4u n r∧r.size≤n∧n≤s.size∧SatL H' (A j::cellsA c0 [.string ⟨#[44]⟩] 9::cellsA c1 [.string r] 9::cellsA c2 [I64 0] 3::F),
  fun H'=>match q02 H' c1 0 with|some (.string r)=>r.size|_=>0,⟨0,s.size,s,List.length_pos_iff.2 (qlz _ _),rfl,z91 _,z91 _,h⟩,?_⟩
 rintro H1 ⟨j,n,r,hjl,hd,hr,hn,h⟩;have hmu:=h.rd 2 rfl 0;refine⟨_,h.r 2,_,h.r 1,?_⟩;have hi:=qya 44 r;have hdj:(q3y s)[j]=(q4u n r)[0]'(by rw [← hd,z9m]; omega):=by
  simp only [← hd,List.getElem_drop,zap]
 refine qiw (qm0 ⟨_,rfl,_,rfl,fun hc=>?_,fun hc=>?_⟩)
 ·have hc:=z8s hc;have e:q4u n r=[r]:=by
   cases n with
   | zero=>rfl
   | succ n=>unfold q4u; rw [if_pos hc]
  have hlen:(q3y s).length=j+1:=by
   have:=congrArg List.length hd;rw [e,z9m] at this;simp at this;omega
  have e0:(q3y s)[j]=r:=by rw [hdj]; simp only [e]; rfl
  refine⟨_,h.r 2,?_⟩;have hy':=hy j hjl (cellsA c0 [.string ⟨#[44]⟩] 9::cellsA c1 [.string r] 9::cellsA c2 [I64 0] 3::F) H1 (fun u3 H_6=>∃r4,u3=.bool r4∧K (.tuple #[]) H_6) h
   (fun H2 h=>⟨true,rfl,k _ (by rw [hlen]; exact h.o [0] 4)⟩)
   (fun H2 h=>⟨false,rfl,kx j _ hjl (h.o [0] 4)⟩)
  rw [e0] at hy';exact hy'
 ·have hc:=z8v hc;have hn0:∃m,n=m+1:=⟨n - 1,by omega⟩;obtain⟨m,rfl⟩:=hn0;have e:q4u (m+1) r=r.extract 0 (idxU 44 (lsB r)).toNat::q4u m (r.extract ((idxU 44 (lsB r)).toNat+1) r.size):=by
   show (if _ then _ else _)=_
   rw [if_neg hc]
  have hw:i64.wrap (idxU 44 (lsB r)+0)=idxU 44 (lsB r):=by rw [w64]; omega
  have hw1:i64.wrap (idxU 44 (lsB r)+(((⟨#[44]⟩:ByteArray).size:Nat):Int))=idxU 44 (lsB r)+1:=by
   show i64.wrap (idxU 44 (lsB r)+1)=_;rw [w64]
  have e0:(q3y s)[j]=r.extract 0 (idxU 44 (lsB r)).toNat:=by rw [hdj]; simp only [e]; rfl
  have hd2:(q3y s).drop (j+1)=q4u m (r.extract ((idxU 44 (lsB r)).toNat+1) r.size):=by
   rw [← List.drop_drop,hd,e]; rfl
  have hl2:j+1 < (q3y s).length:=by
   have h1:=List.length_pos_iff.2 (qlz m (r.extract ((idxU 44 (lsB r)).toNat+1) r.size));rw [← hd2,z9m] at h1;omega
  refine⟨_,h.r 2,_,h.r 3,?_⟩;dsimp only;rw [hw];refine⟨by omega,?_⟩;have hy':=hy j hjl (cellsA c0 [.string ⟨#[44]⟩] 9::cellsA c1 [.string r] 9::cellsA c2 [I64 0] 3::F) H1;rw [e0] at hy';refine hy' _ h (fun H2 h=>⟨true,rfl,fun hf=>absurd hf (by simp),fun _=>?_⟩) (fun H2 h=>⟨false,rfl,fun _=>kx j _ hjl (h.o [0] 4),fun hf=>absurd hf (by simp)⟩)
  refine⟨_,h.r 2,_,h.r 1,?_⟩;dsimp only;rw [hw1];refine⟨by omega,?_⟩;have hsz:(r.extract ((idxU 44 (lsB r)).toNat+1) r.size).size=r.size - ((idxU 44 (lsB r)).toNat+1):=by
   rw [ByteArray.size_extract,Nat.min_self]
  refine h.st 2 rfl rfl ?_;intro H3 h;rw [show (idxU 44 (lsB r)+1).toNat=(idxU 44 (lsB r)).toNat+1 by omega] at h;refine⟨⟨j+1,m,_,hl2,hd2,by omega,by omega,h⟩,?_⟩;have hmu2:=h.rd 2 rfl 0;rw [hmu,hmu2];show ByteArray.size _ < ByteArray.size _;rw [hsz]; omega
set_option maxHeartbeats 2000000 in
theorem qvw {t:ByteArray}(ht:t.size≤1099511627776)(h:SatL H F)
  (k:∀a c H',SatL H' (slA 267 2 a (q6z t).2.1.length c (flat encL (q6z t).2.1)::F)→K (.tuple #[.agg #[.string (q6z t).1,.slice a (q6z t).2.1.length c],.bool (q6z t).2.2]) H') :
  CF 112 #[.string t] H K:=by
 refine qo9 ?_;refine h.al fun b _ h=>?_
 refine h.al fun b1 _ h=>?_
 refine qyb ht ⟨_,_,_,rfl,?_⟩;refine h.al fun b2 _ h=>?_
 refine h.st 0 rfl rfl ?_;intro H1 h;have hcs:(cutS 123 t).2.1.size≤t.size:=by
  unfold cutS; split
  ·dsimp only; rw [ByteArray.size_extract]; omega
  ·exact z9l _
 unfold q6z at k;generalize hC:cutS 123 t=C at *;obtain⟨nm,rest,ok⟩:=C;dsimp only at *;refine⟨fun hc=>?_,fun hc=>?_⟩
 ·subst hc;rw [if_pos rfl] at k;refine⟨_,_,qkq (by omega),fun hc=>?_,fun hc=>?_⟩
  ·rw [if_neg (by simpa using hc)] at k;refine h.st 2 rfl rfl ?_;intro H2 h;refine h.st 1 rfl rfl ?_;intro H3 h;refine⟨_,_,_,_,h.q 2,_,h.r 1,?_⟩;exact k none 0 _ ((h.sl_nil 267 2).o [0] 4)
  ·rw [if_pos (by simpa using hc)] at k;have hfs:(sufS 125 rest).1.size≤rest.size:=by
    unfold sufS; split
    ·dsimp only; rw [ByteArray.size_extract]; omega
    ·exact z91 _
   generalize hf:(sufS 125 rest).1=f at *;refine qdo (qdm ?_);refine h.al fun c1 _ h=>?_
   refine h.al fun c0 _ h=>?_
   refine h.al fun c2 H7 h=>⟨_,_,rfl,_,_,rfl,rfl,fun R hR1 hR2 hy=>?_⟩
   have h:=h.rng R;refine qvv (s:=f) (by omega)
    (fun j=>exS fun p:(Option Addr × Nat) × List Lab=>star [cellsA b2 [.string nm,.slice p.1.1 p.2.length p.1.2] 93,slA 267 2 p.1.1 p.2.length p.1.2 (flat encL p.2),cellsA b1 [.bool false] 4,cellsA b [.string ⟨#[]⟩,.slice none 0 0] 93,pt (H7.size+1) (.loop R),pur (q7g ((q3y f).take j)=some p.2∧p.2.length≤8)])
    (fun j=>star [cellsA b1 [.bool false] 4,cellsA b [.string ⟨#[]⟩,.slice none 0 0] 93,pt (H7.size+1) (.loop { R with state:=.done,pending:=some .ret }),pur (q7g ((q3y f).take (j+1))=none)])
    (F:=pt H7.size (.deferred (some []))::F) ?_ ?_ ?_ ?_
   ·refine q0n.2 ⟨((none,0),[]),SatL.shut [_,_,_,_,_,_] ?_⟩;exact ((h.sl_nil 267 2).pur (p:=q7g ((q3y f).take 0)=some []∧([]:List Lab).length≤8) ⟨rfl,by simp⟩).o [7,1,8,9,2,0,5,6,4,3] 10
   ·intro j hj G H8 K1 h kt kf;obtain⟨⟨⟨a,c⟩,labs⟩,h⟩:=q0n.1 h;have h:=SatL.open (A:=[_,_,_,_,_,_]) h;have hp:=(SatL.consP (h.o [5,0,1,2,3,4] 6)).1;dsimp only at h;have hps:=qj7 f.size f _ (z92 (l:=q3y f) hj);have hpt:=qvt hj;rw [hp.1] at hpt;dsimp only at hp;unfold z2j at hpt;dsimp only at hpt;refine hy _ _ _ ?_;refine⟨_,rfl,h.getO 4 rfl,h.getO 4 rfl,h.stl 4 rfl fun H9 h=>?_⟩
    refine qyb (by omega) ?_;generalize cutS 61 (q3y f)[j]=D at *;obtain⟨d1,d2,d3⟩:=D;dsimp only at hpt ⊢;refine⟨_,_,_,rfl,a,labs.length,c,fun _=>h.r 0,fun hc=>?_,fun hc=>?_⟩
    ·rw [if_neg (by
      intro e;simp only [z8w,z9a,z8x] at e;simp only [z97,z9a,z8u] at hc
      rcases hc with hc|hc
      ·rw [hc] at e; simp at e
      ·omega)] at hpt
     refine h.st 3 rfl rfl ?_;intro H10 h;refine h.st 2 rfl rfl ?_;intro H11 h;refine⟨h.getO 4 rfl,kf _ ?_⟩;have h:=h.setO 4 rfl (.loop { R with state:=.done,pending:=some .ret });refine SatL.shut [_,_,_,_] ?_;exact (h.pur hpt).o [3,4,5,0] 7
    ·simp only [z94,z9u,z8x] at hc;rw [if_pos (by
      simp only [z8w,z9a,z8x];exact⟨hc.1,by omega⟩)] at hpt
     refine⟨_,_,_,h.r 0,?_⟩;refine h.al fun b3 _ h=>?_
     refine h.append (m:=1) (ws:=encL ⟨d1,d2⟩) sl91 2 rfl (h.ce_rd 0 rfl) rfl (qf8 _) (by omega) (by omega) fun a' c' H14 h=>⟨_,_,_,rfl,?_⟩
     refine h.st 1 rfl rfl ?_;intro H15 h;refine⟨h.getO 5 rfl,kt _ ?_⟩;have h:=h.setO 5 rfl (.loop R);refine q0n.2 ⟨((a',c'),labs++[⟨d1,d2⟩]),SatL.shut [_,_,_,_,_,_] ?_⟩;have e:flat encL (labs++[⟨d1,d2⟩])=flat encL labs++encL ⟨d1,d2⟩:=by
      rw [q0k]; simp [flat]
     dsimp only;rw [e,z8t];exact (h.pur (p:=q7g ((q3y f).take (j+1))=some (labs++[⟨d1,d2⟩])∧labs.length+[(⟨d1,d2⟩:Lab)].length≤8) ⟨hpt,by simp; omega⟩).o [2,3,4,5,6,0] 8
   ·intro H8 h;obtain⟨⟨⟨a,c⟩,labs⟩,h⟩:=q0n.1 h;have h:=SatL.open (A:=[_,_,_,_,_,_]) h;have hp:=(SatL.consP (h.o [5,0,1,2,3,4] 6)).1;rw [zab] at hp;rw [hp.1] at k;dsimp only at h k;refine⟨.ready,none,by decide,by rw [q66 hR1 hR2]; exact h.getO 4 rfl,h.stl 4 rfl fun H9 h=>.inl ⟨rfl,?_⟩⟩
    refine⟨_,_,_,_,h.q 0,?_⟩;refine q58 h (fun H h=>h.sl_rd 1 rfl) fun H10 h=>⟨_,rfl,fun hc=>?_,fun hc=>?_⟩
    ·rw [if_neg (by simpa using hc)] at k;refine h.st 3 rfl rfl ?_;intro H11 h;refine h.st 2 rfl rfl ?_;intro H12 h;refine⟨h.getO 6 rfl,?_⟩;have h:=h.setO 6 rfl (.deferred none);refine⟨_,_,_,_,h.q 3,_,h.r 2,?_⟩;exact k none 0 _ ((h.sl_nil 267 2).o [0] 8)
    ·rw [if_pos (by simpa using hc)] at k;refine⟨_,_,_,_,h.q 0,?_⟩;refine h.st 3 rfl rfl ?_;intro H11 h;refine h.st 2 rfl rfl ?_;intro H12 h;refine⟨h.getO 6 rfl,?_⟩;have h:=h.setO 6 rfl (.deferred none);refine⟨_,_,_,_,h.q 3,_,h.r 2,?_⟩;exact k a c _ (h.o [1] 7)
   ·intro j H8 hj h;have h:=SatL.open (A:=[_,_,_,_]) h;have hp:=(SatL.consP (h.o [3,0,1,2] 4)).1;rw [qvu hp] at k;refine⟨.done,some .ret,by decide,h.getO 2 rfl,h.stl 2 rfl fun H9 h=>.inr ⟨rfl,h.getO 4 rfl,?_⟩⟩
    have h:=h.setO 4 rfl (.deferred none);refine⟨_,_,_,_,h.q 1,_,h.r 0,?_⟩;exact k none 0 _ ((h.sl_nil 267 2).o [0] 6)
 ·subst hc;rw [if_neg (by simp)] at k;refine⟨_,_,_,_,h.q 0,?_⟩;refine q58 (labs:=[]) h (fun H h=>q9p H none) fun H10 h=>⟨_,rfl,fun hc=>?_,fun hc=>?_⟩
  ·rw [if_neg (by simpa using hc)] at k;refine h.st 2 rfl rfl ?_;intro H11 h;refine h.st 1 rfl rfl ?_;intro H12 h;refine⟨_,_,_,_,h.q 2,_,h.r 1,?_⟩;exact k none 0 _ ((h.sl_nil 267 2).o [0] 4)
  ·rw [if_pos (by simpa using hc)] at k;refine⟨_,_,_,_,h.q 0,?_⟩;refine h.st 2 rfl rfl ?_;intro H11 h;refine h.st 1 rfl rfl ?_;intro H12 h;refine⟨_,_,_,_,h.q 2,_,h.r 1,?_⟩;exact k none 0 _ ((h.sl_nil 267 2).o [0] 4)
end
end Go.Proofs.YtfmkddccnjidmaaGreatDoor
namespace Go.Nm
def evOk (e:Ev):Bool:=decide (0≤e.stamp) && decide (e.stamp≤4611686018427387903) && q3s e.name e.labs
def q7h (next:Int)(evs:List Ev):Bool:=decide (1≤evs.length) && decide (evs.length≤64) && decide (next≤1099511627776 - evs.length) && evs.all evOk
structure EvRd (F:List Assn)(a:Option Addr)(evs:List Ev):Prop where
 rd:∀H,SatL H F→rdS H a (flat encV evs)
 labs:∀e∈evs,∀H,SatL H F→rdS H e.la (flat encL e.labs)
theorem EvRd.cons {F:List Assn}{a:Option Addr}{evs:List Ev}(h:EvRd F a evs)(A:Assn):EvRd (A::F) a evs:=
 ⟨fun H hh=>h.rd H hh.tl,fun e he H hh=>h.labs e he H hh.tl⟩
end Go.Nm
namespace Go.Proofs.YtfmkddccnjidmaaGreatDoor
open Go.Nm
theorem qck (x:ByteArray):qds x x=0:=by
 unfold qds;have h:Op.bytesLess x.toList x.toList=false:=by
  have:=ltKy ⟨0,x⟩ ⟨0,x⟩
  cases e:Op.bytesLess x.toList x.toList
  ·rfl
  ·exfalso;have h1:=(z1t ⟨0,x⟩ ⟨0,x⟩).1 (by rw [this,e]; simp)
   rcases h1 with h1|⟨-,h1⟩
   ·exact absurd h1 (by show ¬(0:Int) < 0; omega)
   ·exact List.lt_irrefl _ h1
 rw [h]; simp
section
variable {F L:List Assn} {H:Heap} {K:Value→Heap→Prop}
theorem qj8 {x y:ByteArray}:q1k Tryz.prog 183 #[.string x,.string y] H (I64 (qds x y)):=by
 intro w hw;subst hw;refine q0s (cmp183 x y w) ?_;rintro e w' ⟨rfl,rfl⟩;exact⟨_,rfl,⟨rfl,rfl,rfl⟩,rfl,rfl⟩
theorem qyc {b:Nat}{x y:Int}(h:SatL H F)(i:Nat)(hA:nth i F=cellsA b [I64 x,I64 y] 3):q1k Tryz.prog 229 #[.slice (some ⟨b,0,none⟩) 2 2] H (I64 (if x≠0 then x else y)):=by
 refine qqj ?_;refine⟨fun i H'=>H'=H∧(i=0∨i=1∧x=0∨i=2∧x=0∧y=0),fun i _=>2 - i.toNat,⟨rfl,.inl rfl⟩,?_⟩
 rintro j H1 ⟨rfl,hj⟩;refine⟨fun hc=>?_,fun hc=>?_⟩
 ·have hc:=z8s hc;refine⟨by omega,b,0,rfl,?_⟩
  rcases hj with rfl|⟨rfl,hx⟩|⟨rfl,_⟩
  ·refine⟨x,h.rd i hA 0,fun hv=>?_,fun hv=>?_⟩
   ·rw [if_pos (by simpa using hv)]; exact⟨rfl,rfl⟩
   ·exact⟨⟨rfl,.inr (.inl ⟨rfl,by simpa using hv⟩)⟩,by dsimp only; decide⟩
  ·refine⟨y,h.rd i hA 1,fun hv=>?_,fun hv=>?_⟩
   ·rw [if_neg (by simpa using hx)]; exact⟨rfl,rfl⟩
   ·exact⟨⟨rfl,.inr (.inr ⟨rfl,hx,by simpa using hv⟩)⟩,by dsimp only; decide⟩
  ·exact absurd hc (by decide)
 ·have hc:=z8v hc;have h2:x=0∧y=0:=by
   rcases hj with rfl|⟨rfl,hx⟩|⟨rfl,hx⟩
   ·exact absurd (by decide) hc
   ·exact absurd (by decide) hc
   ·exact hx
  rw [h2.1,h2.2];exact⟨rfl,rfl⟩
theorem z2l {l:Lab}(h:SatL H F)(k:∀H',SatL H' F→K (I64 0) H'):CF 266 #[.agg #[.string l.name,.string l.value],.agg #[.string l.name,.string l.value]] H K:=by
 refine qbe ?_;refine h.al fun b _ h=>?_
 refine h.al fun b1 _ h=>⟨_,h.r 1,_,h.r 0,_,qj8,?_⟩
 rw [qck];exact k _ h.tl.tl
theorem z6w {l:Lab}(h:SatL H F)(k:∀H',SatL H' F→K (I64 0) H'):CF 231 #[.agg #[.string l.name,.string l.value],.agg #[.string l.name,.string l.value]] H K:=by
 refine qit ?_;refine h.al fun b _ h=>?_
 refine h.al fun b1 _ h=>⟨_,_,h.q 1,_,_,h.q 0,_,h.r 1,_,h.r 0,?_⟩
 refine z2l h fun H2 h=>⟨_,rfl,h.r 0,h.r 1,_,qj8,?_⟩
 rw [qck];refine h.al fun b2 _ h=>⟨_,qyc h 0 rfl,?_⟩
 exact k _ h.tl.tl.tl
theorem z6x {a:Option Addr}{c c':Nat}{labs:List Lab}(h:SatL H F)(ha:∀H,SatL H F→rdS H a (flat encL labs))(hl:labs.length≤1000000)(k:∀H',SatL H' F→K (I64 0) H') :
  CF 230 #[.slice a labs.length c,.slice a labs.length c',.func (.func 231) #[] #[]] H K:=by
 refine q77 ?_;refine⟨fun i H'=>∃j:Nat,i=j∧j≤labs.length∧SatL H' F,fun i _=>labs.length - i.toNat,⟨0,rfl,by omega,h⟩,?_⟩
 rintro i H1 ⟨j,rfl,hj,h⟩;refine⟨fun hc=>?_,fun hc=>⟨fun hc=>absurd (z8s hc) (by omega),fun _=>k _ h⟩⟩
 have hlt:j < labs.length:=by have:=z8s hc; omega
 have hr:=ha _ h;refine⟨by omega,_,_,hr.some q1b (by omega) hlt,_,_,hr.els q1b hlt,?_⟩;refine h.al fun b _ h=>?_
 refine h.st 0 rfl rfl ?_;intro H2 h;have hr:=ha _ h.tl;refine⟨fun hc=>absurd (z8s hc) (by omega),fun _=>⟨by omega,_,_,hr.some q1b (by omega) hlt,_,_,hr.els q1b hlt,?_⟩⟩
 refine h.al fun b1 _ h=>?_
 refine h.st 0 rfl rfl ?_;intro H3 h;refine⟨_,_,h.q 1,_,_,h.q 0,rfl,?_⟩;refine z6w (l:=labs[j]) h fun H4 h=>⟨_,rfl,fun hc=>absurd hc (by simp),fun _=>?_⟩
 rw [w64 (x:=(j:Int)+1)];exact⟨⟨j+1,by omega,hlt,h.tl.tl⟩,by dsimp only; omega⟩
theorem qdx {name:ByteArray}{a:Option Addr}{c c':Nat}{labs:List Lab}(h:SatL H F)(ha:∀H,SatL H F→rdS H a (flat encL labs))(hl:labs.length≤1000000)(k:∀H',SatL H' F→K (I64 0) H') :
  CF 207 #[.agg #[.string name,.slice a labs.length c],.agg #[.string name,.slice a labs.length c']] H K:=by
 refine qiu ?_;refine h.al fun b _ h=>?_
 refine h.al fun b1 _ h=>⟨_,h.r 1,_,h.r 0,_,qj8,_,_,_,h.r 1,_,_,_,h.r 0,?_⟩
 rw [qck];refine z6x h (fun H h=>ha H h.tl.tl) hl fun H2 h=>⟨_,rfl,?_⟩
 refine h.al fun b2 _ h=>⟨_,qyc h 0 rfl,?_⟩
 exact k _ h.tl.tl.tl
theorem z2m {e:Ev}(h:SatL H F)(ha:∀H,SatL H F→rdS H e.la (flat encL e.labs))(hl:e.labs.length≤1000000)(k:∀H',SatL H' F→K (.bool true) H'):CF 206 #[aggV e,aggV e] H K:=by
 refine qdn ?_;refine h.al fun b _ h=>?_
 refine h.al fun b1 _ h=>?_
 intro Jn hJ;have e1:(decide (e.stamp=e.stamp) && decide (e.value=e.value))=true:=by simp
 refine⟨_,h.r 1,_,h.r 0,_,fun _=>h.r 1,_,fun _=>h.r 0,_,_,_,_,fun _=>h.q 1,_,_,_,_,fun _=>h.q 0,fun _=>?_,fun hn=>absurd e1 hn⟩
 refine qdx h (fun H h=>ha H h.tl.tl) hl fun H2 h=>⟨_,rfl,hJ _ _ ?_⟩
 exact k _ h.tl.tl
theorem EqF_self {a:Option Addr}{c c':Nat}{evs:List Ev}(h:SatL H F)(ha:EvRd F a evs)(hl:evs.length≤1000000)(hll:∀e∈evs,e.labs.length≤1000000)(k:∀H',SatL H' F→K (.bool true) H') :
  CF 205 #[.slice a evs.length c,.slice a evs.length c',.func (.func 206) #[] #[]] H K:=by
 refine q7x ?_;refine⟨fun hc=>absurd hc (by simp),fun _=>?_⟩
 refine⟨fun i H'=>∃j:Nat,i=j∧j≤evs.length∧SatL H' F,fun i _=>evs.length - i.toNat,⟨0,rfl,by omega,h⟩,?_⟩
 rintro i H1 ⟨j,rfl,hj,h⟩;refine⟨fun hc=>?_,fun hc=>k _ h⟩
 have hlt:j < evs.length:=by have:=z8s hc; omega
 have hr:=ha.rd _ h;refine⟨by omega,_,_,hr.some q0t (by omega) hlt,_,_,_,_,_,_,hr.els q0t hlt,?_⟩;refine h.al fun b _ h=>?_
 refine h.st 0 rfl rfl ?_;intro H2 h;have hr:=ha.rd _ h.tl;refine⟨by omega,_,_,hr.some q0t (by omega) hlt,_,_,_,_,_,_,hr.els q0t hlt,?_⟩;refine h.al fun b1 _ h=>?_
 refine h.st 0 rfl rfl ?_;intro H3 h;refine⟨_,_,_,_,_,_,h.q 1,_,_,_,_,_,_,h.q 0,rfl,?_⟩;refine z2m (e:=evs[j]) h (fun H h=>ha.labs _ (z92 hlt) H h.tl.tl) (hll _ (z92 hlt)) fun H4 h=>⟨_,rfl,fun hc=>absurd hc (by simp),fun _=>?_⟩
 rw [w64 (x:=(j:Int)+1)];exact⟨⟨j+1,by omega,hlt,h.tl.tl⟩,by dsimp only; omega⟩
theorem z2n {next:Int}{a:Option Addr}{c:Nat}{evs:List Ev}(h:SatL H F)(ha:EvRd F a evs)(hl:evs.length≤1099511627776)(k:∀H',SatL H' F→K (.bool (q7h next evs)) H') :
  CF 163 #[I64 next,.slice a evs.length c] H K:=by
 refine qo8 ?_;have hw:i64.wrap (1099511627776 - (evs.length:Int))=1099511627776 - (evs.length:Int):=w64;rw [hw];refine⟨fun hc=>?_,fun hc=>?_⟩
 ·have:q7h next evs=false:=by
   simp only [z97,z8u] at hc
   cases e:q7h next evs
   ·rfl
   ·unfold q7h at e;simp only [z8w,z8u] at e;omega
  rw [← this];exact k _ h
 ·simp only [z94,z8x] at hc;have hB:q7h next evs=evs.all evOk:=by
   unfold q7h;rw [z9b (by omega),z9b (by omega),z9b (by omega)];simp
  refine⟨fun i H'=>∃j:Nat,i=j∧j≤evs.length∧(∀q (hq:q < evs.length),q < j→evOk evs[q]=true)∧SatL H' F,fun i _=>evs.length - i.toNat,⟨0,rfl,by omega,fun q _ h=>by omega,h⟩,?_⟩
  rintro i H1 ⟨j,rfl,hj,hp,h⟩;refine⟨fun hc=>?_,fun hc=>?_⟩
  ·have hlt:j < evs.length:=by have:=z8s hc; omega
   have hr:=ha.rd _ h;refine⟨by omega,_,_,hr.some q0t (by omega) hlt,_,_,_,_,_,_,hr.els q0t hlt,?_⟩;refine h.al fun b _ h=>?_
   refine h.st 0 rfl rfl ?_;intro H2 h;intro Jn hJ;have hJ':∀H3,SatL H3 F→Jn (!evOk evs[j]) H3:=by
    intro H3 h;refine hJ _ _ ?_;refine⟨fun hx=>?_,fun hx=>?_⟩
    ·have:q7h next evs=false:=by rw [hB]; exact qvj hlt (by simpa using hx)
     rw [← this];exact k _ h
    ·rw [w64 (x:=(j:Int)+1)];refine⟨⟨j+1,by omega,hlt,fun q hq hq'=>?_,h⟩,by dsimp only; omega⟩
     by_cases hqj:q=j
     ·subst hqj; simpa using hx
     ·exact hp q hq (by omega)
   refine⟨_,h.r 0,_,fun _=>h.r 0,_,_,_,_,fun _=>h.q 0,fun hx=>?_,fun hx=>?_⟩
   ·refine q58 h (fun H h=>ha.labs _ (z92 hlt) H h.tl) fun H3 h=>⟨_,rfl,?_⟩
    have e:evOk evs[j]=q3s evs[j].name evs[j].labs:=by
     simp only [z94,z8x] at hx;unfold evOk;rw [z9b (by omega),z9b (by omega)];simp
    rw [← e];exact hJ' _ h.tl
   ·have e:evOk evs[j]=false:=by
     unfold evOk;simp only [z94,z8x] at hx;simp only [za2,z8x];omega
    have:=hJ' _ h.tl;rw [e] at this;exact this
  ·have hge:evs.length≤j:=by have:=z8v hc; omega
   have:q7h next evs=true:=by rw [hB]; exact z6m fun q hq=>hp q hq (by omega)
   rw [← this];exact k _ h
end
open Go.Nm
abbrev fbC (ag ep next:Int)(a:Option Addr)(n c:Nat):List Value:=
 [I64 5,I64 ag,I64 ep,I64 0,I64 0,I64 0,I64 0,I64 next,I64 0,I64 0,.slice a n c,.string (⟨#[]⟩:ByteArray),.slice none 0 0,.slice none 0 0]
section
variable {F L:List Assn} {H:Heap} {K:Value→Heap→Prop}
theorem qg9 {f0 f1 f2 f3 f4 f5 f6 f7 f8 f9:Int}{f10a:Option Addr}{f10n f10c:Nat}{f11:ByteArray}{f12a:Option Addr}{f12n f12c:Nat}{f13a:Option Addr}{f13n f13c:Nat}(h:SatL H F)
  (k:∀H',SatL H' F→K (.agg #[I64 f3,I64 f4,I64 f5,I64 f6,I64 f7,I64 f8,I64 f9]) H') :
  CF 204 ⟨[(.agg #[(I64 f0),(I64 f1),(I64 f2),(I64 f3),(I64 f4),(I64 f5),(I64 f6),(I64 f7),(I64 f8),(I64 f9),(.slice f10a f10n f10c),(.string f11),(.slice f12a f12n f12c),(.slice f13a f13n f13c)])]⟩ H K:=by
 refine qiv ?_;refine h.al fun b _ h=>?_
 refine h.al fun b1 _ h=>?_
 refine⟨_,h.r 1,_,h.r 1,_,h.r 1,_,h.r 1,_,h.r 1,_,h.r 1,_,h.r 1,?_⟩;refine h.st 0 rfl rfl ?_;intro H2 h;exact⟨_,_,_,_,_,_,_,h.q 0,k _ h.tl.tl⟩
theorem eq314 {a b c d e f g:Int}:q5v Tryz.prog .eql 314 (.agg #[I64 a,I64 b,I64 c,I64 d,I64 e,I64 f,I64 g]) (.agg #[I64 a,I64 b,I64 c,I64 d,I64 e,I64 f,I64 g]) true:=by
 have h:=(qig (P:=Tryz.prog) (t:=314) (xs:=[I64 a,I64 b,I64 c,I64 d,I64 e,I64 f,I64 g]) (ys:=[I64 a,I64 b,I64 c,I64 d,I64 e,I64 f,I64 g])
  (r:=(a == a && (b == b && (c == c && (d == d && (e == e && (f == f && (g == g && true)))))))) (by kernel_rfl)).1
 simpa using h
theorem eq102 {a b c:Int}:q5v Tryz.prog .eql 102 (.agg #[I64 a,I64 b,I64 c]) (.agg #[I64 a,I64 b,I64 c]) true:=by
 have h:=(qay (P:=Tryz.prog) (t:=102) (xs:=[I64 a,I64 b,I64 c]) (ys:=[I64 a,I64 b,I64 c]) (r:=(a == a && (b == b && (c == c && true)))) (by kernel_rfl)).1;simpa using h
theorem qj9 {a b:Option Addr}{c d:Nat}{xs ys:List Int}(hA:a=none∨∃k o,a=some ⟨k,o,none⟩)(hB:b=none∨∃k o,b=some ⟨k,o,none⟩)(ha:rdS H a (xs.map U8))(hb:rdS H b (ys.map U8))
  (k:K (.bool ((strB xs).toList == (strB ys).toList)) H):CF 51 #[.slice a xs.length c,.slice b ys.length d] H K:=
 qnv ⟨_,qdk hA ha,_,qdk hB hb,k⟩
set_option maxHeartbeats 1000000 in
theorem z2o {ag ep next:Int}{a:Option Addr}{c:Nat}{evs:List Ev}(h:SatL H F)(ha:EvRd F a evs)(hl:evs.length≤1000000)(hll:∀e∈evs,e.labs.length≤1000000)(k:∀H',SatL H' F→K (.bool true) H') :
  CF 165 #[.agg ⟨fbC ag ep next a evs.length c⟩,.agg ⟨fbC ag ep next a evs.length c⟩] H K:=by
 refine qri ?_;refine h.al fun b _ h=>?_
 refine h.al fun b1 _ h=>?_
 intro Jn hJ;refine⟨_,_,_,h.q 1,_,_,_,h.q 0,true,eq102,_,_,_,_,_,_,_,_,_,_,_,_,_,_,_,_,_,_,_,_,fun _=>h.q 1,_,_,_,_,_,_,_,_,_,_,_,_,_,_,_,_,_,_,_,_,fun _=>h.q 0,fun _=>?_,fun hn=>absurd rfl hn⟩
 refine qg9 h fun H2 h=>⟨_,_,_,_,_,_,_,rfl,fun _=>h.q 0,?_⟩
 refine qg9 h fun H3 h=>⟨_,_,_,_,_,_,_,rfl,true,eq314,_,_,_,fun _=>h.r 1,_,_,_,fun _=>h.r 0,fun _=>?_,fun hn=>absurd rfl hn⟩
 refine EqF_self h ((ha.cons _).cons _) hl hll fun H4 h=>⟨_,rfl,_,_,_,_,fun _=>h.q 1,_,_,_,_,fun _=>h.q 0,fun _=>?_,fun hn=>absurd rfl hn⟩
 refine qdx (labs:=[]) h (fun H h=>q9p H none) (by simp) fun H5 h=>⟨_,rfl,_,_,_,fun _=>h.r 1,_,_,_,fun _=>h.r 0,fun _=>?_,fun hn=>absurd (by simp) hn⟩
 refine qj9 (xs:=[]) (ys:=[]) (.inl rfl) (.inl rfl) (q9p _ none) (q9p _ none) ⟨_,rfl,hJ _ _ ?_⟩;have:=k _ h.tl.tl;have e:((strB []).toList == (strB []).toList)=true:=by simp
 rw [e];exact this
theorem qja {b o:Nat}{e:Nat}{cs:List Value}(h:SatL H F)(i:Nat)(hA:nth i F=cellsA b cs e)(hc:lget cs 0=some (I64 5))
  (k:∀p H',SatL H' (cellsA p [PA b 1,PA b 2,PA b 7] 177::F)→K (.slice (some ⟨p,0,none⟩) 3 3) H'):CF 162 #[PA b 0] H K:=by
 refine qkn ?_;refine⟨5,(h.rd i hA 0).trans hc,fun hc=>absurd hc (by decide),fun _=>⟨fun hc=>absurd hc (by decide),fun _=>⟨fun hc=>absurd hc (by decide),fun _=>⟨fun hc=>absurd hc (by decide),fun _=>?_⟩⟩⟩⟩
 intro Jn hJ;refine⟨fun _=>hJ _ _ ?_,fun hc=>absurd hc (by decide)⟩
 refine⟨fun _=>?_,fun hc=>absurd hc (by decide)⟩
 refine h.al fun p _ h=>?_
 exact k _ _ h
def qdy (next:Int)(evs:List Ev):Bool:=decide (0≤next) && decide (next≤4611686018427387903) && q7h next evs
set_option maxHeartbeats 2000000 in
theorem qjb {next:Int}{a:Option Addr}{c:Nat}{evs:List Ev}(h:SatL H F)(ha:EvRd F a evs)(hl:evs.length≤1099511627776)(k:∀H',SatL H' F→K (.bool (qdy next evs)) H') :
  CF 96 #[.agg ⟨fbC 0 0 next a evs.length c⟩] H K:=by
 refine qoa ?_;refine h.al fun b _ h=>?_
 refine qja (o:=0) h 0 rfl rfl fun p H1 h=>⟨_,_,_,rfl,_,fun _=>h.r 1,_,fun _=>h.r 1,_,fun _=>h.r 1,_,fun _=>h.r 1,fun hc=>absurd hc (by simp),fun _=>⟨_,h.r 1,?_⟩⟩
 refine h.al fun b1 _ h=>?_
 refine h.st 0 rfl rfl ?_;intro H2 h;refine qja (o:=0) h 0 rfl rfl fun p1 H3 h=>⟨_,_,_,rfl,?_⟩
 refine⟨fun i H'=>(i=0∨i=1∨i=2∨i=3)∧((i=3→0≤next∧next≤4611686018427387903))∧
  SatL H' (cellsA p1 [PA b1 1,PA b1 2,PA b1 7] 177::cellsA b1 (fbC 0 0 (if i=3 then next else 0) none 0 0) 104::cellsA p [PA b 1,PA b 2,PA b 7] 177::cellsA b (fbC 0 0 next a evs.length c) 104::F),
  fun i _=>3 - i.toNat,⟨.inl rfl,fun h=>absurd h (by decide),h⟩,?_⟩
 rintro i H4 ⟨hi,hn,h⟩;refine⟨fun hc=>?_,fun hc=>?_⟩
 ·have hc:=z8s hc
  rcases hi with rfl|rfl|rfl|rfl
  ·refine⟨by decide,_,_,rfl,_,h.r 2,q01 ⟨_,h.r 3,fun _=>trivial,_,fun _=>h.r 3,fun hc=>absurd hc (by decide),fun _=>⟨by decide,_,_,rfl,_,h.r 0,q01 ⟨_,h.r 3,q01 ?_⟩⟩⟩⟩
   refine h.st 1 rfl rfl ?_;intro H5 h;exact⟨⟨.inr (.inl (by decide)),fun h=>absurd h (by decide),h⟩,by dsimp only; decide⟩
  ·refine⟨by decide,_,_,rfl,_,h.r 2,q01 ⟨_,h.r 3,fun _=>trivial,_,fun _=>h.r 3,fun hc=>absurd hc (by decide),fun _=>⟨by decide,_,_,rfl,_,h.r 0,q01 ⟨_,h.r 3,q01 ?_⟩⟩⟩⟩
   refine h.st 1 rfl rfl ?_;intro H5 h;exact⟨⟨.inr (.inr (.inl (by decide))),fun h=>absurd h (by decide),h⟩,by dsimp only; decide⟩
  ·refine⟨by decide,_,_,rfl,_,h.r 2,q01 ⟨_,h.r 3,fun _=>trivial,_,fun _=>h.r 3,fun hc=>?_,fun hc=>⟨by decide,_,_,rfl,_,h.r 0,q01 ⟨_,h.r 3,q01 ?_⟩⟩⟩⟩
   ·have:qdy next evs=false:=by
     simp only [z97,z8u] at hc;unfold qdy;simp only [za2,z8x];omega
    rw [← this];exact k _ h.tl.tl.tl.tl
   ·simp only [z94,z8x] at hc;refine h.st 1 rfl rfl ?_;intro H5 h;exact⟨⟨.inr (.inr (.inr (by decide))),fun _=>by omega,h⟩,by dsimp only; decide⟩
  ·exact absurd hc (by decide)
 ·have hc:=z8v hc;have hi3:i=3:=by
   rcases hi with rfl|rfl|rfl|rfl
   ·exact absurd (by decide) hc
   ·exact absurd (by decide) hc
   ·exact absurd (by decide) hc
   ·rfl
  subst hi3;have hn:=hn rfl;rw [if_pos rfl] at h;have hF:qdy next evs=q7h next evs:=by
   unfold qdy;rw [z9b hn.1,z9b hn.2];simp
  refine⟨_,h.r 3,?_⟩;intro Jn hJ;refine⟨fun hc=>absurd hc (by decide),fun _=>?_⟩
  intro Jn1 hJ1;refine⟨fun _=>⟨_,_,_,h.r 3,?_⟩,fun hc=>absurd hc (by decide)⟩
  refine h.st 1 rfl rfl ?_;intro H5 h;refine⟨_,h.r 3,_,_,_,h.r 3,?_⟩;refine z2n h ((((ha.cons _).cons _).cons _).cons _) hl fun H6 h=>⟨_,rfl,fun hc=>?_,fun hc=>?_⟩
  ·have:qdy next evs=false:=by rw [hF]; simpa using hc
   rw [← this];exact k _ h.tl.tl.tl.tl
  ·have hb:q7h next evs=true:=by simpa using hc
   refine hJ1 _ (hJ _ ?_);refine⟨_,_,_,_,_,_,_,_,_,_,_,_,_,_,_,_,_,_,_,_,h.q 3,_,_,_,_,_,_,_,_,_,_,_,_,_,_,_,_,_,_,_,_,h.q 1,?_⟩;have h64:evs.length≤64:=by
    unfold q7h at hb;simp only [z8w,z8u] at hb;omega
   have hll:∀e∈evs,e.labs.length≤1000000:=by
    intro e he;unfold q7h at hb;rw [z8w,z9v] at hb;have h1:=hb.2 e he;unfold evOk at h1;rw [z8w] at h1;have:=(q7f h1.2).len;omega
   refine z2o h ((((ha.cons _).cons _).cons _).cons _) (by omega) hll fun H7 h=>⟨_,rfl,?_⟩
   have:qdy next evs=true:=by rw [hF,hb]
   rw [← this];exact k _ h.tl.tl.tl.tl
end
open Go.Nm
section
variable {F L:List Assn} {H:Heap} {K:Value→Heap→Prop}
theorem z2p {a:Option Addr}{c:Nat}{l:List Ev}(h:SatL H F)(ha:∀H,SatL H F→rdS H a (flat encV l))(hl:l.length≤1000000)
  (k:∀a' c' H',SatL H' (slA 95 4 a' l.length c' (flat encV l)::F)→K (.slice a' l.length c') H'):CF 188 #[.slice a l.length c] H K:=by
 refine qbb ⟨fun hc=>?_,fun hc=>?_⟩
 ·have:a=none:=by simpa using hc
  subst this;have hz:=qaz (ha H h);have:l=[]:=by
   have:=congrArg List.length hz;rw [q0l q0t] at this;exact zag (by simp at this; omega)
  subst this;exact k none 0 H (h.sl_nil 95 4)
 ·refine h.al fun b _ h=>?_
  have hr:=ha _ h.tl;have h1:=SatL.sl_pt (cs:=[]) h 4 0 rfl;refine SatL.append (m:=l.length) sl44 h1 0 rfl hr (q0l q0t l) (q48 qlr l) (by omega) (by omega) fun a' c' H' h2=>⟨_,_,_,rfl,?_⟩
  have h3:SatL H' (slA 95 4 a' (0+l.length) c' ([]++flat encV l)::F):=h2;rw [z9e,za7] at h3;have:=k a' c' H' h3;simpa using this
theorem z2q {a:Option Addr}{c:Nat}{l:List Ot}(h:SatL H F)(ha:∀H,SatL H F→rdS H a (flat encO l))(hl:l.length≤1000000)
  (k:∀a' c' H',SatL H' (slA 64 74 a' l.length c' (flat encO l)::F)→K (.slice a' l.length c') H'):CF 85 #[.slice a l.length c] H K:=by
 refine qdh ⟨fun hc=>?_,fun hc=>?_⟩
 ·have:a=none:=by simpa using hc
  subst this;have hz:=qaz (ha H h);have:l=[]:=by
   have:=congrArg List.length hz;rw [q0l q2h] at this;exact zag (by simp at this; omega)
  subst this;exact k none 0 H (h.sl_nil 64 74)
 ·refine h.al fun b _ h=>?_
  have hr:=ha _ h.tl;have h1:=SatL.sl_pt (cs:=[]) h 74 0 rfl;refine SatL.append (m:=l.length) sl86 h1 0 rfl hr (q0l q2h l) (q48 q6b l) (by omega) (by omega) fun a' c' H' h2=>⟨_,_,_,rfl,?_⟩
  have h3:SatL H' (slA 64 74 a' (0+l.length) c' ([]++flat encO l)::F):=h2;rw [z9e,za7] at h3;have:=k a' c' H' h3;simpa using this
theorem qs9 {a:Option Addr}{c:Nat}{l:List Ot}{j:Nat}(hj:j≤l.length)(h:SatL H (slA 64 74 a l.length c (flat encO l)::F))
  (k:∀H',SatL H' (slA 64 74 a (l.length - j) c (flat encO (l.drop j))::F)→K (.slice a (l.length - j) c) H'):CF 74 #[.slice a l.length c,I64 0,I64 j] H K:=by
 have hnc:=h.sl_nc 0 rfl;refine qc7 ?_;refine⟨⟨by omega,by omega,by omega,by omega⟩,fun hc=>?_,fun hc=>?_⟩
 ·have:j=0:=by simp only [z8u] at hc; omega
  subst this;exact k H h
 ·have hj0:0 < j:=by simp only [z8x] at hc; omega
  refine⟨⟨by omega,by omega,by omega⟩,⟨by omega,by omega,by omega⟩,?_⟩;have hr:=h.sl_rd 0 rfl;have hs:=hr.some q2h (by omega) (k:=0) (by omega);have e0:slB a 0 c 74=a:=by
   unfold slB;rw [if_neg (by omega),hs,z9t,q3j]; simp
  have hw:=hr.subK (k:=j) (c:=c) (sz:=74) (by rw [q0l q2h]; omega);rw [qi8 q2h] at hw;have ht:=h.sl_take 0 rfl 0 (by omega);simp only [Nat.zero_mul,zaj] at ht;rw [e0];show RunW Tryz.prog (Builtin.append_ #[86,86] 86 #[.slice a 0 c,.slice (slB a j c 74) (l.length - j) (c - j)]) H _;refine SatL.appendIn sl86 ht 0 rfl hw (by rw [q0l q2h,z9m]) (q48 q6b _) (by omega) fun H' h2=>⟨_,_,_,rfl,⟨by omega,by omega,by omega⟩,?_⟩
  rw [z9e];have h3:SatL H' (slA 64 74 a (0+(l.length - j)) c ([]++flat encO (l.drop j))::F):=h2;rw [z9e,za7] at h3;exact SatL.clearS sl86 (by kernel_rfl) h3 0 rfl (by omega) fun _ H4 h4=>k _ h4
theorem z2r {a:Option Addr}{c:Nat}{l:List Lab}(h:SatL H F)(ha:∀H,SatL H F→rdS H a (flat encL l))(hl:l.length≤1000000)
  (k:∀a' c' H',SatL H' (slA 267 2 a' l.length c' (flat encL l)::F)→K (.slice a' l.length c') H'):CF 189 #[.slice a l.length c] H K:=by
 refine qba ⟨fun hc=>?_,fun hc=>?_⟩
 ·have:a=none:=by simpa using hc
  subst this;have hz:=qaz (ha H h);have:l=[]:=by
   have:=congrArg List.length hz;rw [q0l q1b] at this;exact zag (by simp at this; omega)
  subst this;exact k none 0 H (h.sl_nil 267 2)
 ·refine h.al fun b _ h=>?_
  have hr:=ha _ h.tl;have h1:=SatL.sl_pt (cs:=[]) h 2 0 rfl;refine SatL.append (m:=l.length) sl91 h1 0 rfl hr (q0l q1b l) (q48 qf8 l) (by omega) (by omega) fun a' c' H' h2=>⟨_,_,_,rfl,?_⟩
  have h3:SatL H' (slA 267 2 a' (0+l.length) c' ([]++flat encL l)::F):=h2;rw [z9e,za7] at h3;have:=k a' c' H' h3;simpa using this
theorem qvx {Q:Assn}{a:Option Addr}{c:Nat}{l:List Lab}(h:SatL H (Q::F))(ha:∀H,SatL H (Q::F)→rdS H a (flat encL l))(hl:l.length≤1000000)
  (k:∀Q' a' c' H',Sub Q Q'→KIn Q' a' (flat encL l)→SatL H' (Q'::F)→K (.slice a' l.length c') H'):CF 189 #[.slice a l.length c] H K:=
 z2r h ha hl fun a' c' H' h=>k _ a' c' H' (Sub.add _ Q) KIn.sl (q1z.2 h)
end
end Go.Proofs.YtfmkddccnjidmaaGreatDoor
namespace Go.Nm
structure Pv where
 stamp:Int
 value:Int
 name:ByteArray
 labs:List Lab
def Ev.p (e:Ev):Pv:=⟨e.stamp,e.value,e.name,e.labs⟩
section
variable {α β:Type}
def mapR (f:α→β)(l:RowL α):RowL β:=l.map fun p=>(p.1,f p.2)
def mapH (f:α→β)(s:HS α):HS β:=⟨s.next,s.most,mapR f s.rows⟩
theorem z6y (f:α→β)(l:RowL α):q00 (mapR f l)=q00 l:=by simp [mapR,q00,z9r,Function.comp_def]
theorem qom (f:α→β)(l:RowL α):(mapR f l).length=l.length:=z9c ..
theorem qyd (f:α→β)(n:Int)(v:α):∀l:RowL α,ins n (f v) (mapR f l)=mapR f (ins n v l)
 | []=>rfl
 | (a,b)::r=>by
  have ih:=qyd f n v r;show (if n < a then _ else _)=mapR f (if n < a then _ else _)
  split
  ·rfl
  ·show (a,f b)::ins n (f v) (mapR f r)=(a,f b)::mapR f (ins n v r);rw [ih]
theorem qm1 (f:α→β)(n:Int):∀l:RowL α,q08 n (mapR f l)=(q08 n l).map f
 | []=>rfl
 | (a,b)::r=>by
  have ih:=qm1 f n r;show q08 n ((a,f b)::mapR f r)=_;unfold q08
  split
  ·rfl
  ·exact ih
theorem qvy (f:α→β)(next most n:Int)(v:α)(s:RowL α × Int):q20 next most n (f v) (mapR f s.1,s.2)=(mapR f (q20 next most n v s).1,(q20 next most n v s).2):=by
 unfold q20;have e:(q08 n (mapR f s.1)).isSome=(q08 n s.1).isSome:=by rw [qm1]; simp
 simp only [e]
 split
 ·rfl
 ·split
  ·rfl
  ·dsimp only; rw [qyd]
theorem qjc (f:α→β)(next most:Int):∀(l:List α) (n:Int) (s:RowL α × Int),q2i next most n (l.map f) (mapR f s.1,s.2)=(mapR f (q2i next most n l s).1,(q2i next most n l s).2)
 | [],n,s=>rfl
 | v::vs,n,s=>by
  show q2i next most (n+1) (vs.map f) (q20 next most n (f v) (mapR f s.1,s.2))=_;rw [qvy];exact qjc f next most vs (n+1) _
theorem qye (f:α→β):∀(l:RowL α) (next:Int),pop next (mapR f l)=((pop next l).1.map f,(pop next l).2.1,mapR f (pop next l).2.2)
 | [],next=>rfl
 | (n,v)::r,next=>by
  have ih:=qye f r (next+1);have e1:pop next (mapR f ((n,v)::r))=if n=next then (f v::(pop (next+1) (mapR f r)).1,(pop (next+1) (mapR f r)).2) else ([],next,mapR f ((n,v)::r)):=rfl
  have e2:pop next ((n,v)::r)=if n=next then (v::(pop (next+1) r).1,(pop (next+1) r).2) else ([],next,(n,v)::r):=rfl
  rw [e1,e2,ih]
  split <;> rfl
theorem z2s (f:α→β)(s:HS α)(first:Int)(items:List α):(mapH f s).offer first (items.map f)=(mapH f (s.offer first items).1,(s.offer first items).2.1.map f,(s.offer first items).2.2):=by
 unfold HS.offer
 split
 ·simp
 ·have h:=qjc f s.next s.most items first (s.rows,0);simp only [mapH,h,qye]
theorem q8q {f:α→β}{l:RowL α}:q3w (mapR f l)↔q3w l:=by
 unfold q3w mapR;rw [zb9]
theorem qm2 {f:α→β}{lo next most:Int}{l:RowL α}:q43 lo next most (mapR f l)↔q43 lo next most l:=by
 constructor
 ·rintro⟨h1,h2⟩;exact⟨q8q.1 h1,fun p hp=>h2 (p.1,f p.2) (z90.2 ⟨p,hp,rfl⟩)⟩
 ·rintro⟨h1,h2⟩;refine⟨q8q.2 h1,fun p hp=>?_⟩
  obtain⟨q,hq,rfl⟩:=z90.1 hp;exact h2 q hq
theorem ok_mapH {f:α→β}{s:HS α}:(mapH f s).Ok↔s.Ok:=
 ⟨fun h=>⟨h.next0,h.most1,h.most2,qm2.1 h.rows⟩,fun h=>⟨h.next0,h.most1,h.most2,qm2.2 h.rows⟩⟩
theorem z2t {next most n:Int}{v:α}{s:RowL α × Int}{p:Int × α}(h:p∈(q20 next most n v s).1):p.2=v∨p∈s.1:=by
 unfold q20 at h
 split at h
 ·exact .inr h
 ·split at h
  ·exact .inr h
  ·rcases qi6.1 h with rfl|h
   ·exact .inl rfl
   ·exact .inr h
theorem qfd {next most:Int}:∀{l:List α} {n:Int} {s:RowL α × Int} {p:Int × α},p∈(q2i next most n l s).1→p.2∈l∨p∈s.1
 | [],n,s,p,h=>.inr h
 | v::vs,n,s,p,h=>by
  rcases qfd (l:=vs) h with h|h
  ·exact .inl (z99 _ h)
  ·rcases z2t h with h|h
   ·exact .inl (h▸z98 ..)
   ·exact .inr h
theorem qvz:∀{l:RowL α} {next:Int},(∀v∈(pop next l).1,∃p∈l,p.2=v)∧∀p∈(pop next l).2.2,p∈l
 | [],next=>⟨fun v h=>absurd h (by simp [pop]),fun p h=>absurd h (by simp [pop])⟩
 | (n,v)::r,next=>by
  have ih:=qvz (l:=r) (next:=next+1);unfold pop
  split
  ·refine⟨fun x hx=>?_,fun p hp=>z99 _ (ih.2 p hp)⟩
   rcases z96.1 hx with rfl|hx
   ·exact⟨_,z98 ..,rfl⟩
   ·obtain⟨p,hp,e⟩:=ih.1 x hx;exact⟨p,z99 _ hp,e⟩
  ·exact⟨fun x hx=>absurd hx (by simp),fun p hp=>hp⟩
theorem qad {s:HS α}{first:Int}{items:List α}:(∀v∈(s.offer first items).2.1,v∈items∨∃p∈s.rows,p.2=v)∧∀p∈(s.offer first items).1.rows,p.2∈items∨p∈s.rows:=by
 unfold HS.offer
 split
 ·exact⟨fun v h=>absurd h (by simp),fun p h=>.inr h⟩
 ·have hp:=qvz (l:=(q2i s.next s.most first items (s.rows,0)).1) (next:=s.next);refine⟨fun v hv=>?_,fun p hpp=>qfd (hp.2 p hpp)⟩
  obtain⟨p,h1,rfl⟩:=hp.1 v hv
  rcases qfd h1 with h|h
  ·exact .inl h
  ·exact .inr ⟨p,h,rfl⟩
theorem z6z:∀{l:RowL α} {next:Int},(pop next l).1.length≤l.length
 | [],_=>z91 _
 | (n,v)::r,next=>by
  have ih:=z6z (l:=r) (next:=next+1);unfold pop
  split
  ·show (v::(pop (next+1) r).1).length≤_;simp only [z8y]; omega
  ·simp
theorem qm3 {next most:Int}:∀{l:List α} {n:Int} {s:RowL α × Int},(q2i next most n l s).1.length≤s.1.length+l.length
 | [],n,s=>z91 _
 | v::vs,n,s=>by
  have ih:=qm3 (next:=next) (most:=most) (l:=vs) (n:=n+1) (s:=q20 next most n v s);have h1:(q20 next most n v s).1.length≤s.1.length+1:=by
   unfold q20
   split
   ·omega
   ·split
    ·dsimp only; omega
    ·dsimp only; rw [qzv]; omega
  show (q2i next most (n+1) vs (q20 next most n v s)).1.length≤_;rw [z8y]; omega
theorem qdz {s:HS α}{first:Int}{items:List α}:(s.offer first items).2.1.length≤s.rows.length+items.length:=by
 unfold HS.offer
 split
 ·simp
 ·exact z95 z6z qm3
end
abbrev q5z (Q:Assn)(e:Ev):Prop:=KIn Q e.la (flat encL e.labs)
end Go.Nm
namespace Go.Proofs.YtfmkddccnjidmaaGreatDoor
open Go.Nm
def hldA (Q:Assn)(hb:Nat)(s:HS Pv):Assn:=exS fun p:Nat × RowL Ev=>star [holdC hb p.1 s.next s.most,mapV p.1 p.2,pur (mapR Ev.p p.2=s.rows∧∀x∈p.2,q5z Q x.2)]
section
variable {Q Q':Assn} {hb:Nat} {s:HS Pv} {F L:List Assn} {H:Heap} {K:Value→Heap→Prop}
theorem q3p:SatL H (hldA Q hb s::F)↔∃mb rows,(mapR Ev.p rows=s.rows∧∀x∈rows,q5z Q x.2)∧SatL H (holdC hb mb s.next s.most::mapV mb rows::F):=by
 constructor
 ·intro h;obtain⟨⟨mb,rows⟩,h⟩:=q0n.1 h;have h:=SatL.open (A:=[_,_,_]) h;have hp:=SatL.consP (h.o [2,0,1] 3);exact⟨mb,rows,hp.1,hp.2⟩
 ·rintro⟨mb,rows,hp,h⟩;refine q0n.2 ⟨(mb,rows),SatL.shut [_,_,_] ?_⟩;exact (h.pur hp).o [1,2,0] 3
theorem qon (hs:Sub Q Q')(h:SatL H (hldA Q hb s::F)):SatL H (hldA Q' hb s::F):=by
 obtain⟨mb,rows,hp,h⟩:=q3p.1 h;exact q3p.2 ⟨mb,rows,⟨hp.1,fun x hx=>(hp.2 x hx).sub hs⟩,h⟩
theorem qjd {next most:Int}(h:SatL H F)
  (k1:next < 0∨1099511627776 < next∨most < 1∨256 < most→K (.tuple #[.pointer none,I64 11]) H)
  (k2:∀hb H',0≤next∧next≤1099511627776∧1≤most∧most≤256→SatL H' (hldA Q hb ⟨next,most,[]⟩::F)→K (.tuple #[PA hb 0,I64 0]) H') :
  CF 56 #[I64 next,I64 most] H K:=
 z6d h k1 fun hb mb H' hc h=>k2 hb H' hc (q3p.2 ⟨mb,[],⟨rfl,fun x hx=>absurd hx (by simp)⟩,h⟩)
theorem q86 (h:SatL H (hldA Q hb s::F)):q1k Tryz.prog 82 #[PA hb 0] H (I64 s.next):=by
 obtain⟨mb,rows,hp,h⟩:=q3p.1 h;exact z1l h 0 rfl
theorem qje {first:Int}{ia:Option Addr}{ic:Nat}{items:List Ev}(h:SatL H (hldA Q hb s::F))(ok:s.Ok)(hn:s.next≤1125899906842624)
  (hF:∀H,SatL H F→rdS H ia (flat encV items)) (hk:∀e∈items,q5z Q e) (hlen:items.length≤1000000)
  (k:∀a c (ready:List Ev) H',ready.map Ev.p=(s.offer first (items.map Ev.p)).2.1→(∀e∈ready,q5z Q e)→
   SatL H' (slA 95 4 a ready.length c (flat encV ready)::hldA Q hb (s.offer first (items.map Ev.p)).1::F)→K (.tuple #[.slice a ready.length c,I64 (s.offer first (items.map Ev.p)).2.2]) H') :
  CF 145 #[PA hb 0,I64 first,.slice ia items.length ic] H K:=by
 obtain⟨mb,rows,hp,h⟩:=q3p.1 h;have es:s=mapH Ev.p ⟨s.next,s.most,rows⟩:=by unfold mapH; rw [hp.1]
 have hof:=z2s Ev.p ⟨s.next,s.most,rows⟩ first items;rw [← es] at hof;rw [hof] at k;have hok:(⟨s.next,s.most,rows⟩:HS Ev).Ok:=ok_mapH.1 (es▸ok);have hm:=qad (s:=⟨s.next,s.most,rows⟩) (first:=first) (items:=items);have hmost:((⟨s.next,s.most,rows⟩:HS Ev).offer first items).1.most=s.most:=by unfold HS.offer; split <;> rfl
 refine z1m (s:=⟨s.next,s.most,rows⟩) h hok hn hF hlen fun a c H' h=>?_
 refine k a c _ H' rfl (fun e he=>?_) ?_
 ·rcases hm.1 e he with h|⟨p,h,rfl⟩
  ·exact hk e h
  ·exact hp.2 p h
 ·have h:=h.o [1,2,0] 3;have h2:SatL H' (hldA Q hb (mapH Ev.p ((⟨s.next,s.most,rows⟩:HS Ev).offer first items).1)::_):=q3p.2 ⟨mb,_,⟨rfl,fun x hx=>by
   rcases hm.2 x hx with h|h
   ·exact hk _ h
   ·exact hp.2 x h⟩,by
    show SatL H' (holdC hb mb _ ((⟨s.next,s.most,rows⟩:HS Ev).offer first items).1.most::_);rw [hmost]; exact h⟩
  exact h2.o [1,0] 2
theorem q8r (h:SatL H (hldA Q hb s::F))(hr:q3w s.rows)(hw:∀p∈s.rows,wf64 p.1)(hl:s.rows.length≤1000000)
  (k:∀a c H',SatL H' (slA 2 1 a s.rows.length c ((q00 s.rows).map I64)::hldA Q hb s::F)→K (.slice a s.rows.length c) H') :
  CF 83 #[PA hb 0] H K:=by
 obtain⟨mb,rows,hp,h⟩:=q3p.1 h;rw [← hp.1] at hr hw hl;have hlen:s.rows.length=rows.length:=by rw [← hp.1,qom]
 have hkk:q00 s.rows=q00 rows:=by rw [← hp.1,z6y]
 refine qg7 h (q8q.1 hr) (fun p hp'=>hw (p.1,p.2.p) (z90.2 ⟨p,hp',rfl⟩)) (by rw [qom] at hl; exact hl) fun a c H' h=>?_
 rw [← hlen];refine k a c H' ?_;rw [hlen,hkk];have h:=h.o [1,2,0] 3;have h:=q3p.2 ⟨mb,rows,hp,h⟩;exact h.o [1,0] 2
theorem qw0 (h:SatL H (hldA Q hb s::F))(hr:q3w s.rows)(hw:∀p∈s.rows,wf64 p.1)(hl:s.rows.length≤1000000)
  (k:∀a c (evs:List Ev) H',evs.map Ev.p=s.rows.map (·.2)→(∀e∈evs,q5z Q e)→SatL H' (slA 95 4 a evs.length c (flat encV evs)::hldA Q hb s.drain::F)→K (.slice a evs.length c) H') :
  CF 126 #[PA hb 0] H K:=by
 obtain⟨mb,rows,hp,h⟩:=q3p.1 h;rw [← hp.1] at hr hw hl;refine z1n h (q8q.1 hr) (fun p hp'=>hw (p.1,p.2.p) (z90.2 ⟨p,hp',rfl⟩)) (by rw [qom] at hl; exact hl) fun a c H' h=>?_
 have h:=h.o [1,2,0] 3;have h2:SatL H' (hldA Q hb s.drain::_):=q3p.2 ⟨mb,[],⟨rfl,fun x hx=>absurd hx (by simp)⟩,h⟩
 have hlm:(rows.map (·.2)).length=rows.length:=z9c ..;have hk:=k a c (rows.map (·.2)) H' (by rw [← hp.1]; unfold mapR; rw [z9r,z9r]; rfl) (fun e he=>by
  obtain⟨p,h1,rfl⟩:=z90.1 he;exact hp.2 p h1) (by rw [hlm]; exact h2.o [1,0] 2)
 rw [hlm] at hk;exact hk
theorem qw1 (h:SatL H (hldA Q hb s::F))
  (k:∀hb' H',SatL H' (hldA Q hb' s::hldA Q hb s::F)→K (PA hb' 0) H'):CF 90 #[PA hb 0] H K:=by
 obtain⟨mb,rows,hp,h⟩:=q3p.1 h;refine qvf h fun hb' mb' H' h=>k hb' H' ?_
 have h:=h.o [2,3,0,1] 4;have h:=q3p.2 ⟨mb,rows,hp,h⟩;have h:=h.o [1,2,0] 3;exact q3p.2 ⟨mb',rows,hp,h⟩
end
end Go.Proofs.YtfmkddccnjidmaaGreatDoor
namespace Go.Nm
def q7p (e:Pv):Bool:=decide (0≤e.stamp) && decide (e.stamp≤4611686018427387903) && q3s e.name e.labs
def q4v (next:Int)(evs:List Pv):Bool:=decide (0≤next) && decide (next≤4611686018427387903) && (decide (1≤evs.length) && decide (evs.length≤64) && decide (next≤1099511627776 - evs.length) && evs.all q7p)
structure Rp where
 kind:Int
 ag:Int
 ep:Int
 bt:Int
 nx:Int
 st:Int
 nw:Int
 sm:Smp
 evs:List Pv
def ordK (k:Int):List Nat:=if k=2 then [1,3,6] else if k=3 then [1,2,7,8,9,10] else if k=4 then [1,2,4,6] else if k=5 then [1,2,4,5,6] else if k=6 then [6] else if k=7 then [4] else []
def zrK (k:Int)(i:Nat)(x:Int):Int:=if i∈ordK k then 0 else x
abbrev inM (x least most:Int):Bool:=decide (least≤x) && decide (x≤most)
def Rp.zeros (r:Rp):Bool:=(decide (zrK r.kind 1 r.ag=0) && decide (zrK r.kind 2 r.ep=0) && decide (zrK r.kind 3 r.bt=0) && decide (zrK r.kind 4 r.nx=0) && decide (zrK r.kind 5 r.st=0) && decide (zrK r.kind 6 r.nw=0)) &&
 (decide (zrK r.kind 7 r.sm.asked=0) && decide (zrK r.kind 8 r.sm.got=0) && decide (zrK r.kind 9 r.sm.sent=0) && decide (zrK r.kind 10 r.sm.came=0))
def Rp.lim (r:Rp):Bool:=inM r.ag 0 63 && inM r.ep (if r.kind=3∨r.kind=4∨r.kind=5 then 1 else 0) 1099511627776 && inM r.bt (if r.kind=2 then 1 else 0) 1099511627776 && inM r.nx 0 1099511627776 && inM r.st 0 4611686018427387903 && inM r.nw 0 4611686018427387903 && decide (r.sm.ok)
def Rp.right (r:Rp):Bool:=inM r.kind 1 7 && r.zeros && (if r.kind=4 then q4v r.nx r.evs else decide (r.evs.length=0)) && r.lim
abbrev encR (r:Rp)(a:Option Addr)(c:Nat):List Value:=[I64 r.kind,I64 r.ag,I64 r.ep,I64 r.bt,I64 r.nx,I64 r.st,I64 r.nw,I64 r.sm.asked,I64 r.sm.got,I64 r.sm.sent,I64 r.sm.came,.slice a r.evs.length c]
theorem kinds {k:Int}(h1:¬k < 1)(h2:¬7 < k):k=1∨k=2∨k=3∨k=4∨k=5∨k=6∨k=7:=by omega
end Go.Nm
namespace Go.Proofs.YtfmkddccnjidmaaGreatDoor
open Go.Nm
section
variable {F L:List Assn} {H:Heap} {K:Value→Heap→Prop}
theorem qoo {next:Int}{evs:List Ev}:qdy next evs=q4v next (evs.map Ev.p):=by
 unfold qdy q7h q4v;rw [z9c,List.all_map];rfl
theorem q2t {x a b:Int}:q1k Tryz.prog 97 #[I64 x,I64 a,I64 b] H (.bool (inM x a b)):=qoc ⟨rfl,rfl⟩
theorem qfe {b e:Nat}{k0:Int}{cs:List Value}(h:SatL H F)(i:Nat)(hA:nth i F=cellsA b cs e)(hc:lget cs 0=some (I64 k0))
  (k:∀a c H',SatL H' (slA 177 1 a (ordK k0).length c ((ordK k0).map fun i=>PA b i)::F)→K (.slice a (ordK k0).length c) H'):CF 93 #[PA b 0] H K:=by
 refine z0x ?_;have fin:∀(l:List Nat) p H',ordK k0=l→SatL H' (cellsA p (l.map fun i=>PA b i) 177::F)→K (.slice (some ⟨p,0,none⟩) l.length l.length) H':=by
  intro l p H' e h;subst e;refine k _ _ _ ?_;exact SatL.sl_pt h 1 _ (by simp)
 refine⟨k0,(h.rd i hA 0).trans hc,fun hk=>?_,fun hk=>⟨fun hk=>?_,fun hk=>⟨fun hk=>?_,fun hk=>⟨fun hk=>?_,fun hk=>⟨fun hk=>?_,fun hk=>⟨fun hk=>?_,fun hk=>?_⟩⟩⟩⟩⟩⟩
 ·have hk:=z8s hk;subst hk;exact h.al fun p _ h=>fin [1,3,6] p _ rfl h
 ·have hk:=z8s hk;subst hk;exact h.al fun p _ h=>fin [1,2,7,8,9,10] p _ rfl h
 ·have hk:=z8s hk;subst hk;exact h.al fun p _ h=>fin [1,2,4,6] p _ rfl h
 ·have hk:=z8s hk;subst hk;exact h.al fun p _ h=>fin [1,2,4,5,6] p _ rfl h
 ·have hk:=z8s hk;subst hk;exact h.al fun p _ h=>fin [6] p _ rfl h
 ·have hk:=z8s hk;subst hk;exact h.al fun p _ h=>fin [4] p _ rfl h
 ·have e:ordK k0=[]:=by
   unfold ordK;simp only [z8x] at *;simp only [*,if_false]
  have:=k none 0 H (by rw [e]; exact h.sl_nil 177 1);rw [e] at this;exact this
def zrL (cs:List Value)(is:List Nat):List Value:=is.foldl (fun cs i=>q1l cs i [I64 0]) cs
theorem zrL_len (cs:List Value):∀is,(zrL cs is).length=cs.length:=by
 intro is
 induction is generalizing cs with
 | nil=>rfl
 | cons i r ih=>show (zrL (q1l cs i [I64 0]) r).length=_; rw [ih,q5o]
theorem zrL_take (cs:List Value)(is:List Nat)(j:Nat)(h:j < is.length):zrL cs (is.take (j+1))=q1l (zrL cs (is.take j)) is[j] [I64 0]:=by
 unfold zrL;rw [za5 h,zb6]; rfl
theorem qw2 {k:Int}:∀i∈ordK k,i < 11:=by
 unfold ordK
 split
 ·decide
 split
 ·decide
 split
 ·decide
 split
 ·decide
 split
 ·decide
 split
 ·decide
 ·decide
theorem qop (k:Int):(ordK k).length≤6:=by
 unfold ordK
 split
 ·decide
 split
 ·decide
 split
 ·decide
 split
 ·decide
 split
 ·decide
 split
 ·decide
 ·decide
theorem zrL_enc {r:Rp}{a:Option Addr}{c:Nat}(h1:¬r.kind < 1)(h2:¬7 < r.kind):zrL (encR r a c) (ordK r.kind) =
  [I64 r.kind,I64 (zrK r.kind 1 r.ag),I64 (zrK r.kind 2 r.ep),I64 (zrK r.kind 3 r.bt),I64 (zrK r.kind 4 r.nx),I64 (zrK r.kind 5 r.st),I64 (zrK r.kind 6 r.nw),I64 (zrK r.kind 7 r.sm.asked),I64 (zrK r.kind 8 r.sm.got),I64 (zrK r.kind 9 r.sm.sent),I64 (zrK r.kind 10 r.sm.came),.slice a r.evs.length c]:=by
 obtain⟨kind,ag,ep,bt,nx,st,nw,sm,evs⟩:=r;dsimp only at h1 h2
 rcases kinds h1 h2 with rfl|rfl|rfl|rfl|rfl|rfl|rfl <;> rfl
theorem eq180 {a b c d e f:Int}:q5v Tryz.prog .neq 180 (.agg #[I64 a,I64 b,I64 c,I64 d,I64 e,I64 f]) (.agg #[I64 0,I64 0,I64 0,I64 0,I64 0,I64 0])
  (!(decide (a=0) && decide (b=0) && decide (c=0) && decide (d=0) && decide (e=0) && decide (f=0))):=by
 have h:=(qig (P:=Tryz.prog) (t:=180) (xs:=[I64 a,I64 b,I64 c,I64 d,I64 e,I64 f]) (ys:=[I64 0,I64 0,I64 0,I64 0,I64 0,I64 0])
  (r:=(a == 0 && (b == 0 && (c == 0 && (d == 0 && (e == 0 && (f == 0 && true))))))) (by kernel_rfl)).2
 have e:(a == 0 && (b == 0 && (c == 0 && (d == 0 && (e == 0 && (f == 0 && true))))))=(decide (a=0) && decide (b=0) && decide (c=0) && decide (d=0) && decide (e=0) && decide (f=0)):=by
  rw [z9s];simp only [z8w,beq_iff_eq,z8u,Bool.and_true]
  constructor
  ·rintro⟨h1,h2,h3,h4,h5,h6⟩; exact⟨⟨⟨⟨⟨h1,h2⟩,h3⟩,h4⟩,h5⟩,h6⟩
  ·rintro⟨⟨⟨⟨⟨h1,h2⟩,h3⟩,h4⟩,h5⟩,h6⟩; exact⟨h1,h2,h3,h4,h5,h6⟩
 rw [e] at h;exact h
theorem eq43 {a b c d:Int}:q5v Tryz.prog .neq 43 (.agg #[I64 a,I64 b,I64 c,I64 d]) (.agg #[I64 0,I64 0,I64 0,I64 0])
  (!(decide (a=0) && decide (b=0) && decide (c=0) && decide (d=0))):=by
 have h:=(qay (P:=Tryz.prog) (t:=43) (xs:=[I64 a,I64 b,I64 c,I64 d]) (ys:=[I64 0,I64 0,I64 0,I64 0])
  (r:=(a == 0 && (b == 0 && (c == 0 && (d == 0 && true))))) (by kernel_rfl)).2
 have e:(a == 0 && (b == 0 && (c == 0 && (d == 0 && true))))=(decide (a=0) && decide (b=0) && decide (c=0) && decide (d=0)):=by
  rw [z9s];simp only [z8w,beq_iff_eq,z8u,Bool.and_true]
  constructor
  ·rintro⟨h1,h2,h3,h4⟩; exact⟨⟨⟨h1,h2⟩,h3⟩,h4⟩
  ·rintro⟨⟨⟨h1,h2⟩,h3⟩,h4⟩; exact⟨h1,h2,h3,h4⟩
 rw [e] at h;exact h
set_option maxHeartbeats 2000000 in
theorem q8s {r:Rp}{a:Option Addr}{c:Nat}{evs:List Ev}(he:r.evs=evs.map Ev.p)(h:SatL H F)(ha:EvRd F a evs)(hl:evs.length≤1099511627776)
  (k:∀H',SatL H' F→K (.bool r.right) H'):CF 34 #[.agg ⟨encR r a c⟩] H K:=by
 have hel:r.evs.length=evs.length:=by rw [he,z9c]
 refine z14 ?_;refine h.al fun b _ h=>⟨_,h.r 0,_,fun _=>h.r 0,fun hc=>?_,fun hc=>?_⟩
 ·have:r.right=false:=by
   unfold Rp.right inM;simp only [z97,z8u] at hc;have:(decide (1≤r.kind) && decide (r.kind≤7))=false:=by
    simp only [za2,z8x]; omega
   rw [this]; simp
  rw [← this];exact k _ h.tl
 simp only [z94,z8x] at hc;have hk17:inM r.kind 1 7=true:=by unfold inM; rw [z9b (by omega),z9b (by omega)]; rfl
 refine⟨_,_,_,_,_,_,_,_,_,_,_,_,_,_,h.q 0,?_⟩;refine h.al fun b1 _ h=>?_
 refine h.st 0 rfl rfl ?_;intro H2 h;refine qfe h 0 rfl rfl fun p pc H3 h=>⟨_,_,_,rfl,?_⟩
 refine⟨fun i H'=>∃j:Nat,i=j∧j≤(ordK r.kind).length∧SatL H' (slA 177 1 p (ordK r.kind).length pc ((ordK r.kind).map fun i=>PA b1 i)::cellsA b1 (zrL (encR r a c) ((ordK r.kind).take j)) 46::cellsA b (encR r a c) 46::F),
  fun i _=>(ordK r.kind).length - i.toNat,⟨0,rfl,by omega,h⟩,?_⟩
 rintro i H4 ⟨j,rfl,hj,h⟩;refine⟨fun hlt=>?_,fun hlt=>?_⟩
 ·have hlt:j < (ordK r.kind).length:=by have:=z8s hlt; omega
  have hr:=(h.sl_rd 0 rfl).at hlt;have hi:=qw2 _ (z92 hlt);have ho:=qop r.kind;refine⟨by omega,_,_,hr.1,_,hr.2,q01 ?_⟩;refine h.st 1 rfl (by rw [zrL_len]; exact Nat.ble_eq_true_of_le (by show (ordK r.kind)[j]+1≤12; omega)) ?_;intro H5 h;rw [w64 (x:=(j:Int)+1)];refine⟨⟨j+1,by omega,hlt,?_⟩,by dsimp only; omega⟩;rw [zrL_take _ _ _ hlt];exact h
 ·have hge:(ordK r.kind).length≤j:=by have:=z8v hlt; omega
  rw [z9f hge,zrL_enc hc.1 hc.2] at h;refine⟨_,h.r 1,_,h.r 1,_,h.r 1,_,h.r 1,_,h.r 1,_,h.r 1,?_⟩;refine h.al fun b3 _ h=>?_
  refine h.st 0 rfl rfl ?_;intro H5 h;refine⟨_,_,_,_,_,_,h.q 0,_,eq180,_,_,_,_,fun _=>h.q 2,_,fun _=>eq43,fun hz=>?_,fun hz=>?_⟩
  ·have:r.right=false:=by
    have:r.zeros=false:=by
     unfold Rp.zeros;rw [za2];rw [z97,z9a,z9a] at hz;exact hz
    unfold Rp.right;rw [this]; simp
   rw [← this];exact k _ h.tl.tl.tl.tl
  have hzs:r.zeros=true:=by
   rw [z94,z9u,z9u] at hz;unfold Rp.zeros;rw [hz.1,hz.2]; rfl
  have hR:r.right=((if r.kind=4 then q4v r.nx r.evs else decide (r.evs.length=0)) && r.lim):=by
   unfold Rp.right;rw [hk17,hzs]; simp
  refine⟨_,h.r 3,?_⟩;intro Jn hJ;have fin:∀H6,(if r.kind=4 then q4v r.nx r.evs else decide (r.evs.length=0))=true→SatL H6 (cellsA b (encR r a c) 46::F)→Jn H6:=by
   intro H6 hb h;rw [hb,Bool.true_and] at hR;refine hJ _ ?_;refine⟨_,h.r 0,?_⟩;intro Jn1 hJ1;have fin2:∀ep bt,ep=(if r.kind=3∨r.kind=4∨r.kind=5 then (1:Int) else 0)→bt=(if r.kind=2 then (1:Int) else 0)→Jn1 ep bt H6:=by
    rintro _ _ rfl rfl;refine hJ1 _ _ _ ?_;intro Jn2 hJ2;refine⟨_,h.r 0,_,q2t,_,fun _=>h.r 0,_,fun _=>q2t,_,fun _=>h.r 0,_,fun _=>q2t,_,fun _=>h.r 0,_,fun _=>q2t,_,fun _=>h.r 0,_,fun _=>q2t,_,fun _=>h.r 0,_,fun _=>q2t,_,_,_,_,fun _=>h.q 0,fun hw=>?_,fun hw=>?_⟩
    ·refine q8m (s:=r.sm) h fun H7 h=>⟨_,rfl,hJ2 _ _ ?_⟩
     have:r.right=decide r.sm.ok:=by
      rw [hR];unfold Rp.lim;rw [hw,Bool.true_and]
     rw [← this];exact k _ h.tl
    ·refine hJ2 _ _ ?_;have:r.right=false:=by
      rw [hR];unfold Rp.lim;rw [zbd] at hw;rw [hw,Bool.false_and]
     rw [← this];exact k _ h.tl
   refine⟨fun hk=>?_,fun hk=>?_⟩
   ·have hk:=z8s hk;exact fin2 _ _ (by rw [if_neg (by omega)]) (by rw [if_pos hk])
   intro Jn3 hJ3;have hk2:=z8v hk;have f3:∀t:Bool,t=decide (r.kind=3∨r.kind=4∨r.kind=5)→Jn3 t H6:=by
    rintro t rfl;refine hJ3 _ _ ?_;intro Jn4 hJ4;refine⟨fun ht=>?_,fun ht=>?_⟩
    ·refine hJ4 _ _ ?_;exact fin2 _ _ (by rw [if_pos (z8s ht)]) (by rw [if_neg hk2])
    ·refine hJ4 _ _ ?_;exact fin2 _ _ (by rw [if_neg (z8v ht)]) (by rw [if_neg hk2])
   refine⟨fun hk=>?_,fun hk=>?_⟩
   ·have hk3:=z8s hk;exact f3 _ (by rw [z9b hk3,z9b (.inl hk3)])
   intro Jn5 hJ5;have hk3:=z8v hk;refine⟨fun hk=>?_,fun hk=>?_⟩
   ·have hk4:=z8s hk;refine hJ5 _ _ ?_;exact f3 _ (by rw [z9b hk4,z9b (.inr (.inl hk4))])
   ·have hk4:=z8v hk;refine hJ5 _ _ ?_;refine f3 _ ?_;rw [z9s,z8u,z8u];omega
  refine⟨fun hk=>?_,fun hk=>?_⟩
  ·have hk:=z8s hk;refine⟨_,h.r 3,_,_,_,h.r 3,?_⟩;refine h.al fun b4 _ h=>?_
   refine h.st 0 rfl rfl ?_;intro H6 h;refine⟨_,_,_,_,_,_,_,_,_,_,_,_,_,_,_,_,_,_,_,_,h.q 0,?_⟩;rw [hel] at h ⊢;refine qjb (evs:=evs) h (((((ha.cons _).cons _).cons _).cons _).cons _) hl fun H7 h=>⟨_,rfl,fun hb=>?_,fun hb=>?_⟩
   ·have:r.right=false:=by
     rw [hR,if_pos hk,he,← qoo];rw [z9a] at hb;rw [hb]; rfl
    rw [← this];exact k _ h.tl.tl.tl.tl.tl
   ·refine fin _ ?_ ?_
    ·rw [if_pos hk,he,← qoo];simpa using hb
    ·rw [← hel] at h;exact h.o [4] 5
  ·have hk:=z8v hk;refine⟨_,_,_,h.r 3,fun hn=>?_,fun hn=>?_⟩
   ·have hn:=z8s hn;have:r.right=false:=by
     rw [hR,if_neg hk,za8 (by omega)]; rfl
    rw [← this];exact k _ h.tl.tl.tl.tl
   ·have hn:=z8v hn;refine fin _ ?_ (h.o [3] 4);rw [if_neg hk,z9b (by omega)]
end
end Go.Proofs.YtfmkddccnjidmaaGreatDoor
namespace Go.Nm
def u64N (v:Int):Nat:=(u64.wrap v).toNat
def usB (l:List Int):List Int:=l.flatMap fun v=>q1m (u64N v)
theorem q2o (l:List Int):q04 (usB l):=q10 fun _ _=>q6q _
abbrev Rd (α:Type):=RS→Except Int (α × RS)
def okR {α:Type}(s:RS)(x:α):Except Int (α × RS):=if s.e≠0 then .error s.e else .ok (x,s)
def numR:Rd Int:=fun s=>okR (uRes s).2 ((uRes s).1:Int)
def q1h:Rd Int:=fun s=>okR (uRes s).2 (i64.wrap ((uRes s).1:Int))
def q70:Rd Int:=fun s=>okR (iRes s).2 (iRes s).1
def q22 (m:Int):Rd Int:=fun s=>okR (cRes m s).2 (cRes m s).1
def upR (m:Int):Rd Int:=fun s=>match q1h s with
 | .ok (v,s')=>if inM v 0 m then .ok (v,s') else .error 10
 | .error e=>.error e
def q4w:Rd Pv:=fun s=>match q1h s with
 | .error e=>.error e
 | .ok (a,s1)=>match q70 s1 with
  | .error e=>.error e
  | .ok (b,s2)=>okR ⟨(q5d s2).e,(q5d s2).rest.bs⟩ ⟨a,b,(q5d s2).name,(q5d s2).labs⟩
def evB (e:Pv):List Int:=(usB [e.stamp]++q2g [e.value])++serR e.name e.labs
theorem qsa (e:Pv):q04 (evB e):=q0d (q0d (q2o _) (q6w _)) (z2h _ _)
def Rp.nums (r:Rp)(i:Nat):Int:=match i with|1=>r.ag|2=>r.ep|3=>r.bt|4=>r.nx|5=>r.st|6=>r.nw|7=>r.sm.asked|8=>r.sm.got|9=>r.sm.sent|10=>r.sm.came|_=>0
def Rp.bytes (r:Rp):List Int:=if r.right then (usB [r.kind]++(ordK r.kind).flatMap (fun i=>usB [r.nums i]))++(if r.kind=4 then usB [(r.evs.length:Int)] else [])++r.evs.flatMap evB else []
end Go.Nm
namespace Go.Proofs.YtfmkddccnjidmaaGreatDoor
open Go.Nm
theorem qjf (v:Int):u64N v < 18446744073709551616:=by
 have:=z6n v;unfold u64N; omega
theorem qw3 (v:Int):u64.wrap v=(u64N v:Nat):=by
 have:=z6n v;unfold u64N; omega
theorem q1a (l:List Int):(usB l).length≤10*l.length:=by
 induction l with
 | nil=>simp [usB]
 | cons v r ih=>
  have:=uintB_len10 (qjf v);unfold usB at ih ⊢;rw [z9w,z8t,z8y]; omega
theorem qoq (e:Pv):(evB e).length≤1320:=by
 have h1:=q1a [e.stamp];have h2:=q3x [e.value];have h3:=qy9 e.name e.labs;unfold evB;simp only [z8t,z8y,z9j] at *;omega
section
variable {F L:List Assn} {H:Heap} {K KP:Value→Heap→Prop} {Q:Assn}
theorem qae {a:Option Addr}{c:Nat}{vs:List Int}(h:SatL H F)(ha:∀H,SatL H F→rdS H a (vs.map I64))(hl:vs.length≤1000000)
  (k:∀a' c' H',SatL H' (slA 5 1 a' (usB vs).length c' ((usB vs).map U8)::F)→K (.slice a' (usB vs).length c') H') :
  CF 57 #[.slice a vs.length c] H K:=by
 refine qro ?_;refine⟨fun a' n' c' i H'=>∃j:Nat,i=j∧j≤vs.length∧n'=(usB (vs.take j)).length∧SatL H' (slA 5 1 a' (usB (vs.take j)).length c' ((usB (vs.take j)).map U8)::F),fun _ _ _ i _=>vs.length - i.toNat,
  ⟨0,rfl,z9l _,rfl,h.sl_nil 5 1⟩,?_⟩
 rintro a1 n1 c1 i H1 ⟨j,rfl,hj,rfl,h⟩;refine⟨fun hc=>?_,fun hc=>?_⟩
 ·have hlt:j < vs.length:=by have:=z8s hc; omega
  have hr:=(ha _ h.tl).at hlt;refine⟨by omega,_,_,hr.1,vs[j],hr.2,?_⟩;dsimp only;rw [qw3];have hul:=q1a (vs.take j);have hu1:=uintB_len10 (qjf vs[j]);have htk:(vs.take j).length≤vs.length:=by rw [z9d]; omega
  refine h.al fun b1 _ h=>?_
  refine q5c (us:=[u64N vs[j]]) h (fun H h=>h.ce_rd 0 rfl) (by simp; exact qjf _) (by simp) fun a2 c2 H3 h=>⟨_,_,_,rfl,?_⟩
  rw [qol] at h ⊢;refine appB h (i:=2) rfl rfl rfl (h.sl_rd 0 rfl) (by omega) fun a3 c3 H6 h=>⟨_,_,_,rfl,?_⟩
  rw [w64 (x:=(j:Int)+1)];have e:usB (vs.take (j+1))=usB (vs.take j)++q1m (u64N vs[j]):=q11 (f:=fun v=>q1m (u64N v)) hlt
  rw [← e] at h ⊢;exact⟨⟨j+1,by omega,hlt,rfl,h.o [2] 3⟩,by omega⟩
 ·have hge:vs.length≤j:=by have:=z8v hc; omega
  have e:vs.take j=vs:=z9f hge;rw [e] at h ⊢;exact k _ _ _ h
theorem q5l {b:Nat}{v:Int}(h:SatL H F)(i:Nat)(hA:nth i F=cellsA b [I64 v] 2)
  (k:∀a' c' H',SatL H' (slA 5 1 a' (usB [v]).length c' ((usB [v]).map U8)::F)→K (.slice a' (usB [v]).length c') H') :
  CF 57 #[.slice (some ⟨b,0,none⟩) 1 1] H K:=
 qae (vs:=[v]) h (fun H h=>h.ce_rd i hA) (by simp) k
theorem q6c {b:Nat}{v:Int}(h:SatL H F)(i:Nat)(hA:nth i F=cellsA b [I64 v] 2)
  (k:∀a' c' H',SatL H' (slA 5 1 a' (q2g [v]).length c' ((q2g [v]).map U8)::F)→K (.slice a' (q2g [v]).length c') H') :
  CF 59 #[.slice (some ⟨b,0,none⟩) 1 1] H K:=
 qs5 (vs:=[v]) h (fun H h=>h.ce_rd i hA) (by simp) k
set_option maxHeartbeats 1000000 in
theorem qjg {e:Ev}(h:SatL H F)(ha:∀H,SatL H F→rdS H e.la (flat encL e.labs))
  (k:∀a' c' H',SatL H' (slA 5 1 a' (evB e.p).length c' ((evB e.p).map U8)::F)→K (.slice a' (evB e.p).length c') H') :
  CF 95 #[aggV e] H K:=by
 refine qf5 ?_;refine h.al fun b _ h=>?_
 intro Jn hJ;have l1:=q1a [e.stamp];have l2:=q3x [e.value];have l3:=qy9 e.name e.labs;simp only [z8y,z9j] at l1 l2;have hJ':∀a c H',SatL H' (slA 5 1 a (usB [e.stamp]++q2g [e.value]).length c ((usB [e.stamp]++q2g [e.value]).map U8)::cellsA b (encV e) 95::F)→Jn a (usB [e.stamp]++q2g [e.value]).length c H':=by
  intro a c H' h;refine hJ _ _ _ _ ?_;refine⟨_,_,_,_,h.q 1,?_⟩;refine qvs h (fun H h=>ha H h.tl.tl) fun a2 c2 H2 h=>⟨_,_,_,rfl,?_⟩
  refine appB h (i:=1) rfl rfl rfl (h.sl_rd 0 rfl) (by rw [z8t]; omega) fun a3 c3 H6 h=>⟨_,_,_,rfl,?_⟩
  exact k _ _ _ (h.o [1] 3)
 refine⟨_,h.r 0,_,h.r 0,?_,?_⟩
 ·refine h.al fun b1 _ h=>⟨h.r 1,?_,?_⟩
  ·refine q5l h 0 rfl fun a1 c1 H2 h=>⟨_,_,_,rfl,h.r 2,?_⟩
   refine h.al fun b2 _ h=>?_
   refine q6c h 0 rfl fun a2 c2 H3 h=>⟨_,_,_,rfl,?_⟩
   refine appB h (i:=2) rfl rfl rfl (h.sl_rd 0 rfl) (by omega) fun a3 c3 H6 h=>⟨_,_,_,rfl,?_⟩
   exact hJ' _ _ _ (h.o [2,4] 5)
  ·refine h.al fun b2 _ h=>?_
   refine q5l h 1 rfl fun a1 c1 H2 h=>⟨_,_,_,rfl,?_⟩
   refine q6c h 1 rfl fun a2 c2 H3 h=>⟨_,_,_,rfl,?_⟩
   refine appB h (i:=1) rfl rfl rfl (h.sl_rd 0 rfl) (by omega) fun a3 c3 H6 h=>⟨_,_,_,rfl,?_⟩
   exact hJ' _ _ _ (h.o [1,4] 5)
 ·refine h.al fun b2 _ h=>⟨h.r 1,?_⟩
  refine h.al fun b1 _ h=>?_
  refine q5l h 0 rfl fun a1 c1 H2 h=>⟨_,_,_,rfl,?_⟩
  refine q6c h 2 rfl fun a2 c2 H3 h=>⟨_,_,_,rfl,?_⟩
  refine appB h (i:=1) rfl rfl rfl (h.sl_rd 0 rfl) (by omega) fun a3 c3 H6 h=>⟨_,_,_,rfl,?_⟩
  exact hJ' _ _ _ (h.o [1,4] 5)
abbrev pnV (e:Int):Value:=.iface 28 (I64 e)
def z2u {α:Type}(rb:Nat)(F:List Assn)(enc:α→Value)(K KP:Value→Heap→Prop):Except Int (α × RS)→Prop
 | .ok (x,s)=>∀H',s.e=0→q04 s.bs→s.bs.length≤1099511627776→SatL H' (crdA rb s::F)→K (enc x) H'
 | .error e=>∀H',e≠0→SatL H' F→KP (pnV e) H'
theorem q1i {e:Int}(k:e=0→K (.tuple #[]) H)(kp:e≠0→KP (pnV e) H):CP 45 #[I64 e] H K KP:=by
 refine qv7 ?_;refine fun Jn hJ=>⟨fun hc=>kp (by simpa using hc),fun hc=>hJ _ ?_⟩
 exact k (by simpa using hc)
theorem q71 {rb:Nat}{s:RS}(h:SatL H (crdA rb s::F))(hb:q04 s.bs)(hl:s.bs.length≤1099511627776)(k:z2u rb F (fun v:Int=>.int .u64 v) K KP (numR s)) :
  CP 49 #[.agg #[PA rb 0]] H K KP:=by
 refine qv6 ?_;refine h.al fun b _ h=>⟨_,h.r 0,?_⟩
 have h:=h.o [1,0] 2;refine q6y h hb hl fun H1 h=>⟨_,rfl,_,h.r 1,_,qa5 h,?_⟩
 have hb1:=q0v hb;have hl1:=q4p s;unfold numR okR at k;refine q1i (fun e=>⟨rfl,?_⟩) fun e=>?_
 ·rw [if_neg (by simpa using e)] at k;exact k _ e hb1 (by omega) (h.o [0] 2)
 ·rw [if_pos e] at k;exact k _ e h.tl.tl
theorem q1x {rb:Nat}{s:RS}(h:SatL H (crdA rb s::F))(hb:q04 s.bs)(hl:s.bs.length≤1099511627776)(k:z2u rb F I64 K KP (q1h s)) :
  CP 43 #[.agg #[PA rb 0]] H K KP:=by
 refine z5x ?_;refine h.al fun b _ h=>⟨_,h.rd 0 rfl 0,?_⟩
 have h:=h.o [1,0] 2;refine q71 h hb hl ?_;unfold numR okR;unfold q1h okR at k
 split
 ·rename_i e;rw [if_pos e] at k;exact fun H' he h=>k _ he h.tl
 ·rename_i e;rw [if_neg e] at k;exact fun H' he hb hl h=>⟨_,rfl,k _ he hb hl (h.o [0] 2)⟩
theorem q72 {rb:Nat}{s:RS}(h:SatL H (crdA rb s::F))(hb:q04 s.bs)(hl:s.bs.length≤1099511627776)(k:z2u rb F I64 K KP (q70 s)) :
  CP 41 #[.agg #[PA rb 0]] H K KP:=by
 refine qv8 ?_;refine h.al fun b _ h=>⟨_,h.r 0,?_⟩
 have h:=h.o [1,0] 2;refine qoj h hb hl fun H1 h=>⟨_,rfl,_,h.r 1,_,qa5 h,?_⟩
 have hb1:q04 (iRes s).2.bs:=q0v hb;have hl1:(iRes s).2.bs.length≤s.bs.length:=q4p s;unfold q70 okR at k;refine q1i (fun e=>⟨rfl,?_⟩) fun e=>?_
 ·rw [if_neg (by simpa using e)] at k;exact k _ e hb1 (by omega) (h.o [0] 2)
 ·rw [if_pos e] at k;exact k _ e h.tl.tl
theorem q73 {rb:Nat}{s:RS}{m:Int}(hm:wf64 m)(h:SatL H (crdA rb s::F))(hb:q04 s.bs)(hl:s.bs.length≤1099511627776)(k:z2u rb F I64 K KP (q22 m s)) :
  CP 42 #[.agg #[PA rb 0],I64 m] H K KP:=by
 refine z12 ?_;refine h.al fun b _ h=>⟨_,h.r 0,?_⟩
 have h:=h.o [1,0] 2;refine qf1 (most:=m) h hb hl hm fun H1 h=>⟨_,rfl,_,h.r 1,_,qa5 h,?_⟩
 have hb1:=q83 (m:=m) hb;have hl1:=qdu s m;unfold q22 okR at k;refine q1i (fun e=>⟨rfl,?_⟩) fun e=>?_
 ·rw [if_neg (by simpa using e)] at k;exact k _ e hb1 (by omega) (h.o [0] 2)
 ·rw [if_pos e] at k;exact k _ e h.tl.tl
theorem q87 {rb:Nat}{s:RS}{m:Int}(h:SatL H (crdA rb s::F))(hb:q04 s.bs)(hl:s.bs.length≤1099511627776)(k:z2u rb F I64 K KP (upR m s)) :
  CP 40 #[.agg #[PA rb 0],I64 m] H K KP:=by
 refine z5y ?_;refine h.al fun b _ h=>⟨_,h.rd 0 rfl 0,?_⟩
 have h:=h.o [1,0] 2;refine q1x h hb hl ?_;unfold upR at k
 cases hr:q1h s with
 | error e=>
  rw [hr] at k;exact fun H' he h=>k _ he h.tl
 | ok p=>
  obtain⟨v,s1⟩:=p;rw [hr] at k;dsimp only at k;intro H' he hb hl h;refine⟨_,rfl,_,q2t,?_⟩;refine fun Jn hJ=>⟨fun hc=>?_,fun hc=>hJ _ ?_⟩
  ·rw [if_neg (by rw [z9a] at hc; rw [hc]; simp)] at k;exact k _ (by decide) h.tl.tl
  ·skip
   rw [if_pos (by rw [z9u] at hc; exact hc)] at k;exact k _ he hb hl (h.o [0] 2)
theorem qyf {s:RS}(h:(q5d s).e=0):(⟨(q5d s).e,(q5d s).rest.bs⟩:RS)=(q5d s).rest:=by
 unfold q5d at h ⊢
 split at h
 ·rename_i h1; exact absurd h h1
 ·rename_i h1;rw [if_neg h1];have h1:(q3o (cRes 8 (tRes 64 s).2).1.toNat (cRes 8 (tRes 64 s).2).2).2.e=0:=by simpa using h1
  generalize q3o (cRes 8 (tRes 64 s).2).1.toNat (cRes 8 (tRes 64 s).2).2=W at *;obtain⟨w1,w2,w3⟩:=W;dsimp only at h1;subst h1
  split at h
  ·rename_i h2; rw [if_pos h2]
  ·simp at h
def EPost (rb:Nat)(Q:Assn)(F:List Assn)(K KP:Value→Heap→Prop):Except Int (Pv × RS)→Prop
 | .ok (x,s)=>∀Q' (e:Ev) H',Sub Q Q'→q5z Q' e→e.p=x→s.e=0→q04 s.bs→s.bs.length≤1099511627776→SatL H' (Q'::crdA rb s::F)→K (aggV e) H'
 | .error e=>∀Q' H',e≠0→Sub Q Q'→SatL H' (Q'::F)→KP (pnV e) H'
theorem qb2 {rb:Nat}{s:RS}(h:SatL H (Q::crdA rb s::F))(hb:q04 s.bs)(hl:s.bs.length≤1099511627776)(k:EPost rb Q F K KP (q4w s)) :
  CP 94 #[.agg #[PA rb 0]] H K KP:=by
 refine z0w ?_;refine h.al fun b _ h=>?_
 refine h.al fun b1 _ h=>⟨_,h.rd 1 rfl 0,_,h.rd 1 rfl 0,?_⟩
 have h:=h.o [3,0,1,2] 4;refine q1x h hb hl ?_;unfold q4w at k
 cases hr:q1h s with
 | error e=>
  rw [hr] at k;exact fun H' he h=>k _ _ he (Sub.refl Q) (h.o [2] 3)
 | ok p=>
  obtain⟨v,s1⟩:=p;rw [hr] at k;dsimp only at k;intro H' he1 hb1 hl1 h;refine⟨_,rfl,h.rd 2 rfl 0,?_⟩;refine q72 h hb1 hl1 ?_
  cases hr:q70 s1 with
  | error e=>
   rw [hr] at k;exact fun H' he h=>k _ _ he (Sub.refl Q) (h.o [2] 3)
  | ok p=>
   obtain⟨u,s2⟩:=p;rw [hr] at k;dsimp only at k;intro H' he2 hb2 hl2 h;refine⟨_,rfl,_,h.r 2,?_⟩;refine z2i h hb2 hl2 fun a c H2 h=>⟨_,_,_,_,_,rfl,?_⟩
   have hb3:=qj6 hb2;have hl3:=qs8 s2;refine h.al fun b2 _ h=>?_
   refine h.st 0 rfl rfl ?_;intro H3 h;unfold okR at k;refine q1i (fun e=>?_) fun e=>?_
   ·rw [if_neg (by simpa using e),qyf e] at k;refine⟨rfl,_,_,_,_,h.q 0,?_⟩;refine h.st 3 rfl rfl ?_;intro H4 h;refine⟨_,_,_,_,_,_,h.q 3,?_⟩;have hr0:(q5d s2).rest.e=0:=by rw [← qyf e]; exact e
    refine k _ ⟨v,u,(q5d s2).name,(q5d s2).labs,a,c⟩ _ (Sub.add (slA 267 2 a (q5d s2).labs.length c (flat encL (q5d s2).labs)) Q) (KIn.sl (c:=c)) rfl hr0 hb3 (by omega) ?_;have h:=h.o [2,5,1] 6;exact q1z.2 h
   ·rw [if_pos e] at k;have h:=h.o [5] 6;exact k _ _ e (Sub.refl Q) h
end
end Go.Proofs.YtfmkddccnjidmaaGreatDoor
namespace Go.Nm
theorem Rp.right_len {r:Rp}(h:r.right=true):r.evs.length≤64:=by
 unfold Rp.right at h;rw [z8w,z8w,z8w] at h;have h:=h.1.2
 split at h
 ·unfold q4v at h;simp only [z8w,z8u] at h;omega
 ·have:=z8s h; omega
end Go.Nm
namespace Go.Proofs.YtfmkddccnjidmaaGreatDoor
open Go.Nm
theorem ordK_pos {k:Int}:∀i∈ordK k,1≤i:=by
 unfold ordK
 split
 ·decide
 split
 ·decide
 split
 ·decide
 split
 ·decide
 split
 ·decide
 split
 ·decide
 ·decide
theorem encR_get {r:Rp}{a:Option Addr}{c i:Nat}(h1:1≤i)(h2:i < 11):lget (encR r a c) i=some (I64 (r.nums i)):=by
 rcases (by omega:i=1∨i=2∨i=3∨i=4∨i=5∨i=6∨i=7∨i=8∨i=9∨i=10) with rfl|rfl|rfl|rfl|rfl|rfl|rfl|rfl|rfl|rfl <;> rfl
abbrev nmB (r:Rp)(is:List Nat):List Int:=is.flatMap fun i=>usB [r.nums i]
theorem nmB_len (r:Rp)(is:List Nat):(nmB r is).length≤10*is.length:=by
 induction is with
 | nil=>simp
 | cons i l ih=>
  have:=q1a [r.nums i];unfold nmB at *;rw [z9w,z8t,z8y];simp only [z8y,z9j] at this;omega
theorem evsB_len (l:List Pv):(l.flatMap evB).length≤1320*l.length:=by
 induction l with
 | nil=>simp
 | cons i l ih=>
  have:=qoq i;rw [z9w,z8t,z8y];omega
section
variable {F L:List Assn} {H:Heap} {K KP:Value→Heap→Prop} {Q:Assn}
set_option maxHeartbeats 1000000 in
theorem qw4 {r:Rp}{a:Option Addr}{c:Nat}{evs:List Ev}(he:r.evs=evs.map Ev.p)(h:SatL H F)(ha:EvRd F a evs)(hl:evs.length≤1099511627776)
  (k:∀a' c' H',SatL H' (slA 5 1 a' r.bytes.length c' (r.bytes.map U8)::F)→K (.slice a' r.bytes.length c') H'):CF 33 #[.agg ⟨encR r a c⟩] H K:=by
 have hel:r.evs.length=evs.length:=by rw [he,z9c]
 refine z15 ?_;refine h.al fun b _ h=>⟨_,_,_,_,_,_,_,_,_,_,_,_,_,_,h.q 0,?_⟩
 refine q8s he h (ha.cons _) hl fun H1 h=>⟨_,rfl,fun hc=>?_,fun hc=>?_⟩
 ·have e:r.bytes=[]:=by unfold Rp.bytes; rw [if_neg (by simpa using hc)]
  rw [e] at k;exact k none 0 _ (h.tl.sl_nil 5 1)
 have hR:r.right=true:=by simpa using hc
 have h64:=Rp.right_len hR;unfold Rp.bytes at k;rw [if_pos hR] at k;have l0:=q1a [r.kind];have lo:=qop r.kind;simp only [z8y,z9j] at l0;refine⟨_,h.r 0,?_⟩;refine h.al fun b1 _ h=>?_
 refine q5l h 0 rfl fun a1 c1 H2 h=>⟨_,_,_,rfl,?_⟩
 refine qfe h 2 rfl rfl fun p pc H3 h=>⟨_,_,_,rfl,?_⟩
 refine⟨fun a' n' c' i H'=>∃j:Nat,i=j∧j≤(ordK r.kind).length∧n'=(usB [r.kind]++nmB r ((ordK r.kind).take j)).length∧
  SatL H' (slA 5 1 a' (usB [r.kind]++nmB r ((ordK r.kind).take j)).length c' ((usB [r.kind]++nmB r ((ordK r.kind).take j)).map U8)::slA 177 1 p (ordK r.kind).length pc ((ordK r.kind).map fun i=>PA b i)::cellsA b (encR r a c) 46::F),
  fun _ _ _ i _=>(ordK r.kind).length - i.toNat,⟨0,rfl,by omega,by simp,?_⟩,?_⟩
 ·rw [show usB [r.kind]++nmB r ((ordK r.kind).take 0)=usB [r.kind] by simp [nmB]];exact h.o [1,0,3] 4
 rintro a2 n2 c2 i H4 ⟨j,rfl,hj,rfl,h⟩;have ljn:=nmB_len r ((ordK r.kind).take j);have ljt:((ordK r.kind).take j).length≤(ordK r.kind).length:=by rw [z9d]; omega
 refine⟨fun hlt=>?_,fun hlt=>?_⟩
 ·have hlt:j < (ordK r.kind).length:=by have:=z8s hlt; omega
  have hr:=(h.sl_rd 1 rfl).at hlt;have hi:=qw2 _ (z92 hlt);have hi1:=ordK_pos _ (z92 hlt);refine⟨by omega,_,_,hr.1,_,hr.2,q01 ⟨r.nums (ordK r.kind)[j],(h.r 2).trans (encR_get hi1 hi),?_⟩⟩;refine h.al fun b3 _ h=>?_
  refine q5l h 0 rfl fun a3 c3 H5 h=>⟨_,_,_,rfl,?_⟩
  have l1:=q1a [r.nums (ordK r.kind)[j]];simp only [z8y,z9j] at l1;refine appB h (i:=2) rfl rfl rfl (h.sl_rd 0 rfl) (by rw [z8t]; omega) fun a4 c4 H6 h=>⟨_,_,_,rfl,?_⟩
  rw [w64 (x:=(j:Int)+1)];have e:usB [r.kind]++nmB r ((ordK r.kind).take (j+1))=(usB [r.kind]++nmB r ((ordK r.kind).take j))++usB [r.nums (ordK r.kind)[j]]:=by
   unfold nmB;rw [q11 hlt,z93]
  rw [← e] at h ⊢;exact⟨⟨j+1,by omega,hlt,rfl,h.o [2,3,4] 5⟩,by dsimp only; omega⟩
 ·have hge:(ordK r.kind).length≤j:=by have:=z8v hlt; omega
  rw [z9f hge] at h ljn ⊢;have h:=h.o [0,2] 3;refine⟨_,h.r 1,?_⟩;intro Jn hJ;have hJ':∀(O:List Int) a3 c' H',O=(usB [r.kind]++nmB r (ordK r.kind))++(if r.kind=4 then usB [(r.evs.length:Int)] else [])→SatL H' (slA 5 1 a3 O.length c' (O.map U8)::cellsA b (encR r a c) 46::F)→Jn a3 O.length c' H':=by
   intro O a3 c3 H5 hO h;refine hJ _ _ _ _ ?_;have lO:O.length≤80:=by
    rw [hO];have l2:=q1a [(r.evs.length:Int)];simp only [z8y,z9j] at l2
    split <;> simp only [z8t,z9j] <;> omega
   refine⟨_,_,_,h.r 1,?_⟩;rw [← hO] at k;refine⟨fun a' n' c' i H'=>∃j:Nat,i=j∧j≤evs.length∧n'=(O++(r.evs.take j).flatMap evB).length∧
    SatL H' (slA 5 1 a' (O++(r.evs.take j).flatMap evB).length c' ((O++(r.evs.take j).flatMap evB).map U8)::cellsA b (encR r a c) 46::F),
    fun _ _ _ i _=>evs.length - i.toNat,⟨0,rfl,by omega,by simp,by simpa using h⟩,?_⟩
   rintro a4 n4 c4 i H6 ⟨j,rfl,hj,rfl,h⟩;have ljn:=evsB_len (r.evs.take j);have ljt:(r.evs.take j).length≤r.evs.length:=by rw [z9d]; omega
   refine⟨fun hlt=>?_,fun hlt=>?_⟩
   ·have hlt:j < evs.length:=by have:=z8s hlt; omega
    have hr:=ha.rd _ h.tl.tl;refine⟨by omega,_,_,hr.some q0t (by omega) hlt,_,_,_,_,_,_,hr.els q0t hlt,?_⟩;refine h.al fun b5 _ h=>?_
    refine h.st 0 rfl rfl ?_;intro H7 h;refine⟨_,_,_,_,_,_,h.q 0,?_⟩;refine qjg (e:=evs[j]) h (fun H h=>ha.labs _ (z92 hlt) H h.tl.tl.tl) fun a6 c6 H8 h=>⟨_,_,_,rfl,?_⟩
    have l1:=qoq evs[j].p;refine appB h (i:=2) rfl rfl rfl (h.sl_rd 0 rfl) (by rw [z8t]; omega) fun a7 c7 H9 h=>⟨_,_,_,rfl,?_⟩
    rw [w64 (x:=(j:Int)+1)];have hlr:j < r.evs.length:=by omega
    have ej:r.evs[j]=evs[j].p:=by simp [he]
    have e:O++(r.evs.take (j+1)).flatMap evB=(O++(r.evs.take j).flatMap evB)++evB evs[j].p:=by
     rw [q11 hlr,z93,ej]
    rw [← e] at h ⊢;exact⟨⟨j+1,by omega,hlt,rfl,h.o [2,3] 4⟩,by dsimp only; omega⟩
   ·have hge:r.evs.length≤j:=by have:=z8v hlt; omega
    rw [z9f hge] at h ⊢;exact k _ _ _ (h.o [0] 2)
  refine⟨fun hk=>?_,fun hk=>?_⟩
  ·have hk:=z8s hk;refine⟨_,_,_,h.r 1,?_⟩;refine h.al fun b6 _ h=>?_
   refine q5l h 0 rfl fun a3 c3 H5 h=>⟨_,_,_,rfl,?_⟩
   have l1:=q1a [(r.evs.length:Int)];simp only [z8y,z9j] at l1;refine appB h (i:=2) rfl rfl rfl (h.sl_rd 0 rfl) (by rw [z8t]; omega) fun a4 c4 H6 h=>⟨_,_,_,rfl,?_⟩
   refine hJ' _ _ _ _ (by rw [if_pos hk]) (h.o [2,3] 4)
  ·have hk:=z8v hk;refine hJ' _ _ _ _ (by rw [if_neg hk,z9o]) h
end
end Go.Proofs.YtfmkddccnjidmaaGreatDoor
namespace Go.Nm
def q94:Nat→Rd (List Int)
 | 0,s=>.ok ([],s)
 | n+1,s=>match q94 n s with
  | .error e=>.error e
  | .ok (vs,s1)=>match q1h s1 with
   | .error e=>.error e
   | .ok (v,s2)=>.ok (vs++[v],s2)
def q5e:Nat→Rd (List Pv)
 | 0,s=>.ok ([],s)
 | n+1,s=>match q5e n s with
  | .error e=>.error e
  | .ok (vs,s1)=>match q4w s1 with
   | .error e=>.error e
   | .ok (v,s2)=>.ok (vs++[v],s2)
def atV (k:Int)(vs:List Int)(i:Nat):Int:=if i∈ordK k then vs.getD ((ordK k).idxOf i) 0 else 0
def qff (k:Int)(vs:List Int)(evs:List Pv):Rp:=⟨k,atV k vs 1,atV k vs 2,atV k vs 3,atV k vs 4,atV k vs 5,atV k vs 6,⟨atV k vs 7,atV k vs 8,atV k vs 9,atV k vs 10⟩,evs⟩
def evsR (k:Int):Rd (List Pv):=fun s=>if k=4 then (match q22 64 s with
 | .error e=>.error e
 | .ok (n,s3)=>q5e n.toNat s3) else .ok ([],s)
def recR (bs:List Int):Except Int Rp:=match numR ⟨0,bs⟩ with
 | .error e=>.error e
 | .ok (k,s1)=>if k < 1∨7 < k then .error 16 else match q94 (ordK k).length s1 with
  | .error e=>.error e
  | .ok (vs,s2)=>match evsR k s2 with
   | .error e=>.error e
   | .ok (evs,s4)=>if (q21 s4).e≠0 then .error (q21 s4).e else if (qff k vs evs).right then .ok (qff k vs evs) else .error 10
theorem qm4:∀{n:Nat} {s:RS} {vs:List Int} {s':RS},q94 n s=.ok (vs,s')→vs.length=n
 | 0,s,vs,s',h=>by cases h; rfl
 | n+1,s,vs,s',h=>by
  unfold q94 at h
  split at h
  ·cases h
  ·rename_i ws s1 h1
   split at h
   ·cases h
   ·cases h
    rw [z8t,qm4 h1]; rfl
theorem qjh:∀{n:Nat} {s:RS} {vs:List Pv} {s':RS},q5e n s=.ok (vs,s')→vs.length=n
 | 0,s,vs,s',h=>by cases h; rfl
 | n+1,s,vs,s',h=>by
  unfold q5e at h
  split at h
  ·cases h
  ·rename_i ws s1 h1
   split at h
   ·cases h
   ·cases h
    rw [z8t,qjh h1]; rfl
theorem qm5 {s:RS}{e:Int}:∀{n j:Nat},q94 j s=.error e→j≤n→q94 n s=.error e
 | 0,j,h,hj=>by
  obtain rfl:j=0:=by omega
  exact h
 | n+1,j,h,hj=>by
  rcases z9h n j with h1|h1
  ·obtain rfl:j=n+1:=by omega
   exact h
  ·unfold q94;rw [qm5 h h1]
theorem qji {s:RS}{e:Int}:∀{n j:Nat},q5e j s=.error e→j≤n→q5e n s=.error e
 | 0,j,h,hj=>by
  obtain rfl:j=0:=by omega
  exact h
 | n+1,j,h,hj=>by
  rcases z9h n j with h1|h1
  ·obtain rfl:j=n+1:=by omega
   exact h
  ·unfold q5e;rw [qji h h1]
def stL:List Value→List Nat→List Int→List Value
 | cs,i::is,v::vs=>stL (q1l cs i [I64 v]) is vs
 | cs,_,_=>cs
theorem qw5:∀(is:List Nat) (vs:List Int) (cs:List Value),(stL cs is vs).length=cs.length
 | [],_,_=>rfl
 | _::_,[],_=>rfl
 | i::is,v::vs,cs=>by
  show (stL (q1l cs i [I64 v]) is vs).length=_;rw [qw5 is vs,q5o]
theorem qyg:∀{is:List Nat} {vs:List Int} {cs:List Value} {i:Nat} {v:Int},is.length=vs.length→stL cs (is++[i]) (vs++[v])=q1l (stL cs is vs) i [I64 v]
 | [],[],cs,i,v,_=>rfl
 | a::is,b::vs,cs,i,v,h=>by
  show stL (q1l cs a [I64 b]) (is++[i]) (vs++[v])=q1l (stL (q1l cs a [I64 b]) is vs) i [I64 v];exact qyg (by simpa using h)
 | [],b::vs,cs,i,v,h=>by simp at h
 | a::is,[],cs,i,v,h=>by simp at h
abbrev zR (k:Int):List Value:=[I64 k,I64 0,I64 0,I64 0,I64 0,I64 0,I64 0,I64 0,I64 0,I64 0,I64 0,.slice none 0 0]
theorem stL_fill {k:Int}{vs:List Int}(h1:¬k < 1)(h2:¬7 < k)(hl:vs.length=(ordK k).length):stL (zR k) (ordK k) vs=encR (qff k vs []) none 0:=by
 rcases kinds h1 h2 with rfl|rfl|rfl|rfl|rfl|rfl|rfl
 ·match vs,hl with
  | [],_=>rfl
 ·match vs,hl with
  | [a,b,c],_=>rfl
 ·match vs,hl with
  | [a,b,c,d,e,f],_=>rfl
 ·match vs,hl with
  | [a,b,c,d],_=>rfl
 ·match vs,hl with
  | [a,b,c,d,e],_=>rfl
 ·match vs,hl with
  | [a],_=>rfl
 ·match vs,hl with
  | [a],_=>rfl
end Go.Nm
namespace Go.Proofs.YtfmkddccnjidmaaGreatDoor
open Go.Nm
section
variable {F L:List Assn} {H:Heap} {K KP:Value→Heap→Prop} {Q:Assn}
theorem qmv:q5v Tryz.prog .eql 20 .nilIface .nilIface true:=by
 intro ox oy w
 cases ox <;> cases oy <;> kernel_rfl
theorem eqPn {e:Int}:q5v Tryz.prog .eql 20 (pnV e) .nilIface false:=by
 intro ox oy w
 kernel_rfl
theorem assertPn {e:Int}:q4x Tryz.prog (Instr.typeAssert (pnV e) 20 28 true) (.tuple #[(I64 e),(.bool true)]):=by
 intro w
 kernel_rfl
theorem qjj (k:K (I64 0) H):CF 38 #[.nilIface] H K:=
 qg4 ⟨true,qmv,fun _=>k,fun h=>absurd h (by simp)⟩
theorem qjk {e:Int}(k:K (I64 e) H):CF 38 #[pnV e] H K:=
 qg4 ⟨false,eqPn,fun h=>absurd h (by simp),fun _=>⟨e,true,assertPn,fun _=>k,fun h=>absurd h (by simp)⟩⟩
theorem qw6 {b b1:Nat}{e:Int}{cs:List Value}{v1:Int}{KQ:FrameMode→Heap→Prop}(he:e≠0)(hcs:cs.length=12)(h:SatL H (cellsA b1 [I64 v1] 28::cellsA b cs 46::F))
  (k:∀H',SatL H' (cellsA b1 [I64 e] 28::cellsA b (zR 0) 46::F)→KQ (panM (pnV e) true) H'):DefQ Tryz.prog 92 [(PA b1 0),(PA b 0)] (panM (pnV e) false) H KQ:=by
 have hd:DefQ Tryz.prog 92 [(PA b1 0),(PA b 0)] (panM (pnV e) false) H fun u'' H'=>u''=panM (pnV e) true∧SatL H' (cellsA b1 [I64 e] 28::cellsA b (zR 0) 46::F):=by
  refine q54.defq (.inr ⟨rfl,rfl⟩) ?_;unfold q54.code;refine qjk ⟨_,rfl,?_⟩;refine h.st 0 rfl rfl ?_;intro H2 h;refine⟨_,h.r 0,?_⟩;intro Jn hJ;refine⟨fun _=>?_,fun hc=>absurd hc (by simpa using he)⟩
  refine h.st 1 rfl (by rw [hcs]; rfl) ?_;intro H3 h;refine hJ _ ?_
  skip
  rw [qi9 _ cs (by rw [hcs]; rfl)] at h;exact h
 intro w hw;refine (hd w hw).mono fun e' u' w' hh=>?_
 cases e' <;> simp only at hh ⊢
 exact⟨hh.1,hh.2.1▸k _ hh.2.2⟩
theorem z71 {b b1:Nat}{cs:List Value}{v1:Int}{KQ:FrameMode→Heap→Prop}(h:SatL H (cellsA b1 [I64 v1] 28::cellsA b cs 46::F))
  (k:∀H',SatL H' (cellsA b1 [I64 0] 28::cellsA b cs 46::F)→KQ .returning H'):DefQ Tryz.prog 92 [(PA b1 0),(PA b 0)] .returning H KQ:=by
 have hd:DefQ Tryz.prog 92 [(PA b1 0),(PA b 0)] .returning H fun u'' H'=>u''=.returning∧SatL H' (cellsA b1 [I64 0] 28::cellsA b cs 46::F):=by
  refine q54.defq (.inl ⟨rfl,rfl,rfl⟩) ?_;unfold q54.code;refine qjj ⟨_,rfl,?_⟩;refine h.st 0 rfl rfl ?_;intro H2 h;refine⟨_,h.r 0,?_⟩;intro Jn hJ;refine⟨fun hc=>absurd hc (by simp),fun _=>hJ _ ?_⟩
  skip
  exact h
 intro w hw;refine (hd w hw).mono fun e' u' w' hh=>?_
 cases e' <;> simp only at hh ⊢
 exact⟨hh.1,hh.2.1▸k _ hh.2.2⟩
end
open Go.Nm
section
variable {F L:List Assn} {H:Heap} {K KP:Value→Heap→Prop} {Q:Assn}
def RdPost (Q:Assn)(F:List Assn)(K:KT):Except Int Rp→Prop
 | .ok r=>∀Q' evs a' c' H',Sub Q Q'→r.evs=evs.map Ev.p→(∀e∈evs,q5z Q' e)→SatL H' (Q'::slA 95 4 a' evs.length c' (flat encV evs)::F)→K (.tuple #[.agg ⟨encR r a' c'⟩,I64 0]) H'
 | .error e=>∀Q' H',e≠0→Sub Q Q'→SatL H' (Q'::F)→K (.tuple #[.agg ⟨zR 0⟩,I64 e]) H'
theorem encR_evs {r:Rp}{evs:List Ev}{a:Option Addr}{c:Nat}(he:r.evs=evs.map Ev.p):encR r a c=[I64 r.kind,I64 r.ag,I64 r.ep,I64 r.bt,I64 r.nx,I64 r.st,I64 r.nw,I64 r.sm.asked,I64 r.sm.got,I64 r.sm.sent,I64 r.sm.came,.slice a evs.length c]:=by
 unfold encR; rw [he,z9c]
theorem z73 (s:RS):0≤(cRes 64 s).1∧(cRes 64 s).1≤64:=by
 unfold cRes
 split
 ·dsimp only; omega
 ·split
  ·split
   ·dsimp only; omega
   ·dsimp only; omega
  ·dsimp only; omega
  ·dsimp only; omega
set_option maxHeartbeats 4000000 in
theorem z74 {a:Option Addr}{c:Nat}{bs:List Int}(h:SatL H (Q::F))(ha:∀H,SatL H (Q::F)→rdS H a (bs.map U8))(hb:q04 bs)(hl:bs.length≤1099511627776)
  (k:RdPost Q F K (recR bs)):CF 32 #[.slice a bs.length c] H K:=by
 refine qv9 ?_;refine h.al fun b _ h=>?_
 refine h.al fun b1 _ h=>?_
 have pan:∀e Q' H' cs v1,recR bs=.error e→e≠0→Sub Q Q'→cs.length=12→SatL H' (cellsA b1 [I64 v1] 28::cellsA b cs 46::Q'::F)→
   memN 92 X.calls=true∧DefQ Tryz.prog 92 [(PA b1 0),(PA b 0)] (panM (pnV e) false) H' fun u16 H_36=>u16=panM (pnV e) true∧
    ∃res0_6 res1_6 res2_6 res3_6 res4_6 res5_6 res6_6 res7_6 res8_6 res9_6 res10_6 res11a6 res11n6 res11c6,q03 H_36 b 0 [(I64 res0_6),(I64 res1_6),(I64 res2_6),(I64 res3_6),(I64 res4_6),(I64 res5_6),(I64 res6_6),(I64 res7_6),(I64 res8_6),(I64 res9_6),(I64 res10_6),(.slice res11a6 res11n6 res11c6)]∧
    ∃res16,q02 H_36 b1 0=some (I64 res16)∧
    K (.tuple #[(.agg #[(I64 res0_6),(I64 res1_6),(I64 res2_6),(I64 res3_6),(I64 res4_6),(I64 res5_6),(I64 res6_6),(I64 res7_6),(I64 res8_6),(I64 res9_6),(I64 res10_6),(.slice res11a6 res11n6 res11c6)]),(I64 res16)]) H_36:=by
  intro e Q' H' cs v1 hr he hs hcs h;refine⟨rfl,qw6 he hcs h fun H2 h=>⟨rfl,_,_,_,_,_,_,_,_,_,_,_,_,_,_,h.q 1,_,h.r 0,?_⟩⟩
  rw [hr] at k;exact k Q' _ he hs h.tl.tl
 refine qiq h (fun H h=>ha H h.tl.tl) hl fun rb H2 h=>⟨_,rfl,?_⟩
 refine h.al fun b2 _ h=>?_
 refine h.st 0 rfl rfl ?_;intro H3 h;refine⟨_,h.q 0,?_⟩;have h:=h.o [1,0,2,3,4] 5;refine q71 h hb hl ?_;unfold recR at k pan
 cases hr0:numR ⟨0,bs⟩ with
 | error e=>
  rw [hr0] at pan;exact fun H' he h=>pan _ Q _ _ _ rfl he (Sub.refl Q) rfl (h.o [1,2] 3)
 | ok p=>
 obtain⟨kd,s1⟩:=p;rw [hr0] at pan k;dsimp only at pan k;intro H4 he1 hb1 hl1 h;refine⟨_,rfl,?_⟩;intro Jn hJ;refine⟨fun hc=>?_,fun hc=>hJ _ ?_⟩
 ·simp only [z97,z8u] at hc;rw [if_pos hc] at pan;exact pan _ Q _ _ _ rfl (by decide) (Sub.refl Q) rfl (h.o [2,3] 4)
 simp only [z94,z8x] at hc;rw [if_neg (by omega)] at pan k;have hkw:i64.wrap kd=kd:=w64;rw [hkw];refine h.st 3 rfl rfl ?_;intro H5 h;refine qfe h 3 rfl rfl fun p pc H6 h=>⟨_,_,_,rfl,?_⟩
 have ho:=qop kd;refine⟨fun i H'=>∃(j:Nat) (vs:List Int) (s2:RS),i=j∧j≤(ordK kd).length∧q94 j s1=.ok (vs,s2)∧s2.e=0∧q04 s2.bs∧s2.bs.length≤1099511627776∧
  SatL H' (crdA rb s2::slA 177 1 p (ordK kd).length pc ((ordK kd).map fun i=>PA b i)::cellsA b2 [PA rb 0] 109::cellsA b1 [I64 0] 28::cellsA b (stL (zR kd) ((ordK kd).take j) vs) 46::Q::F),
  fun i _=>(ordK kd).length - i.toNat,⟨0,[],s1,rfl,by omega,rfl,he1,hb1,hl1,h.o [1,0,2,3,4] 5⟩,?_⟩
 rintro i H7 ⟨j,vs,s2,rfl,hj,hls,he2,hb2,hl2,h⟩;have hvl:=qm4 hls;refine⟨fun hlt=>?_,fun hlt=>?_⟩
 ·have hlt:j < (ordK kd).length:=by have:=z8s hlt; omega
  have hrd:=(h.sl_rd 1 rfl).at hlt;have hi:=qw2 _ (z92 hlt);refine⟨by omega,_,_,hrd.1,_,hrd.2,_,h.q 2,?_⟩;refine q1x h hb2 hl2 ?_;have hs1:q94 (j+1) s1=match q1h s2 with|.error e=>.error e|.ok (v,s2)=>.ok (vs++[v],s2):=by
   rw [q94,hls] <;> rfl
  cases hr2:q1h s2 with
  | error e=>
   rw [hr2] at hs1;rw [qm5 hs1 hlt] at pan;exact fun H' he h=>pan _ Q _ _ _ rfl he (Sub.refl Q) (by rw [qw5]; rfl) (h.o [2,3] 4)
  | ok q=>
  obtain⟨v,s3⟩:=q;rw [hr2] at hs1;intro H8 he3 hb3 hl3 h;refine⟨_,rfl,q01 ?_⟩;refine h.st 4 rfl (by rw [qw5]; exact Nat.ble_eq_true_of_le (by show (ordK kd)[j]+1≤12; omega)) ?_;intro H9 h;rw [w64 (x:=(j:Int)+1)];refine⟨⟨j+1,_,s3,by omega,hlt,hs1,he3,hb3,hl3,?_⟩,by dsimp only; omega⟩;rw [za5 hlt,qyg (by rw [z9d]; omega)];exact h
 have hge:j=(ordK kd).length:=by have:=z8v hlt; omega
 subst hge;rw [hls] at pan k;dsimp only at pan k;rw [zab,stL_fill (by omega) (by omega) hvl] at h;refine⟨_,h.r 4,?_⟩;intro Jn1 hJ1;have fin:∀(Q':Assn) (evs:List Ev) (a':Option Addr) (c':Nat) (s4:RS) H',Sub Q Q'→evsR kd s2=.ok (evs.map Ev.p,s4)→(∀e∈evs,q5z Q' e)→evs.length≤64→q04 s4.bs→s4.bs.length≤1099511627776→
   SatL H' (crdA rb s4::slA 95 4 a' evs.length c' (flat encV evs)::cellsA b2 [PA rb 0] 109::cellsA b1 [I64 0] 28::cellsA b (encR (qff kd vs (evs.map Ev.p)) a' c') 46::Q'::F)→Jn1 H':=by
  intro Q' evs a' c' s4 H10 hsub hev hk64 hlen hb4 hl4 h;rw [hev] at pan k;dsimp only at pan k;refine hJ1 _ ?_;refine⟨_,h.r 2,?_⟩;refine qok h fun H11 h=>⟨_,rfl,?_⟩
  refine q1i (fun he=>⟨rfl,?_⟩) fun he=>?_
  ·rw [if_neg (by simpa using he)] at pan k;refine⟨_,_,_,_,_,_,_,_,_,_,_,_,_,_,h.q 4,?_⟩;have hEv:EvRd (crdA rb (q21 s4)::slA 95 4 a' evs.length c' (flat encV evs)::cellsA b2 [PA rb 0] 109::cellsA b1 [I64 0] 28::cellsA b (encR (qff kd vs (evs.map Ev.p)) a' c') 46::Q'::F) a' evs:=
    ⟨fun H h=>h.sl_rd 1 rfl,fun e he H h=>(hk64 e he).at h 5 rfl⟩
   refine q8s (r:=qff kd vs (evs.map Ev.p)) rfl h hEv (by omega) fun H12 h=>⟨_,rfl,?_⟩
   intro Jn2 hJ2;refine⟨fun hr=>?_,fun hr=>hJ2 _ ?_⟩
   ·rw [if_neg (by simpa using hr)] at pan;exact pan _ Q' _ _ _ rfl (by decide) hsub rfl (h.o [3,4] 5)
   ·rw [if_pos (by simpa using hr)] at k;refine⟨_,_,_,_,_,_,_,_,_,_,_,_,_,_,h.q 4,?_⟩;refine h.st 4 rfl rfl ?_;intro H13 h;refine h.st 3 rfl rfl ?_;intro H14 h;have h:=h.o [3,4,0,1,2,5] 6;refine⟨rfl,z71 h fun H15 h=>⟨rfl,_,_,_,_,_,_,_,_,_,_,_,_,_,_,h.q 1,_,h.r 0,?_⟩⟩
    exact k Q' evs a' c' _ hsub rfl hk64 (h.o [5,3] 6)
  ·rw [if_pos he] at pan;exact pan _ Q' _ _ _ rfl he hsub rfl (h.o [3,4] 5)
 refine⟨fun hk=>?_,fun hk=>?_⟩
 ·have hk:kd=4:=z8s hk;have hev:evsR kd s2=match q22 64 s2 with|.error e=>.error e|.ok (n,s3)=>q5e n.toNat s3:=by
   unfold evsR; rw [if_pos hk] <;> rfl
  refine⟨_,h.q 2,?_⟩;refine q73 (by unfold wf64; decide) h hb2 hl2 ?_
  cases hr2:q22 64 s2 with
  | error e=>
   rw [hr2] at hev;rw [hev] at pan;exact fun H' he h=>pan _ Q _ _ _ rfl he (Sub.refl Q) rfl (h.o [2,3] 4)
  | ok q=>
  obtain⟨n,s3⟩:=q;rw [hr2] at hev;dsimp only at hev;have hn64:0≤n∧n≤64:=by
   unfold q22 okR at hr2
   split at hr2
   ·cases hr2
   ·cases hr2
    exact z73 _
  intro H8 he3 hb3 hl3 h;refine⟨_,rfl,?_⟩;refine⟨fun i H'=>∃(j:Nat) (evs:List Ev) (Q':Assn) (a':Option Addr) (c':Nat) (s4:RS),i=j∧(j:Int)≤n∧q5e j s3=.ok (evs.map Ev.p,s4)∧Sub Q Q'∧(∀e∈evs,q5z Q' e)∧q04 s4.bs∧s4.bs.length≤1099511627776∧
   SatL H' (Q'::crdA rb s4::slA 95 4 a' evs.length c' (flat encV evs)::cellsA b2 [PA rb 0] 109::cellsA b1 [I64 0] 28::cellsA b (encR (qff kd vs (evs.map Ev.p)) a' c') 46::F),
   fun i _=>n.toNat - i.toNat,⟨0,[],Q,none,0,s3,rfl,by omega,rfl,Sub.refl Q,fun e he=>absurd he (by simp),hb3,hl3,(h.sl_nil 95 4).o [6,1,0,3,4,5] 7⟩,?_⟩
  rintro i H9 ⟨j,evs,Q',a',c',s4,rfl,hj,hes,hsub,hkl,hb4,hl4,h⟩;have hel:=qjh hes;rw [z9c] at hel;refine⟨fun hlt=>?_,fun hlt=>?_⟩
  ·have hlt:=z8s hlt;refine⟨_,_,_,h.r 5,_,h.q 3,?_⟩;refine qb2 h hb4 hl4 ?_;have hs1:q5e (j+1) s3=match q4w s4 with|.error e=>.error e|.ok (v,s2)=>.ok (evs.map Ev.p++[v],s2):=by
    rw [q5e,hes] <;> rfl
   cases hr4:q4w s4 with
   | error e=>
    rw [hr4] at hs1;rw [hev,qji hs1 (by omega)] at pan;exact fun Q2 H' he hs2 h=>pan _ Q2 _ _ _ rfl he (hsub.trans hs2) rfl (h.o [3,4,0] 5)
   | ok q=>
   obtain⟨pv,s5⟩:=q;rw [hr4] at hs1;intro Q2 ev H10 hs2 hlab hevp he5 hb5 hl5 h;subst hevp;refine⟨_,_,_,_,_,_,rfl,h.r 5,?_⟩;refine h.al fun b4 _ h=>⟨h.r 6,?_⟩
   have hfl:(qff kd vs (evs.map Ev.p)).evs.length=evs.length:=z9c ..;rw [hfl];refine h.append (m:=1) (ws:=encV ev) sl44 3 rfl (h.ce_rd 0 rfl) rfl (qlr ev) (by omega) (by omega) fun a5 c5 H11 h=>⟨_,_,_,rfl,?_⟩
   refine h.st 6 rfl rfl ?_;intro H12 h;rw [w64 (x:=(j:Int)+1)];refine⟨⟨j+1,evs++[ev],Q2,a5,c5,s5,by omega,by omega,by rw [hs1,z9k]; rfl,hsub.trans hs2,fun e he=>?_,hb5,hl5,?_⟩,by dsimp only; omega⟩
   ·rcases za4.1 he with he|he
    ·exact (hkl e he).sub hs2
    ·rw [z9q] at he; subst he; exact hlab
   ·have e:flat encV (evs++[ev])=flat encV evs++encV ev:=by rw [q0k]; simp [flat]
    have e2:encR (qff kd vs ((evs++[ev]).map Ev.p)) a5 c5=q1l (encR (qff kd vs (evs.map Ev.p)) a' c') 11 [.slice a5 (evs.length+1) c5]:=by
     rw [encR_evs (r:=qff kd vs ((evs++[ev]).map Ev.p)) rfl,z8t]; rfl
    rw [e,e2,z8t];exact h.o [1,2,3,4,5,6] 7
  ·have hge:=z8v hlt;have hjn:j=n.toNat:=by omega
   subst hjn;refine fin Q' evs a' c' s4 _ hsub (by rw [hev,hes]) hkl (by omega) hb4 hl4 ?_;exact h.o [1,2,3,4,5,0] 6
 ·have hk:¬kd=4:=z8v hk;have hev:evsR kd s2=.ok ([],s2):=by unfold evsR; rw [if_neg hk]
  refine fin Q [] none 0 s2 _ (Sub.refl Q) hev (fun e he=>absurd he (by simp)) (by simp) hb2 hl2 ?_
  exact (h.sl_nil 95 4).o [1,0,3,4,5,6] 7
end
end Go.Proofs.YtfmkddccnjidmaaGreatDoor
namespace Go.Nm
structure En where
 epoch:Int
 boot:Int
 time:Int
deriving DecidableEq
def En.z:En:=⟨0,0,0⟩
abbrev encE (e:En):List Value:=[.int .i64 e.epoch,.int .i64 e.boot,.int .i64 e.time]
abbrev aggE (e:En):Value:=.agg #[.int .i64 e.epoch,.int .i64 e.boot,.int .i64 e.time]
def tab:Nat→List En→List (Int × En)
 | _,[]=>[]
 | i,e::r=>if 0 < e.epoch then ((i:Int),e)::tab (i+1) r else tab (i+1) r
theorem q7i {i:Nat}:∀{l:List En} {p:Int × En},p∈tab i l→(i:Int)≤p.1∧p.1 < i+l.length∧0 < p.2.epoch
 | [],p,h=>by simp [tab] at h
 | e::r,p,h=>by
  simp only [tab] at h;have ih:=q7i (i:=i+1) (l:=r) (p:=p);simp only [z8y]
  split at h
  ·rcases z96.1 h with rfl|h
   ·rename_i hp; simp only; omega
   ·have:=ih h; omega
  ·have:=ih h; omega
theorem qb3 {i:Nat}:∀{l:List En},(q00 (tab i l)).Pairwise (·< ·)
 | []=>by simp [tab]
 | e::r=>by
  simp only [tab]
  split
  ·simp only [q00,z9n,zai];refine⟨fun a ha=>?_,qb3⟩
   obtain⟨p,hp,rfl⟩:=z90.1 ha;have:=q7i hp; omega
  ·exact qb3
theorem qe0 {i:Nat}{l:List En}:(q00 (tab i l)).Nodup:=qb3.imp (fun h=>by omega)
theorem z2v {i:Nat}{l:List En}:q64 (q00 (tab i l))=q00 (tab i l):=q9t (qb3.imp (fun h=>by omega))
theorem qor {i:Nat}:∀{l:List En} {k:Nat},q08 ((i+k:Nat):Int) (tab i l)=match l[k]? with|some e=>if 0 < e.epoch then some e else none|none=>none
 | [],k=>by simp [tab,q08]
 | e::r,0=>by
  have hn:q08 ((i+0:Nat):Int) (tab (i+1) r)=none:=q0h.2 fun h=>by
   obtain⟨p,hp,he⟩:=z90.1 h;have:=q7i hp; omega
  simp only [tab,List.getElem?_cons_zero]
  split
  ·simp [q08]
  ·exact hn
 | e::r,k+1=>by
  have ih:=qor (i:=i+1) (l:=r) (k:=k);rw [show i+1+k=i+(k+1) by omega] at ih;simp only [tab,List.getElem?_cons_succ]
  split
  ·simp only [q08];rw [if_neg (by omega)]; exact ih
  ·exact ih
theorem qw7 {i:Nat}{x:En}(hx:0 < x.epoch):∀{l:List En} {k:Nat},k < l.length→(tab i (l.set k x)).Perm (mset ((i+k:Nat):Int) x (tab i l))
 | e::r,0,_=>by
  have hd:mdel ((i+0:Nat):Int) (tab (i+1) r)=tab (i+1) r:=q0y (q0h.2 fun h=>by
   obtain⟨p,hp,he⟩:=z90.1 h;have:=q7i hp; omega)
  simp only [zb2,tab,if_pos hx];have e2:mdel ((i+0:Nat):Int) (if 0 < e.epoch then ((i:Int),e)::tab (i+1) r else tab (i+1) r)=tab (i+1) r:=by
   split
   ·have:mdel ((i+0:Nat):Int) (((i:Int),e)::tab (i+1) r)=mdel ((i+0:Nat):Int) (tab (i+1) r):=by simp [mdel]
    rw [this,hd]
   ·exact hd
  unfold mset;rw [e2]; exact .refl _
 | e::r,k+1,h=>by
  have ih:=qw7 (i:=i+1) hx (l:=r) (k:=k) (by simpa using h);rw [show i+1+k=i+(k+1) by omega] at ih;simp only [zbi,tab]
  split
  ·refine (ih.cons _).trans ?_;unfold mset;have:mdel ((i+(k+1):Nat):Int) (((i:Int),e)::tab (i+1) r)=((i:Int),e)::mdel ((i+(k+1):Nat):Int) (tab (i+1) r):=by
    have hne:¬(i:Int)=((i+(k+1):Nat):Int):=by omega
    simp [mdel,z9x,hne];omega
   rw [this];exact .swap _ _ _
  ·exact ih
theorem qm6 {i:Nat}:∀{l:List En},(tab i l).length=(l.filter fun e=>decide (0 < e.epoch)).length
 | []=>rfl
 | e::r=>by
  simp only [tab,z9x];have:=qm6 (i:=i+1) (l:=r)
  by_cases h:0 < e.epoch <;> simp [h,this]
abbrev bad (agent boot now:Int):Prop:=agent < 0∨63 < agent∨boot < 1∨1099511627776 < boot∨now < 0∨4611686018427387903 < now
def rowE (rows:List En)(agent:Int):En:=if agent < 0 then En.z else (rows[agent.toNat]?).getD En.z
structure q39 (rows:List En):Prop where
 len:rows.length=64
 ep:∀e∈rows,0≤e.epoch∧e.epoch≤1099511627776
 in64:∀e∈rows,wf64 e.boot∧wf64 e.time
 zero:∀e∈rows,¬0 < e.epoch→e=En.z
abbrev full (most:Int)(rows:List En):Prop:=most≤((tab 0 rows).length:Int)
def grant (most:Int)(rows:List En)(agent boot now:Int):List En × En × Bool × Int:=
 if bad agent boot now then (rows,En.z,false,11) else
 let x:=rowE rows agent
 if 0 < x.epoch∧x.boot=boot then (rows,x,false,0)
 else if 0 < x.epoch∧boot < x.boot then (rows,En.z,false,22)
 else if x.epoch=1099511627776 then (rows,En.z,false,17)
 else if x.epoch=0∧full most rows then (rows,En.z,false,20)
 else (rows.set agent.toNat ⟨x.epoch+1,boot,now⟩,⟨x.epoch+1,boot,now⟩,true,0)
def setR (most:Int)(rows:List En)(agent:Int)(e:En):List En × Int:=
 if bad agent e.boot e.time∨e.epoch < 1∨1099511627776 < e.epoch then (rows,11)
 else if 0 < (rowE rows agent).epoch then (rows,18)
 else if full most rows then (rows,20)
 else (rows.set agent.toNat e,0)
theorem q39.at {rows:List En}(h:q39 rows)(agent:Int):0≤(rowE rows agent).epoch∧(rowE rows agent).epoch≤1099511627776∧wf64 (rowE rows agent).boot∧wf64 (rowE rows agent).time:=by
 unfold rowE
 split
 ·simp [En.z,wf64]
 cases he:rows[agent.toNat]? with
 | none=>simp [En.z,wf64]
 | some e=>exact⟨(h.ep e (z9i he)).1,(h.ep e (z9i he)).2,h.in64 e (z9i he)⟩
theorem q39.set {rows:List En}(h:q39 rows){k:Nat}{x:En}(h1:0 < x.epoch∧x.epoch≤1099511627776)(h2:wf64 x.boot∧wf64 x.time):q39 (rows.set k x) where
 len:=by simp [h.len]
 ep e he:=by
  rcases zbe he with he|rfl
  ·exact h.ep e he
  ·omega
 in64 e he:=by
  rcases zbe he with he|rfl
  ·exact h.in64 e he
  ·exact h2
 zero e he:=by
  rcases zbe he with he|rfl
  ·exact h.zero e he
  ·omega
theorem grant_ok {most:Int}{rows:List En}(h:q39 rows)(agent boot now:Int):q39 (grant most rows agent boot now).1:=by
 unfold grant;have:=h.at agent
 split
 ·exact h
 ·rename_i hb;simp only [bad,not_or,Int.not_lt] at hb;simp only
  split
  ·exact h
  ·split
   ·exact h
   ·split
    ·exact h
    ·split
     ·exact h
     ·exact h.set ⟨by simp only; omega,by simp only; omega⟩ ⟨by simp only [wf64]; omega,by simp only [wf64]; omega⟩
theorem setR_ok {most:Int}{rows:List En}(h:q39 rows)(agent:Int)(e:En):q39 (setR most rows agent e).1:=by
 unfold setR
 split
 ·exact h
 ·rename_i hb;simp only [bad,not_or,Int.not_lt] at hb
  split
  ·exact h
  ·split
   ·exact h
   ·exact h.set ⟨by omega,by omega⟩ ⟨by simp only [wf64]; omega,by simp only [wf64]; omega⟩
theorem qos {rows:List En}(agent:Int):q08 agent (tab 0 rows)=if 0 < (rowE rows agent).epoch then some (rowE rows agent) else none:=by
 by_cases h0:agent < 0
 ·have:q08 agent (tab 0 rows)=none:=q0h.2 fun h=>by
   obtain⟨p,hp,he⟩:=z90.1 h;have:=q7i hp; omega
  rw [this,rowE,if_pos h0]; rfl
 ·have:=qor (i:=0) (l:=rows) (k:=agent.toNat);rw [show ((0+agent.toNat:Nat):Int)=agent by omega] at this;rw [this];unfold rowE;rw [if_neg h0]
  cases rows[agent.toNat]? with
  | none=>simp [En.z]
  | some e=>simp
theorem q39.rowZ {rows:List En}(h:q39 rows)(agent:Int)(h0:¬0 < (rowE rows agent).epoch):rowE rows agent=En.z:=by
 unfold rowE at h0 ⊢
 split
 ·rfl
 rename_i hn;rw [if_neg hn] at h0
 cases he:rows[agent.toNat]? with
 | none=>rfl
 | some e=>rw [he] at h0; exact h.zero e (z9i he) h0
theorem qe1 {rows:List En}(h:q39 rows){agent:Int}:(q08 agent (tab 0 rows)).getD En.z=rowE rows agent:=by
 rw [qos]
 split
 ·rfl
 ·rename_i hp; exact (h.rowZ agent hp).symm
theorem qot {rows:List En}(h:q39 rows){agent:Int}:(q08 agent (tab 0 rows)).isSome=decide (0 < (rowE rows agent).epoch):=by
 rw [qos]
 split
 ·rename_i hp; simp [hp]
 ·rename_i hp; simp [hp]
theorem z2w:q39 (List.replicate 64 En.z) where
 len:=by simp
 ep e he:=by rw [zbq he]; decide
 in64 e he:=by rw [zbq he]; simp [En.z,wf64]
 zero e he _:=zbq he
theorem qyh {rows:List En}(h:q39 rows):(tab 0 rows).length≤64:=by
 rw [qm6];exact z95 (List.length_filter_le _ _) (Nat.le_of_eq h.len)
end Go.Nm
namespace Go.Proofs.YtfmkddccnjidmaaGreatDoor.Ro
open Go.Nm
theorem mt56:MapT Tryz.prog 206 2 78 aggE En.z:=qc1 Tryz.underlying206 (by kernel_rfl)
theorem ko2:q9s Tryz.prog 2 I64:=qi5 Tryz.underlying2
abbrev rollC (rb mb:Nat)(most:Int):Assn:=cellsA rb [I64 most,.map (some mb)] 208
abbrev mapE (mb:Nat)(rows:List En):Assn:=mapA I64 aggE mb (tab 0 rows)
section
variable {rb mb sb:Nat} {most:Int} {rows:List En} {F:List Assn} {H:Heap} {K:Value→Heap→Prop}
theorem qjl {a b n:Int}:q1k Tryz.prog 169 #[I64 a,I64 b,I64 n] H (.bool (!decide (bad a b n))):=by
 refine qnp ⟨congrArg Value.bool ?_,rfl⟩;rw [z9s];simp only [z8w,z8u,z9a,z8x];omega
theorem New_spec (h:SatL H F)(k1:most < 1∨64 < most→K (.tuple #[.pointer none,I64 11]) H)
  (k2:¬(most < 1∨64 < most)→∀rb mb H',SatL H' (rollC rb mb most::mapE mb (List.replicate 64 En.z)::F)→K (.tuple #[.pointer (some ⟨rb,0,none⟩),I64 0]) H') :
  CF 54 #[I64 most] H K:=by
 refine z0e ⟨fun hc=>k1 (by simpa using hc),fun hc=>?_⟩
 refine h.alm I64 aggE fun mb _ h=>?_
 refine h.al fun rb _ h=>?_
 exact k2 (by simp at hc; omega) _ _ _ h
end
open Go.Nm
section
variable {rb mb sb:Nat} {most:Int} {rows:List En} {F:List Assn} {H:Heap} {K:Value→Heap→Prop}
theorem Of_spec (ok:q39 rows){agent:Int}(h:SatL H (rollC rb mb most::mapE mb rows::F))
  (k:∀H',SatL H' (rollC rb mb most::mapE mb rows::F)→K (.tuple #[aggE (rowE rows agent),.bool (decide (0 < (rowE rows agent).epoch))]) H') :
  CF 80 #[.pointer (some ⟨rb,0,none⟩),I64 agent] H K:=by
 refine z5l ?_
 repeat (first|refine h.al fun _ _ h=>?_|refine q01 ?_|refine⟨fun _=>trivial,?_⟩|refine⟨_,Ra2,?_⟩|refine St2 h fun _ h=>?_|refine⟨_,fun _=>Ra2,?_⟩)
 have hl:=h.mp_get mt56 ko2 2 rfl (x:=agent);rw [qe1 ok,qot ok] at hl;refine⟨_,_,_,_,hl,?_⟩
 repeat (first|refine h.al fun _ _ h=>?_|refine q01 ?_|refine⟨fun _=>trivial,?_⟩|refine⟨_,Ra2,?_⟩|refine St2 h fun _ h=>?_|refine⟨_,_,_,Rs2,?_⟩|refine⟨_,fun _=>Ra2,?_⟩|refine⟨_,_,_,fun _=>Rs2,?_⟩)
 exact k _ h.tl.tl
theorem Is_spec (ok:q39 rows){agent epoch:Int}(h:SatL H (rollC rb mb most::mapE mb rows::F))
  (k:∀H',SatL H' (rollC rb mb most::mapE mb rows::F)→K (.bool (decide (0 < (rowE rows agent).epoch) && decide ((rowE rows agent).epoch=epoch))) H') :
  CF 135 #[.pointer (some ⟨rb,0,none⟩),I64 agent,I64 epoch] H K:=by
 refine z5j ?_
 repeat (first|refine h.al fun _ _ h=>?_|refine q01 ?_|refine⟨fun _=>trivial,?_⟩|refine⟨_,Ra2,?_⟩|refine St2 h fun _ h=>?_|refine⟨_,fun _=>Ra2,?_⟩)
 have hl:=h.mp_get mt56 ko2 1 rfl (x:=agent);rw [qe1 ok,qot ok] at hl;refine⟨_,_,_,_,hl,?_⟩
 repeat (first|refine h.al fun _ _ h=>?_|refine q01 ?_|refine⟨fun _=>trivial,?_⟩|refine⟨_,Ra2,?_⟩|refine St2 h fun _ h=>?_|refine⟨_,fun _=>Ra2,?_⟩)
 exact k _ h.tl
theorem Grant_spec (ok:q39 rows){agent boot now:Int}(h:SatL H (rollC rb mb most::mapE mb rows::F))
  (k:∀H',SatL H' (rollC rb mb most::mapE mb (grant most rows agent boot now).1::F)→
   K (.tuple #[aggE (grant most rows agent boot now).2.1,.bool (grant most rows agent boot now).2.2.1,I64 (grant most rows agent boot now).2.2.2]) H') :
  CF 136 #[.pointer (some ⟨rb,0,none⟩),I64 agent,I64 boot,I64 now] H K:=by
 refine qqq ?_
 repeat (first|refine h.al fun _ _ h=>?_|refine q01 ?_|refine⟨fun _=>trivial,?_⟩|refine⟨_,Ra2,?_⟩|refine St2 h fun _ h=>?_|refine⟨_,fun _=>Ra2,?_⟩)
 refine⟨_,qjl,fun hc=>?_,fun hc=>?_⟩
 ·have hb:bad agent boot now:=by simpa using hc
  have e:grant most rows agent boot now=(rows,En.z,false,11):=if_pos hb;rw [e] at k
  repeat (first|refine h.al fun _ _ h=>?_|refine q01 ?_|refine⟨fun _=>trivial,?_⟩|refine⟨_,Ra1,?_⟩|refine St1 h fun _ h=>?_|refine⟨_,_,_,Rs1,?_⟩|refine⟨_,fun _=>Ra1,?_⟩|refine⟨_,_,_,fun _=>Rs1,?_⟩)
  exact k _ h.tl
 ·have hb:¬bad agent boot now:=by simpa using hc
  have h0:0≤agent:=by simp only [bad,not_or,Int.not_lt] at hb; omega
  repeat (first|refine h.al fun _ _ h=>?_|refine q01 ?_|refine⟨fun _=>trivial,?_⟩|refine⟨_,Ra2,?_⟩|refine St2 h fun _ h=>?_|refine⟨_,fun _=>Ra2,?_⟩)
  have hl:=h.mp_get mt56 ko2 2 rfl (x:=agent);rw [qe1 ok,qot ok] at hl;refine⟨_,_,_,_,hl,?_⟩
  repeat (first|refine h.al fun _ _ h=>?_|refine q01 ?_|refine⟨fun _=>trivial,?_⟩|refine⟨_,Ra2,?_⟩|refine St2 h fun _ h=>?_|refine⟨_,fun _=>Ra2,?_⟩)
  have hx:=ok.at agent;have hle:=qyh ok;refine⟨fun hc1=>?_,fun hc1=>?_⟩
  ·simp only [z8w,z8u] at hc1;have e:grant most rows agent boot now=(rows,rowE rows agent,false,0):=by unfold grant; rw [if_neg hb]; exact if_pos hc1
   rw [e] at k
   repeat (first|refine h.al fun _ _ h=>?_|refine q01 ?_|refine⟨fun _=>trivial,?_⟩|refine⟨_,Ra2,?_⟩|refine St2 h fun _ h=>?_|refine⟨_,_,_,Rs2,?_⟩|refine⟨_,fun _=>Ra2,?_⟩|refine⟨_,_,_,fun _=>Rs2,?_⟩)
   exact k _ h.tl.tl
  have n1:¬(0 < (rowE rows agent).epoch∧(rowE rows agent).boot=boot):=fun hh=>by simp [hh.1,hh.2] at hc1
  repeat (first|refine h.al fun _ _ h=>?_|refine q01 ?_|refine⟨fun _=>trivial,?_⟩|refine⟨_,Ra2,?_⟩|refine St2 h fun _ h=>?_|refine⟨_,fun _=>Ra2,?_⟩)
  refine⟨fun hc2=>?_,fun hc2=>?_⟩
  ·simp only [z8w,z8u] at hc2;have e:grant most rows agent boot now=(rows,En.z,false,22):=by unfold grant; rw [if_neg hb]; simp only; rw [if_neg n1,if_pos hc2]
   rw [e] at k
   repeat (first|refine h.al fun _ _ h=>?_|refine q01 ?_|refine⟨fun _=>trivial,?_⟩|refine⟨_,Ra2,?_⟩|refine St2 h fun _ h=>?_|refine⟨_,_,_,Rs2,?_⟩|refine⟨_,fun _=>Ra2,?_⟩|refine⟨_,_,_,fun _=>Rs2,?_⟩)
   exact k _ h.tl.tl
  have n2:¬(0 < (rowE rows agent).epoch∧boot < (rowE rows agent).boot):=fun hh=>by simp [hh.1,hh.2] at hc2
  repeat (first|refine h.al fun _ _ h=>?_|refine q01 ?_|refine⟨fun _=>trivial,?_⟩|refine⟨_,Ra2,?_⟩|refine St2 h fun _ h=>?_|refine⟨_,fun _=>Ra2,?_⟩)
  refine⟨fun hc3=>?_,fun hc3=>?_⟩
  ·simp only [z8w,z8u] at hc3;have e:grant most rows agent boot now=(rows,En.z,false,17):=by unfold grant; rw [if_neg hb]; simp only; rw [if_neg n1,if_neg n2,if_pos (by omega)]
   rw [e] at k
   repeat (first|refine h.al fun _ _ h=>?_|refine q01 ?_|refine⟨fun _=>trivial,?_⟩|refine⟨_,Ra2,?_⟩|refine St2 h fun _ h=>?_|refine⟨_,_,_,Rs2,?_⟩|refine⟨_,fun _=>Ra2,?_⟩|refine⟨_,_,_,fun _=>Rs2,?_⟩)
   exact k _ h.tl.tl
  have n3:¬((rowE rows agent).epoch=1099511627776):=fun hh=>by simp [hh] at hc3
  repeat (first|refine h.al fun _ _ h=>?_|refine q01 ?_|refine⟨fun _=>trivial,?_⟩|refine⟨_,Ra3,?_⟩|refine St3 h fun _ h=>?_|refine⟨_,fun _=>Ra3,?_⟩)
  refine⟨_,fun _=>h.mp_len mt56 3 rfl,?_⟩
  repeat (first|refine h.al fun _ _ h=>?_|refine q01 ?_|refine⟨fun _=>trivial,?_⟩|refine⟨_,Ra3,?_⟩|refine St3 h fun _ h=>?_|refine⟨_,fun _=>Ra3,?_⟩)
  refine⟨fun hc4=>?_,fun hc4=>?_⟩
  ·simp only [z8w,z9a,z8x,z8u] at hc4;have e:grant most rows agent boot now=(rows,En.z,false,20):=by unfold grant; rw [if_neg hb]; simp only; rw [if_neg n1,if_neg n2,if_neg n3,if_pos ⟨by omega,hc4.2⟩]
   rw [e] at k
   repeat (first|refine h.al fun _ _ h=>?_|refine q01 ?_|refine⟨fun _=>trivial,?_⟩|refine⟨_,Ra2,?_⟩|refine St2 h fun _ h=>?_|refine⟨_,_,_,Rs2,?_⟩|refine⟨_,fun _=>Ra2,?_⟩|refine⟨_,_,_,fun _=>Rs2,?_⟩)
   exact k _ h.tl.tl
  have n4:¬((rowE rows agent).epoch=0∧full most rows):=fun hh=>by
   have h2:most≤((tab 0 rows).length:Int):=hh.2;simp [hh.1,h2] at hc4
  have e:grant most rows agent boot now=(rows.set agent.toNat ⟨(rowE rows agent).epoch+1,boot,now⟩,⟨(rowE rows agent).epoch+1,boot,now⟩,true,0):=by
   unfold grant; rw [if_neg hb]; simp only; rw [if_neg n1,if_neg n2,if_neg n3,if_neg n4]
  rw [e] at k;have ew:i64.wrap ((rowE rows agent).epoch+1)=(rowE rows agent).epoch+1:=w64;have hlt:agent.toNat < rows.length:=by simp only [bad,not_or,Int.not_lt] at hb; rw [ok.len]; omega
  have hs:=qw7 (i:=0) (x:=⟨(rowE rows agent).epoch+1,boot,now⟩) (by simp only; omega) hlt;rw [show ((0+agent.toNat:Nat):Int)=agent by omega] at hs;simp only [mapE] at k;rw [q6k hs,← ew] at k
  repeat (first|refine h.al fun _ _ h=>?_|refine q01 ?_|refine⟨fun _=>trivial,?_⟩|refine⟨_,Ra3,?_⟩|refine St3 h fun _ h=>?_|refine⟨_,_,_,Rs3,?_⟩|refine⟨_,fun _=>Ra3,?_⟩|refine⟨_,_,_,fun _=>Rs3,?_⟩)
  refine h.mp_update (α:=En) (v:=⟨_,_,_⟩) mt56 ko2 3 rfl fun _ h=>?_
  repeat (first|refine h.al fun _ _ h=>?_|refine q01 ?_|refine⟨fun _=>trivial,?_⟩|refine⟨_,Ra3,?_⟩|refine St3 h fun _ h=>?_|refine⟨_,_,_,Rs3,?_⟩|refine⟨_,fun _=>Ra3,?_⟩|refine⟨_,_,_,fun _=>Rs3,?_⟩)
  exact k _ h.tl.tl
theorem Set_spec (ok:q39 rows){agent:Int}{x:En}(h:SatL H (rollC rb mb most::mapE mb rows::F))
  (k:∀H',SatL H' (rollC rb mb most::mapE mb (setR most rows agent x).1::F)→K (I64 (setR most rows agent x).2) H') :
  CF 104 #[.pointer (some ⟨rb,0,none⟩),I64 agent,aggE x] H K:=by
 refine z0a ?_
 repeat (first|refine h.al fun _ _ h=>?_|refine q01 ?_|refine⟨fun _=>trivial,?_⟩|refine⟨_,Ra1,?_⟩|refine St1 h fun _ h=>?_|refine⟨_,fun _=>Ra1,?_⟩)
 refine⟨_,qjl,?_⟩
 repeat (first|refine h.al fun _ _ h=>?_|refine q01 ?_|refine⟨fun _=>trivial,?_⟩|refine⟨_,Ra1,?_⟩|refine St1 h fun _ h=>?_|refine⟨_,fun _=>Ra1,?_⟩)
 refine⟨fun hc=>?_,fun hc=>?_⟩
 ·have e:setR most rows agent x=(rows,11):=if_pos (by
   simp only [z97,z9a,z9u,z8u,Bool.not_not] at hc;omega)
  rw [e] at k;exact k _ h.tl
 ·have n1:¬(bad agent x.boot x.time∨x.epoch < 1∨1099511627776 < x.epoch):=by
   simp only [z94,Bool.not_not,z8x] at hc;omega
  repeat (first|refine h.al fun _ _ h=>?_|refine q01 ?_|refine⟨fun _=>trivial,?_⟩|refine⟨_,Ra2,?_⟩|refine St2 h fun _ h=>?_|refine⟨_,fun _=>Ra2,?_⟩)
  have hl:=h.mp_get mt56 ko2 2 rfl (x:=agent);rw [qe1 ok,qot ok] at hl;refine⟨_,_,_,_,hl,?_⟩
  repeat (first|refine h.al fun _ _ h=>?_|refine q01 ?_|refine⟨fun _=>trivial,?_⟩|refine⟨_,Ra2,?_⟩|refine St2 h fun _ h=>?_|refine⟨_,fun _=>Ra2,?_⟩)
  refine⟨fun hc1=>?_,fun hc1=>?_⟩
  ·have e:setR most rows agent x=(rows,18):=by unfold setR; rw [if_neg n1,if_pos (by simpa using hc1)]
   rw [e] at k;exact k _ h.tl.tl
  have n2:¬0 < (rowE rows agent).epoch:=by simpa using hc1
  repeat (first|refine h.al fun _ _ h=>?_|refine q01 ?_|refine⟨fun _=>trivial,?_⟩|refine⟨_,Ra3,?_⟩|refine St3 h fun _ h=>?_|refine⟨_,fun _=>Ra3,?_⟩)
  refine⟨_,h.mp_len mt56 3 rfl,?_⟩
  repeat (first|refine h.al fun _ _ h=>?_|refine q01 ?_|refine⟨fun _=>trivial,?_⟩|refine⟨_,Ra3,?_⟩|refine St3 h fun _ h=>?_|refine⟨_,fun _=>Ra3,?_⟩)
  refine⟨fun hc2=>?_,fun hc2=>?_⟩
  ·have e:setR most rows agent x=(rows,20):=by unfold setR; rw [if_neg n1,if_neg n2,if_pos (by simpa using hc2)]
   rw [e] at k;exact k _ h.tl.tl
  have n3:¬full most rows:=by simpa using hc2
  have e:setR most rows agent x=(rows.set agent.toNat x,0):=by unfold setR; rw [if_neg n1,if_neg n2,if_neg n3]
  rw [e] at k
  repeat (first|refine h.al fun _ _ h=>?_|refine q01 ?_|refine⟨fun _=>trivial,?_⟩|refine⟨_,Ra3,?_⟩|refine St3 h fun _ h=>?_|refine⟨_,_,_,Rs3,?_⟩|refine⟨_,fun _=>Ra3,?_⟩|refine⟨_,_,_,fun _=>Rs3,?_⟩)
  refine h.mp_update (α:=En) (v:=x) mt56 ko2 3 rfl fun _ h=>?_
  have hlt:agent.toNat < rows.length:=by simp only [bad,not_or,Int.not_lt] at n1; rw [ok.len]; omega
  have hs:=qw7 (i:=0) (x:=x) (by omega) hlt;rw [show ((0+agent.toNat:Nat):Int)=agent by simp only [bad,not_or,Int.not_lt] at n1; omega] at hs;refine k _ ?_;show SatL _ (rollC rb mb most::mapA I64 aggE mb (tab 0 (rows.set agent.toNat x))::F);rw [q6k hs];exact h.tl.tl
end
open Go.Nm
section
variable {rb mb sb:Nat} {most:Int} {rows:List En} {F:List Assn} {H:Heap} {K:Value→Heap→Prop}
theorem All_spec (h:SatL H F)(k:∀c0 H',SatL H' (cellsA c0 [.pointer (some ⟨rb,0,none⟩)] 110::F)→K (.func (.func 120) #[] #[.pointer (some ⟨c0,0,none⟩)]) H') :
  CF 61 #[.pointer (some ⟨rb,0,none⟩)] H K:=by
 refine z0b ?_;refine h.al fun _ _ h=>?_
 exact k _ _ h
theorem All1_spec {l c0:Nat}(ok:q39 rows)(A:Nat→Assn)(Ax:Assn)
  (h:SatL H (A 0::cellsA c0 [.pointer (some ⟨rb,0,none⟩)] 110::rollC rb mb most::mapE mb rows::F))
  (hy:∀j (hj:j < (tab 0 rows).length) (G:List Assn) (H1:Heap) (K1:Value→Heap→Prop),SatL H1 (A j::G)→(∀H2,SatL H2 (A (j+1)::G)→K1 (.bool true) H2)→(∀H2,SatL H2 (Ax::G)→K1 (.bool false) H2)→
   q4g Tryz.prog l [I64 (tab 0 rows)[j].1,aggE (tab 0 rows)[j].2] H1 K1)
  (k:∀H',SatL H' (A (tab 0 rows).length::cellsA c0 [.pointer (some ⟨rb,0,none⟩)] 110::rollC rb mb most::mapE mb rows::F)→K (.tuple #[]) H')
  (kx:∀H',SatL H' (Ax::cellsA c0 [.pointer (some ⟨rb,0,none⟩)] 110::rollC rb mb most::mapE mb rows::F)→K (.tuple #[]) H') :
  CF 120 #[.func (.yield l) #[] #[],.pointer (some ⟨c0,0,none⟩)] H K:=by
 refine qqt ?_;have hle:=qyh ok
 repeat (first|refine h.al fun _ _ h=>?_|refine q01 ?_|refine⟨fun _=>trivial,?_⟩|refine⟨_,Ra3,?_⟩|refine St3 h fun _ h=>?_|refine⟨_,fun _=>Ra3,?_⟩)
 refine qum h 3 rfl fun H1 h1 _=>⟨_,rfl,?_⟩
 refine z0h ⟨_,_,rfl,?_⟩;refine qqx h1 0 rfl (fun x hx=>?_) (by omega) fun a c H2 h2 _=>⟨_,_,_,rfl,?_⟩
 ·obtain⟨p,hp,rfl⟩:=z90.1 hx;have:=q7i hp;have:=ok.len;unfold wf64; omega
 rw [z2v] at h2;refine⟨fun t H'=>∃j:Nat,t=j∧j≤(tab 0 rows).length∧SatL H' (A j::slA 2 1 a (tab 0 rows).length c ((q00 (tab 0 rows)).map I64)::mapA I64 aggE H.size (tab 0 rows)::cellsA c0 [.pointer (some ⟨rb,0,none⟩)] 110::rollC rb mb most::mapE mb rows::F),
  fun t _=>(tab 0 rows).length - t.toNat,⟨0,rfl,z9l _,h2.o [2,0,1] 3⟩,?_⟩
 rintro t H3 ⟨j,rfl,hj,h3⟩;refine⟨fun hc=>?_,fun hc=>?_⟩
 ·have hlt:j < (tab 0 rows).length:=by have:=z8s hc; omega
  have hrd:=(h3.sl_rd 1 rfl).at (j:=j) (by simpa [q00] using hlt);have hkey:(q00 (tab 0 rows))[j]'(by simpa [q00] using hlt)=(tab 0 rows)[j].1:=by simp [q00]
  rw [hkey] at hrd;have hlk:=h3.mp_get1 mt56 ko2 2 rfl (x:=(tab 0 rows)[j].1);have hmem:((tab 0 rows)[j].1,(tab 0 rows)[j].2)∈tab 0 rows:=z92 hlt;rw [q28 qe0 hmem] at hlk;refine⟨⟨by omega,by omega⟩,_,_,hrd.1,_,hrd.2,_,_,_,hlk,?_⟩;refine hy j hlt _ H3 _ h3 (fun H4 h4=>⟨true,rfl,fun hf=>(by cases hf),fun _=>?_⟩) fun H4 h4=>⟨false,rfl,fun _=>?_,fun hf=>(by cases hf)⟩
  ·rw [w64];exact⟨⟨j+1,rfl,hlt,h4⟩,by simp only; omega⟩
  ·exact kx _ (h4.o [0] 3)
 ·obtain rfl:j=(tab 0 rows).length:=by have:=z8v hc; omega
  exact k _ (h3.o [0] 3)
end
end Go.Proofs.YtfmkddccnjidmaaGreatDoor.Ro
namespace Go.Nm
structure Fl where
 t:Int
 out:Bool
 was:Bool
 held:Bool
deriving DecidableEq
def Fl.z:Fl:=⟨0,false,false,false⟩
abbrev encF (x:Fl):List Value:=[.int .i64 x.t,.bool x.out,.bool x.was,.bool x.held]
abbrev aggF (x:Fl):Value:=.agg #[.int .i64 x.t,.bool x.out,.bool x.was,.bool x.held]
abbrev FM:=List (Int × Fl)
abbrev isT (t:Int):Prop:=0≤t∧t≤4611686018427387903
abbrev isAg (a:Int):Prop:=0≤a∧a < 64
structure MS where
 lag:Int
 now:Int
 value:Int
 m:FM
deriving DecidableEq
structure MOk (s:MS):Prop where
 l1:1≤s.lag
 l2:s.lag≤1099511627776
 n:isT s.now
 v1:-s.lag≤s.value
 v2:s.value≤4611686018427387903
 nd:(q00 s.m).Nodup
 rows:∀p∈s.m,isAg p.1∧isT p.2.t
def MS.new (lag:Int):MS:=⟨lag,0,-lag,[]⟩
def MS.join (s:MS)(a t:Int):MS × Int:=
 if ¬isAg a∨¬isT t then (s,11) else
 match q08 a s.m with
 | some _=>(s,18)
 | none=>({ s with m:=mset a ⟨t,false,false,false⟩ s.m },0)
def MS.raise (s:MS)(a t:Int):MS × Int:=
 match q08 a s.m with
 | none=>(s,19)
 | some x=>if ¬isT t then (s,11) else ({ s with m:=mset a ⟨if t > x.t then t else x.t,x.out,x.was,x.held⟩ s.m },0)
def MS.hold (s:MS)(a:Int)(b:Bool):MS × Int:=
 match q08 a s.m with
 | none=>(s,19)
 | some x=>({ s with m:=mset a ⟨x.t,x.out,x.was,b⟩ s.m },0)
def MS.leave (s:MS)(a:Int):MS × Int:=
 match q08 a s.m with
 | none=>(s,19)
 | some _=>({ s with m:=mdel a s.m },0)
def updF (lim:Int)(x:Fl):Fl:=⟨x.t,decide (x.t < lim),x.was || decide (x.t < lim),x.held⟩
def qkr (lim:Int)(s:Int × Bool)(x:Fl):Int × Bool:=
 if ¬x.t < lim∧x.held=false∧(s.2=false∨x.t < s.1) then (x.t,true) else s
def qbj (lim:Int)(m:FM):List Int→Int × Bool→Int × Bool
 | [],s=>s
 | k::r,s=>qbj lim m r (qkr lim s ((q08 k m).getD Fl.z))
abbrev maxI (a b:Int):Int:=if b > a then b else a
def MS.tick (s:MS)(now:Int):MS × Int:=
 if ¬isT now∨now < s.now then (s,11) else
 ({ s with now:=now,value:=maxI s.value (qbj (now - s.lag) s.m (q64 (q00 s.m)) (now - s.lag,false)).1,m:=s.m.map fun p=>(p.1,updF (now - s.lag) p.2) },0)
section
variable {κ α:Type} [DecidableEq κ]
theorem qsb {k:κ}{v:α}:∀{m:List (κ × α)},(q00 m).Nodup→k∈q00 m→(m.map fun p=>if p.1=k then (k,v) else p).Perm (mset k v m)
 | [],_,h=>by simp at h
 | p::r,hn,h=>by
  simp only [q00,z9n,zav] at hn
  by_cases e:p.1=k
  ·have hk:k∉q00 r:=by rw [← e]; exact hn.1
   have e1:(r.map fun p=>if p.1=k then (k,v) else p)=r:=by
    conv=>rhs; rw [← List.map_id r]
    apply zaq;intro q hq;rw [if_neg (fun e2=>hk (by rw [← e2]; exact z90.2 ⟨q,hq,rfl⟩))]; rfl
   have e2:mdel k (p::r)=r:=by
    have:mdel k (p::r)=mdel k r:=by simp [mdel,z9x,e]
    rw [this,q0y (q0h.2 hk)]
   rw [z9n,if_pos e,e1];unfold mset;rw [e2]
  ·have hk:k∈q00 r:=by
    simp only [q00,z9n,z96] at h;exact h.resolve_left (fun e2=>e e2.symm)
   rw [z9n,if_neg e];refine ((qsb (m:=r) hn.2 hk).cons p).trans ?_;unfold mset;have:mdel k (p::r)=p::mdel k r:=by simp [mdel,z9x,e]
   rw [this];exact .swap _ _ _
theorem qe2 {β:Type}{f:κ→α→β}{k:κ}:∀{m:List (κ × α)},q08 k (m.map fun p=>(p.1,f p.1 p.2))=(q08 k m).map (f k)
 | []=>rfl
 | p::r=>by
  have ih:=qe2 (f:=f) (k:=k) (m:=r);simp only [z9n,q08]
  split
  ·rename_i e; rw [← e]; rfl
  ·exact ih
omit [DecidableEq κ] in
theorem qyi {β:Type}{f:κ→α→β}{m:List (κ × α)}:q00 (m.map fun p=>(p.1,f p.1 p.2))=q00 m:=by simp [q00,Function.comp_def]
end
theorem qyj:∀(n:Nat) (l:List Int),l.Nodup→(∀x∈l,0≤x∧x < (n:Int))→l.length≤n
 | 0,l,_,h=>by
  cases l with
  | nil=>simp
  | cons a r=>have:=h a (by simp); omega
 | n+1,l,hn,h=>by
  have h2:=qyj n (l.erase (n:Int)) (hn.erase _) (fun x hx=>by
   have hx':=(hn.mem_erase_iff).1 hx;have:=h x hx'.2;have:=hx'.1;omega)
  have h3:l.length≤(l.erase (n:Int)).length+1:=by
   by_cases hm:(n:Int)∈l
   ·rw [List.length_erase_of_mem hm]; omega
   ·rw [List.erase_of_not_mem hm]; omega
  omega
theorem MOk.le {s:MS}(h:MOk s):s.m.length≤64:=by
 have:=qyj 64 (q00 s.m) h.nd (fun x hx=>by
  obtain⟨p,hp,rfl⟩:=z90.1 hx;exact (h.rows p hp).1)
 simpa [q00] using this
theorem MOk.wf {s:MS}(h:MOk s):∀x∈q00 s.m,wf64 x:=by
 intro x hx;obtain⟨p,hp,rfl⟩:=z90.1 hx;have:=(h.rows p hp).1;unfold wf64; omega
theorem MOk.look {s:MS}(h:MOk s){a:Int}{x:Fl}(hx:q08 a s.m=some x):isAg a∧isT x.t:=h.rows _ (q0e hx)
theorem MOk.new {lag:Int}(h1:1≤lag)(h2:lag≤1099511627776):MOk (MS.new lag):=
 ⟨h1,h2,⟨by simp [MS.new],by simp [MS.new]⟩,z9g _,by simp only [MS.new]; omega,by simp [MS.new],fun p hp=>by simp [MS.new] at hp⟩
theorem MOk.mset {s:MS}(h:MOk s){a:Int}{x:Fl}(ha:isAg a)(hx:isT x.t):MOk { s with m:=mset a x s.m }:=
 ⟨h.l1,h.l2,h.n,h.v1,h.v2,q6a h.nd,fun p hp=>by
  rcases z96.1 hp with rfl|hp
  ·exact⟨ha,hx⟩
  ·exact h.rows p (qaw.1 hp).1⟩
theorem MOk.join {s:MS}(h:MOk s)(a t:Int):MOk (s.join a t).1:=by
 unfold MS.join
 split
 ·exact h
 ·rename_i hc
  split
  ·exact h
  ·exact h.mset (by omega) (by simp only; omega)
theorem MOk.raise {s:MS}(h:MOk s)(a t:Int):MOk (s.raise a t).1:=by
 unfold MS.raise
 split
 ·exact h
 ·rename_i x hx;have hl:=h.look hx
  split
  ·exact h
  ·refine h.mset hl.1 ?_;simp only
   split <;> omega
theorem MOk.hold {s:MS}(h:MOk s)(a:Int)(b:Bool):MOk (s.hold a b).1:=by
 unfold MS.hold
 split
 ·exact h
 ·rename_i x hx;exact h.mset (h.look hx).1 (h.look hx).2
theorem MOk.leave {s:MS}(h:MOk s)(a:Int):MOk (s.leave a).1:=by
 unfold MS.leave
 split
 ·exact h
 ·exact⟨h.l1,h.l2,h.n,h.v1,h.v2,qax h.nd,fun p hp=>h.rows p (qaw.1 hp).1⟩
theorem qm7 {lim:Int}{m:FM}(hm:∀p∈m,isT p.2.t):∀(ks:List Int) (s:Int × Bool),(s.1≤4611686018427387903)→(qbj lim m ks s).1≤4611686018427387903
 | [],s,h=>h
 | k::r,s,h=>by
  refine qm7 hm r _ ?_;unfold qkr
  split
  ·simp only
   cases hk:q08 k m with
   | none=>simp [Fl.z]
   | some x=>exact (hm _ (q0e hk)).2
  ·exact h
theorem MOk.tick {s:MS}(h:MOk s)(now:Int):MOk (s.tick now).1:=by
 unfold MS.tick
 split
 ·exact h
 ·rename_i hc;have:=h.l1;have:=h.v1;have:=h.v2;have hf:=qm7 (lim:=now - s.lag) (fun p hp=>(h.rows p hp).2) (q64 (q00 s.m)) (now - s.lag,false) (by simp only; omega)
  refine⟨h.l1,h.l2,⟨by simp only; omega,by simp only; omega⟩,?_,?_,?_,fun p hp=>?_⟩
  ·simp only [maxI]; split <;> omega
  ·simp only [maxI]; split <;> omega
  ·exact (congrArg List.Nodup (qyi (f:=fun _ x=>updF (now - s.lag) x) (m:=s.m))).mpr h.nd
  ·obtain⟨q,hq,rfl⟩:=z90.1 hp;exact h.rows q hq
def mjT (lim:Int)(m:FM)(l:List Int):FM:=m.map fun p=>(p.1,if p.1∈l then updF lim p.2 else p.2)
theorem mjT_nil (lim:Int)(m:FM):mjT lim m []=m:=by
 unfold mjT
 conv=>rhs; rw [← List.map_id m]
 apply zaq;intro p _;simp
theorem mjT_all {lim:Int}{m:FM}{l:List Int}(h:∀x∈q00 m,x∈l):mjT lim m l=m.map fun p=>(p.1,updF lim p.2):=by
 unfold mjT;apply zaq;intro p hp;rw [if_pos (h p.1 (z90.2 ⟨p,hp,rfl⟩))]
theorem qyk (lim:Int)(m:FM)(l:List Int):q00 (mjT lim m l)=q00 m:=qyi (f:=fun k x=>if k∈l then updF lim x else x) (m:=m)
theorem mjT_look (lim:Int)(m:FM)(l:List Int)(k:Int):q08 k (mjT lim m l)=(q08 k m).map fun x=>if k∈l then updF lim x else x:=qe2 (f:=fun k x=>if k∈l then updF lim x else x) (m:=m)
theorem mjT_step {lim:Int}{m:FM}{l:List Int}{k:Int}{x:Fl}(hn:(q00 m).Nodup)(hk:q08 k m=some x):(mset k (updF lim x) (mjT lim m l)).Perm (mjT lim m (l++[k])):=by
 have hmem:k∈q00 (mjT lim m l):=by
  rw [qyk]; exact z90.2 ⟨_,q0e hk,rfl⟩
 refine (qsb (by rw [qyk]; exact hn) hmem).symm.trans ?_;have:(mjT lim m l).map (fun p=>if p.1=k then (k,updF lim x) else p)=mjT lim m (l++[k]):=by
  unfold mjT;rw [z9r];apply zaq;intro p hp;simp only [Function.comp_def,za4,z9q]
  by_cases e:p.1=k
  ·have hx:p.2=x:=by
    have:=q28 hn (show (p.1,p.2)∈m from hp);rw [e,hk] at this;exact (Option.some.inj this).symm
   rw [if_pos e,if_pos (Or.inr e),hx,e]
  ·rw [if_neg e]
   by_cases e2:p.1∈l
   ·rw [if_pos e2,if_pos (Or.inl e2)]
   ·rw [if_neg e2,if_neg (fun hh=>hh.elim e2 e)]
 rw [this]
theorem qga (lim:Int)(m:FM):∀(l r:List Int) (s:Int × Bool),qbj lim m (l++r) s=qbj lim m r (qbj lim m l s)
 | [],_,_=>rfl
 | k::l,r,s=>qga lim m l r _
theorem qw8 {l:List Int}(h:l.Nodup):(q64 l).Nodup:=(q4i l).nodup_iff.2 h
theorem qsc {l:List Int}{x:Int}:x∈q64 l↔x∈l:=(q4i l).mem_iff
theorem z2x {l:List Int}(h:l.Nodup){j:Nat}(hj:j < l.length):l[j]∉l.take j:=by
 intro hm;obtain⟨i,hi,he⟩:=zb0 hm;rw [List.getElem_take] at he;have hi2:i < j:=by simp at hi; omega
 exact List.pairwise_iff_getElem.1 h i j _ hj hi2 he
end Go.Nm
namespace Go.Proofs.YtfmkddccnjidmaaGreatDoor.Ma
open Go.Nm
theorem mt45:MapT Tryz.prog 116 2 80 aggF Fl.z:=qc1 Tryz.underlying116 (by kernel_rfl)
theorem ko2:q9s Tryz.prog 2 I64:=qi5 Tryz.underlying2
abbrev markC (mb rb:Nat)(s:MS):Assn:=cellsA mb [I64 s.lag,I64 s.now,I64 s.value,.map (some rb)] 191
abbrev mapF (rb:Nat)(m:FM):Assn:=mapA I64 aggF rb m
section
variable {mb rb:Nat} {s:MS} {F:List Assn} {H:Heap} {K:Value→Heap→Prop}
theorem isTime_spec {t:Int}:q1k Tryz.prog 108 #[I64 t] H (.bool (decide (isT t))):=by
 refine qnt ⟨congrArg Value.bool ?_,rfl⟩;rw [z9s]; simp [isT]
theorem qgb {a:Int}:q1k Tryz.prog 109 #[I64 a] H (.bool (decide (isAg a))):=by
 refine qki ⟨congrArg Value.bool ?_,rfl⟩;rw [z9s]; simp [isAg]
theorem Now_spec (h:SatL H F)(i:Nat)(hA:nth i F=markC mb rb s):q1k Tryz.prog 58 #[.pointer (some ⟨mb,0,none⟩)] H (I64 s.now):=by
 unfold q1k;refine z0c ?_;exact⟨_,h.rd i hA _,rfl,rfl⟩
theorem Value_spec (h:SatL H F)(i:Nat)(hA:nth i F=markC mb rb s):q1k Tryz.prog 60 #[.pointer (some ⟨mb,0,none⟩)] H (I64 s.value):=by
 unfold q1k;refine qqw ?_;exact⟨_,h.rd i hA _,rfl,rfl⟩
theorem New_spec {lag:Int}(h:SatL H F)(k1:lag < 1∨1099511627776 < lag→K (.tuple #[.pointer none,I64 11]) H)
  (k2:1≤lag→lag≤1099511627776→∀mb rb H',SatL H' (markC mb rb (MS.new lag)::mapF rb []::F)→K (.tuple #[.pointer (some ⟨mb,0,none⟩),I64 0]) H') :
  CF 52 #[I64 lag] H K:=by
 refine z0f ⟨fun hc=>k1 (by simpa using hc),fun hc=>?_⟩
 have hc:1≤lag∧lag≤1099511627776:=by simp at hc; omega
 refine h.alm I64 aggF fun rb _ h=>?_
 rw [w64 (x:=0 - lag)];refine h.al fun mb _ h=>k2 hc.1 hc.2 mb rb _ ?_
 have e:(0:Int) - lag=-lag:=by omega
 rw [e] at h;exact h
theorem Of_spec {a:Int}(h:SatL H (markC mb rb s::mapF rb s.m::F))
  (k:∀H',SatL H' (markC mb rb s::mapF rb s.m::F)→K (.tuple #[aggF ((q08 a s.m).getD Fl.z),.bool (q08 a s.m).isSome]) H') :
  CF 81 #[.pointer (some ⟨mb,0,none⟩),I64 a] H K:=by
 refine z5k ?_
 repeat (first|refine h.al fun _ _ h=>?_|refine q01 ?_|refine⟨fun _=>trivial,?_⟩|refine⟨_,Ra2,?_⟩|refine St2 h fun _ h=>?_|refine⟨_,fun _=>Ra2,?_⟩)
 refine⟨_,_,_,_,_,h.mp_get mt45 ko2 2 rfl,?_⟩
 repeat (first|refine h.al fun _ _ h=>?_|refine q01 ?_|refine⟨fun _=>trivial,?_⟩|refine⟨_,Ra3,?_⟩|refine St3 h fun _ h=>?_|refine⟨_,_,_,_,Rs3,?_⟩|refine⟨_,fun _=>Ra3,?_⟩|refine⟨_,_,_,_,fun _=>Rs3,?_⟩)
 exact k _ h.tl.tl
theorem Join_spec {a t:Int}(h:SatL H (markC mb rb s::mapF rb s.m::F))
  (k:∀H',SatL H' (markC mb rb (s.join a t).1::mapF rb (s.join a t).1.m::F)→K (I64 (s.join a t).2) H') :
  CF 138 #[.pointer (some ⟨mb,0,none⟩),I64 a,I64 t] H K:=by
 refine quh ?_;refine⟨_,qgb,_,fun _=>isTime_spec,fun hc=>?_,fun hc=>?_⟩
 ·have e:s.join a t=(s,11):=if_pos (by simp only [z97,z9a,z8x] at hc; exact hc);rw [e] at k;exact k _ h
 have hn:¬(¬isAg a∨¬isT t):=by simpa using hc
 repeat (first|refine h.al fun _ _ h=>?_|refine q01 ?_|refine⟨fun _=>trivial,?_⟩|refine⟨_,Ra1,?_⟩|refine St1 h fun _ h=>?_|refine⟨_,fun _=>Ra1,?_⟩)
 refine⟨_,_,_,_,_,h.mp_get mt45 ko2 1 rfl,?_⟩
 repeat (first|refine h.al fun _ _ h=>?_|refine q01 ?_|refine⟨fun _=>trivial,?_⟩|refine⟨_,Ra1,?_⟩|refine St1 h fun _ h=>?_|refine⟨_,fun _=>Ra1,?_⟩)
 cases hl:q08 a s.m with
 | some x=>
  have e:s.join a t=(s,18):=by unfold MS.join; rw [if_neg hn,hl]
  rw [e] at k;exact⟨fun _=>k _ h.tl,fun hf=>by cases hf⟩
 | none=>
  have e:s.join a t=({ s with m:=mset a ⟨t,false,false,false⟩ s.m },0):=by unfold MS.join; rw [if_neg hn,hl]
  rw [e] at k;refine⟨fun hf=>(by cases hf),fun _=>?_⟩
  repeat (first|refine h.al fun _ _ h=>?_|refine q01 ?_|refine⟨fun _=>trivial,?_⟩|refine⟨_,Ra2,?_⟩|refine St2 h fun _ h=>?_|refine⟨_,fun _=>Ra2,?_⟩)
  exact h.mp_update (α:=Fl) (v:=⟨t,false,false,false⟩) mt45 ko2 2 rfl fun H' h=>k _ h.tl
theorem Leave_spec {a:Int}(h:SatL H (markC mb rb s::mapF rb s.m::F))
  (k:∀H',SatL H' (markC mb rb (s.leave a).1::mapF rb (s.leave a).1.m::F)→K (I64 (s.leave a).2) H') :
  CF 137 #[.pointer (some ⟨mb,0,none⟩),I64 a] H K:=by
 refine qqp ?_
 repeat (first|refine h.al fun _ _ h=>?_|refine q01 ?_|refine⟨fun _=>trivial,?_⟩|refine⟨_,Ra1,?_⟩|refine St1 h fun _ h=>?_|refine⟨_,fun _=>Ra1,?_⟩)
 refine⟨_,_,_,_,_,h.mp_get mt45 ko2 1 rfl,?_⟩
 repeat (first|refine h.al fun _ _ h=>?_|refine q01 ?_|refine⟨fun _=>trivial,?_⟩|refine⟨_,Ra1,?_⟩|refine St1 h fun _ h=>?_|refine⟨_,fun _=>Ra1,?_⟩)
 cases hl:q08 a s.m with
 | none=>
  have e:s.leave a=(s,19):=by unfold MS.leave; rw [hl]
  rw [e] at k;exact⟨fun _=>k _ h.tl,fun hf=>by cases hf⟩
 | some x=>
  have e:s.leave a=({ s with m:=mdel a s.m },0):=by unfold MS.leave; rw [hl]
  rw [e] at k;refine⟨fun hf=>(by cases hf),fun _=>?_⟩
  repeat (first|refine h.al fun _ _ h=>?_|refine q01 ?_|refine⟨fun _=>trivial,?_⟩|refine⟨_,Ra2,?_⟩|refine St2 h fun _ h=>?_|refine⟨_,fun _=>Ra2,?_⟩)
  exact h.mp_delete mt45 ko2 2 rfl fun H' h=>k _ h.tl
theorem qcl {a:Int}{f:FuncId}{cap:List Value}(hf:memN f X.calls=true)(h:SatL H (markC mb rb s::mapF rb s.m::F))
  (k1:q08 a s.m=none→∀H',SatL H' (markC mb rb s::mapF rb s.m::F)→K (I64 19) H')
  (hb:∀x,q08 a s.m=some x→∀b H1,SatL H1 (cellsA b (encF x) 80::markC mb rb s::mapF rb s.m::F)→
   CF f ⟨(.pointer (some ⟨b,0,none⟩))::cap⟩ H1 fun u H2=>(∃r:Int,u=I64 r∧r≠0∧K (I64 r) H2)∨
    (u=I64 0∧∃x' F',SatL H2 (cellsA b (encF x') 80::markC mb rb s::mapF rb s.m::F')∧∀H3,SatL H3 (markC mb rb s::mapF rb (mset a x' s.m)::F')→K (I64 0) H3)) :
  CF 143 #[.pointer (some ⟨mb,0,none⟩),I64 a,.func (.func f) #[] ⟨cap⟩] H K:=by
 refine qns ?_
 repeat (first|refine h.al fun _ _ h=>?_|refine q01 ?_|refine⟨fun _=>trivial,?_⟩|refine⟨_,Ra1,?_⟩|refine St1 h fun _ h=>?_|refine⟨_,fun _=>Ra1,?_⟩)
 have hl:=h.mp_get mt45 ko2 1 rfl (x:=a)
 cases hm:q08 a s.m with
 | none=>
  rw [hm] at hl;refine⟨_,_,_,_,_,hl,?_⟩
  repeat (first|refine h.al fun _ _ h=>?_|refine q01 ?_|refine⟨fun _=>trivial,?_⟩|refine⟨_,Ra1,?_⟩|refine St1 h fun _ h=>?_|refine⟨_,fun _=>Ra1,?_⟩)
  exact⟨fun _=>k1 hm _ h.tl,fun hf=>by cases hf⟩
 | some x=>
  rw [hm] at hl;refine⟨_,_,_,_,_,hl,?_⟩
  repeat (first|refine h.al fun _ _ h=>?_|refine q01 ?_|refine⟨fun _=>trivial,?_⟩|refine⟨_,Ra1,?_⟩|refine St1 h fun _ h=>?_|refine⟨_,fun _=>Ra1,?_⟩)
  refine⟨fun hf=>(by cases hf),fun _=>⟨hf,(hb x hm _ _ h).mono fun u H2 hu=>?_⟩⟩
  rcases hu with ⟨r,rfl,hr,hk⟩|⟨rfl,x',F',h2,hk⟩
  ·exact⟨r,rfl,fun _=>hk,fun hf=>absurd (by simpa using hf) hr⟩
  ·refine⟨0,rfl,fun hf=>by simp at hf,fun _=>?_⟩
   refine⟨_,h2.r 1,_,_,_,_,h2.q 0,?_⟩;exact h2.mp_update (α:=Fl) (v:=x') mt45 ko2 2 rfl fun H' h=>hk _ h.tl
theorem Raise_spec {a t:Int}(h:SatL H (markC mb rb s::mapF rb s.m::F))
  (k:∀H',SatL H' (markC mb rb (s.raise a t).1::mapF rb (s.raise a t).1.m::F)→K (I64 (s.raise a t).2) H') :
  CF 148 #[.pointer (some ⟨mb,0,none⟩),I64 a,I64 t] H K:=by
 refine qqn ?_;refine h.al fun c _ h=>?_
 refine qcl (F:=cellsA c [I64 t] 2::F) (by kernel_rfl) (h.o [1,2,0] 3) (fun hn H' h=>⟨_,rfl,?_⟩) fun x hx b H1 h=>?_
 ·have e:s.raise a t=(s,19):=by unfold MS.raise; rw [hn]
  rw [e] at k;exact k _ (h.o [0,1] 3)
 refine qkh ?_;refine⟨_,h.r 3,_,isTime_spec,fun hc=>?_,fun hc=>?_⟩
 ·have hT:¬isT t:=by simp only [z9a,z8x] at hc; exact hc
  have e:s.raise a t=(s,11):=by unfold MS.raise; rw [hx]; exact if_pos hT
  rw [e] at k;exact .inl ⟨11,rfl,by decide,_,rfl,k _ (h.o [1,2] 4)⟩
 ·have hT:¬¬isT t:=by simpa using hc
  have e:s.raise a t=({ s with m:=mset a ⟨if t > x.t then t else x.t,x.out,x.was,x.held⟩ s.m },0):=by unfold MS.raise; rw [hx]; exact if_neg hT
  rw [e] at k;refine⟨_,h.r 0,_,h.r 3,?_⟩;refine h.st 0 rfl rfl fun _ h=>.inr ⟨rfl,⟨if t > x.t then t else x.t,x.out,x.was,x.held⟩,_,h,fun H3 h=>⟨_,rfl,?_⟩⟩
  exact k _ (h.o [0,1] 3)
theorem Hold_spec {a:Int}{v:Bool}(h:SatL H (markC mb rb s::mapF rb s.m::F))
  (k:∀H',SatL H' (markC mb rb (s.hold a v).1::mapF rb (s.hold a v).1.m::F)→K (I64 (s.hold a v).2) H') :
  CF 69 #[.pointer (some ⟨mb,0,none⟩),I64 a,.bool v] H K:=by
 refine quk ?_;refine h.al fun c _ h=>?_
 refine qcl (F:=cellsA c [.bool v] 4::F) (by kernel_rfl) (h.o [1,2,0] 3) (fun hn H' h=>⟨_,rfl,?_⟩) fun x hx b H1 h=>?_
 ·have e:s.hold a v=(s,19):=by unfold MS.hold; rw [hn]
  rw [e] at k;exact k _ (h.o [0,1] 3)
 refine qnr ?_;have e:s.hold a v=({ s with m:=mset a ⟨x.t,x.out,x.was,v⟩ s.m },0):=by unfold MS.hold; rw [hx]
 rw [e] at k;refine⟨_,h.r 3,?_⟩;refine h.st 0 rfl rfl fun _ h=>.inr ⟨rfl,⟨x.t,x.out,x.was,v⟩,_,h,fun H3 h=>⟨_,rfl,?_⟩⟩
 exact k _ (h.o [0,1] 3)
end
open Go.Nm
section
variable {mb rb:Nat} {s:MS} {F:List Assn} {H:Heap} {K:Value→Heap→Prop}
theorem All_spec (h:SatL H F)(k:∀c0 H',SatL H' (cellsA c0 [.pointer (some ⟨mb,0,none⟩)] 111::F)→K (.func (.func 226) #[] #[.pointer (some ⟨c0,0,none⟩)]) H') :
  CF 196 #[.pointer (some ⟨mb,0,none⟩)] H K:=by
 refine z08 ?_;refine h.al fun _ _ h=>?_
 exact k _ _ h
abbrev ksOf (s:MS):List Int:=q64 (q00 s.m)
abbrev atF (s:MS)(a:Int):Fl:=(q08 a s.m).getD Fl.z
theorem ks_len:(ksOf s).length=s.m.length:=by simp [ksOf,qq4,q00]
theorem All1_spec {l c0:Nat}(ok:MOk s)(A:Nat→Assn)(Ax:Assn)(B:Assn)
  (h:SatL H (markC mb rb s::mapF rb s.m::B::cellsA c0 [.pointer (some ⟨mb,0,none⟩)] 111::F))
  (hst:∀G H',SatL H' (markC mb rb s::mapF rb s.m::B::G)→SatL H' (A 0::G))
  (hy:∀j (hj:j < (ksOf s).length) (G:List Assn) (H1:Heap) (K1:Value→Heap→Prop),SatL H1 (A j::G)→(∀H2,SatL H2 (A (j+1)::G)→K1 (.bool true) H2)→(∀H2,SatL H2 (Ax::G)→K1 (.bool false) H2)→
   q4g Tryz.prog l [I64 (ksOf s)[j],aggF (atF s (ksOf s)[j])] H1 K1)
  (k:∀H',SatL H' (A (ksOf s).length::cellsA c0 [.pointer (some ⟨mb,0,none⟩)] 111::F)→K (.tuple #[]) H')
  (kx:∀H',SatL H' (Ax::cellsA c0 [.pointer (some ⟨mb,0,none⟩)] 111::F)→K (.tuple #[]) H') :
  CF 226 #[.func (.yield l) #[] #[],.pointer (some ⟨c0,0,none⟩)] H K:=by
 refine qqk ?_;have hle:=ok.le;have hkl:(ksOf s).length=s.m.length:=ks_len
 repeat (first|refine h.al fun _ _ h=>?_|refine q01 ?_|refine⟨fun _=>trivial,?_⟩|refine⟨_,Ra4,?_⟩|refine St4 h fun _ h=>?_|refine⟨_,fun _=>Ra4,?_⟩)
 refine qup h 1 rfl fun H1 h1 _=>⟨_,rfl,?_⟩
 refine z0j ⟨_,_,rfl,?_⟩;refine qqz h1 0 rfl ok.wf (by omega) fun a c H2 h2 _=>⟨_,_,_,rfl,?_⟩
 have h2:=hst _ _ (h2.o [2,3,4,0,1] 5);refine⟨fun t H'=>∃j:Nat,t=j∧j≤(ksOf s).length∧SatL H' (A j::slA 2 1 a s.m.length c ((ksOf s).map I64)::mapF H.size s.m::cellsA c0 [.pointer (some ⟨mb,0,none⟩)] 111::F),
  fun t _=>(ksOf s).length - t.toNat,⟨0,rfl,z9l _,h2⟩,?_⟩
 rintro t H3 ⟨j,rfl,hj,h3⟩;refine⟨fun hc=>?_,fun hc=>?_⟩
 ·have hlt:j < (ksOf s).length:=by have:=z8s hc; omega
  have hrd:=(h3.sl_rd 1 rfl).at hlt;have hlk:=h3.mp_get1 mt45 ko2 2 rfl (x:=(ksOf s)[j]);refine⟨⟨by omega,by omega⟩,_,_,hrd.1,_,hrd.2,_,_,_,_,hlk,?_⟩;refine hy j hlt _ H3 _ h3 (fun H4 h4=>⟨true,rfl,fun hf=>(by cases hf),fun _=>?_⟩) fun H4 h4=>⟨false,rfl,fun _=>?_,fun hf=>(by cases hf)⟩
  ·rw [w64];exact⟨⟨j+1,rfl,hlt,h4⟩,by simp only [z8z]; omega⟩
  ·exact kx _ (h4.o [0,3] 4)
 ·obtain rfl:j=(ksOf s).length:=by have:=z8v hc; omega
  exact k _ (h3.o [0,3] 4)
theorem z2y {b c0 c1 c2 c3:Nat}{x:Fl}{now least:Int}{found:Bool}(hl:1≤s.lag∧s.lag≤1099511627776)(hn:isT now)
  (h:SatL H (cellsA b (encF x) 80::markC mb rb s::cellsA c0 [I64 now] 2::cellsA c1 [.pointer (some ⟨mb,0,none⟩)] 111::cellsA c2 [.bool found] 4::cellsA c3 [I64 least] 2::F))
  (k:∀H',SatL H' (cellsA b (encF (updF (now - s.lag) x)) 80::markC mb rb s::cellsA c0 [I64 now] 2::cellsA c1 [.pointer (some ⟨mb,0,none⟩)] 111::cellsA c2 [.bool (qkr (now - s.lag) (least,found) x).2] 4::cellsA c3 [I64 (qkr (now - s.lag) (least,found) x).1] 2::F)→K (I64 0) H') :
  CF 197 #[.pointer (some ⟨b,0,none⟩),.pointer (some ⟨c0,0,none⟩),.pointer (some ⟨c1,0,none⟩),.pointer (some ⟨c2,0,none⟩),.pointer (some ⟨c3,0,none⟩)] H K:=by
 refine qno ?_;refine⟨_,h.r 0,_,h.r 2,_,h.r 3,q01 ⟨_,h.r 1,?_⟩⟩;dsimp only;rw [w64 (x:=now - s.lag)];refine h.st 0 rfl rfl fun _ h=>?_
 refine⟨_,h.r 0,fun _=>trivial,_,fun _=>h.r 0,?_⟩
 refine h.st 0 rfl rfl fun _ h=>?_
 refine⟨_,h.r 0,fun _=>trivial,_,fun _=>h.r 0,_,fun _=>h.r 4,fun _=>trivial,_,fun _=>h.r 0,_,fun _=>h.r 5,?_⟩
 intro Jn hJ;refine⟨fun hc=>?_,fun hc=>?_⟩
 ·have e:qkr (now - s.lag) (least,found) x=(x.t,true):=if_pos (by
   simp only [z8w,z97,z9a,z8x,z8u] at hc;exact⟨hc.1.1,hc.1.2,hc.2⟩)
  rw [e] at k;refine⟨_,h.r 0,?_⟩;refine h.st 5 rfl rfl fun _ h=>h.st 4 rfl rfl fun _ h=>hJ _ ?_
  exact k _ h
 ·have e:qkr (now - s.lag) (least,found) x=(least,found):=if_neg (fun hh=>by
   rw [← zbd] at hc;apply hc;simp only [z8w,z97,z9a,z8x,z8u];exact⟨⟨hh.1,hh.2.1⟩,hh.2.2⟩)
  rw [e] at k;exact hJ _ (k _ h)
def tkA (mb rb b b1 lb fb l:Nat)(R:Loop)(s:MS)(now:Int)(j:Nat):Assn:=
 star [markC mb rb { s with now:=now },mapF rb (mjT (now - s.lag) s.m ((ksOf s).take j)),cellsA b [.pointer (some ⟨mb,0,none⟩)] 111,cellsA b1 [I64 now] 2,
  cellsA lb [I64 (qbj (now - s.lag) s.m ((ksOf s).take j) (now - s.lag,false)).1] 2,cellsA fb [.bool (qbj (now - s.lag) s.m ((ksOf s).take j) (now - s.lag,false)).2] 4,pt l (.loop R)]
theorem z2z {b b1 lb fb j:Nat}{now:Int}{H4 H1:Heap}{R:Loop}{G:List Assn}{K1:Value→Heap→Prop}(ok:MOk s)(hn:isT now)(hj:j < (ksOf s).length)
  (h:SatL H1 (tkA mb rb b b1 lb fb (H4.size+1) R s now j::G)) (kt:∀H2,SatL H2 (tkA mb rb b b1 lb fb (H4.size+1) R s now (j+1)::G)→K1 (.bool true) H2) :
  qip.y1 b b1 lb 0 fb 0 H4 R [I64 (ksOf s)[j],aggF (atF s (ksOf s)[j])] H1 K1:=by
 have h:=h.open;unfold qip.y1;refine⟨_,_,_,_,_,rfl,h.getO 6 rfl,h.getO 6 rfl,h.stl 6 rfl fun H6 h=>⟨_,h.r 2,?_⟩⟩
 obtain⟨x,hx⟩:∃x,q08 (ksOf s)[j] s.m=some x:=by
  cases hm:q08 (ksOf s)[j] s.m with
  | some x=>exact⟨x,rfl⟩
  | none=>exact absurd (qsc.1 (z92 hj)) (q0h.1 hm)
 have hni:=z2x (qw8 ok.nd) hj;have hlk:q08 (ksOf s)[j] (mjT (now - s.lag) s.m ((ksOf s).take j))=some x:=by rw [mjT_look,hx]; simp [hni]
 have et:(ksOf s).take (j+1)=(ksOf s).take j++[(ksOf s)[j]]:=za5 hj;refine qcl (s:={ s with now:=now,m:=mjT (now - s.lag) s.m ((ksOf s).take j) }) (f:=197) (by kernel_rfl) h (fun hno=>by rw [hlk] at hno; cases hno) fun x' hx' bb H7 h=>?_
 obtain rfl:x=x':=by rw [hlk] at hx'; exact Option.some.inj hx'
 refine z2y (s:={ s with now:=now }) ⟨ok.l1,ok.l2⟩ hn (h.o [0,1,4,3,6,5,2,7] 8) fun H8 h=>.inr ⟨rfl,updF (now - s.lag) x,_,h.o [0,1,6,2,3,4,5,7] 8,fun H9 h=>⟨_,rfl,?_⟩⟩
 refine⟨h.getO 6 rfl,kt _ ?_⟩;have h:=h.setO 6 rfl (.loop R);unfold tkA;refine SatL.shut [_,_,_,_,_,_,_] ?_;have em:mapF rb (mset (ksOf s)[j] (updF (now - s.lag) x) (mjT (now - s.lag) s.m ((ksOf s).take j)))=mapF rb (mjT (now - s.lag) s.m ((ksOf s).take j++[(ksOf s)[j]])):=q6k (mjT_step ok.nd hx);rw [et,qga,← em];have ef:qbj (now - s.lag) s.m [(ksOf s)[j]] (qbj (now - s.lag) s.m ((ksOf s).take j) (now - s.lag,false))=qkr (now - s.lag) (qbj (now - s.lag) s.m ((ksOf s).take j) (now - s.lag,false)) x:=by
  show qkr _ _ ((q08 _ s.m).getD Fl.z)=_;rw [hx]; rfl
 rw [ef];exact h.o [0,1,3,2,5,4,6] 7
theorem Tick_spec {now:Int}(ok:MOk s)(h:SatL H (markC mb rb s::mapF rb s.m::F))
  (k:∀H',SatL H' (markC mb rb (s.tick now).1::mapF rb (s.tick now).1.m::F)→K (I64 (s.tick now).2) H') :
  CF 149 #[.pointer (some ⟨mb,0,none⟩),I64 now] H K:=by
 refine qug ?_;refine h.al fun b _ h=>h.al fun b1 _ h=>?_
 refine⟨_,h.r 0,_,isTime_spec,_,fun _=>h.r 0,_,fun _=>h.rd (1) rfl _,fun _=>trivial,_,fun _=>h.r 2,fun hc=>?_,fun hc=>?_⟩
 ·have e:s.tick now=(s,11):=if_pos (by simp only [z97,z9a,z8x,z8u] at hc; exact hc);rw [e] at k;exact k _ h.tl.tl
 have hc':¬(¬isT now∨now < s.now):=by
  simp only [z94,z9u,z8x,z8u] at hc;exact fun hh=>hh.elim (fun h1=>h1 hc.1) hc.2
 have hn:isT now:=by
  rcases Classical.em (isT now) with h|h
  ·exact h
  ·exact absurd (Or.inl h) hc'
 have e:s.tick now=({ s with now:=now,value:=maxI s.value (qbj (now - s.lag) s.m (q64 (q00 s.m)) (now - s.lag,false)).1,m:=s.m.map fun p=>(p.1,updF (now - s.lag) p.2) },0):=if_neg hc'
 rw [e] at k;have hl1:=ok.l1;have hl2:=ok.l2;refine⟨_,h.r 1,_,h.r 0,q01 (h.st 2 rfl rfl fun _ h=>?_)⟩
 intro Jn hJ;have fin:∀lb fb H',SatL H' (cellsA b1 [I64 now] 2::cellsA b [.pointer (some ⟨mb,0,none⟩)] 111::cellsA lb [I64 (now - s.lag)] 2::cellsA fb [.bool false] 4::markC mb rb { s with now:=now }::mapF rb s.m::F)→Jn lb 0 fb 0 H':=by
  intro lb fb H' h;refine hJ _ _ _ _ _ ?_;refine⟨_,h.r 1,All_spec h fun c0 H4 h=>⟨_,_,rfl,rfl,fun R hR1 hR2 hy=>?_⟩⟩
  have h:=h.rng R;have h:SatL _ (markC mb rb { s with now:=now }::mapF rb s.m::star [cellsA b [.pointer (some ⟨mb,0,none⟩)] 111,cellsA b1 [I64 now] 2,cellsA lb [I64 (now - s.lag)] 2,cellsA fb [.bool false] 4,pt (H4.size+1) (.loop R)]::cellsA c0 [.pointer (some ⟨mb,0,none⟩)] 111::pt H4.size (.deferred (some []))::F):=
   (SatL.shut [_,_,_,_,_] (h.o [4,3,5,6,0,7,8,2,1] 9)).o [1,2,0] 3
  refine All1_spec (s:={ s with now:=now }) ⟨ok.l1,ok.l2,hn,ok.v1,ok.v2,ok.nd,ok.rows⟩ (fun j=>tkA mb rb b b1 lb fb (H4.size+1) R s now j) (pur False) _ h (fun G H' h=>?_)
   (fun j hj G H1 K1 h1 kt _=>hy _ _ _ (z2z ok hn hj h1 kt)) (fun H5 h5=>?_) (fun H5 h5=>(SatL.consP h5).1.elim)
  ·unfold tkA;rw [zaj,mjT_nil];refine SatL.shut [_,_,_,_,_,_,_] ?_;exact ((h.o [2,0,1] 3).open).o [5,6,0,1,2,3,4] 7
  ·have h:=SatL.open (A:=[_,_,_,_,_,_,_]) h5;have e1:(ksOf { s with now:=now }).length=(ksOf s).length:=rfl;rw [e1,z9f (z91 _),mjT_all (fun x hx=>qsc.2 hx)] at h
   refine⟨.ready,none,by decide,by rw [q66 hR1 hR2]; exact h.getO 6 rfl,h.stl 6 rfl fun H9 h=>⟨rfl,?_⟩⟩
   refine⟨_,h.r 2,_,h.r 2,q01 ⟨_,h.r 0,_,h.r 4,q01 (h.st 0 rfl rfl fun _ h=>⟨h.getO 8 rfl,?_⟩)⟩⟩
   have h:=h.setO 8 rfl (.deferred none);exact k _ (h.o [0,1] 9)
 refine⟨_,h.r 0,_,h.r 1,q01 ⟨_,h.r 2,?_⟩⟩;dsimp only;rw [w64 (x:=now - s.lag)];refine⟨h.al fun lb _ h=>⟨h.r 3,h.r 2,h.r 1,h.al fun fb _ h=>⟨h.r 4,h.r 3,h.r 2,h.st 1 rfl rfl fun _ h=>h.st 0 rfl rfl fun _ h=>?_⟩⟩,
  h.al fun fb _ h=>⟨h.r 3,h.r 2,h.r 1,h.al fun lb _ h=>⟨h.r 4,h.r 3,h.r 2,h.st 0 rfl rfl fun _ h=>h.st 1 rfl rfl fun _ h=>?_⟩⟩⟩
 ·exact fin lb fb _ (h.o [2,3,1,0] 4)
 ·exact fin lb fb _ (h.o [2,3,0,1] 4)
end
open Go.Nm
section
variable {mb rb sb:Nat} {s:MS} {F:List Assn} {H:Heap} {K:Value→Heap→Prop}
theorem Set_spec {ag:FM}{ab:Nat}{now value:Int}(hn:isT now)(hl:1≤s.lag∧s.lag≤1099511627776)(hv:now - s.lag≤value∧value≤now)(hr:∀p∈ag,isAg p.1∧isT p.2.t)
  (h:SatL H (markC mb rb s::mapF rb s.m::mapF ab ag::F))
  (k:∀rb' H',SatL H' (markC mb rb' ⟨s.lag,now,value,ag⟩::mapF rb' ag::mapF ab ag::F)→K (I64 0) H') :
  CF 46 #[.pointer (some ⟨mb,0,none⟩),I64 now,I64 value,.map (some ab)] H K:=by
 refine qlj ?_;have e1:i64.wrap (now - s.lag)=now - s.lag:=w64;refine⟨_,isTime_spec,fun _=>trivial,_,fun _=>h.r 0,?_⟩
 dsimp only;rw [e1,z9b hn,za8 (show ¬value < now - s.lag by omega),za8 (show ¬now < value by omega)];refine⟨fun hf=>(by cases hf),fun _=>?_⟩
 refine h.alm I64 aggF fun b _ h=>?_
 refine h.rg_new mt45 3 rfl fun it H1 h=>⟨it,rfl,?_⟩
 refine⟨fun H'=>∃dn:FM,SatL H' (mapF b dn::markC mb rb s::mapF rb s.m::rngA I64 aggF it ab ag dn::F),fun H'=>ag.length - z00 H' it,⟨[],h⟩,?_⟩
 rintro H2 ⟨dn,h⟩;obtain⟨hc0,hle⟩:=h.rg_count 3 rfl;refine h.rg_next 3 rfl (fun hp=>Or.inl ⟨rfl,fun hf=>(by cases hf),fun _=>?_⟩) fun p hpm hpn H3 h=>Or.inr ⟨_,_,rfl,fun _=>?_,fun hf=>(by cases hf)⟩
 ·have h:=h.rg_map 3 rfl;refine h.st 1 rfl rfl fun _ h=>h.st 1 rfl rfl fun _ h=>h.st 1 rfl rfl fun _ h=>k b _ ?_
  have em:mapF b dn=mapF b ag:=q6k hp;have h:=h.o [1,0,3] 4;simp only [ordT,nth,qzr,put,em] at h;exact h
 ·have hent:=SatL.rg_entry (P:=Tryz.prog) h 3 rfl;obtain⟨hc1,hle1⟩:=h.rg_count 3 rfl;rw [z8t,zad] at hc1 hle1;refine⟨_,_,_,_,_,hent,?_⟩;refine h.al fun b2 _ h=>?_
  refine h.st 0 rfl rfl fun _ h=>?_
  have hq:=hr p hpm;refine⟨_,qgb,_,fun _=>h.r 0,_,fun _=>isTime_spec,?_⟩
  rw [z9b hq.1,z9b hq.2];refine⟨fun hf=>(by cases hf),fun _=>⟨_,_,_,_,h.q 0,?_⟩⟩
  refine h.mp_update (α:=Fl) (v:=p.2) mt45 ko2 1 rfl fun H4 h=>⟨⟨dn++[p],?_⟩,?_⟩
  ·have em:mapF b (mset p.1 p.2 dn)=mapF b (dn++[p]):=q6k (by
    unfold mset;rw [q0y (q0h.2 hpn)];exact (List.perm_append_singleton p dn).symm)
   have h:=h.tl;simp only [put,em] at h;exact h
  ·obtain⟨hc4,_⟩:=h.rg_count 4 rfl;rw [z8t,zad] at hc4;simp only;omega
end
end Go.Proofs.YtfmkddccnjidmaaGreatDoor.Ma
namespace Go.Nm
theorem qw9 {P:Program}{t e:TypeId}{n:Nat}{f:Nat→Int}{i:Int}(ht:P.underlying t=some (.array n e))(hz:∀w,(Go.sizeOf e).run P w=.ok 1 w)(ha:∀w,(Go.isAgg e).run P w=.ok false w)(h0:0≤i)(h1:i < n) :
  q4x P (Instr.index t (.agg ⟨vecL .u64 f n 0⟩) (I64 i)) (.int .u64 (f i.toNat)):=by
 intro w;have hg:=qdp .u64 f n 0 i.toNat (by omega);rw [q13] at hg;simp only [Instr.index,asIntOf,Sem.run_bind,Sem.run_pure,Result.andThen_ok,q07 ht];rw [if_pos ⟨h0,h1⟩];simp only [Sem.run_bind,hz,Result.andThen_ok,zah,part,ha];simp [hg]
def qaf:Nat→RS→List (Nat × Nat) × RS
 | 0,s=>([],s)
 | n+1,s=>(((uRes s).1,(uRes (uRes s).2).1)::(qaf n (uRes (uRes s).2).2).1,(qaf n (uRes (uRes s).2).2).2)
def qsd (prev:Option Nat)(p:Nat):Bool:=match prev with|some x=>decide (p≤x)|none=>false
def qjm:List (Nat × Nat)→Option Nat→(Nat→Int)→Option (Nat→Int)
 | [],_,h=>some h
 | (p,q)::r,prev,h=>if qsd prev p=true∨65≤p then none else if q=0∨9223372036854775807 < q then none else qjm r (some p) (updN h p q)
def qwa (ps:List (Nat × Nat))(q:Nat):Option Nat:=if q=0 then none else some (ps.getD (q - 1) (0,0)).1
def qfg (n0 n1 n2:Nat)(lo hi:Int)(t:List Int)(ps:List (Nat × Nat)):Cl × Int:=
 if 9223372036854775807 < n0∨9223372036854775807 < n1∨9223372036854775807 < n2 then (Cl.z,10) else
 if t.length≠16 then (Cl.z,10) else
 match qjm ps none Z0 with
 | none=>(Cl.z,10)
 | some h=>if q3e ⟨n0,q5u t,lo,hi,n1,n2,h⟩ then (⟨n0,q5u t,lo,hi,n1,n2,h⟩,0) else (Cl.z,10)
def q74 (bs:List Int):Cl × Int:=
 let a:=uRes ⟨0,bs⟩
 let b:=uRes a.2
 let c:=uRes b.2
 let lo:=iRes c.2
 let hi:=iRes lo.2
 let t:=tRes 16 hi.2
 let n:=cRes 65 t.2
 let p:=qaf n.1.toNat n.2
 if (q21 p.2).e≠0 then (Cl.z,(q21 p.2).e) else qfg a.1 b.1 c.1 lo.1 hi.1 t.1 p.1
theorem qb4 {s:RS}(h:q04 s.bs):q04 (iRes s).2.bs:=q0v h
theorem qyl (s:RS):(iRes s).2.bs.length≤s.bs.length:=q4p s
theorem z78:∀{l:List (Nat × Nat)} {prev:Option Nat} {h g:Nat→Int},wfH h→qjm l prev h=some g→wfH g
 | [],_,h,g,hw,e=>by cases e; exact hw
 | (p,q)::r,prev,h,g,hw,e=>by
  unfold qjm at e
  split at e
  ·cases e
  ·split at e
   ·cases e
   ·rename_i h1 h2;refine z78 (l:=r) ?_ e;intro i hi;unfold updN
    split
    ·unfold wf64; omega
    ·exact hw i hi
theorem z30 {n0 n1 n2:Nat}{lo hi:Int}{t:List Int}{ps:List (Nat × Nat)}(hb:q04 t)(h1:wf64 lo)(h2:wf64 hi):WC (qfg n0 n1 n2 lo hi t ps).1:=by
 unfold qfg
 split
 ·exact WC.z
 ·split
  ·exact WC.z
  ·split
   ·exact WC.z
   ·rename_i hn _ g hg
    split
    ·exact⟨by unfold wf64; dsimp only; omega,qs6 t hb,h1,h2,by unfold wf64; dsimp only; omega,by unfold wf64; dsimp only; omega,z78 z6e hg⟩
    ·exact WC.z
theorem z79 {bs:List Int}(hb:q04 bs):WC (q74 bs).1:=by
 unfold q74;dsimp only
 split
 ·exact WC.z
 ·exact z30 (q2n (qb4 (qb4 (q0v (q0v (q0v (s:=⟨0,bs⟩) hb)))))).2 (q81 _) (q81 _)
theorem qse {bs:List Int}(h:(q74 bs).2=0):q3e (q74 bs).1=true:=by
 unfold q74 at h ⊢;dsimp only at h ⊢
 split
 ·rename_i he;rw [if_pos he] at h;exact absurd h he
 ·rename_i he;rw [if_neg he] at h;unfold qfg at h ⊢
  split
  ·rename_i h1; rw [if_pos h1] at h; cases h
  ·rename_i h1;rw [if_neg h1] at h
   split
   ·rename_i h2; rw [if_pos h2] at h; cases h
   ·rename_i h2;rw [if_neg h2] at h
    split
    ·rename_i h3; rw [h3] at h; cases h
    ·rename_i g h3;rw [h3] at h;dsimp only at h
     split
     ·assumption
     ·rename_i h4; rw [if_neg h4] at h; cases h
theorem qwb {s:RS}{m:Int}(h:q04 s.bs)(hm:0≤m):0≤(cRes m s).1∧(cRes m s).1≤m:=by
 unfold cRes
 split
 ·exact⟨z9g _,hm⟩
 ·split
  ·split
   ·exact⟨z9g _,hm⟩
   ·simp only [] at *; omega
  ·exact⟨z9g _,hm⟩
  ·exact⟨z9g _,hm⟩
end Go.Nm
namespace Go.Proofs.YtfmkddccnjidmaaGreatDoor
open Go.Nm
theorem sl279:SlT Tryz.prog 279 280 2 16:=q9n (by kernel_rfl)
abbrev encP (p:Nat × Nat):List Value:=[U64 p.1,U64 p.2]
theorem qh9 (p:Nat × Nat):(encP p).length=2:=rfl
def f3 (a b c:Nat):Nat→Int:=fun i=>match i with|0=>(a:Int)|1=>(b:Int)|_=>(c:Int)
section
variable {F L:List Assn} {H:Heap} {K:Value→Heap→Prop}
theorem idx278 {a b c:Nat}{i:Int}(h0:0≤i)(h1:i < 3):q4x Tryz.prog (Instr.index 278 (.agg #[U64 a,U64 b,U64 c]) (I64 i)) (.int .u64 (f3 a b c i.toNat)):=
 qw9 (f:=f3 a b c) (n:=3) Tryz.underlying278 Tryz.sizeOf56 Tryz.isAgg56 h0 (by omega)
set_option maxHeartbeats 2000000 in
theorem z34 {a:Option Addr}{c n:Nat}{bs:List Int}(hn:bs.length=n)(hb:q04 bs)(h:SatL H F)(ha:∀H,SatL H F→rdS H a (bs.map U8))(hl:n≤1000000000)
  (k:∀H',SatL H' F→K (.tuple #[aggC (q74 bs).1,I64 (q74 bs).2]) H'):CF 113 #[.slice a n c] H K:=by
 subst hn;refine qva ?_;unfold q74 at k;dsimp only at k;refine h.al fun b _ h=>?_
 refine qiq (bs:=bs) h (fun H h=>ha H h.tl) (by omega) fun rb H1 h=>⟨_,rfl,?_⟩
 have hB0:q04 (⟨0,bs⟩:RS).bs:=hb;have hL0:(⟨0,bs⟩:RS).bs.length≤1000000000:=hl;refine q6y h hB0 (by omega) fun H2 h=>⟨_,rfl,?_⟩
 have hB1:=q0v hB0;have hL1:=q4p (⟨0,bs⟩:RS);generalize uRes ⟨0,bs⟩=r1 at *;refine q6y h hB1 (by omega) fun H3 h=>⟨_,rfl,?_⟩
 have hB2:=q0v hB1;have hL2:=q4p r1.2;generalize uRes r1.2=r2 at *;refine q6y h hB2 (by omega) fun H4 h=>⟨_,rfl,?_⟩
 have hB3:=q0v hB2;have hL3:=q4p r2.2;generalize uRes r2.2=r3 at *;refine h.al fun b1 _ h=>?_
 refine h.sta 0 rfl rfl fun H6 h=>?_
 have h:=h.o [1,0] 2;refine qoj h hB3 (by omega) fun H7 h=>⟨_,rfl,?_⟩
 have hB4:=qb4 hB3;have hL4:=qyl r3.2;have hw4:wf64 (iRes r3.2).1:=q81 _;generalize iRes r3.2=r4 at *;refine qoj h hB4 (by omega) fun H8 h=>⟨_,rfl,?_⟩
 have hB5:=qb4 hB4;have hL5:=qyl r4.2;have hw5:wf64 (iRes r4.2).1:=q81 _;generalize iRes r4.2=r5 at *;refine q5q (most:=16) h hB5 (by omega) (by decide) fun H9 h=>⟨_,rfl,?_⟩
 have hB6:=(q2n (m:=16) hB5);have hL6:=(q5k r5.2 16);generalize tRes 16 r5.2=r6 at *;refine qf1 (most:=65) h hB6.1 (by omega) (by decide) fun H10 h=>⟨_,rfl,?_⟩
 have hB7:=q83 (m:=65) hB6.1;have hL7:=qdu r6.2 65;have hN7:=qwb (m:=65) hB6.1 (by decide);generalize cRes 65 r6.2=r7 at *;refine⟨fun pa pn pc i H'=>∃(j:Nat) (ps:List (Nat × Nat)) (s:RS),i=j∧(j:Int)≤r7.1∧pn=ps.length∧ps.length=j∧q04 s.bs∧s.bs.length≤1000000000∧
   qaf r7.1.toNat r7.2=(ps++(qaf (r7.1.toNat - j) s).1,(qaf (r7.1.toNat - j) s).2)∧
   SatL H' (crdA rb s::slA 280 2 pa ps.length pc (flat encP ps)::cellsA b1 [U64 r1.1,U64 r2.1,U64 r3.1] 278::cellsA b (encC Cl.z) 62::F),
  fun _ _ _ i _=>(r7.1 - i).toNat,⟨0,[],r7.2,rfl,hN7.1,rfl,rfl,hB7,by omega,rfl,?_⟩,?_⟩
 ·exact ((h.sl_nil 280 2).o [1,0] 2)
 rintro pa pn pc i H11 ⟨j,ps,s,rfl,hj,rfl,hpj,hsb,hsl,e,h⟩;refine⟨fun hc=>?_,fun hc=>?_⟩
 ·have hlt:=z8s hc;have hu1:=qvl hsb;have hu2:=qvl (q0v hsb);refine q6y h hsb (by omega) fun H12 h=>⟨_,rfl,?_⟩
  have hl1:=q4p s;refine q6y h (q0v hsb) (by omega) fun H13 h=>⟨_,rfl,?_⟩
  have hl2:=q4p (uRes s).2;rintro b2 _ rfl rfl;refine h.append1 (ws:=encP ((uRes s).1,(uRes (uRes s).2).1)) sl279 1 rfl rfl rfl (by omega) (by omega) fun a' c' H15 h=>⟨_,_,_,rfl,?_⟩
  rw [show i64.wrap ((j:Int)+1)=((j+1:Nat):Int) by rw [w64]; omega];refine⟨⟨j+1,ps++[((uRes s).1,(uRes (uRes s).2).1)],(uRes (uRes s).2).2,rfl,by omega,by simp,by simp [hpj],q0v (q0v hsb),by omega,?_,?_⟩,?_⟩
  ·rw [e,show r7.1.toNat - j=(r7.1.toNat - (j+1))+1 by omega,qaf,z93]; rfl
  ·rw [q0k,q7b,z8t];exact h
  ·show (r7.1 - ((j+1:Nat):Int)).toNat < (r7.1 - (j:Int)).toNat
   omega
 ·have hge:=z8v hc;have hjr:r7.1.toNat - j=0:=by omega
  rw [hjr,qaf,z9o] at e;rw [e] at k;dsimp only at k;refine qok h fun H16 h=>⟨_,rfl,fun he=>?_,fun he=>?_⟩
  ·rw [if_pos (by simpa using he)] at k;refine h.sta 3 rfl rfl fun H17 h=>⟨_,_,_,_,_,_,_,_,h.rda 3 rfl,k _ h.tl.tl.tl.tl⟩
  rw [if_neg (by simpa using he)] at k;unfold qfg at k;refine⟨_,_,_,h.rda 2 rfl,?_⟩;have h:=h.tl;refine⟨fun i H'=>∃t:Nat,i=t∧t≤3∧(∀q,q < t→f3 r1.1 r2.1 r3.1 q≤9223372036854775807)∧SatL H' (slA 280 2 pa ps.length pc (flat encP ps)::cellsA b1 [U64 r1.1,U64 r2.1,U64 r3.1] 278::cellsA b (encC Cl.z) 62::F),fun i _=>3 - i.toNat,⟨0,rfl,by omega,fun _ h=>by omega,h⟩,?_⟩
  rintro i H18 ⟨t,rfl,ht,hq,h⟩;refine⟨fun hc2=>?_,fun hc2=>?_⟩
  ·have hlt:t < 3:=by have:=z8s hc2; omega
   refine⟨_,idx278 (by omega) (by omega),?_⟩;rw [z8z];refine⟨fun hg=>?_,fun hg=>?_⟩
   ·have hg:=z8s hg;have:9223372036854775807 < r1.1∨9223372036854775807 < r2.1∨9223372036854775807 < r3.1:=by
     unfold f3 at hg
     split at hg <;> omega
    rw [if_pos this] at k;refine h.sta 2 rfl rfl fun H17 h=>⟨_,_,_,_,_,_,_,_,h.rda 2 rfl,k _ h.tl.tl.tl⟩
   ·have hg:=z8v hg;rw [show i64.wrap ((t:Int)+1)=((t+1:Nat):Int) by rw [w64]; omega];refine⟨⟨t+1,rfl,hlt,fun q hq2=>?_,h⟩,by simp only [z8z]; omega⟩
    rcases z9h q t with h1|h1
    ·exact hq q h1
    ·obtain rfl:q=t:=by omega
     omega
  ·have:t=3:=by have:=z8v hc2; omega
   subst this;have g0:(r1.1:Int)≤9223372036854775807:=hq 0 (by decide);have g1:(r2.1:Int)≤9223372036854775807:=hq 1 (by decide);have g2:(r3.1:Int)≤9223372036854775807:=hq 2 (by decide);rw [if_neg (by omega)] at k;refine⟨by decide,_,h.r 1,by decide,_,h.r 1,by decide,_,h.r 1,?_⟩;dsimp only;rw [w64 (x:=(r1.1:Int)) (by omega) g0,w64 (x:=(r2.1:Int)) (by omega) g1,w64 (x:=(r3.1:Int)) (by omega) g2];refine h.al fun b3 _ h=>?_
   refine h.sta 0 rfl (by rw [z8t,q7e,z8t,q7e]; rfl) fun H21 h=>?_
   refine h.st 0 rfl rfl fun H22 h=>?_
   refine h.st 0 rfl rfl fun H23 h=>?_
   have h:SatL H23 (cellsA b3 (encC ⟨r1.1,0,r4.1,r5.1,r2.1,r3.1,Z0⟩) 62::slA 280 2 pa ps.length pc (flat encP ps)::cellsA b1 [U64 r1.1,U64 r2.1,U64 r3.1] 278::cellsA b (encC Cl.z) 62::F):=h;refine qg3 hB6.2 h fun a' c' H24 h=>⟨_,_,_,rfl,?_⟩
   refine z2f (bs:=r6.1) rfl hB6.2 h (fun H h=>h.sl_rd 0 rfl) (by omega) (fun h16 H25 h=>⟨_,_,_,rfl,?_⟩) (fun h16 H25 h=>⟨_,_,_,rfl,?_⟩)
   ·rw [if_pos h16] at k;refine h.al fun b4 _ h=>?_
    refine h.sta 0 rfl rfl fun H27 h=>⟨fun _=>?_,fun hf=>by cases hf⟩
    refine h.sta 5 rfl rfl fun H17 h=>⟨_,_,_,_,_,_,_,_,h.rda 5 rfl,k _ h.tl.tl.tl.tl.tl.tl⟩
   ·rw [if_neg (fun hh=>hh h16)] at k
    refine h.al fun b4 _ h=>?_
    refine h.sta 0 rfl rfl fun H27 h=>⟨fun hf=>(by cases hf),fun _=>?_⟩
    refine⟨_,_,h.rda 0 rfl,?_⟩;refine h.st 2 rfl rfl fun H29 h=>?_
    have h:SatL H29 (cellsA b4 [I64 (whi (q5u r6.1)),.int .u64 (wlo (q5u r6.1))] 58::slA 5 1 a' r6.1.length c' (r6.1.map U8)::cellsA b3 (encC ⟨r1.1,q5u r6.1,r4.1,r5.1,r2.1,r3.1,Z0⟩) 62::slA 280 2 pa ps.length pc (flat encP ps)::cellsA b1 [U64 r1.1,U64 r2.1,U64 r3.1] 278::cellsA b (encC Cl.z) 62::F):=h;have h:=h.o [2,3,5] 6;refine⟨fun i H'=>∃(q:Nat) (g:Nat→Int),i=q∧q≤ps.length∧wfH g∧qjm ps none Z0=qjm (ps.drop q) (qwa ps q) g∧SatL H' (cellsA b3 (encC ⟨r1.1,q5u r6.1,r4.1,r5.1,r2.1,r3.1,g⟩) 62::slA 280 2 pa ps.length pc (flat encP ps)::cellsA b (encC Cl.z) 62::F),fun i _=>ps.length - i.toNat,
     ⟨0,Z0,rfl,z9l _,z6e,rfl,h⟩,?_⟩
    rintro i H30 ⟨q,g,rfl,hq2,hg,e2,h⟩;refine⟨fun hc3=>?_,fun hc3=>?_⟩
    ·have hlt:q < ps.length:=by have:=z8s hc3; omega
     have hr:=h.sl_rd 1 rfl;rw [z9z hlt,qjm] at e2;refine⟨⟨by omega,by omega⟩,_,_,hr.some qh9 (by omega) hlt,_,_,hr.els qh9 hlt,?_⟩;refine h.al fun b6 _ h=>?_
     refine h.sta 0 rfl rfl fun H32 h=>?_
     have hr:=h.sl_rd 2 rfl;have hprev:((decide (0 < (q:Int)))=true)→q02 H32 (adrB pa) (adrO pa+(i64.wrap ((q:Int) - 1)).toNat*2+0)=some (.int .u64 ((ps.getD (q - 1) (0,0)).1:Nat)):=by
      intro h0;have h0:=z8s h0;rw [w64 (x:=(q:Int) - 1),show ((q:Int) - 1).toNat=q - 1 by omega];have hq1:q - 1 < ps.length:=by omega
      have:=(hr.els qh9 hq1).1;rw [zbp,List.getElem?_eq_getElem hq1];exact this
     refine⟨fun _=>by decide,_,fun _=>h.r 0,fun h0=>by have h0:=z8s h0; rw [w64 (x:=(q:Int) - 1)]; omega,_,_,fun _=>hr.some qh9 (by omega) hlt,fun _=>by decide,_,hprev,fun _=>by decide,_,fun _=>h.r 0,?_⟩
     have hst:((decide (0 < (q:Int)) && decide (((ps[q].1:Nat):Int)≤(((ps.getD (q - 1) (0,0)).1:Nat):Int))) || decide (65≤((ps[q].1:Nat):Int)))=(qsd (qwa ps q) ps[q].1 || decide (65≤ps[q].1)):=by
      unfold qwa
      rcases zbk q with h0|h0
      ·subst h0;rw [if_pos rfl];simp [qsd];omega
      ·rw [if_neg (by omega)];rw [z9s];simp only [qsd,z97,z8w,z8u,zaf];omega
     dsimp only;rw [hst];have hbad:(qsd (qwa ps q) ps[q].1 || decide (65≤ps[q].1))=true↔(qsd (qwa ps q) ps[q].1=true∨65≤ps[q].1):=by rw [z97,z8u]
     refine⟨fun hc4=>?_,fun hc4=>?_⟩
     ·rw [if_pos (hbad.1 hc4)] at e2;rw [e2] at k;refine h.sta 3 rfl rfl fun H17 h=>⟨_,_,_,_,_,_,_,_,h.rda 3 rfl,k _ h.tl.tl.tl.tl⟩
     have hnb:¬(qsd (qwa ps q) ps[q].1=true∨65≤ps[q].1):=fun hh=>by rw [hbad.2 hh] at hc4; cases hc4
     rw [if_neg hnb] at e2;refine⟨by decide,_,h.r 0,fun _=>by decide,_,fun _=>h.r 0,fun hc5=>?_,fun hc5=>?_⟩
     ·have:ps[q].2=0∨9223372036854775807 < ps[q].2:=by
       simp only [z97,z8u] at hc5;omega
      rw [if_pos this] at e2;rw [e2] at k;refine h.sta 3 rfl rfl fun H17 h=>⟨_,_,_,_,_,_,_,_,h.rda 3 rfl,k _ h.tl.tl.tl.tl⟩
     have hnz:¬(ps[q].2=0∨9223372036854775807 < ps[q].2):=by
      simp only [z94,z8x] at hc5;omega
     rw [if_neg hnz] at e2;have hp65:ps[q].1 < 65:=by omega
     refine⟨by decide,_,h.r 0,by decide,_,h.r 0,⟨by omega,by omega⟩,?_⟩;rw [w64 (x:=((ps[q].2:Nat):Int)),z8z];have hset:q1l (encC ⟨r1.1,q5u r6.1,r4.1,r5.1,r2.1,r3.1,g⟩) (7+ps[q].1) [I64 (ps[q].2:Nat)]=encC ⟨r1.1,q5u r6.1,r4.1,r5.1,r2.1,r3.1,updN g ps[q].1 (ps[q].2:Nat)⟩:=by
      refine (q29 [I64 (ps[q].2:Nat)] [_,_,_,_,_,_,_] (vecL .i64 g 65 0) ps[q].1).trans ?_;have e3:q1l (vecL .i64 g 65 0) ps[q].1 [I64 (ps[q].2:Nat)]=vecL .i64 (updN g ps[q].1 (ps[q].2:Nat)) 65 0:=by
       show (vecL .i64 g 65 0).set ps[q].1 (I64 (ps[q].2:Nat))=_;rw [qoe _ _ _ _ _ _ hp65,z9e]
      rw [e3]
     refine⟨h.can 1 rfl _ _ (by rw [q2c]; simp; omega),?_⟩;intro H35 e35;have h:=h.set 1 rfl (7+ps[q].1) [I64 (ps[q].2:Nat)];rw [hset,← e35] at h;rw [show i64.wrap ((q:Int)+1)=((q+1:Nat):Int) by rw [w64]; omega];refine⟨⟨q+1,updN g ps[q].1 (ps[q].2:Nat),rfl,hlt,?_,?_,h.tl⟩,by simp only [z8z]; omega⟩
     ·intro i hi;unfold updN
      split
      ·unfold wf64; omega
      ·exact hg i hi
     ·rw [e2];congr 1;unfold qwa;rw [if_neg (by omega),Nat.add_sub_cancel,zbp,List.getElem?_eq_getElem hlt];rfl
    ·have hqe:q=ps.length:=by have:=z8v hc3; omega
     subst hqe;rw [zao,qjm] at e2;rw [e2] at k;dsimp only at k;refine⟨_,_,_,_,_,_,_,_,h.rda 0 rfl,?_⟩;have wc:WC ⟨r1.1,q5u r6.1,r4.1,r5.1,r2.1,r3.1,g⟩:=⟨by unfold wf64; dsimp only; omega,qs6 _ hB6.2,hw4,hw5,by unfold wf64; dsimp only; omega,by unfold wf64; dsimp only; omega,hg⟩;refine q6t wc h fun H36 h=>⟨_,rfl,fun hr=>?_,fun hr=>?_⟩
     ·rw [if_neg (by simpa using hr)] at k;refine h.sta 2 rfl rfl fun H17 h=>⟨_,_,_,_,_,_,_,_,h.rda 2 rfl,k _ h.tl.tl.tl⟩
     ·rw [if_pos (by simpa using hr)] at k;refine⟨_,_,_,_,_,_,_,_,h.rda 0 rfl,?_⟩;refine h.sta 2 rfl (by rw [q2c]; exact (q2c Cl.z).symm) fun H17 h=>⟨_,_,_,_,_,_,_,_,h.rda 2 rfl,k _ h.tl.tl.tl⟩
end
end Go.Proofs.YtfmkddccnjidmaaGreatDoor
namespace Go.Nm
structure Cfg where
 width:Int
 policy:Int
 most:Int
 lag:Int
 rho:Int
 trust:Int
 agents:Int
 cells:Int
 hold:Int
abbrev Cfg.gd (c:Cfg):Gd:=⟨c.width,c.policy,c.most⟩
abbrev qgr (c:Cfg):List Value:=[I64 c.width,I64 c.policy,I64 c.most,I64 c.lag,I64 c.rho,I64 c.trust,I64 c.agents,I64 c.cells,I64 c.hold]
structure Str where
 ck:Ck
 hs:HS Pv
 last:Int
structure Sta where
 cfg:Cfg
 now:Int
 boots:Int
 sunk:Int
 rows:List En
 ms:MS
 cm:CM
 sts:List (Option Str)
 kept:List Ot
section
variable {α:Type}
def tabP:Nat→List (Option α)→List (Int × Option α)
 | _,[]=>[]
 | i,none::r=>tabP (i+1) r
 | i,some b::r=>((i:Int),some b)::tabP (i+1) r
theorem qe3:∀{l:List (Option α)} {i:Nat} {p:Int × Option α},p∈tabP i l→(i:Int)≤p.1∧p.1 < i+l.length
 | [],i,p,h=>by simp [tabP] at h
 | none::r,i,p,h=>by
  have ih:=qe3 (l:=r) (i:=i+1) h;simp only [z8y]; omega
 | some b::r,i,p,h=>by
  simp only [z8y]
  rcases z96.1 h with rfl|h
  ·simp only; omega
  ·have ih:=qe3 (l:=r) (i:=i+1) h;omega
theorem qfh {l:List (Option α)}{i k:Nat}(h:k < i):((k:Nat):Int)∉q00 (tabP i l):=fun hm=>by
 obtain⟨p,hp,he⟩:=z90.1 hm;have:=qe3 hp; omega
theorem qe4:∀{l:List (Option α)} {i k:Nat},q08 ((i+k:Nat):Int) (tabP i l)=match l[k]? with|some (some b)=>some (some b)|_=>none
 | [],i,k=>by simp [tabP,q08]
 | none::r,i,0=>by
  simp only [List.getElem?_cons_zero];exact q0h.2 (qfh (l:=r) (by omega))
 | some b::r,i,0=>by simp [tabP,q08]
 | none::r,i,k+1=>by
  have ih:=qe4 (l:=r) (i:=i+1) (k:=k);rw [show i+1+k=i+(k+1) by omega] at ih;simp only [tabP,List.getElem?_cons_succ];exact ih
 | some b::r,i,k+1=>by
  have ih:=qe4 (l:=r) (i:=i+1) (k:=k);rw [show i+1+k=i+(k+1) by omega] at ih;simp only [tabP,List.getElem?_cons_succ,q08];rw [if_neg (by omega)];exact ih
theorem qm8 {β:Type}{k:Int}{l:List (Int × β)}(h:k∉q00 l):mdel k l=l:=q0y (q0h.2 h)
theorem qou {b:α}:∀{l:List (Option α)} {i k:Nat},k < l.length→(tabP i (l.set k (some b))).Perm (mset ((i+k:Nat):Int) (some b) (tabP i l))
 | none::r,i,0,_=>by
  simp only [zb2,tabP];unfold mset;rw [qm8 (qfh (by omega))];exact .refl _
 | some c::r,i,0,_=>by
  simp only [zb2,tabP];unfold mset;have:mdel ((i+0:Nat):Int) (((i:Int),some c)::tabP (i+1) r)=mdel ((i+0:Nat):Int) (tabP (i+1) r):=by simp [mdel]
  rw [this,qm8 (qfh (by omega))];exact .refl _
 | none::r,i,k+1,h=>by
  have ih:=qou (b:=b) (l:=r) (i:=i+1) (k:=k) (by simpa using h);rw [show i+1+k=i+(k+1) by omega] at ih;exact ih
 | some c::r,i,k+1,h=>by
  have ih:=qou (b:=b) (l:=r) (i:=i+1) (k:=k) (by simpa using h);rw [show i+1+k=i+(k+1) by omega] at ih;simp only [zbi,tabP];refine (ih.cons _).trans ?_;unfold mset;have:mdel ((i+(k+1):Nat):Int) (((i:Int),some c)::tabP (i+1) r)=((i:Int),some c)::mdel ((i+(k+1):Nat):Int) (tabP (i+1) r):=by
   have hne:¬(i:Int)=((i+(k+1):Nat):Int):=by omega
   simp [mdel,z9x,hne];omega
  rw [this];exact .swap _ _ _
end
abbrev ptV (p:Option Nat):Value:=match p with|some b=>PA b 0|none=>.pointer none
end Go.Nm
namespace Go.Proofs.YtfmkddccnjidmaaGreatDoor
open Go.Nm
theorem z7a:MapT Tryz.prog 113 2 146 ptV none:=qc1 Tryz.underlying113 (by kernel_rfl)
def strA (Q:Assn)(b:Nat)(s:Str):Assn:=exS fun p:Nat × Nat=>star [cellsA b [PA p.1 0,PA p.2 0,I64 s.last] 149,ckA p.1 s.ck,hldA Q p.2 s.hs]
def strsA (Q:Assn):List (Option Nat)→List (Option Str)→Assn
 | some b::bs,some s::ss=>strA Q b s*strsA Q bs ss
 | _::bs,_::ss=>strsA Q bs ss
 | _,_=>emp
theorem qb5 {Q:Assn}{b:Nat}{s:Str}:∀{bl:List (Option Nat)} {sts:List (Option Str)} {k:Nat},bl[k]?=some none→sts[k]?=some none→
  strA Q b s*strsA Q bl sts=strsA Q (bl.set k (some b)) (sts.set k (some s))
 | [],_,k,h,_=>by simp at h
 | _::_,[],k,_,h=>by simp at h
 | x::bs,y::ss,0,h1,h2=>by
  simp at h1 h2; subst h1; subst h2; rfl
 | none::bs,y::ss,k+1,h1,h2=>qb5 (bl:=bs) (sts:=ss) (k:=k) (by simpa using h1) (by simpa using h2)
 | some x::bs,none::ss,k+1,h1,h2=>qb5 (bl:=bs) (sts:=ss) (k:=k) (by simpa using h1) (by simpa using h2)
 | some x::bs,some y::ss,k+1,h1,h2=>by
  have ih:=qb5 (Q:=Q) (b:=b) (s:=s) (bl:=bs) (sts:=ss) (k:=k) (by simpa using h1) (by simpa using h2);show strA Q b s*(strA Q x y*strsA Q bs ss)=strA Q x y*strsA Q (bs.set k (some b)) (ss.set k (some s));rw [← ih,← q1t,qau (strA Q b s),q1t]
theorem qsf {Q:Assn}:∀{n:Nat},strsA Q (List.replicate n none) (List.replicate n none)=emp
 | 0=>rfl
 | n+1=>qsf (n:=n)
section
variable {F L:List Assn} {H:Heap} {K KP:Value→Heap→Prop} {Q Q':Assn}
theorem q1c {b:Nat}{s:Str}:SatL H (strA Q b s::F)↔∃cb hb,SatL H (cellsA b [PA cb 0,PA hb 0,I64 s.last] 149::ckA cb s.ck::hldA Q hb s.hs::F):=by
 constructor
 ·intro h;obtain⟨⟨cb,hb⟩,h⟩:=q0n.1 h;exact⟨cb,hb,SatL.open (A:=[_,_,_]) h⟩
 ·rintro⟨cb,hb,h⟩;exact q0n.2 ⟨(cb,hb),SatL.shut [_,_,_] h⟩
theorem strA_sub {b:Nat}{s:Str}(hs:Sub Q Q')(h:SatL H (strA Q b s::F)):SatL H (strA Q' b s::F):=by
 obtain⟨cb,hb,h⟩:=q1c.1 h;have h:=h.o [2,0,1] 3;have h:=qon hs h;exact q1c.2 ⟨cb,hb,h.o [1,2,0] 3⟩
theorem qag (hs:Sub Q Q'):∀{bl:List (Option Nat)} {sts:List (Option Str)} {F:List Assn},SatL H (strsA Q bl sts::F)→SatL H (strsA Q' bl sts::F)
 | [],_,F,h=>h
 | none::_,[],F,h=>h
 | some _::_,[],F,h=>h
 | none::bs,y::ss,F,h=>qag (bl:=bs) (sts:=ss) hs h
 | some x::bs,none::ss,F,h=>qag (bl:=bs) (sts:=ss) hs h
 | some x::bs,some y::ss,F,h=>by
  have h:SatL H (strA Q x y::strsA Q bs ss::F):=q1z.1 h;have h:=strA_sub hs h;have h:=h.o [1,0] 2;have h:=qag (bl:=bs) (sts:=ss) hs h;have h:=h.o [1,0] 2;exact q1z.2 h
def strmA (Q:Assn)(tm:Nat)(sts:List (Option Str)):Assn:=exS fun bl:List (Option Nat)=>star [mapA I64 ptV tm (tabP 0 bl),strsA Q bl sts,pur (bl.map Option.isSome=sts.map Option.isSome)]
abbrev qgs (Q:Assn)(bl:List (Option Nat))(sts:List (Option Str))(k:Nat):Assn:=strsA Q (bl.set k none) (sts.set k none)
structure Hole (bl:List (Option Nat))(sts:List (Option Str))(k b:Nat):Prop where
 lt:k < sts.length
 m:bl.map Option.isSome=sts.map Option.isSome
 at_:bl[k]?=some (some b)
theorem q5m {tm:Nat}{sts:List (Option Str)}:SatL H (strmA Q tm sts::F)↔∃bl,bl.map Option.isSome=sts.map Option.isSome∧SatL H (mapA I64 ptV tm (tabP 0 bl)::strsA Q bl sts::F):=by
 constructor
 ·intro h;obtain⟨bl,h⟩:=q0n.1 h;have h:=SatL.open (A:=[_,_,_]) h;have hp:=SatL.consP (h.o [2,0,1] 3);exact⟨bl,hp.1,hp.2⟩
 ·rintro⟨bl,hp,h⟩;exact q0n.2 ⟨bl,SatL.shut [_,_,_] ((h.pur hp).o [1,2,0] 3)⟩
theorem qe5 {bl:List (Option Nat)}{sts:List (Option Str)}(h:bl.map Option.isSome=sts.map Option.isSome)(k:Nat):(bl[k]?).map Option.isSome=(sts[k]?).map Option.isSome:=by
 rw [← List.getElem?_map,← List.getElem?_map,h]
theorem q7j {tm k:Nat}{sts:List (Option Str)}{s:Str}(h:SatL H (strmA Q tm sts::F))(hk:sts[k]?=some (some s)) :
  ∃b bl,Hole bl sts k b∧SatL H (mapA I64 ptV tm (tabP 0 bl)::strA Q b s::qgs Q bl sts k::F):=by
 obtain⟨bl,hm,h⟩:=q5m.1 h;have hlt:k < sts.length:=(List.getElem?_eq_some_iff.1 hk).1;have hbl:bl.length=sts.length:=by have:=congrArg List.length hm; simpa using this
 have h1:=qe5 hm k;rw [hk,List.getElem?_eq_getElem (show k < bl.length by omega)] at h1;simp only [z9t,Option.isSome_some,Option.some.injEq] at h1;obtain⟨b,hb⟩:=zbo.1 h1;have hb':bl[k]?=some (some b):=by rw [List.getElem?_eq_getElem (show k < bl.length by omega),hb]
 refine⟨b,bl,⟨hlt,hm,hb'⟩,?_⟩;have e:=qb5 (Q:=Q) (b:=b) (s:=s) (bl:=bl.set k none) (sts:=sts.set k none) (k:=k) (by rw [List.getElem?_set_self (by omega)]) (by rw [List.getElem?_set_self (by omega)]);rw [List.set_set,List.set_set] at e;have e1:bl.set k (some b)=bl:=by rw [← hb,zau]
 have e2:sts.set k (some s)=sts:=by
  have:sts[k]=some s:=by rw [List.getElem?_eq_getElem hlt] at hk; exact Option.some.inj hk
  rw [← this,zau]
 rw [e1,e2] at e;rw [← e] at h;have h:=h.o [1,0] 2;have h:=q1z.1 h;exact h.o [2,0,1] 3
theorem q8t {tm k b:Nat}{bl:List (Option Nat)}{sts:List (Option Str)}{s:Str}(o:Hole bl sts k b)(h:SatL H (mapA I64 ptV tm (tabP 0 bl)::strA Q b s::qgs Q bl sts k::F)) :
  SatL H (strmA Q tm (sts.set k (some s))::F):=by
 have hbl:bl.length=sts.length:=by have:=congrArg List.length o.m; simpa using this
 have hlt:=o.lt;have e:=qb5 (Q:=Q) (b:=b) (s:=s) (bl:=bl.set k none) (sts:=sts.set k none) (k:=k) (by rw [List.getElem?_set_self (by omega)]) (by rw [List.getElem?_set_self (by omega)]);rw [List.set_set,List.set_set] at e;have hb:bl[k]'(by omega)=some b:=by have:=o.at_; rw [List.getElem?_eq_getElem (by omega)] at this; exact Option.some.inj this
 have e1:bl.set k (some b)=bl:=by rw [← hb,zau]
 rw [e1] at e;refine q5m.2 ⟨bl,?_,?_⟩
 ·rw [o.m,List.map_set];have h1:=qe5 o.m k;rw [o.at_,List.getElem?_eq_getElem hlt] at h1;simp only [z9t,Option.isSome_some,Option.some.injEq] at h1;have:(sts.map Option.isSome)[k]'(by simpa using hlt)=true:=by simp [← h1]
  rw [Option.isSome_some,← this,zau]
 ·rw [← e];have h:=h.o [1,2,0] 3;have h:=q1z.2 h;exact h.o [1,0] 2
theorem qah {tm k b:Nat}{bl:List (Option Nat)}{sts:List (Option Str)}(o:Hole bl sts k b)(h:SatL H F)(i:Nat)(hA:nth i F=mapA I64 ptV tm (tabP 0 bl)) :
  q0b Tryz.prog (Instr.lookup 113 (.map (some tm)) (I64 (k:Int)) false) H (PA b 0):=by
 have hl:=qe4 (l:=bl) (i:=0) (k:=k);rw [o.at_,z9e] at hl;exact ((h.mp_look (x:=((k:Nat):Int)) z7a ko2 i hA).1 _ hl).2
theorem z7b {tm:Nat}{a:Int}{sts:List (Option Str)}(h:SatL H (strmA Q tm sts::F))(hk:a < 0∨sts[a.toNat]?=some none∨sts[a.toNat]?=none) :
  q0b Tryz.prog (Instr.lookup 113 (.map (some tm)) (I64 a) false) H (.pointer none):=by
 obtain⟨bl,hm,h⟩:=q5m.1 h;have hn:q08 a (tabP 0 bl)=none:=by
  rcases (by omega:a < 0∨0≤a) with h0|h0
  ·exact q0h.2 fun hm=>by
    obtain⟨p,hp,he⟩:=z90.1 hm;have:=qe3 hp; omega
  ·have hl:=qe4 (l:=bl) (i:=0) (k:=a.toNat);rw [z9e,show ((a.toNat:Nat):Int)=a by omega] at hl;rw [hl];have h1:=qe5 hm a.toNat
   rcases hk with hk|hk|hk
   ·omega
   ·rw [hk] at h1
    cases e:bl[a.toNat]? with
    | none=>rfl
    | some x=>
     rw [e] at h1
     cases x with
     | none=>rfl
     | some y=>simp at h1
   ·rw [hk] at h1
    cases e:bl[a.toNat]? with
    | none=>rfl
    | some x=>rw [e] at h1; simp at h1
 exact ((h.mp_look (x:=a) z7a ko2 0 rfl).2 hn).2
end
end Go.Proofs.YtfmkddccnjidmaaGreatDoor
namespace Go.Nm
structure RightQ (c:Cl):Prop where
 n0:0≤c.n
 cer0:0≤c.cer
 pos0:0≤c.pos
 mm:c.mn≤c.mx
 v:∀i,i < 65→0≤c.h i
 sum:sumC c.h=c.n
 z:c.n=0→c.sum=0∧c.mn=0∧c.mx=0
 nz:c.n≠0→c.h (q0f c.mn).toNat≠0∧c.h (q0f c.mx).toNat≠0∧∀i,i < 65→c.h i=0∨(q0f c.mn≤i∧(i:Int)≤q0f c.mx)
theorem qsg {c:Cl}:q3e c=true↔RightQ c:=by
 unfold q3e
 constructor
 ·intro h;simp only [z8w,z9a,z94,z8x,z8u] at h;obtain⟨⟨⟨⟨⟨⟨h1,h2⟩,h3⟩,h4⟩,h5⟩,h6⟩,h7⟩:=h;refine⟨by omega,by omega,by omega,by omega,q56.1 h5,h6,fun hz=>?_,fun hz=>?_⟩
  ·rw [if_pos hz] at h7;simp only [z8w,z8u] at h7;exact⟨h7.1.1,h7.1.2,h7.2⟩
  ·rw [if_neg hz] at h7;simp only [z8w,z9a,z94,z8x] at h7;refine⟨h7.1.1,h7.1.2,fun i hi=>?_⟩
   have:=h7.2;unfold inB at this;rw [z9v] at this;have:=this i (zac.2 hi);simpa only [z97,z8u] using this
 ·intro h;simp only [z8w,z9a,z94,z8x,z8u];refine⟨⟨⟨⟨⟨⟨by have:=h.n0; omega,by have:=h.cer0; omega⟩,by have:=h.pos0; omega⟩,by have:=h.mm; omega⟩,q56.2 h.v⟩,h.sum⟩,?_⟩
  by_cases hz:c.n=0
  ·rw [if_pos hz];have:=h.z hz;simp only [z8w,z8u];exact⟨⟨this.1,this.2.1⟩,this.2.2⟩
  ·rw [if_neg hz];have:=h.nz hz;simp only [z8w,z9a,z94,z8x];refine⟨⟨this.1,this.2.1⟩,?_⟩;unfold inB;rw [z9v];intro i hi;simp only [z97,z8u];exact this.2.2 i (zac.1 hi)
theorem qwc {c:Cl}{b:Bool}(h:(q7n c b).2=0):q3e (q7n c b).1=true:=by
 unfold q7n at h ⊢
 split at h
 ·simp at h
 ·rename_i hr;rw [if_neg hr];have hq:=qsg.1 (by simpa using hr)
  split at h
  ·rename_i hb;rw [if_pos hb]
   split at h
   ·simp at h
   ·rename_i h2;rw [if_neg h2];exact qsg.2 ⟨hq.n0,by have:=hq.cer0; show 0≤c.cer+1; omega,hq.pos0,hq.mm,hq.v,hq.sum,hq.z,hq.nz⟩
  ·rename_i hb;rw [if_neg hb]
   split at h
   ·simp at h
   ·rename_i h2;rw [if_neg h2];exact qsg.2 ⟨hq.n0,hq.cer0,by have:=hq.pos0; show 0≤c.pos+1; omega,hq.mm,hq.v,hq.sum,hq.z,hq.nz⟩
theorem qwd {a b:Nat}(h:a≤b):bitLen a≤bitLen b:=by
 unfold bitLen
 split
 ·omega
 ·rename_i ha;rw [if_neg (by omega)];have h1:=Nat.log2_self_le ha;have h2:=(Nat.le_log2 (show b≠0 by omega)).2 (z95 h1 h);omega
theorem q8u {v w:Int}(h:v≤w):q0f v≤q0f w:=by
 have e:∀x:Int,q0f x=if x < 0 then 0 else if x=0 then 1 else 1+((bitLen x.toNat:Nat):Int):=fun _=>rfl
 have hm:=qwd (a:=v.toNat) (b:=w.toNat) (by omega);rw [e v,e w]
 by_cases h1:v < 0
 ·rw [if_pos h1]
  by_cases h2:w < 0
  ·rw [if_pos h2]; exact z9g _
  ·rw [if_neg h2]
   by_cases h3:w=0
   ·rw [if_pos h3]; decide
   ·rw [if_neg h3]; omega
 ·rw [if_neg h1,if_neg (show ¬w < 0 by omega)]
  by_cases h3:w=0
  ·rw [if_pos (show v=0 by omega),if_pos h3]; exact z9g _
  ·rw [if_neg h3]
   by_cases h4:v=0
   ·rw [if_pos h4]; omega
   ·rw [if_neg h4]; omega
abbrev sumR (f:Nat→Int)(n:Nat):Int:=((List.range n).map f).sum
theorem qe6 (f:Nat→Int)(n:Nat):sumR f (n+1)=sumR f n+f n:=by
 unfold sumR;rw [List.range_succ,z9k,List.sum_append]; simp
theorem qym (f:Nat→Int)(j:Nat):∀n,sumR (updN f j (f j+1)) n=sumR f n+if j < n then 1 else 0
 | 0=>by simp [sumR]
 | n+1=>by
  rw [qe6,qe6,qym f j n];unfold updN
  by_cases h:n=j
  ·subst h; simp; omega
  ·rw [if_neg h]
   by_cases h2:j < n
   ·rw [if_pos h2,if_pos (by omega)]; omega
   ·rw [if_neg h2,if_neg (by omega)]; omega
theorem qsh {f:Nat→Int}:∀{n:Nat},(∀i,i < n→0≤f i)→sumR f n≤0→∀i,i < n→f i=0
 | 0,_,_,i,hi=>by omega
 | n+1,h,hs,i,hi=>by
  rw [qe6] at hs;have h0:0≤sumR f n:=sumR_nn fun i hi=>h i (by omega)
  have hn:=h n (by omega)
  rcases (by omega:i < n∨i=n) with h1|rfl
  ·exact qsh (fun i hi=>h i (by omega)) (by omega) i h1
  ·omega
where sumR_nn {f:Nat→Int}:∀{n:Nat},(∀i,i < n→0≤f i)→0≤sumR f n
 | 0,_=>by simp [sumR]
 | n+1,h=>by
  rw [qe6];have:=sumR_nn (n:=n) fun i hi=>h i (by omega)
  have:=h n (by omega);omega
theorem z38 {c:Cl}{v:Int}(wc:WC c)(hv:wf64 v)(h:(addC c v).2=0):q3e (addC c v).1=true:=by
 unfold addC at h ⊢
 split at h
 ·simp at h
 rename_i hr;rw [if_neg hr];have hq:=qsg.1 (by simpa using hr)
 split at h
 ·simp at h
 rename_i h1;rw [if_neg h1]
 split at h
 ·simp at h
 rename_i h2;rw [if_neg h2]
 split at h
 ·simp at h
 rename_i h3;rw [if_neg h3];have e1:(addS c.n 1).1=c.n+1:=by
  unfold addS at h1 ⊢
  split at h1
  ·rename_i hw; rw [if_pos hw]
  ·simp at h1
 have bv:=q5s hv;have e3:(addH c.h v).1=updN c.h (q0f v).toNat (c.h (q0f v).toNat+1):=by
  unfold addH at h3 ⊢
  split at h3
  ·simp at h3
  ·rename_i h4;rw [if_neg h4]
   split at h3
   ·simp at h3
   ·rename_i h5; rw [if_neg h5]
 have hu:∀i,i≠(q0f v).toNat→updN c.h (q0f v).toNat (c.h (q0f v).toNat+1) i=c.h i:=fun i hi=>by unfold updN; rw [if_neg hi]
 have hs:updN c.h (q0f v).toNat (c.h (q0f v).toNat+1) (q0f v).toNat=c.h (q0f v).toNat+1:=by unfold updN; rw [if_pos rfl]
 have hvb:=hq.v (q0f v).toNat (by omega);have hn0:=hq.n0;refine qsg.2 ?_;dsimp only;rw [e1,e3];have hz:c.n=0→∀i,i < 65→c.h i=0:=fun h0=>qsh (n:=65) hq.v (by have:=hq.sum; unfold sumC rowH at this; show ((List.range 65).map c.h).sum≤0; omega)
 refine⟨?_,hq.cer0,hq.pos0,?_,fun i hi=>?_,?_,fun h0=>?_,fun _=>?_⟩
 ·show 0≤c.n+1; omega
 ·have:=hq.mm;dsimp only
  by_cases h0:c.n=0
  ·simp only [if_pos h0]; split <;> omega
  ·simp only [if_neg h0]; split <;> split <;> omega
 ·dsimp only
  by_cases e:i=(q0f v).toNat
  ·subst e; rw [hs]; omega
  ·rw [hu i e]; exact hq.v i hi
 ·have h5:=qym c.h (q0f v).toNat 65;rw [if_pos (by omega)] at h5;have h6:=hq.sum;show sumR _ 65=c.n+1;rw [h5];unfold sumC rowH at h6;show ((List.range 65).map c.h).sum+1=_;omega
 ·exfalso;have h0:c.n+1=0:=h0;omega
 ·dsimp only
  by_cases h0:c.n=0
  ·rw [if_pos h0,if_pos h0,if_neg (by omega),hs];refine⟨by omega,by omega,fun i hi=>?_⟩
   by_cases e:i=(q0f v).toNat
   ·right; omega
   ·left; rw [hu i e]; exact hz h0 i hi
  ·rw [if_neg h0,if_neg h0];have hnz:=hq.nz h0;have nzz:∀i,c.h i≠0→i < 65→updN c.h (q0f v).toNat (c.h (q0f v).toNat+1) i≠0:=fun i hi hl=>by
    by_cases e:i=(q0f v).toNat
    ·subst e; rw [hs]; omega
    ·rw [hu i e]; exact hi
   have bmn:=q5s wc.mn;have bmx:=q5s wc.mx;have m1:∀x,x≤c.mn→q0f x≤q0f c.mn:=fun x hx=>q8u hx
   have m2:∀x,c.mx≤x→q0f c.mx≤q0f x:=fun x hx=>q8u hx
   refine⟨?_,?_,fun i hi=>?_⟩
   ·split
    ·rw [hs]; omega
    ·exact nzz _ hnz.1 (by omega)
   ·split
    ·rw [hs]; omega
    ·exact nzz _ hnz.2.1 (by omega)
   ·by_cases e:i=(q0f v).toNat
    ·right;subst e
     constructor
     ·split
      ·omega
      ·have:=q8u (v:=c.mn) (w:=v) (by omega); omega
     ·split
      ·omega
      ·have:=q8u (v:=v) (w:=c.mx) (by omega); omega
    ·rw [hu i e]
     rcases hnz.2.2 i hi with h7|h7
     ·left; exact h7
     ·right
      constructor
      ·split
       ·have:=m1 v (by omega); omega
       ·exact h7.1
      ·split
       ·have:=m2 v (by omega); omega
       ·exact h7.2
theorem q3z {κ α:Type}[DecidableEq κ]{x:κ}{v:α}{m:List (κ × α)}{p:κ × α}(h:p∈mset x v m):p=(x,v)∨p∈m:=by
 unfold mset at h
 rcases z96.1 h with h|h
 ·exact .inl h
 ·exact .inr (List.mem_filter.1 h).1
structure z3a (m:CM):Prop where
 nd:(q00 m).Nodup
 wc:∀p∈m,WC p.2
 rt:∀p∈m,q3e p.2=true
 wn:∀p∈m,wf64 p.1.win
theorem z3a.mset {m:CM}(h:z3a m){k:Ky}{c:Cl}(h1:WC c)(h2:q3e c=true)(h3:wf64 k.win):z3a (mset k c m):=
 ⟨q6a h.nd,fun p hp=>by
  rcases q3z hp with rfl|hp
  ·exact h1
  ·exact h.wc p hp,fun p hp=>by
  rcases q3z hp with rfl|hp
  ·exact h2
  ·exact h.rt p hp,fun p hp=>by
  rcases q3z hp with rfl|hp
  ·exact h3
  ·exact h.wn p hp⟩
theorem qjn {m:CM}{ser:ByteArray}{b:Bool}:∀{ws:List Int} {p:Ky × Cl},p∈(q7y m ser b ws).1→∃w∈ws,p.1=⟨w,ser⟩∧p.2=(q7n (q1p m ⟨w,ser⟩) b).1∧(q7n (q1p m ⟨w,ser⟩) b).2=0
 | [],p,h=>by simp [q7y] at h
 | w::r,p,h=>by
  unfold q7y at h
  split at h
  ·simp at h
  ·rename_i h0
   rcases z96.1 h with rfl|h
   ·exact⟨w,z98 ..,rfl,rfl,by simpa using h0⟩
   ·obtain⟨w',h1,h2⟩:=qjn h;exact⟨w',z99 _ h1,h2⟩
theorem qm9 {m:CM}{ser:ByteArray}{b:Bool}:∀{ws:List Int},(q7y m ser b ws).2=0→q00 (q7y m ser b ws).1=ws.map fun w=>(⟨w,ser⟩:Ky)
 | [],_=>rfl
 | w::r,h=>by
  unfold q7y at h ⊢
  split at h
  ·rename_i h0; exact absurd h h0
  ·rename_i h0;rw [if_neg h0];have ih:=qm9 (ws:=r) h;show _::q00 (q7y m ser b r).1=_;rw [ih]; rfl
theorem qma:∀{l:CM} {m:CM},z3a m→(∀p∈l,WC p.2∧q3e p.2=true∧wf64 p.1.win)→z3a (qgp l m)
 | [],m,h,_=>h
 | p::r,m,h,hl=>by
  have h1:=hl p (z98 ..);exact qma (l:=r) (h.mset h1.1 h1.2.1 h1.2.2) fun q hq=>hl q (z99 _ hq)
theorem qks {κ α:Type}[DecidableEq κ]{x:κ}{v:α}{m:List (κ × α)}(hn:(q00 m).Nodup):(mset x v m).length=m.length+(if (q08 x m).isNone then 1 else 0):=by
 cases h:q08 x m with
 | none=>rw [q9q h]; rfl
 | some u=>rw [q9r hn h]; rfl
theorem qsi:∀{l:CM} {m:CM},(q00 m).Nodup→(q00 l).Nodup→((qgp l m).length:Int)=m.length+((q00 l).filter fun k=>(q08 k m).isNone).length
 | [],m,_,_=>by simp [qgp]
 | p::r,m,hn,hl=>by
  have hl':p.1∉q00 r∧(q00 r).Nodup:=zav.1 hl;show ((qgp r (mset p.1 p.2 m)).length:Int)=_;rw [qsi (l:=r) (q6a hn) hl'.2,qks hn];have e:(q00 r).filter (fun k=>(q08 k (mset p.1 p.2 m)).isNone)=(q00 r).filter (fun k=>(q08 k m).isNone):=by
   apply List.filter_congr;intro k hk;rw [q3k,if_neg (fun e:k=p.1=>hl'.1 (e▸hk))]
  rw [e];show _=_+(((p.1::q00 r).filter fun k=>(q08 k m).isNone).length:Int)
  rw [z9x]
  cases (q08 p.1 m).isNone <;> simp <;> omega
theorem wins_wf {first last:Int}(h1:wf64 first)(h2:wf64 last):∀w∈wins first last,wf64 w:=by
 intro w hw;unfold wins at hw;obtain⟨i,hi,rfl⟩:=z90.1 hw;have:=zac.1 hi;unfold wf64 at *;omega
theorem z3b (first last:Int)(ser:ByteArray):((wins first last).map fun w=>(⟨w,ser⟩:Ky)).Nodup:=by
 unfold wins;rw [z9r];refine zb9.2 (List.nodup_range.imp fun {a b} hne e=>hne ?_)
 have:=congrArg Ky.win e;dsimp only [Function.comp] at this;omega
theorem ShOk.good {most:Int}{m:CM}(h:ShOk most m):z3a m:=⟨h.nd,h.wc,h.rt,h.wn⟩
theorem qha {most:Int}{m:CM}{first last:Int}{ser:ByteArray}(h:ShOk most m)(hf:wf64 first)(hl:wf64 last):ShOk most (qcf most m first last ser).1:=by
 unfold qcf
 split
 ·exact h
 split
 ·exact h
 split
 ·exact h
 rename_i h1 h2 h3;have h3:(q7y m ser (decide (first=last)) (wins first last)).2=0:=by simpa using h3
 have hg:=qma (l:=(q7y m ser (decide (first=last)) (wins first last)).1) h.good fun p hp=>by
  obtain⟨w,hw,e1,e2,e3⟩:=qjn hp;rw [e2,e1];exact⟨qxw (h.cell _) _,qwc e3,wins_wf hf hl w hw⟩
 have hk:=qm9 h3;have hlen:=qsi (l:=(q7y m ser (decide (first=last)) (wins first last)).1) (m:=m) h.nd (by rw [hk]; exact z3b first last ser);rw [hk] at hlen;refine⟨h.m1,h.m2,hg.nd,hg.wc,hg.rt,hg.wn,?_⟩;dsimp only;rw [hlen];have hr:qvg most m first last ser=true:=by simpa using h2
 unfold qvg at hr;rw [if_neg h1] at hr
 split at hr
 ·cases hr
 ·have hr:=z8s hr;have e:((((wins first last).map fun w=>(⟨w,ser⟩:Ky)).filter fun k=>(q08 k m).isNone).length:Int)=q44 m ser (wins first last):=by
   unfold q44;rw [List.filter_map,z9c];rfl
  rw [e];exact hr
theorem z7c {most:Int}{m:CM}{k:Ky}{v:Int}(h:ShOk most m)(hv:wf64 v)(hk:wf64 k.win):ShOk most (qaa m k v).1:=by
 unfold qaa
 split
 ·exact h
 ·rename_i c hc
  split
  ·exact h
  ·rename_i h0;have h0:(addC c v).2=0:=by simpa using h0
   have wc:=h.wc _ (q0e hc);have hg:=h.good.mset (k:=k) (addC_wf wc hv) (z38 wc hv h0) hk;refine⟨h.m1,h.m2,hg.nd,hg.wc,hg.rt,hg.wn,?_⟩;dsimp only;rw [q9r h.nd hc];exact h.len
theorem setS_ok {most:Int}{m:CM}{k:Ky}{c:Cl}(h:ShOk most m)(wc:WC c)(hk:wf64 k.win):ShOk most (setS most m k c).1:=by
 unfold setS
 split
 ·exact h
 split
 ·exact h
 split
 ·exact h
 rename_i h1 h2 h3;have hg:=h.good.mset (k:=k) wc (by simpa using h2) hk;refine⟨h.m1,h.m2,hg.nd,hg.wc,hg.rt,hg.wn,?_⟩;dsimp only;have:q08 k m=none:=by
  cases e:q08 k m with
  | none=>rfl
  | some x=>rw [e] at h1; simp at h1
 rw [q9q this];omega
theorem qe7:∀{l:List Ot} {m:CM} {p:Ky × Cl},p∈qgq m l→p∈m
 | [],m,p,h=>h
 | o::r,m,p,h=>(List.mem_filter.1 (qe7 (l:=r) h)).1
theorem qmb:∀{l:List Ot} {m:CM},(q00 m).Nodup→(q00 (qgq m l)).Nodup∧(qgq m l).length≤m.length
 | [],m,h=>⟨h,z91 _⟩
 | o::r,m,h=>by
  have h1:(q00 (mdel o.1 m)).Nodup:=h.sublist (List.filter_sublist.map _);have h2:=qmb (l:=r) h1;have h3:(mdel o.1 m).length≤m.length:=List.length_filter_le _ _;exact⟨h2.1,z95 h2.2 h3⟩
theorem z7d {most:Int}{m:CM}{before:Int}(h:ShOk most m):ShOk most (qbu m before):=by
 have hk:=qmb (l:=q4o m before) h.nd;exact⟨h.m1,h.m2,hk.1,fun p hp=>h.wc p (qe7 hp),fun p hp=>h.rt p (qe7 hp),fun p hp=>h.wn p (qe7 hp),by have:=hk.2; have:=h.len; unfold qbu; omega⟩
def q1q (ck:Ck)(fl:Fl)(now stamp:Int):Gp × Int:=
 if (ckAt ck stamp).2≠0 then (Gp.z,(ckAt ck stamp).2)
 else if (qf6 [(ckAt ck stamp).1,⟨fl.t,now⟩]).2≠0 then (Gp.z,13) else ((qf6 [(ckAt ck stamp).1,⟨fl.t,now⟩]).1,0)
abbrev flOf (ms:MS)(a:Int):Fl:=(q08 a ms.m).getD Fl.z
structure JR where
 st:Str
 ms:MS
 cm:CM
 reason:Int
 win:Int
 gap:Gp
def q23 (c:Cfg)(now a:Int)(st:Str)(ms:MS)(cm:CM)(e:Pv):JR:=
 if e.stamp < st.last then ⟨st,ms,cm,6,0,Gp.z⟩ else
 if (q1q st.ck (flOf ms a) now e.stamp).2≠0∨st.ck.held=true then ⟨{ st with last:=e.stamp },ms,cm,2,0,Gp.z⟩ else
 if (q1q st.ck (flOf ms a) now e.stamp).1.lo < (ms.raise a (q1q st.ck (flOf ms a) now e.stamp).1.lo).1.value then
  ⟨{ st with last:=e.stamp },(ms.raise a (q1q st.ck (flOf ms a) now e.stamp).1.lo).1,cm,1,0,(q1q st.ck (flOf ms a) now e.stamp).1⟩ else
 if (qcf c.cells cm (q1g c.gd (q1q st.ck (flOf ms a) now e.stamp).1).1 (q1g c.gd (q1q st.ck (flOf ms a) now e.stamp).1).2.1 (q6v e.name e.labs)).2≠0 then
  ⟨{ st with last:=e.stamp },(ms.raise a (q1q st.ck (flOf ms a) now e.stamp).1.lo).1,
   (qcf c.cells cm (q1g c.gd (q1q st.ck (flOf ms a) now e.stamp).1).1 (q1g c.gd (q1q st.ck (flOf ms a) now e.stamp).1).2.1 (q6v e.name e.labs)).1,4,0,(q1q st.ck (flOf ms a) now e.stamp).1⟩ else
 if (qj0 c.gd (q1q st.ck (flOf ms a) now e.stamp).1).2≠0 then
  ⟨{ st with last:=e.stamp },(ms.raise a (q1q st.ck (flOf ms a) now e.stamp).1.lo).1,
   (qcf c.cells cm (q1g c.gd (q1q st.ck (flOf ms a) now e.stamp).1).1 (q1g c.gd (q1q st.ck (flOf ms a) now e.stamp).1).2.1 (q6v e.name e.labs)).1,3,0,(q1q st.ck (flOf ms a) now e.stamp).1⟩ else
 ⟨{ st with last:=e.stamp },(ms.raise a (q1q st.ck (flOf ms a) now e.stamp).1.lo).1,
  (qaa (qcf c.cells cm (q1g c.gd (q1q st.ck (flOf ms a) now e.stamp).1).1 (q1g c.gd (q1q st.ck (flOf ms a) now e.stamp).1).2.1 (q6v e.name e.labs)).1 ⟨(qj0 c.gd (q1q st.ck (flOf ms a) now e.stamp).1).1,q6v e.name e.labs⟩ e.value).1,
  if (qaa (qcf c.cells cm (q1g c.gd (q1q st.ck (flOf ms a) now e.stamp).1).1 (q1g c.gd (q1q st.ck (flOf ms a) now e.stamp).1).2.1 (q6v e.name e.labs)).1 ⟨(qj0 c.gd (q1q st.ck (flOf ms a) now e.stamp).1).1,q6v e.name e.labs⟩ e.value).2≠0 then 4 else 0,
  if (qaa (qcf c.cells cm (q1g c.gd (q1q st.ck (flOf ms a) now e.stamp).1).1 (q1g c.gd (q1q st.ck (flOf ms a) now e.stamp).1).2.1 (q6v e.name e.labs)).1 ⟨(qj0 c.gd (q1q st.ck (flOf ms a) now e.stamp).1).1,q6v e.name e.labs⟩ e.value).2≠0 then 0 else (qj0 c.gd (q1q st.ck (flOf ms a) now e.stamp).1).1,
  (q1q st.ck (flOf ms a) now e.stamp).1⟩
end Go.Nm
namespace Go.Proofs.YtfmkddccnjidmaaGreatDoor
open Go.Nm
section
variable {F L:List Assn} {H:Heap} {K KP:Value→Heap→Prop} {Q Q':Assn}
set_option maxHeartbeats 1000000 in
theorem qjo {sb stb mb mm cb hb:Nat}{cs:List Value}{ms:MS}{ck:Ck}{now a stamp last:Int}(hl8:ck.smps.length≤8)(h9:lget cs 9=some (I64 now))(h16:lget cs 16=some (PA mb 0))
  (h:SatL H (cellsA sb cs 115::Ma.markC mb mm ms::Ma.mapF mm ms.m::cellsA stb [PA cb 0,PA hb 0,I64 last] 149::ckA cb ck::F))
  (k:∀H',SatL H' (cellsA sb cs 115::Ma.markC mb mm ms::Ma.mapF mm ms.m::cellsA stb [PA cb 0,PA hb 0,I64 last] 149::ckA cb ck::F)→
   K (.tuple #[aggG (q1q ck (flOf ms a) now stamp).1,I64 (q1q ck (flOf ms a) now stamp).2]) H') :
  CF 91 #[PA sb 0,I64 a,PA stb 0,I64 stamp] H K:=by
 refine qrm ?_;refine h.al fun b _ h=>⟨_,h.r 4,?_⟩
 have h:=h.o [5,0,1,2,3,4] 6;refine z6c hl8 h fun H1 h=>⟨_,_,_,rfl,?_⟩
 unfold q1q at k;generalize ckAt ck stamp=C at *;refine h.al fun b1 _ h=>?_
 refine h.st 0 rfl rfl ?_;intro H2 h;refine⟨fun hc=>?_,fun hc=>?_⟩
 ·rw [if_pos (by simpa using hc)] at k;refine h.st 2 rfl rfl ?_;intro H3 h;refine⟨_,_,h.q 2,?_⟩;exact k _ (h.o [3,4,5,6,1] 7)
 rw [if_neg (by simpa using hc)] at k;refine⟨_,(h.r 3).trans h16,?_⟩;have h:=h.o [4,5,0,1,2,3,6] 7;refine Ma.Of_spec (a:=a) h fun H3 h=>⟨_,_,_,_,_,rfl,?_⟩
 refine h.al fun b2 _ h=>?_
 refine h.st 0 rfl rfl ?_;intro H4 h;intro Jn hJ;generalize hM:qf6 [C.1,⟨(flOf ms a).t,now⟩]=M at *;have hJ':∀pb H',SatL H' (cellsA pb [I64 M.1.lo,I64 M.1.hi] 53::cellsA b [I64 0,I64 0] 53::cellsA sb cs 115::Ma.markC mb mm ms::Ma.mapF mm ms.m::cellsA stb [PA cb 0,PA hb 0,I64 last] 149::ckA cb ck::F)→Jn M.2 pb 0 H':=by
  intro pb H' h;refine hJ _ _ _ _ ?_;refine⟨fun hc=>?_,fun hc=>?_⟩
  ·rw [if_pos (by simpa using hc)] at k;refine h.st 1 rfl rfl ?_;intro H3 h;exact⟨_,_,h.q 1,k _ h.tl.tl⟩
  ·rw [if_neg (by simpa using hc)] at k;refine⟨_,_,h.q 0,?_⟩;refine h.st 1 rfl rfl ?_;intro H3 h;exact⟨_,_,h.q 1,k _ h.tl.tl⟩
 refine⟨_,_,h.q 3,_,h.r 0,_,(h.r 6).trans h9,?_,?_⟩
 ·refine h.al fun b3 _ h=>⟨?_,?_⟩
  ·refine qa7 (gs:=[C.1,⟨(flOf ms a).t,now⟩]) h (fun H h=>h.ce_rd 0 rfl) (by simp) fun H5 h=>⟨_,_,_,rfl,?_⟩
   rw [hM];refine h.al fun b4 _ h=>?_
   refine h.st 0 rfl rfl ?_;intro H6 h;exact hJ' _ _ (h.o [0,7,8,3,4,9,6] 10)
  ·refine h.al fun b5 _ h=>?_
   refine qa7 (gs:=[C.1,⟨(flOf ms a).t,now⟩]) h (fun H h=>h.ce_rd 1 rfl) (by simp) fun H5 h=>⟨_,_,_,rfl,?_⟩
   rw [hM];refine h.st 0 rfl rfl ?_;intro H6 h;exact hJ' _ _ (h.o [0,7,8,3,4,9,6] 10)
 ·refine h.al fun b6 _ h=>⟨(h.r 7).trans h9,h.r 1,h.q 4,?_⟩
  refine h.al fun b7 _ h=>?_
  refine qa7 (gs:=[C.1,⟨(flOf ms a).t,now⟩]) h (fun H h=>h.ce_rd 0 rfl) (by simp) fun H5 h=>⟨_,_,_,rfl,?_⟩
  rw [hM];refine h.st 1 rfl rfl ?_;intro H6 h;exact hJ' _ _ (h.o [1,7,8,3,4,9,6] 10)
theorem qsj (g:Gd)(t:Int):wf64 (q1o g t):=by
 unfold q1o
 split
 ·split <;> exact i64in _
 ·unfold wf64; decide
theorem wf_meets (g:Gd)(x:Gp):wf64 (q1g g x).1∧wf64 (q1g g x).2.1:=by
 unfold q1g
 split
 ·split
  ·exact⟨qsj _ _,qsj _ _⟩
  ·unfold wf64; decide
 ·unfold wf64; decide
set_option maxHeartbeats 4000000 in
theorem z3c {c:Cfg}{sb stb mm cb:Nat}{p_mb p_hb p_hm hb2:Nat}{cs:List Value}{ms:MS}{cm:CM}{st:Str}{now a:Int}{e:Ev}(hl8:st.ck.smps.length≤8)(ok:ShOk c.cells cm)(hv:wf64 e.value)
  (h9:lget cs 9=some (I64 now)) (h12:(cs.drop 12).take 3=[I64 c.width,I64 c.policy,I64 c.most]) (h16:lget cs 16=some (PA p_mb 0)) (h17:lget cs 17=some (PA p_hb 0)) (ha:∀H,SatL H F→rdS H e.la (flat encL e.labs))
  (h:SatL H (cellsA sb cs 115::Ma.markC p_mb mm ms::Ma.mapF mm ms.m::shC p_hb p_hm c.cells::mapC p_hm cm::cellsA stb [PA cb 0,PA hb2 0,I64 st.last] 149::ckA cb st.ck::F))
  (k:∀H',SatL H' (cellsA sb cs 115::Ma.markC p_mb mm (q23 c now a st ms cm e.p).ms::Ma.mapF mm (q23 c now a st ms cm e.p).ms.m::shC p_hb p_hm c.cells::mapC p_hm (q23 c now a st ms cm e.p).cm::cellsA stb [PA cb 0,PA hb2 0,I64 (q23 c now a st ms cm e.p).st.last] 149::ckA cb st.ck::F)→
   K (.tuple #[.agg #[I64 (q23 c now a st ms cm e.p).reason,I64 (q23 c now a st ms cm e.p).win],aggG (q23 c now a st ms cm e.p).gap]) H') :
  CF 147 #[PA sb 0,I64 a,PA stb 0,aggV e] H K:=by
 refine z0u ?_;unfold q23 at k;have eStamp:e.p.stamp=e.stamp:=rfl;have eVal:e.p.value=e.value:=rfl;have eName:e.p.name=e.name:=rfl;have eLabs:e.p.labs=e.labs:=rfl;rw [eStamp,eVal,eName,eLabs] at k;refine h.al fun b _ h=>?_
 refine h.al fun b1 _ h=>?_
 refine h.al fun b2 _ h=>?_
 refine⟨_,h.r 2,_,h.r 8,fun hc=>?_,fun hc=>?_⟩
 ·have hc:=z8s hc;simp only [if_pos hc] at k;refine h.st 1 rfl rfl ?_;intro H2 h;refine h.st 0 rfl rfl ?_;intro H3 h;exact⟨_,_,h.q 1,_,_,h.q 0,k _ h.tl.tl.tl⟩
 have hc:=z8v hc;simp only [if_neg hc] at k;refine⟨_,h.r 2,?_⟩;refine h.st 8 rfl rfl ?_;intro H2 h;refine⟨_,h.r 2,?_⟩;have h:=h.o [3,4,5,8,9,0,1,2,6,7] 10;refine qjo (a:=a) (stamp:=e.stamp) hl8 h9 h16 h fun H3 h=>⟨_,_,_,rfl,?_⟩
 generalize q1q st.ck (flOf ms a) now e.stamp=T at *;refine h.al fun b3 _ h=>?_
 refine h.st 0 rfl rfl ?_;intro H4 h;refine⟨_,h.rd 4 rfl 0,_,qa8 (h.o [5] 6),fun hc=>?_,fun hc=>?_⟩
 ·have hc:T.2≠0∨st.ck.held=true:=by
   simp only [z97,z9a,z8x] at hc
   rcases hc with hc|hc
   ·exact .inr hc
   ·exact .inl hc
  simp only [if_pos hc] at k;refine h.st 7 rfl rfl ?_;intro H5 h;refine h.st 6 rfl rfl ?_;intro H6 h;exact⟨_,_,h.q 7,_,_,h.q 6,k _ (h.o [1,2,3,9,10,4,5] 11)⟩
 have hc:¬(T.2≠0∨st.ck.held=true):=by
  simp only [z94,z9u,z8u] at hc;rintro (h1|h1)
  ·exact h1 hc.2
  ·rw [hc.1] at h1; cases h1
 simp only [if_neg hc] at k;refine⟨_,(h.r 1).trans h16,_,h.r 0,?_⟩;have h:=h.o [2,3,0,1,4,5,6,7,8,9,10] 11;refine Ma.Raise_spec (a:=a) (t:=T.1.lo) h fun H5 h=>⟨_,rfl,?_⟩
 generalize (ms.raise a T.1.lo).1=M at *;refine⟨_,h.r 2,_,(h.r 3).trans h16,_,Ma.Value_spec h 0 rfl,fun hc=>?_,fun hc=>?_⟩
 ·have hc:=z8s hc;simp only [if_pos hc] at k;refine⟨_,_,h.q 2,?_⟩;refine h.st 7 rfl rfl ?_;intro H6 h;refine⟨h.q 2,?_⟩;refine h.st 6 rfl rfl ?_;intro H7 h;exact⟨_,_,h.q 7,_,_,h.q 6,k _ (h.o [3,0,1,9,10,4,5] 11)⟩
 have hc:=z8v hc;simp only [if_neg hc] at k;refine⟨_,_,_,_,h.q 8,?_⟩;refine z2a h (fun H h=>ha H (h.o [] 11)) fun H6 h=>⟨_,rfl,?_⟩
 generalize q6v e.name e.labs=ser at *;refine⟨_,_,_,h.rds 3 rfl h12,_,_,h.q 2,?_⟩;refine qlo (g:=c.gd) (x:=T.1) h fun H7 h=>⟨_,_,_,rfl,?_⟩
 have hwm:=wf_meets c.gd T.1;generalize q1g c.gd T.1=W at *;refine⟨_,(h.r 3).trans h17,?_⟩;have h:=h.o [9,10,0,1,2,3,4,5,6,7,8] 11;refine z6j ok hwm.1 hwm.2 h fun H8 h=>⟨_,rfl,?_⟩
 have ok2:ShOk c.cells (qcf c.cells cm W.1 W.2.1 ser).1:=qha ok hwm.1 hwm.2;generalize qcf c.cells cm W.1 W.2.1 ser=N at *;refine⟨fun hc=>?_,fun hc=>?_⟩
 ·have hc:N.2≠0:=by simpa using hc
  simp only [if_pos hc] at k;refine⟨_,_,h.q 4,?_⟩;refine h.st 9 rfl rfl ?_;intro H9 h;refine⟨h.q 4,?_⟩;refine h.st 8 rfl rfl ?_;intro H10 h;exact⟨_,_,h.q 9,_,_,h.q 8,k _ (h.o [5,2,3,0,1,6,7] 11)⟩
 have hc:¬N.2≠0:=by simpa using hc
 simp only [if_neg hc] at k;refine⟨_,_,_,h.rds 5 rfl h12,_,_,h.q 4,?_⟩;refine z6a (g:=c.gd) (x:=T.1) h fun H9 h=>⟨_,_,rfl,?_⟩
 generalize qj0 c.gd T.1=P at *;refine⟨fun hc=>?_,fun hc=>?_⟩
 ·have hc:P.2≠0:=by simpa using hc
  simp only [if_pos hc] at k;refine⟨_,_,h.q 4,?_⟩;refine h.st 9 rfl rfl ?_;intro H10 h;refine⟨h.q 4,?_⟩;refine h.st 8 rfl rfl ?_;intro H11 h;exact⟨_,_,h.q 9,_,_,h.q 8,k _ (h.o [5,2,3,0,1,6,7] 11)⟩
 have hc:¬P.2≠0:=by simpa using hc
 simp only [if_neg hc] at k;refine⟨_,(h.r 5).trans h17,_,h.r 10,?_⟩;refine qrx ok2 (key:=⟨P.1,ser⟩) hv h fun H10 h=>⟨_,rfl,?_⟩
 generalize qaa N.1 ⟨P.1,ser⟩ e.value=C at *;refine⟨fun hc=>?_,fun hc=>?_⟩
 ·have hc:C.2≠0:=by simpa using hc
  simp only [if_pos hc] at k;refine⟨_,_,h.q 4,?_⟩;refine h.st 9 rfl rfl ?_;intro H11 h;refine⟨h.q 4,?_⟩;refine h.st 8 rfl rfl ?_;intro H12 h;exact⟨_,_,h.q 9,_,_,h.q 8,k _ (h.o [5,2,3,0,1,6,7] 11)⟩
 ·have hc:¬C.2≠0:=by simpa using hc
  simp only [if_neg hc] at k;refine⟨_,_,h.q 4,?_⟩;refine h.st 9 rfl rfl ?_;intro H11 h;refine⟨h.q 4,?_⟩;refine h.st 8 rfl rfl ?_;intro H12 h;exact⟨_,_,h.q 9,_,_,h.q 8,k _ (h.o [5,2,3,0,1,6,7] 11)⟩
end
end Go.Proofs.YtfmkddccnjidmaaGreatDoor
namespace Go.Nm
structure Eff where
 kind:Int:=0
 agent:Int:=0
 epoch:Int:=0
 boot:Int:=0
 next:Int:=0
 number:Int:=0
 ida:Int:=0
 ide:Int:=0
 seq:Int:=0
 reason:Int:=0
 win:Int:=0
 gap:Gp:=Gp.z
 out:Ot:=(⟨0,⟨#[]⟩⟩,Cl.z)
abbrev q37 (e:Eff):List Value:=[I64 e.kind,I64 e.agent,I64 e.epoch,I64 e.boot,I64 e.next,I64 e.number,I64 e.ida,I64 e.ide,I64 e.seq,I64 e.reason,I64 e.win,I64 e.gap.lo,I64 e.gap.hi,
 I64 e.out.1.win,.string e.out.1.ser,I64 e.out.2.n,I64 (whi e.out.2.sum),.int .u64 (wlo e.out.2.sum),I64 e.out.2.mn,I64 e.out.2.mx,I64 e.out.2.cer,I64 e.out.2.pos]++vecL .i64 e.out.2.h 65 0
theorem q0u (e:Eff):(q37 e).length=87:=rfl
theorem q75 (e:Eff):q09 (q37 e)=true:=rfl
structure SAd where
 rb:Nat
 rm:Nat
 mb:Nat
 mm:Nat
 hb:Nat
 hm:Nat
 tm:Nat
 ka:Option Addr
 kc:Nat
abbrev q3g (s:Sta)(p:SAd):List Value:=[I64 s.cfg.width,I64 s.cfg.policy,I64 s.cfg.most,I64 s.cfg.lag,I64 s.cfg.rho,I64 s.cfg.trust,I64 s.cfg.agents,I64 s.cfg.cells,I64 s.cfg.hold,I64 s.now,I64 s.boots,I64 s.sunk,
 I64 s.cfg.width,I64 s.cfg.policy,I64 s.cfg.most,PA p.rb 0,PA p.mb 0,PA p.hb 0,.map (some p.tm),.slice p.ka s.kept.length p.kc]
structure qbk (c:Cfg):Prop where
 gd:c.gd.ok
 lag:1≤c.lag∧c.lag≤1099511627776
 rate:q34 c.rho∧0≤c.trust∧c.trust≤100
 ag:1≤c.agents∧c.agents≤64
 cl:1≤c.cells∧c.cells≤1024
 hd:1≤c.hold∧c.hold≤256
structure qgt (c:Cfg)(s:Str):Prop where
 ck:CkOk s.ck
 rho:s.ck.rho=c.rho
 least:s.ck.least=c.trust
 hs:s.hs.Ok
 most:s.hs.most=c.hold
 next:s.hs.next≤1099511627776
 rows:∀p∈s.hs.rows,p.1 < 1099511627776∧q7p p.2=true∧wf64 p.2.value
 last:-1≤s.last∧s.last≤4611686018427387903
structure q25 (s:Sta):Prop where
 cfg:qbk s.cfg
 now:isT s.now
 boots:0≤s.boots∧s.boots≤1099511627776
 sunk:0≤s.sunk
 rows:q39 s.rows
 ms:MOk s.ms
 lag:s.ms.lag=s.cfg.lag
 sh:ShOk s.cfg.cells s.cm
 len:s.sts.length=64
 sts:∀st,some st∈s.sts→qgt s.cfg st
 reg:∀k:Nat,(∃st:Str,s.sts[k]?=some (some st))↔∃e:En,s.rows[k]?=some e∧0 < e.epoch
 kept:∀o∈s.kept,WC o.2
end Go.Nm
namespace Go.Proofs.YtfmkddccnjidmaaGreatDoor
open Go.Nm
theorem sl39:SlT Tryz.prog 39 66 87 704:=q9n (by kernel_rfl)
abbrev stL (Q:Assn)(sb:Nat)(s:Sta)(p:SAd):List Assn:=[cellsA sb (q3g s p) 115,Ro.rollC p.rb p.rm s.cfg.agents,Ro.mapE p.rm s.rows,Ma.markC p.mb p.mm s.ms,Ma.mapF p.mm s.ms.m,shC p.hb p.hm s.cfg.cells,mapC p.hm s.cm,strmA Q p.tm s.sts,slA 64 74 p.ka s.kept.length p.kc (flat encO s.kept)]
def stA (Q:Assn)(sb:Nat)(s:Sta):Assn:=exS fun p:SAd=>star (stL Q sb s p)
section
variable {F L:List Assn} {H:Heap} {K KP:Value→Heap→Prop} {Q Q':Assn}
theorem q0i {sb:Nat}{s:Sta}:SatL H (stA Q sb s::F)↔∃p:SAd,SatL H (cellsA sb (q3g s p) 115::Ro.rollC p.rb p.rm s.cfg.agents::Ro.mapE p.rm s.rows::Ma.markC p.mb p.mm s.ms::Ma.mapF p.mm s.ms.m::shC p.hb p.hm s.cfg.cells::mapC p.hm s.cm::strmA Q p.tm s.sts::slA 64 74 p.ka s.kept.length p.kc (flat encO s.kept)::F):=by
 constructor
 ·intro h;obtain⟨p,h⟩:=q0n.1 h;exact⟨p,SatL.open h⟩
 ·rintro⟨p,h⟩;exact q0n.2 ⟨p,SatL.shut (stL Q sb s p) h⟩
theorem qsk {tm:Nat}{sts:List (Option Str)}(hs:Sub Q Q')(h:SatL H (strmA Q tm sts::F)):SatL H (strmA Q' tm sts::F):=by
 obtain⟨bl,hp,h⟩:=q5m.1 h;have h:=h.o [1,0] 2;have h:=qag hs h;exact q5m.2 ⟨bl,hp,h.o [1,0] 2⟩
theorem qwe {sb:Nat}{s:Sta}(hs:Sub Q Q')(h:SatL H (stA Q sb s::F)):SatL H (stA Q' sb s::F):=by
 obtain⟨p,h⟩:=q0i.1 h;have h:=h.o [7,0,1,2,3,4,5,6,8] 9;have h:=qsk hs h;exact q0i.2 ⟨p,h.o [1,2,3,4,5,6,7,0,8] 9⟩
theorem qwf {a:Option Addr}{c:Nat}{evs:List Ev}(h:SatL H (Q::F))(ha:∀H,SatL H (Q::F)→rdS H a (flat encV evs))(hk:∀e∈evs,q5z Q e)(hl:evs.length≤1000000)(hll:∀e∈evs,e.labs.length≤1000000)
  (k:∀Q' a' c' evs' H',Sub Q Q'→evs'.map Ev.p=evs.map Ev.p→(∀e∈evs',q5z Q' e)→SatL H' (Q'::slA 95 4 a' evs'.length c' (flat encV evs')::F)→K (.slice a' evs'.length c') H') :
  CF 146 #[.slice a evs.length c] H K:=by
 refine qob ?_;refine z2p h ha hl fun a1 c1 H1 h=>⟨_,_,_,rfl,?_⟩
 refine⟨fun i H'=>∃(j:Nat) (Q':Assn) (evs':List Ev),i=j∧j≤evs.length∧Sub Q Q'∧evs'.map Ev.p=evs.map Ev.p∧(∀q (hq:q < evs'.length),q < j→q5z Q' evs'[q])∧(∀q (hq:q < evs'.length) (hq2:q < evs.length),j≤q→evs'[q]=evs[q])∧
  SatL H' (Q'::slA 95 4 a1 evs.length c1 (flat encV evs')::F),fun i _=>evs.length - i.toNat,
  ⟨0,Q,evs,rfl,by omega,Sub.refl Q,rfl,fun q _ h=>by omega,fun _ _ _ _=>rfl,h.o [1,0] 2⟩,?_⟩
 rintro i H2 ⟨j,Q',evs',rfl,hj,hsub,hmap,hlab,hrest,h⟩;have hlen:evs'.length=evs.length:=by have:=congrArg List.length hmap; simpa using this
 refine⟨fun hc=>?_,fun hc=>?_⟩
 ·have hlt:j < evs.length:=by have:=z8s hc; omega
  have hlt':j < evs'.length:=by omega
  have hr:=h.sl_rd 1 rfl;have hej:=hrest j hlt' hlt (z91 _);refine⟨by omega,_,_,hr.some q0t (by omega) hlt',_,_,_,(by
   have:=hr.el q0t hlt' 3 (v:=.slice evs'[j].la evs'[j].labs.length evs'[j].lc) rfl;rw [show adrO a1+((j:Nat):Int).toNat*4+2+1=adrO a1+j*4+3 by simp];exact this),?_⟩
  rw [hej];refine qvx h (fun H h=>((hk _ (z92 hlt)).sub hsub).at h 0 rfl) (hll _ (z92 hlt)) fun Q2 a2 c2 H3 hs2 hk2 h=>⟨_,_,_,rfl,by omega,?_⟩
  obtain⟨h1,h2,h3⟩:=h.sl_set 1 rfl (j*4+3) [.slice a2 evs[j].labs.length c2] (by rw [q0l q0t]; simp; omega) (by simp);refine⟨_,_,h1,by rw [show adrO a1+((j:Nat):Int).toNat*4+2+1=adrO a1+(j*4+3) by simp [za0]]; exact h2,?_⟩;intro H4 hH;rw [w64 (x:=(j:Int)+1)];have e:=qq7 q0t (⟨evs[j].stamp,evs[j].value,evs[j].name,evs[j].labs,a2,c2⟩:Ev) [.slice a2 evs[j].labs.length c2] 3 (xs:=evs') (k:=j) hlt' (by simp) (by rw [hej]; rfl);rw [e] at h3;refine⟨⟨j+1,Q2,evs'.set j ⟨evs[j].stamp,evs[j].value,evs[j].name,evs[j].labs,a2,c2⟩,by omega,hlt,hsub.trans hs2,?_,fun q hq hq'=>?_,fun q hq hq2 hjq=>?_,?_⟩,by dsimp only; omega⟩
  ·rw [List.map_set,hmap];apply za9
   ·simp
   ·intro q h5 h6;rw [List.getElem_set]
    split
    ·rename_i e5; subst e5; simp [Ev.p]
    ·rfl
  ·rw [List.getElem_set]
   split
   ·exact hk2
   ·exact (hlab q (by simpa using hq) (by omega)).sub hs2
  ·rw [List.getElem_set,if_neg (by omega)];exact hrest q (by simpa using hq) hq2 (by omega)
  ·rw [hH,show adrO a1+((j:Nat):Int).toNat*4+2+1=adrO a1+(j*4+3) by simp [za0]];exact h3
 ·have hge:evs.length≤j:=by have:=z8v hc; omega
  rw [← hlen] at h ⊢;exact k Q' a1 c1 evs' _ hsub hmap (fun e he=>by
   obtain⟨q,hq,rfl⟩:=zb0 he;exact hlab q hq (by omega)) h
end
end Go.Proofs.YtfmkddccnjidmaaGreatDoor
namespace Go.Nm
def Pv.z:Pv:=⟨0,0,⟨#[]⟩,[]⟩
structure JS where
 st:Str
 ms:MS
 cm:CM
def z7e (c:Cfg)(now a ep seq:Int)(x:JS)(e:Pv):JS × Eff:=
 (⟨(q23 c now a x.st x.ms x.cm e).st,(q23 c now a x.st x.ms x.cm e).ms,(q23 c now a x.st x.ms x.cm e).cm⟩,
  { kind:=3,ida:=a,ide:=ep,seq:=seq,reason:=(q23 c now a x.st x.ms x.cm e).reason,win:=(q23 c now a x.st x.ms x.cm e).win,gap:=(q23 c now a x.st x.ms x.cm e).gap })
def q16 (c:Cfg)(now a ep first:Int)(evs:List Pv)(x:JS):Nat→JS × List Eff
 | 0=>(x,[])
 | n+1=>((z7e c now a ep (first+n) (q16 c now a ep first evs x n).1 (evs.getD n Pv.z)).1,(q16 c now a ep first evs x n).2++[(z7e c now a ep (first+n) (q16 c now a ep first evs x n).1 (evs.getD n Pv.z)).2])
def qai (s:Sta)(r:Rp)(st:Str):JS × List Eff:=q16 s.cfg r.nw r.ag r.ep st.hs.next (st.hs.offer r.nx r.evs).2.1 ⟨{ st with hs:=(st.hs.offer r.nx r.evs).1 },s.ms,s.cm⟩ (st.hs.offer r.nx r.evs).2.1.length
def q76 (s:Sta)(r:Rp):Sta × List Eff:=match s.sts[r.ag.toNat]? with
 | some (some st)=>({ s with now:=r.nw,ms:=(qai s r st).1.ms,cm:=(qai s r st).1.cm,sts:=s.sts.set r.ag.toNat (some (qai s r st).1.st) },
   (qai s r st).2++[{ kind:=2,agent:=r.ag,epoch:=r.ep,next:=(st.hs.offer r.nx r.evs).1.next }])
 | _=>(s,[])
theorem qjp (c:Cfg)(now a:Int)(st:Str)(ms:MS)(cm:CM)(e:Pv):(q23 c now a st ms cm e).st.ck=st.ck∧(q23 c now a st ms cm e).st.hs=st.hs∧
  ((q23 c now a st ms cm e).st.last=st.last∨(q23 c now a st ms cm e).st.last=e.stamp):=by
 unfold q23
 split
 ·exact⟨rfl,rfl,.inl rfl⟩
 split
 ·exact⟨rfl,rfl,.inr rfl⟩
 split
 ·exact⟨rfl,rfl,.inr rfl⟩
 split
 ·exact⟨rfl,rfl,.inr rfl⟩
 split <;> exact⟨rfl,rfl,.inr rfl⟩
theorem z7f (g:Gd)(t:Int):wf64 (q1o g t):=by
 unfold q1o
 split
 ·split <;> exact i64in _
 ·unfold wf64; decide
theorem z7g (g:Gd)(x:Gp):wf64 (q1g g x).1∧wf64 (q1g g x).2.1:=by
 unfold q1g
 split
 ·split
  ·exact⟨z7f _ _,z7f _ _⟩
  ·unfold wf64; decide
 ·unfold wf64; decide
theorem wf_pick (g:Gd)(x:Gp):wf64 (qj0 g x).1:=by
 have h:=z7g g x;have z:wf64 0:=by unfold wf64; decide
 unfold qj0
 split
 ·exact z
 split
 ·exact z
 split
 ·exact h.1
 split
 ·exact h.2
 split
 ·exact z7f _ _
 split
 ·exact z
 ·exact h.1
theorem z7h {c:Cfg}{now a:Int}{st:Str}{ms:MS}{cm:CM}{e:Pv}(h:ShOk c.cells cm)(hv:wf64 e.value):ShOk c.cells (q23 c now a st ms cm e).cm:=by
 have h1:=z7g c.gd (q1q st.ck (flOf ms a) now e.stamp).1;have h2:=wf_pick c.gd (q1q st.ck (flOf ms a) now e.stamp).1;unfold q23
 split
 ·exact h
 split
 ·exact h
 split
 ·exact h
 split
 ·exact qha h h1.1 h1.2
 split
 ·exact qha h h1.1 h1.2
 ·exact z7c (qha h h1.1 h1.2) hv h2
theorem qjq {c:Cfg}{now a ep first:Int}{evs:List Pv}{x:JS}(h:ShOk c.cells x.cm)(hv:∀e∈evs,wf64 e.value):∀n,n≤evs.length→
  ShOk c.cells (q16 c now a ep first evs x n).1.cm∧(q16 c now a ep first evs x n).1.st.ck=x.st.ck∧(q16 c now a ep first evs x n).1.st.hs=x.st.hs∧(q16 c now a ep first evs x n).2.length=n
 | 0,_=>⟨h,rfl,rfl,rfl⟩
 | n+1,hn=>by
  have ih:=qjq (now:=now) (a:=a) (ep:=ep) (first:=first) h hv n (by omega);have hj:=qjp c now a (q16 c now a ep first evs x n).1.st (q16 c now a ep first evs x n).1.ms (q16 c now a ep first evs x n).1.cm (evs.getD n Pv.z);refine⟨z7h ih.1 ?_,hj.1.trans ih.2.1,hj.2.1.trans ih.2.2.1,?_⟩
  ·rw [q8o _ (by omega)]; exact hv _ (z92 _)
  ·show (_++[_]).length=_;rw [z8t,ih.2.2.2]; rfl
structure z3d (Q:Assn)(F:List Assn)(r:Rp)(a:Option Addr)(evs:List Ev):Prop where
 eq:r.evs=evs.map Ev.p
 rd:∀H,SatL H F→rdS H a (flat encV evs)
 labs:∀e∈evs,q5z Q e
 len:evs.length≤1000000
 vals:∀e∈r.evs,wf64 e.value
end Go.Nm
namespace Go.Proofs.YtfmkddccnjidmaaGreatDoor
open Go.Nm
section
variable {F L:List Assn} {H:Heap} {K KP:Value→Heap→Prop} {Q Q':Assn}
theorem evOk_len {e:Pv}(h:q7p e=true):e.labs.length≤8:=by
 unfold q7p at h;rw [z8w] at h;exact (q7f h.2).len
set_option maxHeartbeats 4000000 in
theorem qwg {sb:Nat}{s:Sta}{r:Rp}{a:Option Addr}{c:Nat}{evs:List Ev}{st:Str}(ok:q25 s)(hag:0≤r.ag)(hst:s.sts[r.ag.toNat]?=some (some st))(hr:z3d Q F r a evs)(hlr:∀e∈r.evs,q7p e=true)
  (hlen:evs.length≤64) (h:SatL H (Q::stA Q sb s::F))
  (k:∀Q' a' c' H',Sub Q Q'→SatL H' (Q'::slA 66 87 a' (q76 s r).2.length c' (flat q37 (q76 s r).2)::stA Q' sb (q76 s r).1::F)→K (.slice a' (q76 s r).2.length c') H') :
  CF 71 #[PA sb 0,.agg ⟨encR r a c⟩] H K:=by
 have hag':((r.ag.toNat:Nat):Int)=r.ag:=by omega
 have hsok:=ok.sts st (z9i hst);have hel:r.evs.length=evs.length:=by rw [hr.eq,z9c]
 unfold q76 at k;rw [hst] at k;dsimp only at k;refine z0y ?_;refine h.al fun b _ h=>⟨_,h.r 0,?_⟩
 have h:=h.o [2,1,0] 3;obtain⟨p,h⟩:=q0i.1 h;refine h.st 0 rfl rfl ?_;intro H1 h;have h:=h.o [7,0,1,2,3,4,5,6,8,9,10] 11;obtain⟨stb,bl,hole,h⟩:=q7j h hst;have h:=h.o [1,0,2,3,4,5,6,7,8,9,10,11,12] 13;obtain⟨cb,hb,h⟩:=q1c.1 h;have hptr:=qah hole h 3 rfl;rw [hag'] at hptr;refine⟨_,h.r 5,_,h.r 14,_,hptr,q01 ⟨_,h.r 0,_,q86 (h.o [2] 3),q01 ⟨_,h.r 0,_,h.r 14,_,_,_,h.r 14,?_⟩⟩⟩;have h:=h.o [13,0,1,2,3,4,5,6,7,8,9,10,11,12,14] 15;rw [hel];refine qwf h (fun H h=>hr.rd H (h.o [] 15)) hr.labs (by omega) (fun e he=>?_) fun Q1 a1 c1 evs1 H2 hs1 hm1 hl1 h=>⟨_,_,_,rfl,h.r 15,h.r 2,?_⟩
 ·have:=evOk_len (hlr e.p (by rw [hr.eq]; exact z90.2 ⟨e,he,rfl⟩));show e.p.labs.length≤1000000;omega
 have hl1':evs1.length=evs.length:=by have:=congrArg List.length hm1; simpa using this
 have h:=h.o [4,0,1,2,3,5,6,7,8,9,10,11,12,13,14,15] 16;have h:=qon hs1 h;have hm1':evs1.map Ev.p=r.evs:=by rw [hm1,hr.eq]
 refine qje (items:=evs1) h hsok.hs (by have:=hsok.next; omega) (fun H h=>h.sl_rd 1 rfl) hl1 (by omega) fun a2 c2 ready H3 hready hlab h=>⟨_,_,_,_,rfl,?_⟩
 rw [hm1'] at hready h;have hrl:(st.hs.offer r.nx r.evs).2.1.length=ready.length:=by rw [← hready,z9c]
 unfold qai at k;rw [hrl] at k;generalize hO:st.hs.offer r.nx r.evs=O at *;have hv:∀e∈O.2.1,wf64 e.value:=by
  intro e he;rw [← hO] at he
  rcases (qad (s:=st.hs) (first:=r.nx) (items:=r.evs)).1 e he with h|⟨q,h,rfl⟩
  ·exact hr.vals e h
  ·exact (hsok.rows q h).2.2
 have hO2:ready.length≤1000000:=by
  have h1:=qdz (s:=st.hs) (first:=r.nx) (items:=r.evs);rw [hO,hrl] at h1;have h2:=hsok.hs.rows.length;have h3:=hsok.hs.most2;omega
 have hjok:=fun n hn=>qjq (c:=s.cfg) (now:=r.nw) (a:=r.ag) (ep:=r.ep) (first:=st.hs.next) (evs:=O.2.1) (x:=⟨{ st with hs:=O.1 },s.ms,s.cm⟩) ok.sh hv n hn
 generalize hG:q16 s.cfg r.nw r.ag r.ep st.hs.next O.2.1 ⟨{ st with hs:=O.1 },s.ms,s.cm⟩=G at *;refine⟨fun la ln lc i H'=>∃j:Nat,i=j∧j≤ready.length∧ln=j∧
  SatL H' (cellsA sb (q3g { s with now:=r.nw } p) 115::Ma.markC p.mb p.mm (G j).1.ms::Ma.mapF p.mm (G j).1.ms.m::shC p.hb p.hm s.cfg.cells::mapC p.hm (G j).1.cm::cellsA stb [PA cb 0,PA hb 0,I64 (G j).1.st.last] 149::ckA cb st.ck::
   slA 66 87 la j lc (flat q37 (G j).2)::slA 95 4 a2 ready.length c2 (flat encV ready)::hldA Q1 hb O.1::Q1::mapA I64 ptV p.tm (tabP 0 bl)::qgs Q bl s.sts r.ag.toNat::Ro.rollC p.rb p.rm s.cfg.agents::Ro.mapE p.rm s.rows::slA 64 74 p.ka s.kept.length p.kc (flat encO s.kept)::cellsA b (encR r a c) 46::F),
  fun _ _ _ i _=>ready.length - i.toNat,⟨0,rfl,by omega,rfl,?_⟩,?_⟩
 ·have h0:G 0=(⟨{ st with hs:=O.1 },s.ms,s.cm⟩,[]):=by rw [← hG]; rfl
  rw [h0];exact (h.sl_nil 66 87).o [9,12,13,14,15,5,6,0,1,2,3,7,8,10,11,16,17] 18
 rintro la ln lc i H4 ⟨j,rfl,hj,rfl,h⟩;obtain⟨jok,jck,jhs,jlen⟩:=hjok ln (by omega);refine⟨fun hc=>?_,fun hc=>?_⟩
 ·have hlt:ln < ready.length:=by have:=z8s hc; omega
  have hrd:=h.sl_rd 8 rfl;refine⟨by omega,_,_,hrd.some q0t (by omega) hlt,_,_,_,_,_,_,hrd.els q0t hlt,?_⟩;refine h.al fun b2 _ h=>?_
  refine h.st 0 rfl rfl ?_;intro H5 h;refine⟨_,h.r 17,_,_,_,_,_,_,h.q 0,?_⟩;have h:=h.o [1,2,3,4,5,6,7,0,8,9,10,11,12,13,14,15,16,17] 18;have hpj:O.2.1.getD ln Pv.z=ready[ln].p:=by
   rw [q8o _ (by omega)];simp only [← hready,zaa]
  have hvj:wf64 ready[ln].value:=by
   have:=hv ready[ln].p (by rw [← hready]; exact z90.2 ⟨_,z92 hlt,rfl⟩);exact this
  have hck8:(G ln).1.st.ck.smps.length≤8:=by rw [jck]; exact hsok.ck.len
  rw [← show (G ln).1.st.ck=st.ck from jck] at h;refine z3c (c:=s.cfg) (now:=r.nw) (a:=r.ag) (st:=(G ln).1.st) (e:=ready[ln]) (mm:=p.mm) (p_mb:=p.mb) (p_hb:=p.hb) (p_hm:=p.hm) hck8 jok hvj rfl rfl rfl rfl (fun H h=>(hlab _ (z92 hlt)).at h 4 rfl) h fun H6 h=>⟨_,_,_,_,rfl,?_⟩
  rw [show (G ln).1.st.ck=st.ck from jck] at h;have hjs:G (ln+1)=((z7e s.cfg r.nw r.ag r.ep (st.hs.next+ln) (G ln).1 ready[ln].p).1,(G ln).2++[(z7e s.cfg r.nw r.ag r.ep (st.hs.next+ln) (G ln).1 ready[ln].p).2]):=by
   rw [← hpj,← hG]; rfl
  unfold z7e at hjs;generalize q23 s.cfg r.nw r.ag (G ln).1.st (G ln).1.ms (G ln).1.cm ready[ln].p=J at *;refine h.al fun b3 _ h=>?_
  refine h.al fun b4 _ h=>?_
  refine h.st 1 rfl rfl ?_;intro H7 h;refine h.st 0 rfl rfl ?_;intro H8 h;refine⟨_,h.r 19,_,h.r 19,?_⟩;refine h.al fun b5 _ h=>?_
  refine h.st 0 rfl rfl ?_;intro H9 h;refine⟨_,_,_,h.q 0,_,_,h.q 2,_,_,h.q 1,?_⟩;refine h.al fun b6 _ h=>?_
  have hnx:=hsok.next;have hnx0:=hsok.hs.next0;have hw:i64.wrap (st.hs.next+(ln:Int))=st.hs.next+ln:=w64;rw [hw] at h;refine h.append (m:=1) (ws:=q37 { kind:=3,ida:=r.ag,ide:=r.ep,seq:=st.hs.next+ln,reason:=J.reason,win:=J.win,gap:=J.gap }) sl39 12 rfl (h.ce_rd 0 rfl) rfl (q75 _) (by omega) (by omega) fun a5 c5 H10 h=>⟨_,_,_,rfl,?_⟩
  rw [w64 (x:=(ln:Int)+1)];refine⟨⟨ln+1,by omega,hlt,rfl,?_⟩,by dsimp only; omega⟩;rw [hjs];have e:flat q37 ((G ln).2++[{ kind:=3,ida:=r.ag,ide:=r.ep,seq:=st.hs.next+ln,reason:=J.reason,win:=J.win,gap:=J.gap }])=flat q37 (G ln).2++q37 { kind:=3,ida:=r.ag,ide:=r.ep,seq:=st.hs.next+ln,reason:=J.reason,win:=J.win,gap:=J.gap }:=by
   rw [q0k]; simp [flat]
  dsimp only;rw [e];exact h.o [4,5,6,7,8,9,10,12,13,14,15,16,17,18,19,20,21] 22
 ·have hge:ln=ready.length:=by have:=z8v hc; omega
  subst hge;refine⟨_,h.r 16,_,h.r 16,q01 ⟨_,h.r 5,_,q86 (h.o [9] 10),?_⟩⟩;refine h.al fun b7 _ h=>?_
  refine h.append (m:=1) (ws:=q37 { kind:=2,agent:=r.ag,epoch:=r.ep,next:=O.1.next }) sl39 8 rfl (h.ce_rd 0 rfl) rfl (q75 _) (by omega) (by omega) fun a5 c5 H10 h=>⟨_,_,_,rfl,?_⟩
  have e:flat q37 ((G ready.length).2++[{ kind:=2,agent:=r.ag,epoch:=r.ep,next:=O.1.next }])=flat q37 (G ready.length).2++q37 { kind:=2,agent:=r.ag,epoch:=r.ep,next:=O.1.next }:=by
   rw [q0k]; simp [flat]
  have hk:=k Q1 a5 c5 H10 hs1;rw [z8t,jlen,e] at hk;refine hk ?_;have h:=h.o [13,6,7,10,12,1,14,15,2,3,4,5,16,11,8] 18;have h:SatL H10 (qgs Q1 bl s.sts r.ag.toNat::_):=qag hs1 h;have h:=h.o [1,2,3,4,0,5,6,7,8,9,10,11,12,13,14] 15;have h:SatL H10 (strA Q1 stb (G ready.length).1.st::_):=q1c.2 ⟨cb,hb,by rw [jck,jhs]; exact h⟩;have h:=h.o [1,0,2,3,4,5,6,7,8,9,10,11,12] 13;have h:=q8t hole h;have h:=h.o [1,2,3,4,5,6,7,0,8,9,10] 11;have h:SatL H10 (stA Q1 sb { s with now:=r.nw,ms:=(G ready.length).1.ms,cm:=(G ready.length).1.cm,sts:=s.sts.set r.ag.toNat (some (G ready.length).1.st) }::_):=q0i.2 ⟨p,h⟩;exact h.o [1,2,0] 3
end
end Go.Proofs.YtfmkddccnjidmaaGreatDoor
namespace Go.Nm
def Ot.z:Ot:=(⟨0,⟨#[]⟩⟩,Cl.z)
def qgu (first:Int)(outs:List Ot):Nat→List Eff
 | 0=>[]
 | n+1=>qgu first outs n++[{ kind:=4,number:=first+n,out:=outs.getD n Ot.z }]
theorem qjr (first:Int)(outs:List Ot):∀n,(qgu first outs n).length=n
 | 0=>rfl
 | n+1=>by
  show (qgu first outs n++[_]).length=_;rw [z8t,qjr first outs n]; rfl
abbrev Sta.next (s:Sta):Int:=s.sunk+(s.kept.length:Int)
def qkt (s:Sta)(now:Int):List Ot:=q4o s.cm (q1o s.cfg.gd (s.ms.tick now).1.value)
def qfi (s:Sta)(now:Int):Sta × List Eff:=
 ({ s with now:=now,ms:=(s.ms.tick now).1,cm:=qbu s.cm (q1o s.cfg.gd (s.ms.tick now).1.value),kept:=s.kept++qkt s now },qgu s.next (qkt s now) (qkt s now).length)
def qsl (s:Sta)(r:Rp):Sta:=match s.sts[r.ag.toNat]? with
 | some (some st)=>if r.nx≠st.hs.next∨r.st < st.last∨st.ck.held=true then { s with now:=r.nw } else
   if (q1q st.ck (flOf s.ms r.ag) r.nw r.st).2≠0 then { s with now:=r.nw } else
   { s with now:=r.nw,ms:=(s.ms.raise r.ag (q1q st.ck (flOf s.ms r.ag) r.nw r.st).1.lo).1,sts:=s.sts.set r.ag.toNat (some { st with last:=r.st }) }
 | _=>s
end Go.Nm
namespace Go.Proofs.YtfmkddccnjidmaaGreatDoor
open Go.Nm
section
variable {F L:List Assn} {H:Heap} {K KP:Value→Heap→Prop} {Q Q':Assn}
theorem qsm {sb:Nat}{s:Sta}{p:SAd}(h:SatL H F)(i:Nat)(hA:nth i F=cellsA sb (q3g s p) 115)(h0:0≤s.sunk)(hs:s.sunk≤4611686018427387903)(hk:s.kept.length≤1000000000000) :
  q1k Tryz.prog 134 #[PA sb 0] H (I64 s.next):=by
 refine z5t ⟨_,h.rd i hA _,_,_,_,h.rd i hA _,?_,rfl⟩;rw [w64]
set_option maxHeartbeats 2000000 in
theorem Tick_spec {sb:Nat}{s:Sta}{now:Int}(ok:q25 s)(hs:s.sunk≤4611686018427387903)(hkl:s.kept.length≤100000000000)(h:SatL H (stA Q sb s::F))
  (k:∀a' c' H',SatL H' (slA 66 87 a' (qfi s now).2.length c' (flat q37 (qfi s now).2)::stA Q sb (qfi s now).1::F)→K (.slice a' (qfi s now).2.length c') H') :
  CF 73 #[PA sb 0,I64 now] H K:=by
 obtain⟨p,h⟩:=q0i.1 h;refine z5u ?_;refine h.st 0 rfl rfl ?_;intro H1 h;refine⟨_,h.r 0,?_⟩;have h:=h.o [3,4,0,1,2,5,6,7,8] 9;refine Ma.Tick_spec ok.ms h fun H2 h=>⟨_,rfl,_,h.r 2,_,_,_,h.q 2,_,h.r 2,_,Ma.Value_spec h 0 rfl,?_⟩
 unfold qfi qkt at k;generalize hM:(s.ms.tick now).1=M at *;refine q8l (g:=s.cfg.gd) h fun H3 h=>⟨_,rfl,h.r 2,?_⟩
 have hcl:=ok.sh.len;have hcm:=ok.sh.m2;generalize q1o s.cfg.gd M.value=W at *;have h:=h.o [5,6,0,1,2,3,4,7,8] 9;refine z2b (by omega) h fun oa oc H4 h=>⟨_,_,_,rfl,?_⟩
 have hol:(q4o s.cm W).length≤1024:=by
  have h1:(q4o s.cm W).length≤(q0j s.cm).length:=by unfold q4o; exact (List.takeWhile_sublist _).length_le
  have h2:(q0j s.cm).length=s.cm.length:=by unfold q0j; rw [z9c,q7z]; simp [q00]
  omega
 generalize hO:q4o s.cm W=O at *;generalize qbu s.cm W=C at *;refine⟨fun la ln lc i H'=>∃(j:Nat) (ka:Option Addr) (kc:Nat),i=j∧j≤O.length∧ln=j∧
  SatL H' (slA 66 87 la j lc (flat q37 (qgu s.next O j))::slA 64 74 oa O.length oc (flat encO O)::cellsA sb (q3g { s with now:=now,kept:=s.kept++O.take j } { p with ka:=ka,kc:=kc }) 115::Ro.rollC p.rb p.rm s.cfg.agents::Ro.mapE p.rm s.rows::Ma.markC p.mb p.mm M::Ma.mapF p.mm M.m::shC p.hb p.hm s.cfg.cells::mapC p.hm C::strmA Q p.tm s.sts::
   slA 64 74 ka (s.kept++O.take j).length kc (flat encO (s.kept++O.take j))::F),
  fun _ _ _ i _=>O.length - i.toNat,⟨0,p.ka,p.kc,rfl,by omega,rfl,?_⟩,?_⟩
 ·rw [zaj,z9o];exact (h.sl_nil 66 87).o [0,1,6,7,8,4,5,2,3,9,10] 11
 rintro la ln lc i H5 ⟨j,ka,kc,rfl,hj,rfl,h⟩;have htl:(O.take ln).length=ln:=by rw [z9d]; omega
 refine⟨fun hc=>?_,fun hc=>?_⟩
 ·have hlt:ln < O.length:=by have:=z8s hc; omega
  have hrd:=h.sl_rd 1 rfl;have hels:=hrd.els q2h hlt;refine⟨by omega,_,_,hrd.some q2h (by omega) hlt,_,_,_,_,_,_,_,_,_,_,hels,?_⟩;refine h.al fun b1 _ h=>?_
  refine h.sta 0 rfl rfl fun H6 h=>?_
  have hn0:=ok.sunk;refine⟨_,qsm (s:=({ s with now:=now,kept:=s.kept++O.take ln }:Sta)) (p:={ p with ka:=ka,kc:=kc }) h 3 rfl hn0 hs (by show (s.kept++O.take ln).length≤_; rw [z8t,htl]; omega),?_⟩;have hnx:({ s with now:=now,kept:=s.kept++O.take ln }:Sta).next=s.next+ln:=by
   show s.sunk+((s.kept++O.take ln).length:Int)=s.sunk+(s.kept.length:Int)+ln;rw [z8t,htl]; omega
  rw [hnx];refine⟨_,_,_,_,_,_,_,_,_,_,h.rda 0 rfl,?_⟩;refine h.al fun b2 _ h=>?_
  refine h.append (m:=1) (ws:=q37 { kind:=4,number:=s.next+ln,out:=O[ln] }) sl39 2 rfl (h.ce_rd 0 rfl) rfl (q75 _) (by omega) (by omega) fun a5 c5 H7 h=>⟨_,_,_,rfl,?_⟩
  refine⟨_,_,_,h.r 4,_,_,_,_,_,_,_,_,_,_,h.rda 1 rfl,?_⟩;refine h.al fun b3 _ h=>⟨h.r 5,?_⟩
  refine h.append (m:=1) (ws:=encO O[ln]) sl86 13 rfl (h.ce_rd 0 rfl) rfl (q6b _) (by rw [z8t,htl]; omega) (by rw [z8t,htl]; omega) fun a6 c6 H8 h=>⟨_,_,_,rfl,?_⟩
  refine h.st 5 rfl rfl ?_;intro H9 h;rw [w64 (x:=(ln:Int)+1)];refine⟨⟨ln+1,a6,c6,by omega,hlt,rfl,?_⟩,by dsimp only; omega⟩;have e1:qgu s.next O (ln+1)=qgu s.next O ln++[{ kind:=4,number:=s.next+ln,out:=O[ln] }]:=by
   show qgu s.next O ln++[({ kind:=4,number:=s.next+ln,out:=O.getD ln Ot.z }:Eff)]=_;rw [q8o _ hlt]
  have e2:flat q37 (qgu s.next O (ln+1))=flat q37 (qgu s.next O ln)++q37 { kind:=4,number:=s.next+ln,out:=O[ln] }:=by
   rw [e1,q0k]; simp [flat]
  have e3:s.kept++O.take (ln+1)=(s.kept++O.take ln)++[O[ln]]:=by rw [za5 hlt,z93]
  have e4:flat encO (s.kept++O.take (ln+1))=flat encO (s.kept++O.take ln)++encO O[ln]:=by
   rw [e3,q0k]; simp [flat]
  have e5:(s.kept++O.take (ln+1)).length=(s.kept++O.take ln).length+1:=by rw [e3,z8t]; rfl
  have e6:q3g ({ s with now:=now,kept:=s.kept++O.take (ln+1) }:Sta) { p with ka:=a6,kc:=c6 }=q1l (q3g ({ s with now:=now,kept:=s.kept++O.take ln }:Sta) { p with ka:=ka,kc:=kc }) 19 [.slice a6 ((s.kept++O.take ln).length+1) c6]:=by
   simp only [q3g,e5]; rfl
  rw [e2,e4,e5,e6];exact h.o [3,4,5,6,7,8,9,10,11,12,13] 14
 ·have hge:ln=O.length:=by have:=z8v hc; omega
  subst hge;rw [zab] at h;have hk:=k la lc H5;rw [qjr] at hk;refine hk ?_;have h:=h.o [2,3,4,5,6,7,8,9,10,0] 11;have h:SatL H5 (stA Q sb { s with now:=now,ms:=M,cm:=C,kept:=s.kept++O }::_):=q0i.2 ⟨{ p with ka:=ka,kc:=kc },h⟩;exact h.o [1,0] 2
set_option maxHeartbeats 2000000 in
theorem z7i {sb:Nat}{s:Sta}{r:Rp}{a:Option Addr}{c:Nat}{st:Str}(ok:q25 s)(hag:0≤r.ag)(hst:s.sts[r.ag.toNat]?=some (some st))(h:SatL H (stA Q sb s::F))
  (k:∀H',SatL H' (stA Q sb (qsl s r)::F)→K (.tuple #[]) H') :
  CF 72 #[PA sb 0,.agg ⟨encR r a c⟩] H K:=by
 have hag':((r.ag.toNat:Nat):Int)=r.ag:=by omega
 have hsok:=ok.sts st (z9i hst);unfold qsl at k;rw [hst] at k;dsimp only at k;refine z5v ?_;refine h.al fun b _ h=>⟨_,h.r 0,?_⟩
 have h:=h.o [1,0] 2;obtain⟨p,h⟩:=q0i.1 h;refine h.st 0 rfl rfl ?_;intro H1 h;have h:=h.o [7,0,1,2,3,4,5,6,8,9] 10;obtain⟨stb,bl,hole,h⟩:=q7j h hst;have h:=h.o [1,0,2,3,4,5,6,7,8,9,10,11] 12;obtain⟨cb,hb,h⟩:=q1c.1 h;have hptr:=qah hole h 3 rfl;rw [hag'] at hptr;have close:∀(ms:MS) (st':Str) H',SatL H' (cellsA stb [PA cb 0,PA hb 0,I64 st'.last] 149::ckA cb st'.ck::hldA Q hb st'.hs::mapA I64 ptV p.tm (tabP 0 bl)::qgs Q bl s.sts r.ag.toNat::cellsA sb (q3g { s with now:=r.nw } p) 115::Ro.rollC p.rb p.rm s.cfg.agents::Ro.mapE p.rm s.rows::Ma.markC p.mb p.mm ms::Ma.mapF p.mm ms.m::shC p.hb p.hm s.cfg.cells::mapC p.hm s.cm::slA 64 74 p.ka s.kept.length p.kc (flat encO s.kept)::F)→
   SatL H' (stA Q sb { s with now:=r.nw,ms:=ms,sts:=s.sts.set r.ag.toNat (some st') }::F):=by
  intro ms st' H' h;have h:=q1c.2 ⟨cb,hb,h⟩;have h:=h.o [1,0,2,3,4,5,6,7,8,9,10] 11;have h:=q8t hole h;exact q0i.2 ⟨p,h.o [1,2,3,4,5,6,7,0,8] 9⟩
 have hsame:s.sts.set r.ag.toNat (some st)=s.sts:=by
  have hlt:r.ag.toNat < s.sts.length:=(List.getElem?_eq_some_iff.1 hst).1;have:s.sts[r.ag.toNat]=some st:=by rw [List.getElem?_eq_getElem hlt] at hst; exact Option.some.inj hst
  rw [← this,zau]
 refine⟨_,h.r 5,_,h.r 13,_,hptr,_,h.r 13,q01 ⟨_,h.r 0,_,q86 (h.o [2] 3),_,fun _=>h.r 13,fun _=>trivial,_,fun _=>h.r 0,fun _=>trivial,_,fun _=>h.rd 0 rfl 0,_,fun _=>qa8 (h.o [1] 2),fun hc=>?_,fun hc=>?_⟩⟩
 ·have hc:r.nx≠st.hs.next∨r.st < st.last∨st.ck.held=true:=by
   simp only [z97,z9a,z8x,z8u] at hc
   rcases hc with (hc|hc)|hc
   ·exact .inl hc
   ·exact .inr (.inl hc)
   ·exact .inr (.inr hc)
  rw [if_pos hc] at k;have h:=close s.ms st _ (h.o [0,1,2,3,4,5,6,7,8,9,10,11,12] 14);rw [hsame] at h;exact k _ h
 have hc:¬(r.nx≠st.hs.next∨r.st < st.last∨st.ck.held=true):=by
  simp only [z94,z9u,z8x,z8u] at hc;rintro (h1|h1|h1)
  ·exact h1 hc.1.1
  ·exact hc.1.2 h1
  ·rw [hc.2] at h1; cases h1
 rw [if_neg hc] at k;refine⟨_,h.r 13,_,h.r 13,?_⟩;have h:=h.o [5,8,9,0,1,2,3,4,6,7,10,11,12,13] 14;refine qjo (a:=r.ag) (stamp:=r.st) (now:=r.nw) hsok.ck.len rfl rfl h fun H3 h=>⟨_,_,_,rfl,?_⟩
 generalize q1q st.ck (flOf s.ms r.ag) r.nw r.st=T at *;refine h.al fun b1 _ h=>?_
 refine h.st 0 rfl rfl ?_;intro H4 h;refine⟨fun hc=>?_,fun hc=>?_⟩
 ·rw [if_pos (by simpa using hc)] at k;have h:=close s.ms st _ (h.o [4,5,6,7,8,1,9,10,2,3,11,12,13] 15);rw [hsame] at h;exact k _ h
 ·rw [if_neg (by simpa using hc)] at k;refine⟨_,h.r 14,q01 ?_⟩;refine h.st 4 rfl rfl ?_;intro H5 h;refine⟨_,h.r 1,_,h.r 14,_,h.r 0,?_⟩;have h:=h.o [2,3,0,1,4,5,6,7,8,9,10,11,12,13,14] 15;refine Ma.Raise_spec (a:=r.ag) (t:=T.1.lo) h fun H6 h=>⟨_,rfl,?_⟩
  exact k _ (close _ { st with last:=r.st } _ (h.o [4,5,6,7,8,3,9,10,0,1,11,12,13] 15))
end
end Go.Proofs.YtfmkddccnjidmaaGreatDoor
namespace Go.Nm
def isE (s:Sta)(a ep:Int):Bool:=decide (0 < (rowE s.rows a).epoch) && decide ((rowE s.rows a).epoch=ep)
def q3a (s:Sta)(a:Int):Option Str:=if a < 0 then none else (s.sts[a.toNat]?).join
def qfj (s:Sta)(r:Rp)(now:Int):Int:=
 if 0 < r.ep∧isE s r.ag r.ep=false then 22 else
 if now < s.now then 11 else
 if r.kind=4 then (match q3a s r.ag with
  | some st=>if st.ck.smps.length=0∧st.ck.held=false then 19 else 0
  | none=>0) else 0
def q1y (s:Sta)(r:Rp):Int:=
 if r.kind=1 then (if 1099511627776≤s.boots then 17 else 0) else
 if r.kind=7 then (if s.next < r.nx then 11 else 0) else
 qfj s r (if r.kind=3 then r.sm.came else r.nw)
structure RLim (r:Rp):Prop where
 kind:1≤r.kind∧r.kind≤7
 ag:0≤r.ag∧r.ag≤63
 ep:(r.kind=3∨r.kind=4∨r.kind=5→1≤r.ep)∧0≤r.ep∧r.ep≤1099511627776
 bt:(r.kind=2→1≤r.bt)∧0≤r.bt∧r.bt≤1099511627776
 nx:0≤r.nx∧r.nx≤1099511627776
 st:0≤r.st∧r.st≤4611686018427387903
 nw:isT r.nw
 sm:r.sm.ok
 evs:r.kind=4→q4v r.nx r.evs=true
 none:r.kind≠4→r.evs=[]
theorem q1j {r:Rp}(h:r.right=true):RLim r:=by
 unfold Rp.right at h;rw [z8w,z8w,z8w] at h;obtain⟨⟨⟨h1,h2⟩,h3⟩,h4⟩:=h;unfold Rp.lim at h4;simp only [inM,z8w,z8u] at h1 h4;obtain⟨⟨⟨⟨⟨⟨h5,h6⟩,h7⟩,h8⟩,h9⟩,h10⟩,h11⟩:=h4;refine⟨h1,h5,⟨fun hk=>?_,?_,h6.2⟩,⟨fun hk=>?_,?_,h7.2⟩,h8,h9,h10,h11,fun hk=>?_,fun hk=>?_⟩
 ·rw [if_pos hk] at h6; exact h6.1
 ·have:=h6.1; split at this <;> omega
 ·rw [if_pos hk] at h7; exact h7.1
 ·have:=h7.1; split at this <;> omega
 ·rw [if_pos hk] at h3; exact h3
 ·rw [if_neg hk] at h3;exact zbf.1 (z8s h3)
theorem rowE_at {rows:List En}{a:Int}(h:0 < (rowE rows a).epoch):0≤a∧∃e,rows[a.toNat]?=some e∧0 < e.epoch:=by
 unfold rowE at h
 split at h
 ·simp [En.z] at h
 ·refine⟨by omega,?_⟩
  cases e:rows[a.toNat]? with
  | none=>rw [e] at h; simp [En.z] at h
  | some x=>rw [e] at h; exact⟨x,rfl,h⟩
theorem q25.str {s:Sta}(ok:q25 s){a:Int}(h:0 < (rowE s.rows a).epoch):0≤a∧∃st,s.sts[a.toNat]?=some (some st):=by
 obtain⟨h0,e,h1,h2⟩:=rowE_at h;exact⟨h0,(ok.reg a.toNat).2 ⟨e,h1,h2⟩⟩
theorem qb6 {s:Sta}{a:Int}{st:Str}(h0:0≤a)(h:s.sts[a.toNat]?=some (some st)):q3a s a=some st:=by
 unfold q3a; rw [if_neg (by omega),h]; rfl
end Go.Nm
namespace Go.Proofs.YtfmkddccnjidmaaGreatDoor
open Go.Nm
section
variable {F L:List Assn} {H:Heap} {K KP:Value→Heap→Prop} {Q Q':Assn}
set_option maxHeartbeats 2000000 in
theorem qwh {sb:Nat}{s:Sta}{r:Rp}{a:Option Addr}{c:Nat}(ok:q25 s)(hs:s.sunk≤4611686018427387903)(hkl:s.kept.length≤100000000000)(hr:r.right=true)(h:SatL H (stA Q sb s::F))
  (k:∀H',SatL H' (stA Q sb s::F)→K (I64 (q1y s r)) H') :
  CF 66 #[PA sb 0,.agg ⟨encR r a c⟩] H K:=by
 refine qrn ?_;refine h.al fun b H0 h=>⟨_,h.r 0,?_⟩
 have h:=h.o [1,0] 2;obtain⟨p,h⟩:=q0i.1 h;have fin:∀H',SatL H' (cellsA sb (q3g s p) 115::Ro.rollC p.rb p.rm s.cfg.agents::Ro.mapE p.rm s.rows::Ma.markC p.mb p.mm s.ms::Ma.mapF p.mm s.ms.m::shC p.hb p.hm s.cfg.cells::mapC p.hm s.cm::strmA Q p.tm s.sts::slA 64 74 p.ka s.kept.length p.kc (flat encO s.kept)::cellsA b (encR r a c) 46::F)→SatL H' (stA Q sb s::F):=fun H' h=>by
  have h:=q0i.2 ⟨p,h⟩;exact h.o [0] 2
 unfold q1y at k;refine⟨_,h.r 9,fun hc=>?_,fun hc=>⟨fun hc7=>?_,fun hc7=>?_⟩⟩
 ·rw [if_pos (z8s hc)] at k;refine⟨_,h.r 0,fun hb=>?_,fun hb=>?_⟩
  ·rw [if_pos (z8s hb)] at k; exact k _ (fin _ h)
  ·rw [if_neg (z8v hb)] at k; exact k _ (fin _ h)
 ·rw [if_neg (z8v hc),if_pos (z8s hc7)] at k;refine⟨_,h.r 9,_,qsm h 0 rfl ok.sunk hs (by omega),fun hb=>?_,fun hb=>?_⟩
  ·rw [if_pos (z8s hb)] at k; exact k _ (fin _ h)
  ·rw [if_neg (z8v hb)] at k; exact k _ (fin _ h)
 rw [if_neg (z8v hc),if_neg (z8v hc7)] at k;have hL:=q1j hr;intro Jn hJ;have main:∀now,(∀H',SatL H' (stA Q sb s::F)→K (I64 (qfj s r now)) H')→Jn now H0:=by
  intro now k;refine hJ _ _ ?_;intro Jn1 hJ1;unfold qfj at k;have nxt:∀(t:Bool) H',t=decide (0 < r.ep∧isE s r.ag r.ep=false)→SatL H' (cellsA sb (q3g s p) 115::Ro.rollC p.rb p.rm s.cfg.agents::Ro.mapE p.rm s.rows::Ma.markC p.mb p.mm s.ms::Ma.mapF p.mm s.ms.m::shC p.hb p.hm s.cfg.cells::mapC p.hm s.cm::strmA Q p.tm s.sts::slA 64 74 p.ka s.kept.length p.kc (flat encO s.kept)::cellsA b (encR r a c) 46::F)→Jn1 t H':=by
   rintro t H' rfl h;refine hJ1 _ _ ?_;refine⟨fun ht=>?_,fun ht=>?_⟩
   ·rw [if_pos (z8s ht)] at k;exact k _ (fin _ h)
   have ht:=z8v ht;rw [if_neg ht] at k;refine⟨_,h.r 0,fun hn=>?_,fun hn=>?_⟩
   ·rw [if_pos (z8s hn)] at k;exact k _ (fin _ h)
   rw [if_neg (z8v hn)] at k;refine⟨_,h.r 9,?_⟩;intro Jn2 hJ2;refine⟨fun h4=>?_,fun h4=>?_⟩
   ·have h4:=z8s h4;rw [if_pos h4] at k;have hep:=hL.ep.1 (.inr (.inl h4));have his:isE s r.ag r.ep=true:=by
     cases e:isE s r.ag r.ep
     ·exact absurd ⟨by omega,e⟩ ht
     ·rfl
    unfold isE at his;rw [z8w] at his;obtain⟨ha0,st,hst⟩:=ok.str (z8s his.1);rw [qb6 ha0 hst] at k;dsimp only at k;have hsok:=ok.sts st (z9i hst);have hag':((r.ag.toNat:Nat):Int)=r.ag:=by omega
    have h:=h.o [7,0,1,2,3,4,5,6,8,9] 10;obtain⟨stb,bl,hole,h⟩:=q7j h hst;have h:=h.o [1,0,2,3,4,5,6,7,8,9,10,11] 12;obtain⟨cb,hb,h⟩:=q1c.1 h;have hptr:=qah hole h 3 rfl;rw [hag'] at hptr;have hsame:s.sts.set r.ag.toNat (some st)=s.sts:=by
     have hlt:r.ag.toNat < s.sts.length:=(List.getElem?_eq_some_iff.1 hst).1;have:s.sts[r.ag.toNat]=some st:=by rw [List.getElem?_eq_getElem hlt] at hst; exact Option.some.inj hst
     rw [← this,zau]
    refine⟨_,h.r 5,_,h.r 13,_,hptr,q01 ⟨_,h.rd 0 rfl 0,?_⟩⟩;have h:=h.o [1,0,2,3,4,5,6,7,8,9,10,11,12,13] 14;have hl8:=hsok.ck.len;refine qa9 h (by omega) fun sa sc H2 h=>⟨_,_,_,rfl,fun _=>trivial,_,fun _=>h.rd 2 rfl 0,_,fun _=>qa8 (h.o [1] 2),?_⟩
    have back:SatL H2 (cellsA sb (q3g s p) 115::Ro.rollC p.rb p.rm s.cfg.agents::Ro.mapE p.rm s.rows::Ma.markC p.mb p.mm s.ms::Ma.mapF p.mm s.ms.m::shC p.hb p.hm s.cfg.cells::mapC p.hm s.cm::strmA Q p.tm s.sts::slA 64 74 p.ka s.kept.length p.kc (flat encO s.kept)::cellsA b (encR r a c) 46::F):=by
     have h:=h.o [2,1,3,4,5,6,7,8,9,10,11,12,13,14] 15;have h:=q1c.2 ⟨cb,hb,h⟩;have h:=h.o [1,0,2,3,4,5,6,7,8,9,10,11] 12;have h:=q8t hole h;rw [hsame] at h;exact h.o [1,2,3,4,5,6,7,0,8,9] 10
    refine⟨fun hx=>?_,fun hx=>?_⟩
    ·have hx:st.ck.smps.length=0∧st.ck.held=false:=by
      simp only [z8w,z8u,z9a] at hx;exact⟨by omega,hx.2⟩
     rw [if_pos hx] at k;exact k _ (fin _ back)
    ·have hx:¬(st.ck.smps.length=0∧st.ck.held=false):=by
      rintro⟨h1,h2⟩;rw [h1,h2] at hx;simp at hx
     rw [if_neg hx] at k;refine hJ2 _ ?_;exact k _ (fin _ back)
   ·rw [if_neg (z8v h4)] at k;refine hJ2 _ ?_;exact k _ (fin _ h)
  refine⟨_,h.r 9,fun _=>trivial,_,fun _=>h.r 0,_,fun _=>h.r 9,_,fun _=>h.r 9,fun he=>?_,fun he=>?_⟩
  ·have he:=z8s he;have h:=h.o [1,2,0,3,4,5,6,7,8,9] 10;refine Ro.Is_spec ok.rows (agent:=r.ag) (epoch:=r.ep) h fun H2 h=>⟨_,rfl,?_⟩
   refine nxt _ _ ?_ (h.o [2,0,1,3,4,5,6,7,8,9] 10);show (!isE s r.ag r.ep)=_;rw [z9s,z8u]
   constructor
   ·intro hx; exact⟨he,by simpa using hx⟩
   ·rintro⟨_,hx⟩; rw [hx]; rfl
  ·have he:¬0 < r.ep:=fun hx=>he (z9b hx)
   refine nxt _ _ ?_ h
   symm
   exact za8 fun hx=>he hx.1
 refine⟨fun h3=>?_,fun h3=>?_⟩
 ·rw [if_pos (z8s h3)] at k;exact⟨_,h.r 9,main _ k⟩
 ·rw [if_neg (z8v h3)] at k;exact main _ k
end
end Go.Proofs.YtfmkddccnjidmaaGreatDoor
namespace Go.Nm
def q95 (c:Cfg):Str:=⟨⟨c.rho,c.trust,false,0,[]⟩,⟨0,c.hold,[]⟩,-1⟩
def qgc (a ep n:Int):Eff:={ kind:=3,ida:=a,ide:=ep,seq:=n,reason:=5 }
def oldE (s:Sta)(a:Int):List Eff:=match q3a s a with
 | some st=>(q00 st.hs.rows).map (qgc a (rowE s.rows a).epoch)
 | none=>[]
def oldM (s:Sta)(a:Int):MS:=match q3a s a with
 | some _=>(s.ms.leave a).1
 | none=>s.ms
def q7k (s:Sta)(r:Rp):Sta × List Eff × Int:=
 if (grant s.cfg.agents s.rows r.ag r.bt r.nw).2.2.2≠0 then (s,[],(grant s.cfg.agents s.rows r.ag r.bt r.nw).2.2.2) else
 if (grant s.cfg.agents s.rows r.ag r.bt r.nw).2.2.1 then
  ({ s with now:=r.nw,rows:=(grant s.cfg.agents s.rows r.ag r.bt r.nw).1,ms:=((oldM s r.ag).join r.ag r.nw).1,sts:=s.sts.set r.ag.toNat (some (q95 s.cfg)) },
   oldE s r.ag++[{ kind:=1,agent:=r.ag,epoch:=(grant s.cfg.agents s.rows r.ag r.bt r.nw).2.1.epoch,boot:=(grant s.cfg.agents s.rows r.ag r.bt r.nw).2.1.boot }],0)
 else ({ s with now:=r.nw,rows:=(grant s.cfg.agents s.rows r.ag r.bt r.nw).1 },[{ kind:=1,agent:=r.ag,epoch:=(grant s.cfg.agents s.rows r.ag r.bt r.nw).2.1.epoch,boot:=(grant s.cfg.agents s.rows r.ag r.bt r.nw).2.1.boot }],0)
theorem z7j {most:Int}{rows:List En}{a b n:Int}(h:(grant most rows a b n).2.2.2≠0):(grant most rows a b n).1=rows:=by
 unfold grant at h ⊢
 split
 ·rfl
 ·rename_i h1;rw [if_neg h1] at h;dsimp only at h ⊢
  split
  ·rfl
  ·rename_i h2;rw [if_neg h2] at h
   split
   ·rfl
   ·rename_i h3;rw [if_neg h3] at h
    split
    ·rfl
    ·rename_i h4;rw [if_neg h4] at h
     split
     ·rfl
     ·rename_i h5;rw [if_neg h5] at h;simp at h
end Go.Nm
namespace Go.Proofs.YtfmkddccnjidmaaGreatDoor
open Go.Nm
section
variable {F L:List Assn} {H:Heap} {K KP:Value→Heap→Prop} {Q Q':Assn}
theorem z7k {tm k b:Nat}{bl:List (Option Nat)}{sts:List (Option Str)}{s:Str}(hm:bl.map Option.isSome=sts.map Option.isSome)(hk:k < sts.length)
  (h:SatL H (mapA I64 ptV tm (mset ((k:Nat):Int) (some b) (tabP 0 bl))::strA Q b s::qgs Q bl sts k::F)):SatL H (strmA Q tm (sts.set k (some s))::F):=by
 have hbl:bl.length=sts.length:=by have:=congrArg List.length hm; simpa using this
 have e:=qb5 (Q:=Q) (b:=b) (s:=s) (bl:=bl.set k none) (sts:=sts.set k none) (k:=k) (by rw [List.getElem?_set_self (by omega)]) (by rw [List.getElem?_set_self (by omega)]);rw [List.set_set,List.set_set] at e;have hp:=qou (b:=b) (l:=bl) (i:=0) (k:=k) (by omega);rw [z9e] at hp;rw [← q6k (r:=tm) hp] at h;refine q5m.2 ⟨bl.set k (some b),?_,?_⟩
 ·rw [List.map_set,List.map_set,hm]; rfl
 ·rw [← e];have h:=h.o [1,2,0] 3;have h:=q1z.2 h;exact h.o [1,0] 2
theorem qmc {sb:Nat}{s:Sta}{p:SAd}(ok:qbk s.cfg)(h:SatL H (cellsA sb (q3g s p) 115::F))
  (k:∀b H',SatL H' (strA Q b (q95 s.cfg)::cellsA sb (q3g s p) 115::F)→K (PA b 0) H'):CF 105 #[PA sb 0] H K:=by
 refine z0v ?_;refine⟨_,h.r 0,_,h.r 0,?_⟩;refine qlp h (fun hn=>absurd ok.rate hn) fun _ cb H1 h=>⟨_,_,rfl,_,h.r 1,?_⟩
 refine qjd (Q:=Q) h (fun hn=>absurd ok.hd (by omega)) fun hb H2 _ h=>⟨_,_,rfl,?_⟩
 refine h.al fun b _ h=>?_
 refine k b _ (q1c.2 ⟨cb,hb,?_⟩);exact h.o [0,2,1,3] 4
set_option maxHeartbeats 4000000 in
theorem Grant_spec {sb:Nat}{s:Sta}{r:Rp}{a:Option Addr}{c:Nat}(ok:q25 s)(hr:r.right=true)(hk2:r.kind=2)(h:SatL H (stA Q sb s::F))
  (k:∀a' c' H',SatL H' (slA 66 87 a' (q7k s r).2.1.length c' (flat q37 (q7k s r).2.1)::stA Q sb (q7k s r).1::F)→K (.tuple #[.slice a' (q7k s r).2.1.length c',I64 (q7k s r).2.2]) H') :
  CF 67 #[PA sb 0,.agg ⟨encR r a c⟩] H K:=by
 have hL:=q1j hr;have hag':((r.ag.toNat:Nat):Int)=r.ag:=by have:=hL.ag; omega
 refine z0z ?_;refine h.al fun b H0 h=>?_
 have h:=h.o [1,0] 2;obtain⟨p,h⟩:=q0i.1 h;intro Jn hJ;have main:∀bb H',SatL H' (cellsA bb (encE (rowE s.rows r.ag)) 78::cellsA sb (q3g s p) 115::Ro.rollC p.rb p.rm s.cfg.agents::Ro.mapE p.rm s.rows::Ma.markC p.mb p.mm s.ms::Ma.mapF p.mm s.ms.m::shC p.hb p.hm s.cfg.cells::mapC p.hm s.cm::strmA Q p.tm s.sts::slA 64 74 p.ka s.kept.length p.kc (flat encO s.kept)::cellsA b (encR r a c) 46::F)→Jn bb 0 H':=by
  intro bb H1 h;refine hJ _ _ _ ?_;intro Jn1 hJ1;unfold q7k at k;have hgerr:=z7j (most:=s.cfg.agents) (rows:=s.rows) (a:=r.ag) (b:=r.bt) (n:=r.nw);have main2:∀eb H',SatL H' (cellsA eb (encE (grant s.cfg.agents s.rows r.ag r.bt r.nw).2.1) 78::cellsA bb (encE (rowE s.rows r.ag)) 78::cellsA sb (q3g s p) 115::Ro.rollC p.rb p.rm s.cfg.agents::Ro.mapE p.rm (grant s.cfg.agents s.rows r.ag r.bt r.nw).1::Ma.markC p.mb p.mm s.ms::Ma.mapF p.mm s.ms.m::shC p.hb p.hm s.cfg.cells::mapC p.hm s.cm::strmA Q p.tm s.sts::slA 64 74 p.ka s.kept.length p.kc (flat encO s.kept)::cellsA b (encR r a c) 46::F)→
    Jn1 eb 0 (grant s.cfg.agents s.rows r.ag r.bt r.nw).2.2.1 (grant s.cfg.agents s.rows r.ag r.bt r.nw).2.2.2 H':=by
   intro eb H2 h;refine hJ1 _ _ _ _ _ ?_;generalize grant s.cfg.agents s.rows r.ag r.bt r.nw=G at *;refine⟨fun he=>?_,fun he=>?_⟩
   ·have he:G.2.2.2≠0:=by simpa using he
    rw [if_pos he] at k;rw [hgerr he] at h;have h:=h.o [2,3,4,5,6,7,8,9,10] 12;have h:=q0i.2 ⟨p,h⟩;exact k none 0 _ (h.sl_nil 66 87)
   have he:¬G.2.2.2≠0:=by simpa using he
   rw [if_neg he] at k;refine⟨_,h.r 11,?_⟩;refine h.st 2 rfl rfl ?_;intro H3 h;intro Jn2 hJ2;have fin:∀(effs:List Eff) (la:Option Addr) (lc:Nat) (s':Sta) (p':SAd) H',effs.length≤1000000→(∀a' c' H'',SatL H'' (slA 66 87 a' (effs.length+1) c' (flat q37 (effs++[{ kind:=1,agent:=r.ag,epoch:=G.2.1.epoch,boot:=G.2.1.boot }]))::stA Q sb s'::F)→K (.tuple #[.slice a' (effs.length+1) c',I64 0]) H'')→
     SatL H' (slA 66 87 la effs.length lc (flat q37 effs)::cellsA eb (encE G.2.1) 78::cellsA b (encR r a c) 46::stA Q sb s'::F)→Jn2 la effs.length lc H':=by
    intro effs la lc s' p' H4 hel kk h;refine hJ2 _ _ _ _ ?_;refine⟨_,h.r 2,_,h.r 1,_,h.r 1,?_⟩;refine h.al fun b1 _ h=>?_
    refine h.append (m:=1) (ws:=q37 { kind:=1,agent:=r.ag,epoch:=G.2.1.epoch,boot:=G.2.1.boot }) sl39 1 rfl (h.ce_rd 0 rfl) rfl (q75 _) (by omega) (by omega) fun a5 c5 H5 h=>⟨_,_,_,rfl,?_⟩
    refine kk _ _ _ ?_;rw [q0k,show flat q37 [({ kind:=1,agent:=r.ag,epoch:=G.2.1.epoch,boot:=G.2.1.boot }:Eff)]=q37 { kind:=1,agent:=r.ag,epoch:=G.2.1.epoch,boot:=G.2.1.boot } by simp [flat]];exact h.o [1,4] 5
   refine⟨fun hf=>?_,fun hf=>?_⟩
   ·rw [if_pos hf] at k;have hlt:r.ag.toNat < s.sts.length:=by have:=ok.len; have:=hL.ag; omega
    have fresh:∀(bl:List (Option Nat)) (la:Option Addr) (lc:Nat) H',bl.map Option.isSome=s.sts.map Option.isSome→(oldE s r.ag).length≤1000000→
      SatL H' (slA 66 87 la (oldE s r.ag).length lc (flat q37 (oldE s r.ag))::mapA I64 ptV p.tm (tabP 0 bl)::qgs Q bl s.sts r.ag.toNat::Ma.markC p.mb p.mm (oldM s r.ag)::Ma.mapF p.mm (oldM s r.ag).m::cellsA eb (encE G.2.1) 78::cellsA sb (q3g { s with now:=r.nw } p) 115::Ro.rollC p.rb p.rm s.cfg.agents::Ro.mapE p.rm G.1::shC p.hb p.hm s.cfg.cells::mapC p.hm s.cm::slA 64 74 p.ka s.kept.length p.kc (flat encO s.kept)::cellsA b (encR r a c) 46::F)→
      qod.r2 sb 0 b Jn2 la (oldE s r.ag).length lc H':=by
     intro bl la lc H4 hm hel h;unfold qod.r2;refine⟨_,h.r 6,_,h.r 12,?_⟩;have h:=h.o [6,0,1,2,3,4,5,7,8,9,10,11,12] 13;refine qmc (s:=({ s with now:=r.nw }:Sta)) (Q:=Q) ok.cfg h fun nb H5 h=>⟨_,rfl,h.r 13,h.r 1,?_⟩
     rw [← hag'];refine h.mp_update (α:=Option Nat) (v:=some nb) (x:=((r.ag.toNat:Nat):Int)) z7a ko2 3 rfl fun H6 h=>?_
     rw [hag'];refine⟨_,h.r 1,_,h.r 13,_,h.r 13,?_⟩;have h:=h.o [5,6,0,1,2,3,4,7,8,9,10,11,12,13] 14;refine Ma.Join_spec (a:=r.ag) (t:=r.nw) h fun H7 h=>⟨_,rfl,?_⟩
     refine fin (oldE s r.ag) la lc { s with now:=r.nw,rows:=G.1,ms:=((oldM s r.ag).join r.ag r.nw).1,sts:=s.sts.set r.ag.toNat (some (q95 s.cfg)) } p _ hel (fun a' c' H'' h=>?_) ?_
     ·have hk:=k a' c' H'';rw [z8t] at hk;exact hk h
     ·
      have h:=h.o [5,2,6,0,1,3,4,7,8,9,10,11,12,13] 14;rw [← hag'] at h;have h:=z7k hm hlt h;rw [hag'] at h;have h:=h.o [3,6,7,1,2,8,9,0,10,4,5,11] 12;have h:SatL H7 (stA Q sb { s with now:=r.nw,rows:=G.1,ms:=((oldM s r.ag).join r.ag r.nw).1,sts:=s.sts.set r.ag.toNat (some (q95 s.cfg)) }::_):=q0i.2 ⟨p,h⟩;exact h.o [1,2,3,0] 4
    refine⟨_,h.r 2,_,h.r 11,?_⟩;have hcase:(∃st,s.sts[r.ag.toNat]?=some (some st))∨s.sts[r.ag.toNat]?=some none:=by
     rw [List.getElem?_eq_getElem hlt]
     cases s.sts[r.ag.toNat] with
     | none=>exact .inr rfl
     | some st=>exact .inl ⟨st,rfl⟩
    rcases hcase with ⟨st,hst⟩|hst
    ·have hsok:=ok.sts st (z9i hst);have hsa:=qb6 hL.ag.1 hst;have hoE:oldE s r.ag=(q00 st.hs.rows).map (qgc r.ag (rowE s.rows r.ag).epoch):=by unfold oldE; rw [hsa]
     have hoM:oldM s r.ag=(s.ms.leave r.ag).1:=by unfold oldM; rw [hsa]
     have h:=h.o [9,0,1,2,3,4,5,6,7,8,10,11] 12;obtain⟨stb,bl,hole,h⟩:=q7j h hst;have h:=h.o [1,0,2,3,4,5,6,7,8,9,10,11,12,13] 14;obtain⟨cb,hb,h⟩:=q1c.1 h;have hptr:=qah hole h 3 rfl;rw [hag'] at hptr;refine⟨_,hptr,?_⟩;intro Jn3 hJ3;refine⟨fun _=>q01 ⟨_,h.r 0,?_⟩,fun hn=>absurd hn (by simp)⟩
     have h:=h.o [2,0,1,3,4,5,6,7,8,9,10,11,12,13,14,15] 16;have hrl:=hsok.hs.rows.length;have hm2:=hsok.hs.most2;have hrl':st.hs.rows.length≤256:=by omega
     refine q8r h hsok.hs.rows.rising (fun q hq=>by
      have h1:=(hsok.rows q hq).1;have h2:=(hsok.hs.rows.inb q hq).1;have h3:=hsok.hs.next0;unfold wf64; omega) (by omega) fun wa wc H4 h=>⟨_,_,_,rfl,?_⟩
     have hkl:(q00 st.hs.rows).length=st.hs.rows.length:=by simp [q00]
     refine⟨fun la ln lc i H'=>∃j:Nat,i=j∧j≤st.hs.rows.length∧ln=j∧
      SatL H' (slA 66 87 la j lc (flat q37 (((q00 st.hs.rows).take j).map (qgc r.ag (rowE s.rows r.ag).epoch)))::slA 2 1 wa st.hs.rows.length wc ((q00 st.hs.rows).map I64)::mapA I64 ptV p.tm (tabP 0 bl)::qgs Q bl s.sts r.ag.toNat::cellsA eb (encE G.2.1) 78::cellsA bb (encE (rowE s.rows r.ag)) 78::cellsA sb (q3g { s with now:=r.nw } p) 115::Ro.rollC p.rb p.rm s.cfg.agents::Ro.mapE p.rm G.1::Ma.markC p.mb p.mm s.ms::Ma.mapF p.mm s.ms.m::shC p.hb p.hm s.cfg.cells::mapC p.hm s.cm::slA 64 74 p.ka s.kept.length p.kc (flat encO s.kept)::cellsA b (encR r a c) 46::F),
      fun _ _ _ i _=>st.hs.rows.length - i.toNat,⟨0,rfl,by omega,rfl,(h.sl_nil 66 87).o [0,1,5,6,7,8,9,10,11,12,13,14,15,16,17] 18⟩,?_⟩
     rintro la ln lc i H5 ⟨j,rfl,hj,rfl,h⟩;refine⟨fun hc=>?_,fun hc=>?_⟩
     ·have hlt:ln < st.hs.rows.length:=by have:=z8s hc; omega
      have hltk:ln < (q00 st.hs.rows).length:=by omega
      have hrd:=(h.sl_rd 1 rfl).at hltk;refine⟨by omega,_,_,hrd.1,_,hrd.2,_,h.r 14,_,h.r 5,?_⟩;refine h.al fun b3 _ h=>?_
      refine h.append (m:=1) (ws:=q37 (qgc r.ag (rowE s.rows r.ag).epoch (q00 st.hs.rows)[ln])) sl39 1 rfl (h.ce_rd 0 rfl) rfl (q75 _) (by omega) (by omega) fun a5 c5 H7 h=>⟨_,_,_,rfl,?_⟩
      rw [w64 (x:=(ln:Int)+1)];refine⟨⟨ln+1,by omega,hlt,rfl,?_⟩,by dsimp only; omega⟩;rw [za5 hltk,z9k,q0k,show flat q37 ([(q00 st.hs.rows)[ln]].map (qgc r.ag (rowE s.rows r.ag).epoch))=q37 (qgc r.ag (rowE s.rows r.ag).epoch (q00 st.hs.rows)[ln]) by simp [flat]];exact h.o [1,2,3,4,5,6,7,8,9,10,11,12,13,14,15] 16
     ·have hge:ln=st.hs.rows.length:=by have:=z8v hc; omega
      subst hge;rw [z9f (by omega),← hoE] at h;have hoel:(oldE s r.ag).length=st.hs.rows.length:=by rw [hoE,z9c,hkl]
      refine⟨_,h.r 6,_,h.r 14,?_⟩;have h:=h.o [9,10,0,1,2,3,4,5,6,7,8,11,12,13,14] 15;refine Ma.Leave_spec (a:=r.ag) h fun H6 h=>⟨_,rfl,?_⟩
      rw [← hoM] at h;refine hJ3 _ _ _ _ ?_;rw [← hoel] at h ⊢;exact fresh bl la lc H6 hole.m (by omega) (h.o [2,4,5,0,1,6,8,9,10,11,12,13,14] 15)
    ·have hsa:q3a s r.ag=none:=by unfold q3a; rw [if_neg (by have:=hL.ag; omega),hst]; rfl
     have hoE:oldE s r.ag=[]:=by unfold oldE; rw [hsa]
     have hoM:oldM s r.ag=s.ms:=by unfold oldM; rw [hsa]
     refine⟨_,z7b (h.o [9] 12) (.inr (.inl hst)),?_⟩;intro Jn3 hJ3;refine⟨fun hn=>absurd hn (by simp),fun _=>hJ3 _ _ _ _ ?_⟩
     have h:=h.o [9,5,6,0,2,3,4,7,8,10,11] 12;obtain⟨bl,hm,h⟩:=q5m.1 h;have hbl:bl.length=s.sts.length:=by have:=congrArg List.length hm; simpa using this
     have e1:s.sts.set r.ag.toNat none=s.sts:=by
      have:s.sts[r.ag.toNat]=none:=by rw [List.getElem?_eq_getElem hlt] at hst; exact Option.some.inj hst
      rw [← this,zau]
     have e2:bl.set r.ag.toNat none=bl:=by
      have h1:=qe5 hm r.ag.toNat
      rw [hst,List.getElem?_eq_getElem (show r.ag.toNat < bl.length by omega)] at h1;have:bl[r.ag.toNat]=none:=by
       cases e:bl[r.ag.toNat] with
       | none=>rfl
       | some x=>rw [e] at h1; simp at h1
      rw [← this,zau]
     have hf:=fresh bl none 0 H3 hm (by rw [hoE]; simp);rw [hoE,hoM] at hf;refine hf ?_;rw [show qgs Q bl s.sts r.ag.toNat=strsA Q bl s.sts by unfold qgs; rw [e1,e2]];exact h.sl_nil 66 87
   ·rw [if_neg (by simpa using hf)] at k;have h:=h.o [2,3,4,5,6,7,8,9,10,0,11] 12;have h:SatL H3 (stA Q sb { s with now:=r.nw,rows:=G.1 }::_):=q0i.2 ⟨p,h⟩;refine fin [] none 0 _ p _ (by simp) (fun a' c' H'' h=>k a' c' H'' h) ?_
    exact (h.sl_nil 66 87).o [0,2,3,1] 4
  refine⟨_,h.r 1,_,h.r 10,_,h.r 10,_,h.r 10,?_,?_⟩
  ·have h:=h.o [2,3,0,1,4,5,6,7,8,9,10] 11;refine Ro.Grant_spec ok.rows (agent:=r.ag) (boot:=r.bt) (now:=r.nw) h fun H2 h=>⟨_,_,_,_,_,rfl,?_⟩
   refine h.al fun b4 _ h=>?_
   refine h.st 0 rfl rfl ?_;intro H3 h;exact main2 _ _ (h.o [0,3,4,1,2,5,6,7,8,9,10,11] 12)
  ·refine h.al fun b5 _ h=>⟨h.r 11,h.r 11,h.r 11,h.r 2,?_⟩
   have h:=h.o [3,4,0,1,2,5,6,7,8,9,10,11] 12;refine Ro.Grant_spec ok.rows (agent:=r.ag) (boot:=r.bt) (now:=r.nw) h fun H2 h=>⟨_,_,_,_,_,rfl,?_⟩
   refine h.st 2 rfl rfl ?_;intro H3 h;exact main2 _ _ (h.o [2,3,4,0,1,5,6,7,8,9,10,11] 12)
 refine⟨_,h.r 0,_,h.r 9,?_,?_⟩
 ·have h:=h.o [1,2,0,3,4,5,6,7,8,9] 10;refine Ro.Of_spec ok.rows (agent:=r.ag) h fun H2 h=>⟨_,_,_,_,rfl,?_⟩
  refine h.al fun b6 _ h=>?_
  refine h.st 0 rfl rfl ?_;intro H3 h;exact main _ _ (h.o [0,3,1,2,4,5,6,7,8,9,10] 11)
 ·refine h.al fun b7 _ h=>⟨h.r 10,h.r 1,?_⟩
  have h:=h.o [2,3,0,1,4,5,6,7,8,9,10] 11;refine Ro.Of_spec ok.rows (agent:=r.ag) h fun H2 h=>⟨_,_,_,_,rfl,?_⟩
  refine h.st 2 rfl rfl ?_;intro H3 h;exact main _ _ (h.o [2,3,0,1,4,5,6,7,8,9,10] 11)
end
end Go.Proofs.YtfmkddccnjidmaaGreatDoor
