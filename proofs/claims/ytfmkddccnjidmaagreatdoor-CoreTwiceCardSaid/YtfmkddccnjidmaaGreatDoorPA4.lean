/-
  Lemmas for CoreTwice: part 4 of what it rests on. Conditions: none.
-/
import Derived.Test.YtfmkddccnjidmaaGreatDoorPA3
set_option linter.unusedVariables false
set_option linter.unusedSimpArgs false
set_option maxRecDepth 100000
open Go.IntKind (i64 u64 i8 u8 i32 u32 i16 u16)
namespace Go.Nm
def qcx (s:Sta)(r:Rp):Sta:=match s.sts[r.ag.toNat]? with
 | some (some st)=>{ s with now:=r.sm.came,ms:=(s.ms.hold r.ag (qfg st.ck r.sm).1.held).1,sts:=s.sts.set r.ag.toNat (some { st with ck:=(qfg st.ck r.sm).1 }) }
 | _=>s
def qwv (s:Sta)(r:Rp):Sta:=if s.sunk < r.nx then { s with kept:=s.kept.drop (r.nx - s.sunk).toNat,sunk:=r.nx } else s
def q0h (s:Sta)(r:Rp):Sta × List Eff × Int:=
 if r.right=false then (s,[],10) else
 if q0y s r≠0 then (s,[],q0y s r) else
 if r.kind=1 then ({ s with boots:=s.boots+1 },[],0) else
 if r.kind=2 then q2t s r else
 if r.kind=3 then (qcx s r,[],0) else
 if r.kind=4 then ((q43 s r).1,(q43 s r).2,0) else
 if r.kind=5 then (qsv s r,[],0) else
 if r.kind=6 then ((q2r s r.nw).1,(q2r s r.nw).2,0) else
 (qwv s r,[],0)
theorem q34 {s:Sta}{r:Rp}(ok:q1v s)(hL:RLim r)(h:q0y s r=0)(hk:r.kind=3∨r.kind=4∨r.kind=5):∃st,s.sts[r.ag.toNat]?=some (some st):=by
 unfold q0y at h;rw [if_neg (by omega),if_neg (by omega)] at h;unfold qcw at h;have hep:=hL.ep.1 hk
 split at h
 ·simp at h
 ·rename_i hn;have his:isE s r.ag r.ep=true:=by
   cases e:isE s r.ag r.ep
   ·exact absurd ⟨by omega,e⟩ hn
   ·rfl
  unfold isE at his;rw [z99] at his;exact (ok.str (z96 his.1)).2
end Go.Nm
namespace Go.Proofs.YtfmkddccnjidmaaGreatDoor
open Go.Nm
section
variable {F L:List Assn} {H:Heap} {K KP:Value→Heap→Prop} {Q Q':Assn}
set_option maxHeartbeats 4000000 in
theorem qbh {sb:Nat}{s:Sta}{r:Rp}{a:Option Addr}{c:Nat}{evs:List Ev}(ok:q1v s)(hs:s.sunk≤4611686018427387903)(hkl:s.kept.length≤100000000000)(hr:z3n Q F r a evs)(h:SatL H (Q::stA Q sb s::F))
  (k:∀Q' a' c' H',Sub Q Q'→SatL H' (Q'::slA 66 87 a' (q0h s r).2.1.length c' (flat q3j (q0h s r).2.1)::stA Q' sb (q0h s r).1::F)→K (.tuple #[.slice a' (q0h s r).2.1.length c',I64 (q0h s r).2.2]) H') :
  CF 17 #[PA sb 0,.agg ⟨encR r a c⟩] H K:=by
 have hel:r.evs.length=evs.length:=by rw [hr.eq,z9o]
 refine z1k ?_;refine h.al fun b H0 h=>⟨_,_,_,_,_,_,_,_,_,_,_,_,_,_,h.q 0,?_⟩
 unfold q0h at k;refine q8y hr.eq h ⟨fun H h=>hr.rd H h.tl.tl.tl,fun e he H h=>(hr.labs e he).at h 1 rfl⟩ (by have:=hr.len; omega) fun H1 h=>⟨_,rfl,fun hc=>?_,fun hc=>?_⟩
 ·rw [if_pos (by simpa using hc)] at k;have h:=h.o [1,2] 3;exact k Q none 0 _ (Sub.refl Q) ((h.sl_nil 66 87).o [1,0,2] 3)
 have hR:r.right=true:=by simpa using hc
 have hL:=q2e hR;rw [if_neg (by rw [hR]; simp)] at k;have h:=h.o [2,0,1] 3;refine⟨_,_,_,_,_,_,_,_,_,_,_,_,_,_,h.q 1,?_⟩;refine qwu ok hs hkl hR h fun H2 h=>⟨_,rfl,fun hc=>?_,fun hc=>?_⟩
 ·rw [if_pos (by simpa using hc)] at k;have h:=h.o [0,2] 3;exact k Q none 0 _ (Sub.refl Q) ((h.sl_nil 66 87).o [2,0,1] 3)
 have hrf:q0y s r=0:=by simpa using hc
 rw [if_neg (by rw [hrf]; simp)] at k;refine⟨_,h.r 1,?_⟩;intro Jn hJ;have fin:∀(s':Sta) H',(∀Q' a' c' H',Sub Q Q'→SatL H' (Q'::slA 66 87 a' 0 c' []::stA Q' sb s'::F)→K (.tuple #[.slice a' 0 c',I64 0]) H')→SatL H' (stA Q sb s'::Q::F)→Jn H':=by
  intro s' H' kk h;refine hJ _ ?_;exact kk Q none 0 _ (Sub.refl Q) ((h.sl_nil 66 87).o [2,0,1] 3)
 refine⟨fun hk=>?_,fun hk=>?_⟩
 ·have hk:=z96 hk;rw [if_pos hk] at k;obtain⟨p,h⟩:=q0j.1 h;refine⟨_,h.r 0,?_⟩;refine h.st 0 rfl rfl ?_;intro H3 h;have hb:=ok.boots;rw [w64 (x:=s.boots+1)] at h;have h:=h.o [0,1,2,3,4,5,6,7,8,10] 11;have h:SatL H3 (stA Q sb { s with boots:=s.boots+1 }::_):=q0j.2 ⟨p,h⟩;exact fin _ _ k h
 have hk1:=z98 hk;rw [if_neg hk1] at k;refine⟨fun hk=>?_,fun hk=>?_⟩
 ·have hk2:=z96 hk;rw [if_pos hk2] at k;refine⟨_,_,_,_,_,_,_,_,_,_,_,_,_,_,h.q 1,?_⟩;refine Grant_spec ok hR hk2 h fun a' c' H3 h=>⟨_,_,_,_,rfl,?_⟩
  exact k Q a' c' H3 (Sub.refl Q) (h.o [3,0,1] 4)
 have hk2:=z98 hk;rw [if_neg hk2] at k;intro Jn1 hJ1;have fin1:∀(s':Sta) H',(∀Q' a' c' H',Sub Q Q'→SatL H' (Q'::slA 66 87 a' 0 c' []::stA Q' sb s'::F)→K (.tuple #[.slice a' 0 c',I64 0]) H')→SatL H' (stA Q sb s'::Q::F)→Jn1 H':=by
  intro s' H' kk h;refine hJ1 _ ?_;exact fin s' H' kk h
 refine⟨fun hk=>?_,fun hk=>?_⟩
 ·have hk3:=z96 hk;rw [if_pos hk3] at k;obtain⟨st,hst⟩:=q34 ok hL hrf (.inl hk3);unfold qcx at k;rw [hst] at k;dsimp only at k;have hsok:=ok.sts st (z9x hst);have hag':((r.ag.toNat:Nat):Int)=r.ag:=by have:=hL.ag; omega
  obtain⟨p,h⟩:=q0j.1 h;have h:=h.o [7,0,1,2,3,4,5,6,8,9,10] 11;obtain⟨stb,bl,hole,h⟩:=q7q h hst;have h:=h.o [1,0,2,3,4,5,6,7,8,9,10,11,12] 13;obtain⟨cb,hb,h⟩:=q1h.1 h;have hptr:=qao hole h 3 rfl;rw [hag'] at hptr;refine⟨_,h.r 5,_,h.r 13,_,hptr,q01 ⟨_,h.rd 0 rfl 0,_,_,_,_,h.q 13,?_⟩⟩;have h:=h.o [1,0,2,3,4,5,6,7,8,9,10,11,12,13,14] 15;refine z1u (s:=r.sm) hsok.ck h fun H3 h=>⟨_,rfl,_,h.r 5,_,h.r 13,q01 ⟨_,h.rd 1 rfl 0,_,qae h,?_⟩⟩
  have h:=h.o [8,9,0,1,2,3,4,5,6,7,10,11,12,13,14] 15;refine Ma.Hold_spec (a:=r.ag) (v:=(qfg st.ck r.sm).1.held) h fun H4 h=>⟨_,rfl,_,h.r 13,?_⟩
  refine h.st 7 rfl rfl ?_;intro H5 h;refine fin1 _ _ k ?_;have h:=h.o [3,2,4,5,6,7,8,9,0,1,10,11,12,14] 15;have h:SatL H5 (strA Q stb { st with ck:=(qfg st.ck r.sm).1 }::_):=q1h.2 ⟨cb,hb,h⟩;have h:=h.o [1,0,2,3,4,5,6,7,8,9,10,11] 12;have h:=q90 hole h;exact q0j.2 ⟨p,h.o [1,2,3,4,5,6,7,0,8,9] 10⟩
 have hk3:=z98 hk;rw [if_neg hk3] at k;refine⟨fun hk=>?_,fun hk=>?_⟩
 ·have hk4:=z96 hk;rw [if_pos hk4] at k;obtain⟨st,hst⟩:=q34 ok hL hrf (.inr (.inl hk4));have hb:=hL.evs hk4;unfold q4z at hb;simp only [z99,z97,za8] at hb;refine⟨_,_,_,_,_,_,_,_,_,_,_,_,_,_,h.q 1,?_⟩;have h:=h.o [2,0,1] 3;refine qwt (evs:=evs) ok hL.ag.1 hst ⟨hr.eq,fun H h=>hr.rd H h.tl,hr.labs,hr.len,hr.vals⟩ (fun e he=>hb.2.2 e he) (by omega) h fun Q2 a' c' H3 hs2 h=>⟨_,_,_,rfl,?_⟩
  exact k Q2 a' c' H3 hs2 (h.o [0,1,2] 4)
 have hk4:=z98 hk;rw [if_neg hk4] at k;intro Jn2 hJ2;have fin2:∀(s':Sta) H',(∀Q' a' c' H',Sub Q Q'→SatL H' (Q'::slA 66 87 a' 0 c' []::stA Q' sb s'::F)→K (.tuple #[.slice a' 0 c',I64 0]) H')→SatL H' (stA Q sb s'::Q::F)→Jn2 H':=by
  intro s' H' kk h;refine hJ2 _ ?_;exact fin1 s' H' kk h
 refine⟨fun hk=>?_,fun hk=>?_⟩
 ·have hk5:=z96 hk;rw [if_pos hk5] at k;obtain⟨st,hst⟩:=q34 ok hL hrf (.inr (.inr hk5));refine⟨_,_,_,_,_,_,_,_,_,_,_,_,_,_,h.q 1,?_⟩;refine z7s ok hL.ag.1 hst h fun H3 h=>⟨rfl,fin2 _ _ k (h.o [0,2] 3)⟩
 have hk5:=z98 hk;rw [if_neg hk5] at k;refine⟨fun hk=>?_,fun hk=>?_⟩
 ·have hk6:=z96 hk;rw [if_pos hk6] at k;refine⟨_,h.r 1,?_⟩;refine Tick_spec ok hs hkl h fun a' c' H3 h=>⟨_,_,_,rfl,?_⟩
  exact k Q a' c' H3 (Sub.refl Q) (h.o [3,0,1] 4)
 have hk6:=z98 hk;rw [if_neg hk6] at k;intro Jn3 hJ3;have fin3:∀(s':Sta) H',(∀Q' a' c' H',Sub Q Q'→SatL H' (Q'::slA 66 87 a' 0 c' []::stA Q' sb s'::F)→K (.tuple #[.slice a' 0 c',I64 0]) H')→SatL H' (stA Q sb s'::Q::F)→Jn3 H':=by
  intro s' H' kk h;refine hJ3 _ ?_;exact fin2 s' H' kk h
 have hk7:r.kind=7:=by have:=hL.kind; omega
 refine⟨fun _=>?_,fun hk=>absurd hk7 (z98 hk)⟩
 obtain⟨p,h⟩:=q0j.1 h;refine⟨_,h.r 9,_,h.r 0,?_⟩;intro Jn4 hJ4;have fin4:∀(s':Sta) H',(∀Q' a' c' H',Sub Q Q'→SatL H' (Q'::slA 66 87 a' 0 c' []::stA Q' sb s'::F)→K (.tuple #[.slice a' 0 c',I64 0]) H')→SatL H' (stA Q sb s'::Q::F)→Jn4 H':=by
  intro s' H' kk h;refine hJ4 _ ?_;exact fin3 s' H' kk h
 unfold qwv at k;refine⟨fun hk=>?_,fun hk=>?_⟩
 ·have hk:=z96 hk;rw [if_pos hk] at k;have hnx:r.nx≤s.next:=by
   unfold q0y at hrf;rw [if_neg hk1,if_pos hk7] at hrf
   split at hrf
   ·simp at hrf
   ·omega
  have hnx:r.nx≤s.sunk+(s.kept.length:Int):=hnx;have hs0:=ok.sunk;have hnx0:=hL.nx;have hw:i64.wrap (r.nx - s.sunk)=((r.nx - s.sunk).toNat:Nat):=by rw [w64]; omega
  refine⟨_,_,_,h.r 0,_,h.r 9,_,h.r 0,?_⟩;dsimp only;rw [hw];have h:=h.o [8,0,1,2,3,4,5,6,7,9,10] 11;refine qsj (j:=(r.nx - s.sunk).toNat) (by omega) h fun H3 h=>⟨_,_,_,rfl,?_⟩
  refine h.st 1 rfl rfl ?_;intro H4 h;refine⟨_,h.r 9,?_⟩;refine h.st 1 rfl rfl ?_;intro H5 h;refine fin4 _ _ k ?_;refine q0j.2 ⟨p,?_⟩;have e:(s.kept.drop (r.nx - s.sunk).toNat).length=s.kept.length - (r.nx - s.sunk).toNat:=z9y ..;simp only [q3k,e];exact h.o [1,2,3,4,5,6,7,8,0,10] 11
 ·rw [if_neg (z98 hk)] at k;refine fin4 _ _ k (q0j.2 ⟨p,h.o [0,1,2,3,4,5,6,7,8,10] 11⟩)
end
end Go.Proofs.YtfmkddccnjidmaaGreatDoor
namespace Go.Nm
section
variable {α:Type}
theorem qsx {next most B:Int}:∀{l:List α} {n:Int} {s:RowL α × Int},(∀p∈s.1,p.1 < B)→n+l.length≤B→∀p∈(q2k next most n l s).1,p.1 < B
 | [],n,s,h,_=>h
 | v::vs,n,s,h,hn=>by
  rw [z9c] at hn;refine qsx (l:=vs) (fun p hp=>?_) (by omega)
  unfold q22 at hp
  split at hp
  ·exact h p hp
  ·split at hp
   ·exact h p hp
   ·rcases qi9.1 hp with rfl|hp
    ·show n < B; omega
    ·exact h p hp
theorem pop_le {B:Int}:∀{l:RowL α} {next:Int},next≤B→(∀p∈l,p.1 < B)→(pop next l).2.1≤B
 | [],next,h,_=>h
 | (n,v)::r,next,h,hl=>by
  unfold pop
  split
  ·rename_i e;have:=hl _ (z9k ..);exact pop_le (l:=r) (next:=next+1) (by dsimp only at this; omega) fun p hp=>hl p (z9m _ hp)
  ·exact h
theorem qz1 {s:HS α}{first B:Int}{items:List α}(h1:s.next≤B)(h2:∀p∈s.rows,p.1 < B)(h3:first+items.length≤B) :
  (s.offer first items).1.next≤B∧∀p∈(s.offer first items).1.rows,p.1 < B:=by
 unfold HS.offer
 split
 ·exact⟨h1,h2⟩
 ·have h:=qsx (next:=s.next) (most:=s.most) (l:=items) (n:=first) (s:=(s.rows,0)) h2 h3;exact⟨pop_le h1 h,fun p hp=>h p (qwd.2 p hp)⟩
end
theorem qsy (ms:MS)(a t:Int):(ms.raise a t).1.lag=ms.lag:=by
 unfold MS.raise
 split
 ·rfl
 ·split <;> rfl
theorem hold_lag (ms:MS)(a:Int)(b:Bool):(ms.hold a b).1.lag=ms.lag:=by
 unfold MS.hold; split <;> rfl
theorem z7v (ms:MS)(a:Int):(ms.leave a).1.lag=ms.lag:=by
 unfold MS.leave; split <;> rfl
theorem join_lag (ms:MS)(a t:Int):(ms.join a t).1.lag=ms.lag:=by
 unfold MS.join
 split
 ·rfl
 ·split <;> rfl
theorem tick_lag (ms:MS)(t:Int):(ms.tick t).1.lag=ms.lag:=by
 unfold MS.tick; split <;> rfl
theorem qsz {c:Cfg}{now a:Int}{st:Str}{ms:MS}{cm:CM}{e:Pv}(h:MOk ms):MOk (q25 c now a st ms cm e).ms∧(q25 c now a st ms cm e).ms.lag=ms.lag:=by
 have h1:=h.raise a (q1t st.ck (flOf ms a) now e.stamp).1.lo;have h2:=qsy ms a (q1t st.ck (flOf ms a) now e.stamp).1.lo;unfold q25
 split
 ·exact⟨h,rfl⟩
 split
 ·exact⟨h,rfl⟩
 split
 ·exact⟨h1,h2⟩
 split
 ·exact⟨h1,h2⟩
 split <;> exact⟨h1,h2⟩
theorem qt0 {c:Cfg}{now a ep first:Int}{evs:List Pv}{x:JS}(h:MOk x.ms)(hl:-1≤x.st.last∧x.st.last≤4611686018427387903)(he:∀e∈evs,q7v e=true):∀n,n≤evs.length→
  MOk (q1a c now a ep first evs x n).1.ms∧(q1a c now a ep first evs x n).1.ms.lag=x.ms.lag∧-1≤(q1a c now a ep first evs x n).1.st.last∧(q1a c now a ep first evs x n).1.st.last≤4611686018427387903
 | 0,_=>⟨h,rfl,hl⟩
 | n+1,hn=>by
  have ih:=qt0 (c:=c) (now:=now) (a:=a) (ep:=ep) (first:=first) h hl he n (by omega);have hj:=qjs c now a (q1a c now a ep first evs x n).1.st (q1a c now a ep first evs x n).1.ms (q1a c now a ep first evs x n).1.cm (evs.getD n Pv.z);have hm:=qsz (c:=c) (now:=now) (a:=a) (st:=(q1a c now a ep first evs x n).1.st) (cm:=(q1a c now a ep first evs x n).1.cm) (e:=evs.getD n Pv.z) ih.1;have hev:q7v (evs.getD n Pv.z)=true:=by rw [q8u _ (by omega)]; exact he _ (z9f _)
  unfold q7v at hev;simp only [z99,z97] at hev;refine⟨hm.1,hm.2.trans ih.2.1,?_⟩;show -1≤(q25 c now a _ _ _ _).st.last∧(q25 c now a _ _ _ _).st.last≤_
  rcases hj.2.2 with e|e
  ·rw [e]; exact ih.2.2
  ·rw [e]; omega
theorem q1v.setStr {s:Sta}(ok:q1v s){k:Nat}{st st':Str}{now:Int}{ms:MS}{cm:CM}(hk:s.sts[k]?=some (some st))(h1:isT now)(h2:MOk ms)(h3:ms.lag=s.ms.lag)(h4:ShOk s.cfg.cells cm)(h5:qgy s.cfg st') :
  q1v { s with now:=now,ms:=ms,cm:=cm,sts:=s.sts.set k (some st') }:=by
 have hlt:k < s.sts.length:=(List.getElem?_eq_some_iff.1 hk).1;refine⟨ok.cfg,h1,ok.boots,ok.sunk,ok.rows,h2,h3.trans ok.lag,h4,?_,fun x hx=>?_,fun j=>?_,ok.kept⟩
 ·show (s.sts.set k _).length=64;rw [List.length_set,ok.len]
 ·rcases zbr hx with hx|hx
  ·exact ok.sts x hx
  ·cases hx; exact h5
 ·rw [← ok.reg j];show (∃x,(s.sts.set k (some st'))[j]?=some (some x))↔_
  by_cases e:j=k
  ·subst e;rw [List.getElem?_set_self hlt];exact⟨fun _=>⟨st,hk⟩,fun _=>⟨st',rfl⟩⟩
  ·rw [List.getElem?_set_ne (by omega)]
theorem q1v.upd {s:Sta}(ok:q1v s){now:Int}{ms:MS}{cm:CM}{kept:List Ot}{sunk boots:Int}(h1:isT now)(h2:MOk ms)(h3:ms.lag=s.ms.lag)(h4:ShOk s.cfg.cells cm)(h5:∀o∈kept,WC o.2)(h6:0≤sunk)(h7:0≤boots∧boots≤1099511627776) :
  q1v { s with now:=now,ms:=ms,cm:=cm,kept:=kept,sunk:=sunk,boots:=boots }:=
 ⟨ok.cfg,h1,h7,h6,ok.rows,h2,h3.trans ok.lag,h4,ok.len,ok.sts,ok.reg,h5⟩
theorem qhe {most:Int}{m:CM}(h:ShOk most m):∀o∈q0g m,WC o.2:=by
 intro o ho;unfold q0g at ho;obtain⟨k,_,rfl⟩:=z9d.1 ho;exact h.cell k
theorem z7w {c:Cfg}(h:qap c):qgy c (qaq c) where
 ck:=⟨by simp [qaq],fun s hs=>absurd hs (by simp [qaq]),by show (0:Int)≤0∧(0:Int)≤9223372036854775807; decide⟩
 rho:=rfl
 least:=rfl
 hs:=⟨by show (0:Int)≤0; decide,h.hd.1,h.hd.2,⟨by simp [qaq,q3y],fun p hp=>absurd hp (by simp [qaq])⟩⟩
 most:=rfl
 next:=by show (0:Int)≤_; decide
 rows:=fun p hp=>absurd hp (by simp [qaq])
 last:=by show (-1:Int)≤-1∧(-1:Int)≤4611686018427387903; decide
theorem z3o (c:Ck)(s:Smp):(qfg c s).1.rho=c.rho∧(qfg c s).1.least=c.least:=by
 unfold qfg
 split
 ·exact⟨rfl,rfl⟩
 ·dsimp only;generalize qgd _=B
  cases B <;> exact⟨rfl,rfl⟩
theorem batch_ok {s:Sta}{r:Rp}(ok:q1v s)(hL:RLim r)(hk:r.kind=4){st:Str}(hst:s.sts[r.ag.toNat]?=some (some st))(hv:∀e∈r.evs,wf64 e.value):q1v (q43 s r).1:=by
 have hsok:=ok.sts st (z9x hst);have hb:=hL.evs hk;unfold q4z at hb;simp only [z99,z97,za8] at hb;obtain⟨⟨hb1,hb2⟩,⟨⟨hb3,hb4⟩,hb5⟩,hb6⟩:=hb;have ho:=HS.offer_ok hsok.hs r.nx r.evs;have hm:=qaj (s:=st.hs) (first:=r.nx) (items:=r.evs);have hlt:=qz1 (s:=st.hs) (first:=r.nx) (B:=1099511627776) (items:=r.evs) hsok.next (fun p hp=>(hsok.rows p hp).1) (by omega)
 unfold q43;rw [hst];dsimp only;unfold q42;generalize st.hs.offer r.nx r.evs=O at *;have good:∀e∈O.2.1,q7v e=true∧wf64 e.value:=by
  intro e he
  rcases hm.1 e he with h|⟨q,h,rfl⟩
  ·exact⟨hb6 e h,hv e h⟩
  ·exact (hsok.rows q h).2
 have hj:=qjt (c:=s.cfg) (now:=r.nw) (a:=r.ag) (ep:=r.ep) (first:=st.hs.next) (evs:=O.2.1) (x:=⟨{ st with hs:=O.1 },s.ms,s.cm⟩) ok.sh (fun e he=>(good e he).2) O.2.1.length (z9e _)
 have hj2:=qt0 (c:=s.cfg) (now:=r.nw) (a:=r.ag) (ep:=r.ep) (first:=st.hs.next) (evs:=O.2.1) (x:=⟨{ st with hs:=O.1 },s.ms,s.cm⟩) ok.ms hsok.last (fun e he=>(good e he).1) O.2.1.length (z9e _)
 generalize q1a s.cfg r.nw r.ag r.ep st.hs.next O.2.1 ⟨{ st with hs:=O.1 },s.ms,s.cm⟩ O.2.1.length=G at *;refine ok.setStr hst hL.nw hj2.1 hj2.2.1 hj.1 ⟨by rw [hj.2.1]; exact hsok.ck,by rw [hj.2.1]; exact hsok.rho,by rw [hj.2.1]; exact hsok.least,by rw [hj.2.2.1]; exact ho.1,by rw [hj.2.2.1]; exact ho.2.2.2.trans hsok.most,by rw [hj.2.2.1]; exact hlt.1,?_,hj2.2.2⟩;rw [hj.2.2.1];intro p hp;refine⟨hlt.2 p hp,?_⟩
 rcases hm.2 p hp with h|h
 ·exact⟨hb6 _ h,hv _ h⟩
 ·exact (hsok.rows p h).2
theorem qcy {most:Int}{rows:List En}(hr:q2z rows)(a b n:Int) :
  ((q0u most rows a b n).2.2.1=true∧(q0u most rows a b n).1=rows.set a.toNat (q0u most rows a b n).2.1∧0 < (q0u most rows a b n).2.1.epoch∧(q0u most rows a b n).2.2.2=0∧(q0u most rows a b n).2.1.epoch=(rowE rows a).epoch+1)∨
  ((q0u most rows a b n).2.2.1=false∧(q0u most rows a b n).1=rows∧((q0u most rows a b n).2.2.2=0→(q0u most rows a b n).2.1=rowE rows a∧0 < (rowE rows a).epoch)):=by
 have h0:=(hr.at a).1;unfold q0u
 split
 ·exact .inr ⟨rfl,rfl,fun h=>by simp at h⟩
 dsimp only
 split
 ·rename_i h; exact .inr ⟨rfl,rfl,fun _=>⟨rfl,h.1⟩⟩
 split
 ·exact .inr ⟨rfl,rfl,fun h=>by simp at h⟩
 split
 ·exact .inr ⟨rfl,rfl,fun h=>by simp at h⟩
 split
 ·exact .inr ⟨rfl,rfl,fun h=>by simp at h⟩
 ·exact .inl ⟨rfl,rfl,by show 0 < (rowE rows a).epoch+1; omega,rfl,rfl⟩
theorem oldM_ok {s:Sta}(ok:q1v s)(a:Int):MOk (oldM s a)∧(oldM s a).lag=s.ms.lag:=by
 unfold oldM
 split
 ·exact⟨ok.ms.leave a,z7v _ _⟩
 ·exact⟨ok.ms,rfl⟩
theorem z7x {s:Sta}{r:Rp}(ok:q1v s)(hL:RLim r):q1v (q2t s r).1:=by
 have hg:=qcy (most:=s.cfg.agents) ok.rows r.ag r.bt r.nw;have hgo:=Go.Nm.grant_ok (most:=s.cfg.agents) ok.rows r.ag r.bt r.nw;have ho:=oldM_ok ok r.ag;unfold q2t
 split
 ·exact ok
 split
 ·rename_i hf
  rcases hg with ⟨-,g2,g3,g4,-⟩|⟨g1,_⟩
  ·have hlt:r.ag.toNat < s.sts.length:=by rw [ok.len]; have:=hL.ag; omega
   have hltr:r.ag.toNat < s.rows.length:=by rw [ok.rows.len]; have:=hL.ag; omega
   refine⟨ok.cfg,hL.nw,ok.boots,ok.sunk,hgo,ho.1.join _ _,(join_lag _ _ _).trans (ho.2.trans ok.lag),ok.sh,?_,fun x hx=>?_,fun j=>?_,ok.kept⟩
   ·show (s.sts.set _ _).length=64;rw [List.length_set,ok.len]
   ·rcases zbr hx with hx|hx
    ·exact ok.sts x hx
    ·cases hx; exact z7w ok.cfg
   ·dsimp only;rw [g2]
    by_cases e:j=r.ag.toNat
    ·subst e;rw [List.getElem?_set_self hlt,List.getElem?_set_self hltr];exact⟨fun _=>⟨_,rfl,g3⟩,fun _=>⟨_,rfl⟩⟩
    ·rw [List.getElem?_set_ne (by omega),List.getElem?_set_ne (by omega)];exact ok.reg j
  ·rw [g1] at hf; cases hf
 ·rename_i hf
  rcases hg with ⟨g1,_⟩|⟨-,g2,_⟩
  ·exact absurd g1 hf
  ·dsimp only;rw [g2];exact ok.upd (kept:=s.kept) (sunk:=s.sunk) (boots:=s.boots) hL.nw ok.ms rfl ok.sh ok.kept ok.sunk ok.boots
theorem qmd {m:CM}{b:Int}{o:Ot}(h:o∈q3c m b):o∈q0g m:=(zc0 _).subset h
theorem qz2 {s:Sta}{r:Rp}(ok:q1v s)(hv:∀e∈r.evs,wf64 e.value):q1v (q0h s r).1:=by
 unfold q0h
 split
 ·exact ok
 rename_i hR;have hR:r.right=true:=by simpa using hR
 have hL:=q2e hR
 split
 ·exact ok
 rename_i hrf;have hrf:q0y s r=0:=by simpa using hrf
 split
 ·rename_i hk;have hb:s.boots < 1099511627776:=by
   unfold q0y at hrf;rw [if_pos hk] at hrf
   split at hrf
   ·simp at hrf
   ·omega
  exact ok.upd (now:=s.now) (kept:=s.kept) (sunk:=s.sunk) (boots:=s.boots+1) ok.now ok.ms rfl ok.sh ok.kept ok.sunk (by have:=ok.boots; omega)
 split
 ·exact z7x ok hL
 split
 ·rename_i hk;obtain⟨st,hst⟩:=q34 ok hL hrf (.inl hk);have hsok:=ok.sts st (z9x hst);unfold qcx;rw [hst];have hc:=z3o st.ck r.sm;have hsm:=hL.sm;unfold Smp.ok at hsm;exact ok.setStr hst hsm.2.2.2.1 (ok.ms.hold _ _) (hold_lag _ _ _) ok.sh ⟨ckAdd_ok hsok.ck r.sm,hc.1.trans hsok.rho,hc.2.trans hsok.least,hsok.hs,hsok.most,hsok.next,hsok.rows,hsok.last⟩
 split
 ·rename_i hk;obtain⟨st,hst⟩:=q34 ok hL hrf (.inr (.inl hk));exact batch_ok ok hL hk hst hv
 split
 ·rename_i hk;obtain⟨st,hst⟩:=q34 ok hL hrf (.inr (.inr hk));have hsok:=ok.sts st (z9x hst);have same:=ok.upd (now:=r.nw) (kept:=s.kept) (sunk:=s.sunk) (boots:=s.boots) hL.nw ok.ms rfl ok.sh ok.kept ok.sunk ok.boots;unfold qsv;rw [hst];dsimp only
  split
  ·exact same
  split
  ·exact same
  ·have:=hL.st;exact ok.setStr hst hL.nw (ok.ms.raise _ _) (qsy _ _ _) ok.sh ⟨hsok.ck,hsok.rho,hsok.least,hsok.hs,hsok.most,hsok.next,hsok.rows,by show -1≤r.st∧r.st≤4611686018427387903; omega⟩
 split
 ·unfold q2r;exact ok.upd (sunk:=s.sunk) (boots:=s.boots) hL.nw (ok.ms.tick _) (tick_lag _ _) (z7n ok.sh) (fun o ho=>by
   rcases zai.1 ho with ho|ho
   ·exact ok.kept o ho
   ·exact qhe ok.sh o (qmd ho)) ok.sunk ok.boots
 ·unfold qwv
  split
  ·exact ok.upd (now:=s.now) (boots:=s.boots) ok.now ok.ms rfl ok.sh (fun o ho=>ok.kept o (zba ho)) hL.nx.1 ok.boots
  ·exact ok
theorem z3p {s:Sta}{r:Rp}(ok:q1v s)(hs:s.sunk≤1099511627776):(q0h s r).1.kept.length≤s.kept.length+1024∧(q0h s r).1.sunk≤1099511627776:=by
 have triv:s.kept.length≤s.kept.length+1024∧s.sunk≤1099511627776:=⟨by omega,hs⟩;unfold q0h
 split
 ·exact triv
 rename_i hR;have hR:r.right=true:=by simpa using hR
 have hL:=q2e hR
 split
 ·exact triv
 split
 ·exact triv
 split
 ·unfold q2t; split
  ·exact triv
  ·split <;> exact triv
 split
 ·unfold qcx; split <;> exact triv
 split
 ·unfold q43; split <;> exact triv
 split
 ·unfold qsv
  split
  ·split
   ·exact triv
   ·split <;> exact triv
  ·exact triv
 split
 ·unfold q2r qfs;have h1:(q3c s.cm (q18 s.cfg.gd (s.ms.tick r.nw).1.value)).length≤(q0g s.cm).length:=by unfold q3c; exact (zc0 _).length_le
  have h2:(q0g s.cm).length=s.cm.length:=by unfold q0g; rw [z9o,q6g]; simp [q00]
  have h3:=ok.sh.len;have h4:=ok.sh.m2;dsimp only;rw [z95];exact⟨by omega,hs⟩
 ·unfold qwv;have:=hL.nx
  split
  ·dsimp only; rw [z9y]; exact⟨by omega,this.2⟩
  ·exact triv
def cfgR (c:Cfg):Bool:=decide c.gd.ok && decide (1≤c.lag∧c.lag≤1099511627776) && decide (q38 c.rho∧0≤c.trust∧c.trust≤100) && decide (1≤c.agents∧c.agents≤64) && decide (1≤c.cells∧c.cells≤1024) && decide (1≤c.hold∧c.hold≤256)
theorem qft {c:Cfg}(h:cfgR c=true):qap c:=by
 unfold cfgR at h;simp only [z99,z97] at h;obtain⟨⟨⟨⟨⟨h1,h2⟩,h3⟩,h4⟩,h5⟩,h6⟩:=h;exact⟨h1,h2,h3,h4,h5,h6⟩
def newS (c:Cfg):Sta:=⟨c,0,0,0,List.replicate 64 En.z,MS.new c.lag,[],List.replicate 64 none,[]⟩
theorem qar {c:Cfg}(h:qap c):q1v (newS c) where
 cfg:=h
 now:=by show isT 0; decide
 boots:=by show (0:Int)≤0∧(0:Int)≤1099511627776; decide
 sunk:=by show (0:Int)≤0; decide
 rows:=z3d
 ms:=MOk.new h.lag.1 h.lag.2
 lag:=rfl
 sh:=⟨h.cl.1,h.cl.2,by simp [newS],fun p hp=>absurd hp (by simp [newS]),fun p hp=>absurd hp (by simp [newS]),fun p hp=>absurd hp (by simp [newS]),by have:=h.cl; simp [newS]; omega⟩
 len:=by simp [newS]
 sts:=fun st hs=>by
  have:=zc2 hs
  cases this
 reg:=fun k=>by
  unfold newS;dsimp only;rw [List.getElem?_replicate,List.getElem?_replicate]
  by_cases hk:k < 64
  ·rw [if_pos hk,if_pos hk]
   constructor
   ·rintro⟨st,h⟩; cases h
   ·rintro⟨e,h,h2⟩; cases h; simp [En.z] at h2
  ·rw [if_neg hk,if_neg hk]
   constructor
   ·rintro⟨st,h⟩; cases h
   ·rintro⟨e,h,h2⟩; cases h
 kept:=fun o ho=>absurd ho (by simp [newS])
structure AgR where
 en:En
 fl:Fl
 last:Int
 next:Int
 wait:Int
 smps:Int
def AgR.z:AgR:=⟨En.z,Fl.z,0,0,0,0⟩
abbrev encA (x:AgR):List Value:=[I64 x.en.epoch,I64 x.en.boot,I64 x.en.time,I64 x.fl.t,.bool x.fl.out,.bool x.fl.was,.bool x.fl.held,I64 x.last,I64 x.next,I64 x.wait,I64 x.smps]
def qz3 (s:Sta)(a:Int):AgR × Bool:=if 0 < (rowE s.rows a).epoch then (match q5j s a with
 | some st=>(⟨rowE s.rows a,flOf s.ms a,st.last,st.hs.next,(st.hs.rows.length:Nat),(st.ck.smps.length:Nat)⟩,true)
 | none=>(AgR.z,true)) else (AgR.z,false)
def atS (s:Sta)(a stamp:Int):Gp × Int:=match q5j s a with
 | some st=>q1t st.ck (flOf s.ms a) s.now stamp
 | none=>(Gp.z,19)
end Go.Nm
namespace Go.Proofs.YtfmkddccnjidmaaGreatDoor
open Go.Nm
section
variable {F L:List Assn} {H:Heap} {K KP:Value→Heap→Prop} {Q Q':Assn}
def eN (p:Prop)[Decidable p]:Int:=if p then 0 else 11
theorem qt1 {p:Prop}[Decidable p](h:p):eN p=0:=if_pos h
theorem qt2 {p:Prop}[Decidable p](h:¬p):eN p=11:=if_neg h
theorem emp1 (h:SatL H F):SatL H (emp::F):=by
 unfold SatL at *;simpa [star,qca] using h
theorem MarkE {lag:Int}(h:SatL H F)(k:∀p H',SatL H' F→K (.tuple #[.pointer p,I64 (eN (1≤lag∧lag≤1099511627776))]) H'):CF 52 #[I64 lag] H K:=by
 refine Ma.New_spec h (fun hn=>?_) fun h1 h2 mb rb H' h=>?_
 ·have:=k none H h; rw [qt2 (by omega)] at this; exact this
 ·have:=k (some ⟨mb,0,none⟩) H' h.tl.tl; rw [qt1 ⟨h1,h2⟩] at this; exact this
theorem ClockE {rho least:Int}(h:SatL H F)(k:∀p H',SatL H' F→K (.tuple #[.pointer p,I64 (eN (q38 rho∧0≤least∧least≤100))]) H'):CF 53 #[I64 rho,I64 least] H K:=by
 refine qlo h (fun hn=>?_) fun hp b H' h=>?_
 ·have:=k none H h; rw [qt2 hn] at this; exact this
 ·have:=k (some ⟨b,0,none⟩) H' h.tl; rw [qt1 hp] at this; exact this
theorem RollE {most:Int}(h:SatL H F)(k:∀p H',SatL H' F→K (.tuple #[.pointer p,I64 (eN (1≤most∧most≤64))]) H'):CF 54 #[I64 most] H K:=by
 refine Ro.New_spec h (fun hn=>?_) fun hp rb mb H' h=>?_
 ·have:=k none H h; rw [qt2 (by omega)] at this; exact this
 ·have:=k (some ⟨rb,0,none⟩) H' h.tl.tl; rw [qt1 (by omega)] at this; exact this
theorem ShelfE {most:Int}(h:SatL H F)(k:∀p H',SatL H' F→K (.tuple #[.pointer p,I64 (eN (1≤most∧most≤1024))]) H'):CF 55 #[I64 most] H K:=by
 refine qlv h (fun hn=>?_) fun rb mb H' ok h=>?_
 ·have:=k none H h; rw [qt2 (by omega)] at this; exact this
 ·have:=k (some ⟨rb,0,none⟩) H' h.tl.tl; rw [qt1 ⟨ok.m1,ok.m2⟩] at this; exact this
theorem HoldE {most:Int}(h:SatL H F)(k:∀p H',SatL H' F→K (.tuple #[.pointer p,I64 (eN (1≤most∧most≤256))]) H'):CF 56 #[I64 0,I64 most] H K:=by
 refine qjf (Q:=emp) h (fun hn=>?_) fun hb H' hp h=>?_
 ·have:=k none H h; rw [qt2 (by omega)] at this; exact this
 ·have:=k (some ⟨hb,0,none⟩) H' h.tl; rw [qt1 (by omega)] at this; exact this
theorem eq138 {a b c d e f:Int}:q4h Tryz.prog .eql 138 (.agg #[I64 a,I64 b,I64 c,I64 d,I64 e,I64 f]) (.agg #[I64 0,I64 0,I64 0,I64 0,I64 0,I64 0])
  (decide (a=0) && decide (b=0) && decide (c=0) && decide (d=0) && decide (e=0) && decide (f=0)):=by
 have h:=(qij (P:=Tryz.prog) (t:=138) (xs:=[I64 a,I64 b,I64 c,I64 d,I64 e,I64 f]) (ys:=[I64 0,I64 0,I64 0,I64 0,I64 0,I64 0])
  (r:=(a == 0 && (b == 0 && (c == 0 && (d == 0 && (e == 0 && (f == 0 && true))))))) (by kernel_rfl)).1
 have e:(a == 0 && (b == 0 && (c == 0 && (d == 0 && (e == 0 && (f == 0 && true))))))=(decide (a=0) && decide (b=0) && decide (c=0) && decide (d=0) && decide (e=0) && decide (f=0)):=by
  rw [za7];simp only [z99,beq_iff_eq,z97,Bool.and_true]
  constructor
  ·rintro⟨h1,h2,h3,h4,h5,h6⟩; exact⟨⟨⟨⟨⟨h1,h2⟩,h3⟩,h4⟩,h5⟩,h6⟩
  ·rintro⟨⟨⟨⟨⟨h1,h2⟩,h3⟩,h4⟩,h5⟩,h6⟩; exact⟨h1,h2,h3,h4,h5,h6⟩
 rw [e] at h;exact h
theorem eN0 (p:Prop)[Decidable p]:decide (eN p=0)=decide p:=by
 unfold eN
 by_cases h:p
 ·simp [h]
 ·simp [h]
theorem q92 {c:Cfg}(h:SatL H F)(k:∀H',SatL H' F→K (.bool (cfgR c)) H'):CF 13 #[.agg ⟨qks c⟩] H K:=by
 refine qcm ?_;refine h.al fun b _ h=>⟨_,h.r 0,_,h.r 0,_,h.r 0,?_⟩
 refine qs2 (g:=c.gd) h fun H2 h=>⟨_,_,_,_,rfl,?_⟩
 refine h.al fun b1 _ h=>?_
 refine h.st 0 rfl rfl ?_;intro H3 h;refine⟨_,h.r 1,MarkE h fun p1 H4 h=>⟨_,_,rfl,_,h.r 1,_,h.r 1,ClockE h fun p2 H5 h=>⟨_,_,rfl,_,h.r 1,RollE h fun p3 H6 h=>⟨_,_,rfl,_,h.r 1,ShelfE h fun p4 H7 h=>⟨_,_,rfl,_,h.r 1,HoldE h fun p5 H8 h=>⟨_,_,rfl,_,eq138,?_⟩⟩⟩⟩⟩⟩
 have e:cfgR c=(decide ((if c.gd.ok then (0:Int) else 11)=0) && decide (eN (1≤c.lag∧c.lag≤1099511627776)=0) && decide (eN (q38 c.rho∧0≤c.trust∧c.trust≤100)=0) && decide (eN (1≤c.agents∧c.agents≤64)=0) && decide (eN (1≤c.cells∧c.cells≤1024)=0) && decide (eN (1≤c.hold∧c.hold≤256)=0)):=by
  have h1:=eN0 c.gd.ok;unfold eN at h1;rw [h1,eN0,eN0,eN0,eN0,eN0]; rfl
 rw [← e];exact k _ h.tl.tl
theorem qfu {c:Cfg}(h:SatL H F)(k1:cfgR c=false→∀H',SatL H' F→K (.tuple #[.pointer none,I64 11]) H')(k2:cfgR c=true→∀sb H',SatL H' (stA Q sb (newS c)::F)→K (.tuple #[PA sb 0,I64 0]) H') :
  CF 16 #[.agg ⟨qks c⟩] H K:=by
 refine z1l ?_;refine h.al fun b _ h=>⟨_,_,_,_,_,_,_,_,_,h.q 0,?_⟩
 refine q92 (c:=c) h fun H1 h=>⟨_,rfl,fun hc=>?_,fun hc=>?_⟩
 ·exact k1 (by simpa using hc) _ h.tl
 have hR:cfgR c=true:=by simpa using hc
 have ok:=qft hR;refine⟨_,_,_,_,_,_,_,_,_,h.q 0,?_⟩;refine h.alm I64 ptV fun tm _ h=>?_
 refine h.al fun sb _ h=>⟨_,h.r 2,_,h.r 2,_,h.r 2,?_⟩
 refine qs2 (g:=c.gd) h fun H2 h=>⟨_,_,_,_,rfl,?_⟩
 rw [if_pos ok.gd];refine h.st 0 rfl rfl ?_;intro H3 h;refine⟨_,h.r 2,Ro.New_spec h (fun hn=>absurd ok.ag (by omega)) fun _ rb rm H4 h=>⟨_,_,rfl,?_⟩⟩
 refine h.st 2 rfl rfl ?_;intro H5 h;refine⟨_,h.r 4,Ma.New_spec h (fun hn=>absurd ok.lag (by omega)) fun _ _ mb mm H6 h=>⟨_,_,rfl,?_⟩⟩
 refine h.st 4 rfl rfl ?_;intro H7 h;refine⟨_,h.r 6,qlv h (fun hn=>absurd ok.cl (by omega)) fun hb hm H8 _ h=>⟨_,_,rfl,?_⟩⟩
 refine h.st 6 rfl rfl ?_;intro H9 h;refine k2 hR sb _ (q0j.2 ⟨⟨rb,rm,mb,mm,hb,hm,tm,none,0⟩,?_⟩);have h:=(h.sl_nil 64 74).o [8,0,7,5,6,3,4,1,2] 10;have h2:SatL H9 (strmA Q tm (List.replicate 64 none)::_):=q5r.2 ⟨List.replicate 64 none,by simp,by
  rw [qsp];have e:tabP 0 (List.replicate 64 (none:Option Nat))=[]:=by decide
  rw [e];have:=emp1 h;exact this.o [1,0] 2⟩
 exact h2.o [2,3,4,5,6,7,8,0,1] 9
end
open Go.Nm
section
variable {F L:List Assn} {H:Heap} {K KP:Value→Heap→Prop} {Q Q':Assn} {sb:Nat} {s:Sta}
theorem z7y (h:SatL H (stA Q sb s::F)):q1i Tryz.prog 24 #[PA sb 0] H (I64 s.now):=by
 obtain⟨p,h⟩:=q0j.1 h;exact St_Now_c ⟨_,h.r 0,rfl,rfl⟩
theorem qjw (h:SatL H (stA Q sb s::F)):q1i Tryz.prog 35 #[PA sb 0] H (I64 s.boots):=by
 obtain⟨p,h⟩:=q0j.1 h;exact z1e ⟨_,h.r 0,rfl,rfl⟩
theorem z3q (h:SatL H (stA Q sb s::F)):q1i Tryz.prog 28 #[PA sb 0] H (I64 s.sunk):=by
 obtain⟨p,h⟩:=q0j.1 h;exact z6c ⟨_,h.r 0,rfl,rfl⟩
theorem qww (h:SatL H (stA Q sb s::F)):q1i Tryz.prog 23 #[PA sb 0] H (I64 s.ms.value):=by
 obtain⟨p,h⟩:=q0j.1 h;exact z1i ⟨_,h.r 0,_,Ma.Value_spec h 3 rfl,rfl,rfl⟩
theorem qme (hl:s.kept.length≤1000000)(h:SatL H (stA Q sb s::F))
  (k:∀a c H',SatL H' (slA 64 74 a s.kept.length c (flat encO s.kept)::stA Q sb s::F)→K (.slice a s.kept.length c) H'):CF 27 #[PA sb 0] H K:=by
 obtain⟨p,h⟩:=q0j.1 h;refine z6d ⟨_,_,_,h.r 0,?_⟩;refine z30 h (fun H h=>h.sl_rd 8 rfl) hl fun a' c' H' h=>⟨_,_,_,rfl,k _ _ _ ?_⟩
 have h:=h.o [1,2,3,4,5,6,7,8,9,0] 10;have h:=q0j.2 ⟨p,h⟩;exact h.o [1,0] 2
theorem qox {k:Nat}{st:Str}(hst:s.sts[k]?=some (some st)):s.sts.set k (some st)=s.sts:=by
 have hlt:k < s.sts.length:=(List.getElem?_eq_some_iff.1 hst).1;have:s.sts[k]=some st:=by rw [List.getElem?_eq_getElem hlt] at hst; exact Option.some.inj hst
 rw [← this,zb6]
theorem z3r {a:Int}(hs:s.sts.length=64)(h:q5j s a=none):a < 0∨s.sts[a.toNat]?=some none∨s.sts[a.toNat]?=none:=by
 unfold q5j at h
 split at h
 ·left; assumption
 ·cases e:s.sts[a.toNat]? with
  | none=>exact .inr (.inr rfl)
  | some x=>
   rw [e] at h
   cases x with
   | none=>exact .inr (.inl rfl)
   | some y=>simp at h
theorem qt3 {a:Int}{st:Str}(h:q5j s a=some st):0≤a∧s.sts[a.toNat]?=some (some st):=by
 unfold q5j at h
 split at h
 ·cases h
 ·refine⟨by omega,?_⟩
  cases e:s.sts[a.toNat]? with
  | none=>rw [e] at h; simp at h
  | some x=>
   rw [e] at h
   cases x with
   | none=>simp at h
   | some y=>simp at h; rw [h]
set_option maxHeartbeats 1000000 in
theorem z7z {a stamp:Int}(ok:q1v s)(h:SatL H (stA Q sb s::F))(k:∀H',SatL H' (stA Q sb s::F)→K (.tuple #[aggG (atS s a stamp).1,I64 (atS s a stamp).2]) H') :
  CF 31 #[PA sb 0,I64 a,I64 stamp] H K:=by
 refine St_At_c ?_;refine h.al fun b _ h=>?_
 have h:=h.o [1,0] 2;obtain⟨p,h⟩:=q0j.1 h;unfold atS at k
 cases hs:q5j s a with
 | none=>
  rw [hs] at k;refine⟨_,h.r 0,_,z7l (h.o [7] 9) (z3r ok.len hs),fun _=>?_,fun hc=>absurd hc (by simp)⟩
  refine h.st 9 rfl rfl ?_;intro H2 h;refine⟨_,_,h.q 9,?_⟩;have h:=q0j.2 ⟨p,h⟩;exact k _ (h.o [0] 2)
 | some st=>
  rw [hs] at k;obtain⟨ha0,hst⟩:=qt3 hs;have hag':((a.toNat:Nat):Int)=a:=by omega
  have hsok:=ok.sts st (z9x hst);have h:=h.o [7,0,1,2,3,4,5,6,8,9] 10;obtain⟨stb,bl,hole,h⟩:=q7q h hst;have h:=h.o [1,0,2,3,4,5,6,7,8,9,10,11] 12;obtain⟨cb,hb,h⟩:=q1h.1 h;have hptr:=qao hole h 3 rfl;rw [hag'] at hptr;refine⟨_,h.r 5,_,hptr,fun hc=>absurd hc (by simp),fun _=>?_⟩
  have h:=h.o [5,8,9,0,1,2,3,4,6,7,10,11,12,13] 14;refine qjq (a:=a) (stamp:=stamp) (now:=s.now) hsok.ck.len rfl rfl h fun H3 h=>⟨_,_,_,rfl,?_⟩
  refine h.st 13 rfl rfl ?_;intro H4 h;refine⟨_,_,h.q 13,k _ ?_⟩;have h:=h.o [3,4,5,6,7,0,8,9,1,2,10,11,12] 14;have h:=q1h.2 ⟨cb,hb,h⟩;have h:=h.o [1,0,2,3,4,5,6,7,8,9,10] 11;have h:=q90 hole h;rw [qox hst] at h;exact q0j.2 ⟨p,h.o [1,2,3,4,5,6,7,0,8] 9⟩
theorem qoy {st:Str}(hsok:qgy s.cfg st):∀q∈st.hs.rows,wf64 q.1:=fun q hq=>by
 have h1:=(hsok.rows q hq).1;have h2:=(hsok.hs.rows.inb q hq).1;have h3:=hsok.hs.next0;unfold wf64; omega
theorem qjx {st:Str}(hsok:qgy s.cfg st):st.hs.rows.length≤256:=by
 have hrl:=hsok.hs.rows.length;have hm2:=hsok.hs.most2;omega
set_option maxHeartbeats 2000000 in
theorem qwx {a:Int}(ok:q1v s)(h:SatL H (stA Q sb s::F))(k:∀H',SatL H' (stA Q sb s::F)→K (.tuple #[.agg ⟨encA (qz3 s a).1⟩,.bool (qz3 s a).2]) H') :
  CF 26 #[PA sb 0,I64 a] H K:=by
 refine z1h ?_;refine h.al fun b _ h=>?_
 have h:=h.o [1,0] 2;obtain⟨p,h⟩:=q0j.1 h;refine⟨_,h.r 0,?_⟩;have h:=h.o [1,2,0,3,4,5,6,7,8,9] 10;refine Ro.Of_spec ok.rows (agent:=a) h fun H2 h=>⟨_,_,_,_,rfl,?_⟩
 refine h.al fun b1 _ h=>?_
 refine h.st 0 rfl rfl ?_;intro H3 h;unfold qz3 at k;refine⟨fun hc=>?_,fun hc=>?_⟩
 ·rw [if_neg (by simpa using hc)] at k;refine h.st 10 rfl rfl ?_;intro H4 h;refine⟨_,_,_,_,_,_,_,_,_,_,_,h.q 10,?_⟩;have h:=h.o [3,1,2,4,5,6,7,8,9] 11;exact k _ (q0j.2 ⟨p,h⟩)
 have he:0 < (rowE s.rows a).epoch:=by simpa using hc
 rw [if_pos he] at k;obtain⟨ha0,st,hst⟩:=ok.str he;rw [qbg ha0 hst] at k;dsimp only at k;have hag':((a.toNat:Nat):Int)=a:=by omega
 have hsok:=ok.sts st (z9x hst);refine⟨_,h.r 3,?_⟩;have h:=h.o [4,5,0,1,2,3,6,7,8,9,10] 11;refine Ma.Of_spec (a:=a) h fun H4 h=>⟨_,_,_,_,_,rfl,?_⟩
 refine h.al fun b2 _ h=>?_
 refine h.st 0 rfl rfl ?_;intro H5 h;have h:=h.o [9,0,1,2,3,4,5,6,7,8,10,11] 12;obtain⟨stb,bl,hole,h⟩:=q7q h hst;have h:=h.o [1,0,2,3,4,5,6,7,8,9,10,11,12,13] 14;obtain⟨cb,hb,h⟩:=q1h.1 h;have hptr:=qao hole h 3 rfl;rw [hag'] at hptr;have hlen:=qjx hsok;refine⟨_,h.r 11,_,hptr,_,_,_,h.q 8,_,_,_,_,h.q 5,q01 ⟨_,h.r 0,q01 ⟨_,h.r 0,_,q8c (h.o [2] 3),q01 ⟨_,h.r 0,q01 ⟨_,h.rd 0 rfl 0,?_⟩⟩⟩⟩⟩;have h:=h.o [2,0,1,3,4,5,6,7,8,9,10,11,12,13,14,15] 16;refine q8x h hsok.hs.rows.rising (qoy hsok) (by omega) fun wa wc H6 h=>⟨_,_,_,rfl,h.rd 2 rfl 0,h.r 2,h.q 6,h.q 9,?_⟩
 have h:=h.o [3,0,1,2,4,5,6,7,8,9,10,11,12,13,14,15,16] 17;have hl8:=hsok.ck.len;refine qaf h (by omega) fun sa sc H7 h=>⟨_,_,_,rfl,h.r 4,h.q 7,h.q 10,?_⟩
 refine h.st 17 rfl rfl ?_;intro H8 h;refine⟨_,_,_,_,_,_,_,_,_,_,_,h.q 17,k _ ?_⟩;have h:=h.o [4,1,3,5,6,13,11,12,8,9,14,15,16] 18;have h:=q1h.2 ⟨cb,hb,h⟩;have h:=h.o [1,0,2,3,4,5,6,7,8,9,10] 11;have h:=q90 hole h;rw [qox hst] at h;exact q0j.2 ⟨p,h.o [1,2,3,4,5,6,7,0,8] 9⟩
end
end Go.Proofs.YtfmkddccnjidmaaGreatDoor
namespace Go.Nm
def flN (bs:List Bool):Nat→Int
 | 0=>0
 | n+1=>flN bs n+if bs.getD n false then (2:Int) ^ n else 0
def cbB (k:Ky)(c:Cl):List Int:=q2h [k.win]++q1d [k.ser,strB (q3a c)]
abbrev smB (x:Smp):List Int:=usB [x.asked,x.got,x.sent,x.came]
abbrev rwB (p:Int × Pv):List Int:=usB [p.1]++evB p.2
def agB1 (a:Int)(e:En)(fl:Fl)(st:Str):List Int:=
 (usB [a,e.epoch,e.boot,e.time,fl.t,flN [fl.out,fl.was,fl.held] 3]++q2h [st.last])++usB [flN [st.ck.held] 1,st.ck.streak,(st.ck.smps.length:Int)]
def agB (a:Int)(e:En)(fl:Fl)(st:Str):List Int:=
 ((agB1 a e fl st++st.ck.smps.flatMap smB)++usB [st.hs.next,(st.hs.rows.length:Int)])++st.hs.rows.flatMap rwB
theorem qz4 (bs:List Bool):∀n,n≤3→0≤flN bs n∧flN bs n < (2:Int) ^ n
 | 0,_=>⟨z9z _,by show (0:Int) < 1; decide⟩
 | n+1,h=>by
  have ih:=qz4 bs n (by omega);have hp:(2:Int) ^ (n+1)=2 ^ n+2 ^ n:=by rw [Int.pow_succ]; omega
  unfold flN;rw [hp]
  split <;> omega
end Go.Nm
namespace Go.Proofs.YtfmkddccnjidmaaGreatDoor
open Go.Nm
section
variable {F L:List Assn} {H:Heap} {K KP:Value→Heap→Prop} {Q Q':Assn} {sb:Nat} {s:Sta}
theorem qmf {b:Nat}{bs:List Bool}(hl:bs.length≤3)(h:SatL H F)(i:Nat)(hA:nth i F=cellsA b (bs.map .bool) 4):q1i Tryz.prog 124 #[.slice (some ⟨b,0,none⟩) bs.length bs.length] H (I64 (flN bs bs.length)):=by
 refine qru ?_;refine⟨fun sum i H'=>H'=H∧∃j:Nat,i=j∧j≤bs.length∧sum=flN bs j,fun _ i _=>bs.length - i.toNat,⟨rfl,0,rfl,by omega,rfl⟩,?_⟩
 rintro sum t H1 ⟨rfl,j,rfl,hj,rfl⟩;refine⟨fun hc=>?_,fun hc=>?_⟩
 ·have hlt:j < bs.length:=by have:=z96 hc; omega
  have hrd:=(h.ce_rd i hA).at hlt;refine⟨by omega,_,_,hrd.1,_,hrd.2,?_⟩;have hb:=qz4 bs j (by omega);have h8:(2:Int) ^ j≤4:=by
   rcases (by omega:j=0∨j=1∨j=2) with rfl|rfl|rfl <;> decide
  have hs:flN bs (j+1)=flN bs j+if bs[j] then (2:Int) ^ j else 0:=by
   show flN bs j+(if bs.getD j false then _ else _)=_
   rw [q8u _ hlt]
  intro Jn hJ;have nxt:Jn (flN bs (j+1)) H1:=by
   refine hJ _ _ ?_;rw [w64 (x:=(j:Int)+1)];exact⟨⟨rfl,j+1,by omega,hlt,rfl⟩,by dsimp only; omega⟩
  refine⟨fun hv=>⟨by omega,?_⟩,fun hv=>?_⟩
  ·rw [hs,if_pos hv] at nxt;have e:i64.wrap (1*2 ^ (min (Int.toNat (j:Int)) (i64.bits)))=(2:Int) ^ j:=by
    rcases (by omega:j=0∨j=1∨j=2) with rfl|rfl|rfl <;> decide
   rw [e,w64];exact nxt
  ·rw [hs,if_neg (by rw [hv]; simp),Int.add_zero] at nxt;exact nxt
 ·have hge:j=bs.length:=by have:=z98 hc; omega
  subst hge;exact⟨rfl,rfl⟩
theorem z80 {k:Ky}{c:Cl}(wc:WC c)(hs:k.ser.size≤5000):(cbB k c).length≤10100:=by
 have h1:=q3z [k.win];have h2:=q3i (s:=k.ser) (by omega);have h3:=qe8 wc;have h4:=q3i (s:=strB (q3a c)) (by rw [q4u]; omega);rw [q4u] at h4;have e:q1d [k.ser,strB (q3a c)]=q2o k.ser++q2o (strB (q3a c)):=by simp [q1d]
 unfold cbB;rw [z95,e,z95];simp only [z9c,z9v] at h1;omega
theorem qgj {key:Ky}{c:Cl}(wc:WC c)(hs:key.ser.size≤5000)(h:SatL H F)
  (k:∀a c' H',SatL H' (slA 5 1 a (cbB key c).length c' ((cbB key c).map U8)::F)→K (.slice a (cbB key c).length c') H'):CF 65 #[aggK key,aggC c] H K:=by
 have hcl:=z80 wc hs;have h3:=qe8 wc;have hz:=q4u (q3a c);refine qgu ?_;refine h.al fun b _ h=>?_
 refine h.al fun b1 _ h=>⟨_,h.r 1,_,h.r 1,_,_,_,_,_,_,_,_,h.rda 0 rfl,?_⟩
 refine h.al fun b2 _ h=>⟨h.rda 1 rfl,h.r 2,?_⟩
 refine q6h h 0 rfl fun a1 c1 H2 h=>⟨_,_,_,rfl,h.rda 2 rfl,h.r 3,?_⟩
 refine qw4 wc h fun a2 c2 H3 h=>⟨_,_,_,rfl,h.r 4,?_⟩
 have hsr:=qdw (c:=c2) (bs:=q3a c) (by
  rcases (q3l (F:=star _) h).2 with ⟨h2,_⟩|⟨b,pre,post,e',fr,h2,_⟩
  ·exact .inl h2
  ·exact .inr ⟨_,_,h2⟩) (h.sl_rd 0 rfl)
 refine⟨_,hsr,?_⟩;refine h.al fun b3 _ h=>?_
 have e:q1d [key.ser,strB (q3a c)]=q2o key.ser++q2o (strB (q3a c)):=by simp [q1d]
 have l1:=q3i (s:=key.ser) (by omega);have l2:=q3i (s:=strB (q3a c)) (by omega);refine qbb (ts:=[key.ser,strB (q3a c)]) h (fun H h=>h.ce_rd 0 rfl) (fun i=>?_) (by
   intro x hx;simp only [z9l,zaw,or_false] at hx
   rcases hx with rfl|rfl <;> omega) (by simp) fun a3 c3 H5 h=>⟨_,_,_,rfl,?_⟩
 ·have hle:(q1d ([key.ser,strB (q3a c)].take i)).length≤(q1d [key.ser,strB (q3a c)]).length:=by
   have hh:[key.ser,strB (q3a c)]=[key.ser,strB (q3a c)].take i++[key.ser,strB (q3a c)].drop i:=(zbn _ _).symm;rw [show (q1d [key.ser,strB (q3a c)]).length=(q1d ([key.ser,strB (q3a c)].take i++[key.ser,strB (q3a c)].drop i)).length by rw [← hh]];unfold q1d;rw [zby,z95]; omega
  rw [e,z95] at hle;omega
 ·have hbl:(q2h [key.win]++q1d [key.ser,strB (q3a c)]).length≤10100:=hcl;rw [z95] at hbl;refine appB h (i:=3) rfl rfl rfl (h.sl_rd 0 rfl) (by omega) fun a4 c4 H6 h=>⟨_,_,_,rfl,?_⟩
  exact k _ _ _ (h.o [3] 7)
theorem qz5 (l:List Smp):(l.flatMap smB).length≤40*l.length:=by
 induction l with
 | nil=>simp
 | cons i l ih=>
  have:(smB i).length≤10*4:=q1e [i.asked,i.got,i.sent,i.came];rw [zaa,z95,z9c];omega
theorem qz6 (l:RowL Pv):(l.flatMap rwB).length≤1330*l.length:=by
 induction l with
 | nil=>simp
 | cons i l ih=>
  have h1:=q1e [i.1];have h2:=qos i.2;rw [zaa,z95,z9c,z95];simp only [z9c,z9v] at h1;omega
set_option maxHeartbeats 4000000 in
theorem qt4 {a:Int}{e:En}{st:Str}(ok:q1v s)(ha:0≤a)(hst:s.sts[a.toNat]?=some (some st)){p:SAd}{A1 A2 A3 A4 A5:Assn}(h:SatL H (Q::cellsA sb (q3k s p) 115::A1::A2::Ma.markC p.mb p.mm s.ms::Ma.mapF p.mm s.ms.m::A3::A4::strmA Q p.tm s.sts::A5::F))
  (k:∀a' c' H',SatL H' (slA 5 1 a' (agB a e (flOf s.ms a) st).length c' ((agB a e (flOf s.ms a) st).map U8)::Q::cellsA sb (q3k s p) 115::A1::A2::Ma.markC p.mb p.mm s.ms::Ma.mapF p.mm s.ms.m::A3::A4::strmA Q p.tm s.sts::A5::F)→K (.slice a' (agB a e (flOf s.ms a) st).length c') H') :
  CF 62 #[PA sb 0,I64 a,aggE e] H K:=by
 have hag':((a.toNat:Nat):Int)=a:=by omega
 have hsok:=ok.sts st (z9x hst);have hl8:=hsok.ck.len;have hrl:=qjx hsok;refine qiz ?_;refine h.al fun b _ h=>?_
 have h:=h.o [9,2,3,4,5,6,7,8,10,0,1] 11;obtain⟨stb,bl,hole,h⟩:=q7q h hst;have h:=h.o [1,0,2,3,4,5,6,7,8,9,10,11,12] 13;obtain⟨cb,hb,h⟩:=q1h.1 h;have hptr:=qao hole h 3 rfl;rw [hag'] at hptr;refine⟨_,h.r 5,_,hptr,_,h.r 5,?_⟩;have h:=h.o [8,9,0,1,2,3,4,5,6,7,10,11,12,13,14] 15;refine Ma.Of_spec (a:=a) h fun H1 h=>⟨_,_,_,_,_,rfl,?_⟩
 refine h.al fun b1 _ h=>?_
 refine h.st 0 rfl rfl ?_;intro H2 h;refine⟨_,h.r 14,_,h.r 14,_,h.r 14,_,h.r 0,_,h.r 0,_,h.r 0,_,h.r 0,?_⟩;refine h.al fun b2 _ h=>⟨h.r 1,h.r 15,h.r 15,h.r 15,_,qmf (bs:=[(flOf s.ms a).out,(flOf s.ms a).was,(flOf s.ms a).held]) (by simp) h 0 rfl,?_⟩
 refine h.al fun b3 _ h=>?_
 refine qak (vs:=[a,e.epoch,e.boot,e.time,(flOf s.ms a).t,flN [(flOf s.ms a).out,(flOf s.ms a).was,(flOf s.ms a).held] 3]) h (fun H h=>h.ce_rd 0 rfl) (by simp) fun a1 c1 H3 h=>⟨_,_,_,rfl,q01 ⟨_,h.r 6,?_⟩⟩
 have q1:=q1e [a,e.epoch,e.boot,e.time,(flOf s.ms a).t,flN [(flOf s.ms a).out,(flOf s.ms a).was,(flOf s.ms a).held] 3];have q2:=q3z [st.last];have q3:=q1e [flN [st.ck.held] 1,st.ck.streak,(st.ck.smps.length:Int)];have q4:=q1e [st.hs.next,(st.hs.rows.length:Int)];simp only [z9c,z9v] at q1 q2 q3 q4;unfold agB agB1 at k;generalize usB [a,e.epoch,e.boot,e.time,(flOf s.ms a).t,flN [(flOf s.ms a).out,(flOf s.ms a).was,(flOf s.ms a).held] 3]=X1 at *;refine h.al fun b4 _ h=>?_
 refine q6h h 0 rfl fun a2 c2 H4 h=>⟨_,_,_,rfl,?_⟩
 generalize q2h [st.last]=X2 at *;refine appB h (i:=2) rfl rfl rfl (h.sl_rd 0 rfl) (by omega) fun a3 c3 H5 h=>⟨_,_,_,rfl,?_⟩
 have h:=h.o [9,2,6,7,8,10,11,12,13,14,15,16,17,18,20] 21;refine q01 ⟨_,h.rd 4 rfl 0,?_⟩;refine qaf h (by omega) fun sa sc H6 h=>⟨_,_,_,rfl,q01 ⟨_,h.rd 5 rfl 0,_,qae (h.o [1] 2),q01 ⟨_,h.rd 5 rfl 0,?_⟩⟩⟩
 refine h.al fun b5 _ h=>⟨h.rd 6 rfl 0,_,qmf (bs:=[st.ck.held]) (by simp) h 0 rfl,_,qvq (h.o [2] 3),?_⟩
 refine h.al fun b6 _ h=>?_
 refine qak (vs:=[flN [st.ck.held] 1,st.ck.streak,(st.ck.smps.length:Int)]) h (fun H h=>h.ce_rd 0 rfl) (by simp) fun a4 c4 H7 h=>⟨_,_,_,rfl,?_⟩
 generalize usB [flN [st.ck.held] 1,st.ck.streak,(st.ck.smps.length:Int)]=X3 at *;refine appB h (i:=5) rfl rfl rfl (h.sl_rd 0 rfl) (by rw [z95]; omega) fun a5 c5 H8 h=>⟨_,_,_,rfl,?_⟩
 have hO:((X1++X2)++X3).length≤100:=by simp only [z95]; omega
 generalize (X1++X2)++X3=O at *;refine⟨fun a' n' c' i H'=>∃j:Nat,i=j∧j≤st.ck.smps.length∧n'=(O++(st.ck.smps.take j).flatMap smB).length∧
  SatL H' (slA 5 1 a' (O++(st.ck.smps.take j).flatMap smB).length c' ((O++(st.ck.smps.take j).flatMap smB).map U8)::slA 43 4 sa st.ck.smps.length sc (flat q4x st.ck.smps)::ckA cb st.ck::Ma.markC p.mb p.mm s.ms::Ma.mapF p.mm s.ms.m::cellsA stb [PA cb 0,PA hb 0,I64 st.last] 149::hldA Q hb st.hs::mapA I64 ptV p.tm (tabP 0 bl)::qgx Q bl s.sts a.toNat::
   cellsA sb (q3k s p) 115::A1::A2::A3::A4::A5::Q::F),
  fun _ _ _ i _=>st.ck.smps.length - i.toNat,⟨0,rfl,by omega,by simp,?_⟩,?_⟩
 ·rw [show O++(st.ck.smps.take 0).flatMap smB=O by simp];exact h.o [5,3,4,6,7,8,9,10,11,12,13,14,15,16,17,18] 19
 rintro a6 n6 c6 i H9 ⟨j,rfl,hj,rfl,h⟩;have ljn:=qz5 (st.ck.smps.take j);have ljt:(st.ck.smps.take j).length≤st.ck.smps.length:=by rw [z9r]; omega
 refine⟨fun hlt=>?_,fun hlt=>?_⟩
 ·have hlt:j < st.ck.smps.length:=by have:=z96 hlt; omega
  have hr:=h.sl_rd 1 rfl;refine⟨by omega,_,_,hr.some q2b (by omega) hlt,_,_,_,_,hr.els q2b hlt,?_⟩;refine h.al fun b8 _ h=>?_
  refine h.st 0 rfl rfl ?_;intro H10 h;refine⟨_,h.r 0,_,h.r 0,_,h.r 0,_,h.r 0,?_⟩;refine h.al fun b9 _ h=>?_
  refine qak (vs:=[st.ck.smps[j].asked,st.ck.smps[j].got,st.ck.smps[j].sent,st.ck.smps[j].came]) h (fun H h=>h.ce_rd 0 rfl) (by simp) fun a7 c7 H11 h=>⟨_,_,_,rfl,?_⟩
  have q5:=q1e [st.ck.smps[j].asked,st.ck.smps[j].got,st.ck.smps[j].sent,st.ck.smps[j].came];simp only [z9c,z9v] at q5;refine appB h (i:=3) rfl rfl rfl (h.sl_rd 0 rfl) (by rw [z95]; omega) fun a8 c8 H12 h=>⟨_,_,_,rfl,?_⟩
  rw [w64 (x:=(j:Int)+1)];have e5:O++(st.ck.smps.take (j+1)).flatMap smB=(O++(st.ck.smps.take j).flatMap smB)++usB [st.ck.smps[j].asked,st.ck.smps[j].got,st.ck.smps[j].sent,st.ck.smps[j].came]:=by
   rw [q14 (f:=smB) hlt,z9h]
  rw [← e5] at h ⊢;exact⟨⟨j+1,by omega,hlt,rfl,h.o [3,4,5,6,7,8,9,10,11,12,13,14,15,16,17,18] 19⟩,by dsimp only; omega⟩
 have hge:st.ck.smps.length≤j:=by have:=z98 hlt; omega
 rw [z9q hge] at h ljn ⊢;have hO2:(O++st.ck.smps.flatMap smB).length≤500:=by rw [z95]; omega
 generalize O++st.ck.smps.flatMap smB=O2 at *;refine q01 ⟨_,h.r 5,q01 ⟨_,h.r 5,?_⟩⟩;have h:=h.o [6,0,2,3,4,5,7,8,9,10,11,12,13,14,15] 16;refine q8x h hsok.hs.rows.rising (qoy hsok) (by omega) fun wa wc H10 h=>⟨_,_,_,rfl,h.r 6,?_⟩
 have h:=h.o [1,0,2,3,4,5,6,7,8,9,10,11,12,13,14,15] 16;refine qwf h fun hb2 H11 h=>⟨_,rfl,?_⟩
 refine qwe h hsok.hs.rows.rising (qoy hsok) (by omega) fun ea ec evs H12 hevs hlab h=>⟨_,_,_,rfl,?_⟩
 have hel:evs.length=st.hs.rows.length:=by have:=congrArg List.length hevs; simpa using this
 refine q01 ⟨_,h.r 8,_,q8c (h.o [2] 3),?_⟩;refine h.al fun b10 _ h=>?_
 refine qak (vs:=[st.hs.next,(st.hs.rows.length:Int)]) h (fun H h=>h.ce_rd 0 rfl) (by simp) fun a7 c7 H13 h=>⟨_,_,_,rfl,?_⟩
 generalize usB [st.hs.next,(st.hs.rows.length:Int)]=X4 at *;refine appB h (i:=6) rfl rfl rfl (h.sl_rd 0 rfl) (by omega) fun a8 c8 H14 h=>⟨_,_,_,rfl,?_⟩
 have hO3:(O2++X4).length≤600:=by rw [z95]; omega
 generalize O2++X4=O3 at *;have hkl:(q00 st.hs.rows).length=st.hs.rows.length:=by simp [q00]
 refine⟨fun a' n' c' i H'=>∃j:Nat,i=j∧j≤st.hs.rows.length∧n'=(O3++(st.hs.rows.take j).flatMap rwB).length∧
  SatL H' (slA 5 1 a' (O3++(st.hs.rows.take j).flatMap rwB).length c' ((O3++(st.hs.rows.take j).flatMap rwB).map U8)::slA 95 4 ea evs.length ec (flat encV evs)::slA 2 1 wa st.hs.rows.length wc ((q00 st.hs.rows).map I64)::hldA Q hb st.hs::ckA cb st.ck::Ma.markC p.mb p.mm s.ms::Ma.mapF p.mm s.ms.m::cellsA stb [PA cb 0,PA hb 0,I64 st.last] 149::mapA I64 ptV p.tm (tabP 0 bl)::qgx Q bl s.sts a.toNat::
   cellsA sb (q3k s p) 115::A1::A2::A3::A4::A5::Q::F),
  fun _ _ _ i _=>st.hs.rows.length - i.toNat,⟨0,rfl,by omega,by simp,?_⟩,?_⟩
 ·rw [show O3++(st.hs.rows.take 0).flatMap rwB=O3 by simp];exact h.o [6,2,5,4,7,8,9,10,11,12,13,14,15,16,17,18,19] 20
 rintro a9 n9 c9 i H15 ⟨j,rfl,hj,rfl,h⟩;have ljn:=qz6 (st.hs.rows.take j);have ljt:(st.hs.rows.take j).length≤st.hs.rows.length:=by rw [z9r]; omega
 refine⟨fun hlt=>?_,fun hlt=>?_⟩
 ·have hlt:j < st.hs.rows.length:=by have:=z96 hlt; omega
  have hltk:j < (q00 st.hs.rows).length:=by omega
  have hlte:j < evs.length:=by omega
  have hrd:=(h.sl_rd 2 rfl).at hltk;refine⟨by omega,_,_,hrd.1,_,hrd.2,?_⟩;refine h.al fun b12 _ h=>?_
  refine q5q h 0 rfl fun a10 c10 H16 h=>⟨_,_,_,rfl,?_⟩
  have q5:=q1e [(q00 st.hs.rows)[j]];simp only [z9c,z9v] at q5;refine appB h (i:=2) rfl rfl rfl (h.sl_rd 0 rfl) (by rw [z95]; omega) fun a11 c11 H17 h=>⟨_,_,_,rfl,?_⟩
  have hrv:=h.sl_rd 3 rfl;refine⟨by omega,_,_,hrv.some q0w (by omega) hlte,_,_,_,_,_,_,hrv.els q0w hlte,?_⟩;refine qji (e:=evs[j]) h (fun H h=>(hlab _ (z9f hlte)).at h 18 rfl) fun a12 c12 H18 h=>⟨_,_,_,rfl,?_⟩
  have q6:=qos evs[j].p;refine appB h (i:=3) rfl rfl rfl (h.sl_rd 0 rfl) (by simp only [z95]; omega) fun a13 c13 H19 h=>⟨_,_,_,rfl,?_⟩
  rw [w64 (x:=(j:Int)+1)];have ek:(q00 st.hs.rows)[j]=st.hs.rows[j].1:=by simp [q00]
  have ep:evs[j].p=st.hs.rows[j].2:=by
   have h1:(evs.map Ev.p)[j]'(by simpa using hlte)=(st.hs.rows.map (·.2))[j]'(by simpa using hlt):=by simp only [hevs]
   simpa using h1
  have e5:O3++(st.hs.rows.take (j+1)).flatMap rwB=((O3++(st.hs.rows.take j).flatMap rwB)++usB [(q00 st.hs.rows)[j]])++evB evs[j].p:=by
   rw [q14 (f:=rwB) hlt,ek,ep,z9h,z9h]
  rw [← e5] at h ⊢;exact⟨⟨j+1,by omega,hlt,rfl,h.o [3,4,5,6,7,8,9,10,11,12,13,14,15,16,17,18,19] 20⟩,by dsimp only; omega⟩
 ·have hge:st.hs.rows.length≤j:=by have:=z98 hlt; omega
  rw [z9q hge] at h ⊢;refine k _ _ _ ?_;have h:=h.o [7,4,3,8,9,10,11,12,5,6,13,14,15,0,16] 17;have h:=q1h.2 ⟨cb,hb,h⟩;have h:=h.o [1,0,2,3,4,5,6,7,8,9,10,11,12] 13;have h:=q90 hole h;rw [qox hst] at h;exact h.o [9,10,1,2,3,4,5,6,7,0,8] 11
end
end Go.Proofs.YtfmkddccnjidmaaGreatDoor
namespace Go.Nm
def agOf (s:Sta)(p:Int × En):List Int:=match q5j s p.1 with
 | some st=>agB p.1 p.2 (flOf s.ms p.1) st
 | none=>[]
def nStr (s:Sta):Nat:=(s.sts.filter Option.isSome).length
abbrev ceB (o:Ot):List Int:=cbB o.1 o.2
def stB1 (s:Sta):List Int:=(usB [s.now,s.boots,s.sunk,s.ms.now]++q2h [s.ms.value])++usB [(nStr s:Int)]
def stB2 (s:Sta):List Int:=(stB1 s++(tab 0 s.rows).flatMap (agOf s))++usB [(s.cm.length:Int)]
def stB3 (s:Sta):List Int:=(stB2 s++(q0g s.cm).flatMap ceB)++usB [(s.kept.length:Int)]
def stB (s:Sta):List Int:=stB3 s++s.kept.flatMap ceB
structure qwy (s:Sta):Prop where
 cm:∀p∈s.cm,p.1.ser.size≤5000
 kept:∀o∈s.kept,o.1.ser.size≤5000
theorem qoz {α:Type}:∀{l:List (Option α)} {i:Nat},(tabP i l).length=(l.filter Option.isSome).length
 | [],i=>rfl
 | none::r,i=>qoz (l:=r) (i:=i+1)
 | some b::r,i=>by
  show (_::tabP (i+1) r).length=_;rw [z9c,qoz (l:=r)]; rfl
theorem qej {α β:Type}:∀{l:List (Option α)} {m:List (Option β)},l.map Option.isSome=m.map Option.isSome→(l.filter Option.isSome).length=(m.filter Option.isSome).length
 | [],[],_=>rfl
 | x::r,y::m,h=>by
  simp only [za3,List.cons.injEq] at h;have ih:=qej h.2;rw [zab,zab,h.1]
  split
  ·rw [z9c,z9c,ih]
  ·exact ih
 | [],y::m,h=>by simp at h
 | x::r,[],h=>by simp at h
theorem qek {m:CM}{o:Ot}(h:o∈q0g m):∃p∈m,p.1=o.1:=by
 unfold q0g at h;obtain⟨k,hk,rfl⟩:=z9d.1 h;have:=(q19 _).mem_iff.1 hk;obtain⟨p,hp,e⟩:=z9d.1 this;exact⟨p,hp,e⟩
end Go.Nm
namespace Go.Proofs.YtfmkddccnjidmaaGreatDoor
open Go.Nm
section
variable {F L:List Assn} {H:Heap} {K KP:Value→Heap→Prop} {Q Q':Assn} {sb:Nat} {s:Sta}
theorem agB_len {a:Int}{e:En}{fl:Fl}{st:Str}(hsok:qgy s.cfg st):(agB a e fl st).length≤345000:=by
 have q1:=q1e [a,e.epoch,e.boot,e.time,fl.t,flN [fl.out,fl.was,fl.held] 3];have q2:=q3z [st.last];have q3:=q1e [flN [st.ck.held] 1,st.ck.streak,(st.ck.smps.length:Int)];have q4:=q1e [st.hs.next,(st.hs.rows.length:Int)];have q5:=qz5 st.ck.smps;have q6:=qz6 st.hs.rows;have h1:=hsok.ck.len;have h2:=qjx hsok;unfold agB agB1;simp only [z95,z9c,z9v] at *;omega
theorem qhf (ok:q1v s)(p:Int × En):(agOf s p).length≤345000:=by
 unfold agOf
 cases h:q5j s p.1 with
 | none=>simp
 | some st=>exact agB_len (ok.sts st (z9x (qt3 h).2))
theorem q93 {α:Type}{f:α→List Int}{B:Nat}:∀{l:List α},(∀x∈l,(f x).length≤B)→(l.flatMap f).length≤B*l.length
 | [],_=>by simp
 | x::r,h=>by
  have h1:=h x (z9k ..);have h2:=q93 (l:=r) fun y hy=>h y (z9m _ hy)
  rw [zaa,z95,z9c,Nat.mul_succ]; omega
theorem qp0 {o:Ot}(wc:WC o.2)(hs:o.1.ser.size≤5000):(ceB o).length≤10100:=z80 wc hs
theorem qz7:(stB1 s).length≤60:=by
 have q1:=q1e [s.now,s.boots,s.sunk,s.ms.now];have q2:=q3z [s.ms.value];have q3:=q1e [(nStr s:Int)];unfold stB1;simp only [z95,z9c,z9v] at *;omega
theorem strm_len {tm:Nat}{sts:List (Option Str)}(h:SatL H (strmA Q tm sts::F)):q0c Tryz.prog (Builtin.len_ #[113] 3 #[(.map (some tm))]) H (.int .i64 ((sts.filter Option.isSome).length:Nat)):=by
 obtain⟨bl,hm,h⟩:=q5r.1 h;have:=h.mp_len (ty:=3) z7k 0 rfl;rw [qoz,qej hm] at this;exact this
set_option maxHeartbeats 8000000 in
theorem q7c (ok:q1v s)(ser:qwy s)(hkl:s.kept.length≤50000)(h:SatL H (Q::stA Q sb s::F))
  (k:∀a c H',SatL H' (slA 5 1 a (stB s).length c ((stB s).map U8)::Q::stA Q sb s::F)→K (.slice a (stB s).length c) H') :
  CF 15 #[PA sb 0] H K:=by
 refine z1m ?_;refine h.al fun b _ h=>?_
 have h:=h.o [2,0,1] 3;obtain⟨p,h⟩:=q0j.1 h;intro Jn hJ;have hle:=qyv ok.rows;have hagl:((tab 0 s.rows).flatMap (agOf s)).length≤345000*64:=by
  have:=q93 (f:=agOf s) (l:=tab 0 s.rows) (B:=345000) fun x _=>qhf ok x
  have:345000*(tab 0 s.rows).length≤345000*64:=zbe _ hle;omega
 have hol:=q86 (m:=s.cm);have hcl:=ok.sh.len;have hcm:=ok.sh.m2;have hO:∀o∈q0g s.cm,(ceB o).length≤10100:=fun o ho=>by
  obtain⟨q,hq,e⟩:=qek ho;exact qp0 (qhe ok.sh o ho) (by rw [← e]; exact ser.cm q hq)
 have hKp:∀o∈s.kept,(ceB o).length≤10100:=fun o ho=>qp0 (ok.kept o ho) (ser.kept o ho)
 have main:∀ob a c H',SatL H' (cellsA ob [.slice a (usB [s.now,s.boots,s.sunk,s.ms.now]).length c] 24::slA 5 1 a (usB [s.now,s.boots,s.sunk,s.ms.now]).length c ((usB [s.now,s.boots,s.sunk,s.ms.now]).map U8)::
   cellsA sb (q3k s p) 115::Ro.rollC p.rb p.rm s.cfg.agents::Ro.mapE p.rm s.rows::Ma.markC p.mb p.mm s.ms::Ma.mapF p.mm s.ms.m::shC p.hb p.hm s.cfg.cells::mapC p.hm s.cm::strmA Q p.tm s.sts::slA 64 74 p.ka s.kept.length p.kc (flat encO s.kept)::cellsA b [PA sb 0] 27::Q::F)→Jn ob 0 H':=by
  intro ob a0 c0 H1 h;refine hJ _ _ _ ?_;have q1:=q1e [s.now,s.boots,s.sunk,s.ms.now];have q2:=q3z [s.ms.value];have q3:=q1e [(nStr s:Int)];have q4:=q1e [(s.cm.length:Int)];have q5:=q1e [(s.kept.length:Int)];simp only [z9c,z9v] at q1 q2 q3 q4 q5;have hS1:=qz7 (s:=s);have eS1:stB1 s=(usB [s.now,s.boots,s.sunk,s.ms.now]++q2h [s.ms.value])++usB [(nStr s:Int)]:=rfl;have eS2:stB2 s=(stB1 s++(tab 0 s.rows).flatMap (agOf s))++usB [(s.cm.length:Int)]:=rfl;have eS3:stB3 s=(stB2 s++(q0g s.cm).flatMap ceB)++usB [(s.kept.length:Int)]:=rfl;have hS2:(stB2 s).length≤22100000:=by rw [eS2,z95,z95]; omega
  have hcl2:((q0g s.cm).flatMap ceB).length≤10100*1024:=by
   have h1:=q93 (f:=ceB) (l:=q0g s.cm) (B:=10100) hO;have:10100*(q0g s.cm).length≤10100*1024:=zbe _ (by omega);omega
  have hS3:(stB3 s).length≤40000000:=by rw [eS3,z95,z95]; omega
  generalize usB [s.now,s.boots,s.sunk,s.ms.now]=X0 at *;refine⟨_,_,_,h.r 0,_,h.r 11,q01 ⟨_,h.r 2,_,Ma.Value_spec h 5 rfl,?_⟩⟩;refine h.al fun b1 _ h=>⟨h.r 1,?_⟩
  refine q6h h 0 rfl fun a1 c1 H2 h=>⟨_,_,_,rfl,h.r 2,?_⟩
  refine appB h (i:=3) rfl rfl rfl (h.sl_rd 0 rfl) (by omega) fun a2 c2 H3 h=>⟨_,_,_,rfl,?_⟩
  generalize q2h [s.ms.value]=X1 at *;refine h.st 2 rfl rfl ?_;intro H4 h;have h:=h.o [2,3,4,5,6,7,8,9,10,11,12,13,14] 15;refine⟨_,_,_,h.r 0,_,h.r 11,q01 ⟨_,h.r 2,_,strm_len (h.o [9] 10),?_⟩⟩;refine h.al fun b2 _ h=>⟨h.r 1,?_⟩
  refine q5q h 0 rfl fun a3 c3 H5 h=>⟨_,_,_,rfl,h.r 2,?_⟩
  refine appB h (i:=3) rfl rfl rfl (h.sl_rd 0 rfl) (by rw [z95]; unfold nStr at q3; omega) fun a4 c4 H6 h=>⟨_,_,_,rfl,?_⟩
  rw [show (X0++X1)++usB [((s.sts.filter Option.isSome).length:Int)]=stB1 s from eS1.symm] at h ⊢;refine h.st 2 rfl rfl ?_;intro H7 h;have h:=h.o [2,3,4,5,6,7,8,9,10,11,12,13,14] 15;refine⟨_,h.r 11,q01 ⟨_,h.r 2,?_⟩⟩;refine Ro.All_spec h fun c0' H8 h=>⟨_,_,rfl,rfl,fun R hR1 hR2 hy=>?_⟩
  have h:=h.rng R;refine Ro.All1_spec (rb:=p.rb) (mb:=p.rm) (most:=s.cfg.agents) (c0:=c0') ok.rows (fun j=>exS fun q:Option Addr × Nat=>star [cellsA ob [.slice q.1 (stB1 s++((tab 0 s.rows).take j).flatMap (agOf s)).length q.2] 24,slA 5 1 q.1 (stB1 s++((tab 0 s.rows).take j).flatMap (agOf s)).length q.2 ((stB1 s++((tab 0 s.rows).take j).flatMap (agOf s)).map U8),
    cellsA sb (q3k s p) 115,Ma.markC p.mb p.mm s.ms,Ma.mapF p.mm s.ms.m,strmA Q p.tm s.sts,cellsA b [PA sb 0] 27,Q,pt (H8.size+1) (.loop R)]) (pur False)
   (F:=pt H8.size (.deferred (some []))::shC p.hb p.hm s.cfg.cells::mapC p.hm s.cm::slA 64 74 p.ka s.kept.length p.kc (flat encO s.kept)::F) ?_ ?_ ?_ ?_
  ·refine q0q.2 ⟨(a4,c4),SatL.shut [_,_,_,_,_,_,_,_,_] ?_⟩;rw [show stB1 s++((tab 0 s.rows).take 0).flatMap (agOf s)=stB1 s by simp];exact h.o [3,4,5,8,9,12,14,15,0,2,6,7,1,10,11,13] 16
  ·intro j hj G H9 K1 h kt _;obtain⟨⟨a5,c5⟩,h⟩:=q0q.1 h;have h:=SatL.open (A:=[_,_,_,_,_,_,_,_,_]) h;dsimp only at h;refine hy _ _ _ ?_;refine⟨_,_,_,_,rfl,h.getO 8 rfl,?_⟩;refine h.al fun b3 _ h=>?_
   refine h.st 0 rfl rfl ?_;intro H10 h;refine⟨h.getO 9 rfl,h.stl 9 rfl fun H11 h=>⟨_,_,_,h.r 1,_,h.r 7,_,_,_,h.q 0,?_⟩⟩
   have hmem:=z9f hj;have htk:=q7p hmem;have hepo:0 < (rowE s.rows (tab 0 s.rows)[j].1).epoch:=by
    have hlk:=qot (i:=0) (l:=s.rows) (k:=(tab 0 s.rows)[j].1.toNat);rw [z9s,show (((tab 0 s.rows)[j].1.toNat:Nat):Int)=(tab 0 s.rows)[j].1 by omega] at hlk;have h1:q09 (tab 0 s.rows)[j].1 (tab 0 s.rows)=some (tab 0 s.rows)[j].2:=q28 qec hmem;have h2:=qed ok.rows (agent:=(tab 0 s.rows)[j].1);rw [h1] at h2;rw [← h2];exact htk.2.2
   obtain⟨ha0,st,hst⟩:=ok.str hepo;have hag:agOf s (tab 0 s.rows)[j]=agB (tab 0 s.rows)[j].1 (tab 0 s.rows)[j].2 (flOf s.ms (tab 0 s.rows)[j].1) st:=by
    unfold agOf; rw [qbg ha0 hst]
   have hagn:=qhf ok (tab 0 s.rows)[j];have ljn:=q93 (f:=agOf s) (l:=(tab 0 s.rows).take j) (B:=345000) fun x _=>qhf ok x
   have ljt:((tab 0 s.rows).take j).length≤(tab 0 s.rows).length:=by rw [z9r]; omega
   have ljm:345000*((tab 0 s.rows).take j).length≤345000*64:=zbe _ (by omega);have h:=emp1 (emp1 (emp1 (emp1 (emp1 h))));have h:=h.o [13,8,0,1,9,10,2,3,11,4,5,6,7,12,14] 15;refine qt4 (e:=(tab 0 s.rows)[j].2) ok ha0 hst h fun a6 c6 H12 h=>⟨_,_,_,rfl,h.r 12,?_⟩
   rw [← hag] at h ⊢;refine appB h (i:=13) rfl rfl rfl (h.sl_rd 0 rfl) (by rw [z95]; omega) fun a7 c7 H13 h=>⟨_,_,_,rfl,?_⟩
   refine h.st 12 rfl rfl ?_;intro H14 h;refine⟨h.getO 15 rfl,kt _ ?_⟩;have h:=h.setO 15 rfl (.loop R);have e5:stB1 s++((tab 0 s.rows).take (j+1)).flatMap (agOf s)=(stB1 s++((tab 0 s.rows).take j).flatMap (agOf s))++agOf s (tab 0 s.rows)[j]:=by
    rw [q14 (f:=agOf s) hj,z9h]
   refine q0q.2 ⟨(a7,c7),SatL.shut [_,_,_,_,_,_,_,_,_] ?_⟩;dsimp only;rw [e5];exact h.o [12,13,2,5,6,9,14,1,15] 16
  ·intro H9 h;obtain⟨⟨a5,c5⟩,h⟩:=q0q.1 h;have h:=SatL.open (A:=[_,_,_,_,_,_,_,_,_]) h;dsimp only at h;rw [zap] at h;refine⟨.ready,none,by decide,by rw [q6a hR1 hR2]; exact h.getO 8 rfl,h.stl 8 rfl fun H10 h=>⟨rfl,?_⟩⟩
   refine⟨_,_,_,h.r 0,_,h.r 6,q01 ⟨_,h.r 2,_,z29 h 13 14 rfl rfl,?_⟩⟩;refine h.al fun b4 _ h=>⟨h.r 1,?_⟩
   refine q5q h 0 rfl fun a6 c6 H11 h=>⟨_,_,_,rfl,h.r 2,?_⟩
   refine appB h (i:=3) rfl rfl rfl (h.sl_rd 0 rfl) (by rw [z95]; omega) fun a7 c7 H12 h=>⟨_,_,_,rfl,?_⟩
   rw [← eS2] at h ⊢;refine h.st 2 rfl rfl ?_;intro H13 h;have h:=h.o [2,3,4,5,6,7,8,9,12,13,14,15,16,17] 18;refine⟨_,h.r 6,q01 ⟨_,h.r 2,?_⟩⟩;refine qfj h fun c1' H14 h=>⟨_,_,rfl,rfl,fun R1 hR3 hR4 hy2=>?_⟩
   have h:=h.rng R1;refine qcq (sb:=p.hb) (mb:=p.hm) (most:=s.cfg.cells) (m:=s.cm) (c0:=c1') (by omega)
    (fun j=>exS fun q:Option Addr × Nat=>star [cellsA ob [.slice q.1 (stB2 s++((q0g s.cm).take j).flatMap ceB).length q.2] 24,slA 5 1 q.1 (stB2 s++((q0g s.cm).take j).flatMap ceB).length q.2 ((stB2 s++((q0g s.cm).take j).flatMap ceB).map U8),shC p.hb p.hm s.cfg.cells,mapC p.hm s.cm,pt (H14.size+1) (.loop R1)])
    (fun _=>pur False) (star [cellsA ob [.slice a7 (stB2 s).length c7] 24,slA 5 1 a7 (stB2 s).length c7 ((stB2 s).map U8),pt (H14.size+1) (.loop R1)])
    (F:=pt H14.size (.deferred (some []))::cellsA sb (q3k s p) 115::Ma.markC p.mb p.mm s.ms::Ma.mapF p.mm s.ms.m::strmA Q p.tm s.sts::cellsA b [PA sb 0] 27::Q::Ro.rollC p.rb p.rm s.cfg.agents::Ro.mapE p.rm s.rows::pt H8.size (.deferred (some []))::slA 64 74 p.ka s.kept.length p.kc (flat encO s.kept)::F) ?_ ?_ ?_ ?_ ?_
   ·have h:=h.o [3,4,0,2,14,15,1,5,6,7,8,9,10,11,12,13,16] 17;have h:=SatL.shut [_,_,_] h;exact h.o [1,2,3,0] 4
   ·intro G H15 h;have h:=h.o [2,0,1] 3;have h:=SatL.open (A:=[_,_,_]) h;refine q0q.2 ⟨(a7,c7),SatL.shut [_,_,_,_,_] ?_⟩;rw [show stB2 s++((q0g s.cm).take 0).flatMap ceB=stB2 s by simp];exact h.o [0,1,3,4,2] 5
   ·intro j hj G H15 K1 h kt _;obtain⟨⟨a8,c8⟩,h⟩:=q0q.1 h;have h:=SatL.open (A:=[_,_,_,_,_]) h;dsimp only at h;refine hy2 _ _ _ ?_;have hmem:=z9f hj;have hwc:=qhe ok.sh _ hmem;have hser:(q0g s.cm)[j].1.ser.size≤5000:=by
     obtain⟨q,hq,e⟩:=qek hmem;rw [← e]; exact ser.cm q hq
    have hcn:(cbB (q0g s.cm)[j].1 (q0g s.cm)[j].2).length≤10100:=hO _ hmem;have ljn:=q93 (f:=ceB) (l:=(q0g s.cm).take j) (B:=10100) fun x hx=>hO x (zbc hx)
    have ljt:((q0g s.cm).take j).length≤(q0g s.cm).length:=by rw [z9r]; omega
    have ljm:10100*((q0g s.cm).take j).length≤10100*1024:=zbe _ (by omega);refine⟨_,_,_,_,_,_,_,_,_,_,rfl,h.getO 4 rfl,?_⟩;refine h.al fun b5 _ h=>?_
    refine h.st 0 rfl rfl ?_;intro H16 h;refine h.al fun b6 _ h=>?_
    refine h.sta 0 rfl rfl fun H17 h=>?_
    refine⟨h.getO 6 rfl,h.stl 6 rfl fun H18 h=>⟨_,_,_,h.r 2,_,_,h.q 1,_,_,_,_,_,_,_,_,h.rda 0 rfl,?_⟩⟩
    refine qgj (key:=(q0g s.cm)[j].1) (c:=(q0g s.cm)[j].2) hwc hser h fun a9 c9 H19 h=>⟨_,_,_,rfl,h.r 3,?_⟩
    refine appB h (i:=4) rfl rfl rfl (h.sl_rd 0 rfl) (by rw [z95]; omega) fun a10 c10 H20 h=>⟨_,_,_,rfl,?_⟩
    refine h.st 3 rfl rfl ?_;intro H21 h;refine⟨h.getO 7 rfl,kt _ ?_⟩;have h:=h.setO 7 rfl (.loop R1);have e5:stB2 s++((q0g s.cm).take (j+1)).flatMap ceB=(stB2 s++((q0g s.cm).take j).flatMap ceB)++ceB (q0g s.cm)[j]:=by
     rw [q14 (f:=ceB) hj,z9h]
    refine q0q.2 ⟨(a10,c10),SatL.shut [_,_,_,_,_] ?_⟩;dsimp only;rw [e5];exact h.o [3,4,5,6,7] 8
   ·intro H15 h;obtain⟨⟨a8,c8⟩,h⟩:=q0q.1 h;have h:=SatL.open (A:=[_,_,_,_,_]) h;dsimp only at h;rw [zap] at h;refine⟨.ready,none,by decide,by rw [q6a hR3 hR4]; exact h.getO 4 rfl,h.stl 4 rfl fun H16 h=>⟨rfl,?_⟩⟩
    refine⟨_,_,_,h.r 0,_,h.r 10,q01 ⟨_,_,_,h.r 6,?_⟩⟩;refine h.al fun b7 _ h=>⟨h.r 1,?_⟩
    refine q5q h 0 rfl fun a9 c9 H17 h=>⟨_,_,_,rfl,h.r 2,?_⟩
    refine appB h (i:=3) rfl rfl rfl (h.sl_rd 0 rfl) (by rw [z95]; omega) fun a10 c10 H18 h=>⟨_,_,_,rfl,?_⟩
    rw [← eS3] at h ⊢;refine h.st 2 rfl rfl ?_;intro H19 h;refine⟨_,h.r 12,q01 ⟨_,_,_,h.r 8,?_⟩⟩;refine⟨fun i H'=>∃(j:Nat) (a:Option Addr) (c:Nat),i=j∧j≤s.kept.length∧
     SatL H' (cellsA ob [.slice a (stB3 s++(s.kept.take j).flatMap ceB).length c] 24::slA 5 1 a (stB3 s++(s.kept.take j).flatMap ceB).length c ((stB3 s++(s.kept.take j).flatMap ceB).map U8)::pt H14.size (.deferred (some []))::pt H8.size (.deferred (some []))::
      Q::cellsA sb (q3k s p) 115::Ro.rollC p.rb p.rm s.cfg.agents::Ro.mapE p.rm s.rows::Ma.markC p.mb p.mm s.ms::Ma.mapF p.mm s.ms.m::shC p.hb p.hm s.cfg.cells::mapC p.hm s.cm::strmA Q p.tm s.sts::slA 64 74 p.ka s.kept.length p.kc (flat encO s.kept)::F),
     fun i _=>s.kept.length - i.toNat,⟨0,a10,c10,rfl,by omega,?_⟩,?_⟩
    ·rw [show stB3 s++(s.kept.take 0).flatMap ceB=stB3 s by simp];exact h.o [2,3,7,16,13,8,14,15,9,10,4,5,11,17] 18
    rintro i H20 ⟨j,a,c,rfl,hj,h⟩;refine⟨fun hlt=>?_,fun hlt=>?_⟩
    ·have hlt:j < s.kept.length:=by have:=z96 hlt; omega
     have hmem:=z9f hlt;have hcn:(cbB s.kept[j].1 s.kept[j].2).length≤10100:=hKp _ hmem;have ljn:=q93 (f:=ceB) (l:=s.kept.take j) (B:=10100) fun x hx=>hKp x (zbc hx)
     have ljt:(s.kept.take j).length≤s.kept.length:=by rw [z9r]; omega
     have ljm:10100*(s.kept.take j).length≤10100*50000:=zbe _ (by omega);have hr:=h.sl_rd 13 rfl;refine⟨by omega,_,_,hr.some q2j (by omega) hlt,_,_,_,_,_,_,_,_,_,_,hr.els q2j hlt,?_⟩;refine h.al fun b9 _ h=>?_
     refine h.sta 0 rfl rfl fun H21 h=>?_
     refine⟨_,_,_,h.r 1,_,_,h.q 0,_,_,_,_,_,_,_,_,h.rdt (l:=[_,_]) 0 rfl rfl,?_⟩;refine qgj (key:=s.kept[j].1) (c:=s.kept[j].2) (ok.kept _ hmem) (ser.kept _ hmem) h fun a9 c9 H22 h=>⟨_,_,_,rfl,h.r 2,?_⟩
     refine appB h (i:=3) rfl rfl rfl (h.sl_rd 0 rfl) (by rw [z95]; omega) fun a11 c11 H23 h=>⟨_,_,_,rfl,?_⟩
     refine h.st 2 rfl rfl ?_;intro H24 h;rw [w64 (x:=(j:Int)+1)];have e5:stB3 s++(s.kept.take (j+1)).flatMap ceB=(stB3 s++(s.kept.take j).flatMap ceB)++ceB s.kept[j]:=by
      rw [q14 (f:=ceB) hlt,z9h]
     refine⟨⟨j+1,a11,c11,by omega,hlt,?_⟩,by dsimp only; omega⟩;rw [e5];exact h.o [2,3,4,5,6,7,8,9,10,11,12,13,14,15] 16
    ·have hge:s.kept.length≤j:=by have:=z98 hlt; omega
     rw [z9q hge] at h;refine⟨_,_,_,h.r 0,h.getO 2 rfl,?_⟩;have h:=h.setO 2 rfl (.deferred none);refine⟨h.getO 3 rfl,?_⟩;have h:=h.setO 3 rfl (.deferred none);refine k a c _ ?_;have h:=h.o [5,6,7,8,9,10,11,12,13,1,4] 14;have h:=q0j.2 ⟨p,h⟩;exact h.o [1,2,0] 3
   ·intro j H15 _ h;exact absurd (SatL.consP h).1 id
  ·intro H9 h;exact absurd (SatL.consP h).1 id
 refine⟨_,h.r 9,q01 ⟨_,h.r 0,_,h.r 9,q01 ⟨_,h.r 0,_,h.r 9,q01 ⟨_,h.r 0,_,h.r 9,q01 ⟨_,h.r 0,_,Ma.Now_spec h 3 rfl,?_,?_⟩⟩⟩⟩⟩
 ·refine h.al fun b10 _ h=>⟨?_,?_⟩
  ·refine qak (vs:=[s.now,s.boots,s.sunk,s.ms.now]) h (fun H h=>h.ce_rd 0 rfl) (by simp) fun a1 c1 H2 h=>⟨_,_,_,rfl,?_⟩
   refine h.al fun b11 _ h=>?_
   refine h.st 0 rfl rfl ?_;intro H3 h;exact main _ _ _ _ (h.o [0,1,3,4,5,6,7,8,9,10,11,12,13] 14)
  ·refine h.al fun b12 _ h=>?_
   refine qak (vs:=[s.now,s.boots,s.sunk,s.ms.now]) h (fun H h=>h.ce_rd 1 rfl) (by simp) fun a1 c1 H2 h=>⟨_,_,_,rfl,?_⟩
   refine h.st 1 rfl rfl ?_;intro H3 h;exact main _ _ _ _ (h.o [1,0,3,4,5,6,7,8,9,10,11,12,13] 14)
 ·refine h.al fun b13 _ h=>⟨Ma.Now_spec h 4 rfl,h.r 1,h.r 10,h.r 1,h.r 10,h.r 1,h.r 10,h.r 1,h.r 10,?_⟩
  refine h.al fun b14 _ h=>?_
  refine qak (vs:=[s.now,s.boots,s.sunk,s.ms.now]) h (fun H h=>h.ce_rd 0 rfl) (by simp) fun a1 c1 H2 h=>⟨_,_,_,rfl,?_⟩
  refine h.st 2 rfl rfl ?_;intro H3 h;exact main _ _ _ _ (h.o [2,0,3,4,5,6,7,8,9,10,11,12,13] 14)
end
end Go.Proofs.YtfmkddccnjidmaaGreatDoor
namespace Go.Nm
def qfv (hs:HS Pv)(s:RS):Except Int (HS Pv × RS):=match q1n s with
 | .error e=>.error e
 | .ok (n,s1)=>match q50 s1 with
  | .error e=>.error e
  | .ok (ev,s2)=>if q4z n [ev]=false then .error 10 else
   if 0 < (hs.offer n [ev]).2.1.length∨0 < (hs.offer n [ev]).2.2 then .error 10 else .ok ((hs.offer n [ev]).1,s2)
end Go.Nm
namespace Go.Proofs.YtfmkddccnjidmaaGreatDoor
open Go.Nm
section
variable {F L:List Assn} {H:Heap} {K KP:Value→Heap→Prop} {Q Q':Assn} {sb:Nat} {s:Sta}
def WPost (rb hb:Nat)(Q:Assn)(F:List Assn)(K KP:Value→Heap→Prop):Except Int (HS Pv × RS)→Prop
 | .ok (hs,s)=>∀Q' H',Sub Q Q'→s.e=0→q04 s.bs→s.bs.length≤1099511627776→SatL H' (Q'::crdA rb s::hldA Q' hb hs::F)→K (.tuple #[]) H'
 | .error e=>∀Q' H',e≠0→Sub Q Q'→SatL H' (Q'::F)→KP (pnV e) H'
set_option maxHeartbeats 2000000 in
theorem qp1 {rb hb:Nat}{r:RS}{hs:HS Pv}(ok:hs.Ok)(hn:hs.next≤1125899906842624)(h:SatL H (Q::crdA rb r::hldA Q hb hs::F))(hb0:q04 r.bs)(hl0:r.bs.length≤1099511627776)
  (k:WPost rb hb Q F K KP (qfv hs r)):CP 107 #[.agg #[PA rb 0],PA hb 0] H K KP:=by
 refine qrv ?_;refine h.al fun b H0 h=>?_
 intro Jn hJ;unfold qfv at k;have main:∀(n:Int) (Q1:Assn) (ev:Ev) (s2:RS) eb H',(match (if q4z n [ev.p]=false then (.error 10:Except Int (HS Pv × RS)) else
    if 0 < (hs.offer n [ev.p]).2.1.length∨0 < (hs.offer n [ev.p]).2.2 then .error 10 else .ok ((hs.offer n [ev.p]).1,s2)) with|x=>WPost rb hb Q F K KP x)→Sub Q Q1→q63 Q1 ev→s2.e=0→q04 s2.bs→s2.bs.length≤1099511627776→
   SatL H' (cellsA eb (encV ev) 95::Q1::crdA rb s2::hldA Q hb hs::cellsA b [PA rb 0] 109::F)→Jn n eb 0 H':=by
  intro n Q1 ev s2 eb H' k hsub hlab he2 hb2 hl2 h;dsimp only at k;refine hJ _ _ _ _ ?_;refine⟨_,_,_,_,_,_,h.q 0,?_⟩;refine h.al fun b1 _ h=>?_
  refine h.al fun b2 _ h=>?_
  refine h.st 0 rfl rfl ?_;intro H2 h;refine⟨_,_,_,_,_,_,_,_,_,_,_,_,_,_,_,_,_,_,_,_,h.q 0,?_⟩;have hfl:flat encV [ev]=encV ev:=by simp [flat]
  refine qjd (evs:=[ev]) (a:=some ⟨b1,0,none⟩) (c:=1) h ⟨fun H h=>by rw [hfl]; exact h.ce_rd 1 rfl,fun e he H h=>by
   rw [za0] at he; subst he;exact hlab.at h 3 rfl⟩ (by simp) fun H3 h=>⟨_,rfl,?_⟩
  rw [qoq];show ∀Jn1:Heap→Prop,_;intro Jn1 hJ1;refine⟨fun hc=>?_,fun hc=>hJ1 _ ?_⟩
  ·rw [if_pos (by simpa using hc)] at k;exact k Q1 _ (by decide) hsub (h.o [3] 7)
  ·have hbt:q4z n [ev.p]=true:=by simpa using hc
   rw [if_neg (by rw [hbt]; simp)] at k;refine⟨_,_,_,_,_,_,h.q 2,?_⟩;refine h.al fun b3 _ h=>?_
   have h:=h.o [6,0,4,5] 8;have h:=qop hsub h;refine qjg (items:=[ev]) h ok hn (fun H h=>by rw [hfl]; exact h.ce_rd 0 rfl) (fun e he=>by rw [za0] at he; subst he; exact hlab) (by simp) fun a2 c2 ready H4 hready hl h=>⟨_,_,_,_,rfl,?_⟩
   have hrl:(hs.offer n ([ev].map Ev.p)).2.1.length=ready.length:=by rw [← hready,z9o]
   intro Jn2 hJ2;refine⟨fun hx=>?_,fun hx=>hJ2 _ ?_⟩
   ·have hx:0 < (hs.offer n [ev.p]).2.1.length∨0 < (hs.offer n [ev.p]).2.2:=by
     simp only [z9j,z97] at hx
     rcases hx with hx|hx
     ·exact .inl (by have:(hs.offer n [ev.p]).2.1.length=ready.length:=hrl; omega)
     ·exact .inr hx
    rw [if_pos hx] at k;exact k Q1 _ (by decide) hsub (h.o [3] 5)
   ·have hx:¬(0 < (hs.offer n [ev.p]).2.1.length∨0 < (hs.offer n [ev.p]).2.2):=by
     simp only [z9g,z9a] at hx;rintro (h1|h1)
     ·exact hx.1 (by have:(hs.offer n [ev.p]).2.1.length=ready.length:=hrl; omega)
     ·exact hx.2 h1
    rw [if_neg hx] at k;exact k Q1 _ hsub he2 hb2 hl2 (h.o [3,4,1] 5)
 refine⟨_,h.q 0,_,h.q 0,?_,?_⟩
 ·have h:=h.o [2,1,0,3] 4;refine q21 h hb0 hl0 ?_
  cases hr:q1n r with
  | error e=>
   rw [hr] at k;exact fun H' he h=>k _ _ he (Sub.refl Q) (h.o [0] 3)
  | ok q=>
  obtain⟨n,s1⟩:=q;rw [hr] at k;dsimp only at k;intro H1 he1 hb1 hl1 h;refine⟨_,rfl,h.q 2,?_,?_⟩
  ·have h:=h.o [1,0,2,3] 4;refine qbc h hb1 hl1 ?_
   cases hr2:q50 s1 with
   | error e=>
    rw [hr2] at k;exact fun Q1 H' he hs1 h=>k _ _ he hs1 (h.o [0] 3)
   | ok q=>
   obtain⟨pv,s2⟩:=q;rw [hr2] at k;dsimp only at k;intro Q1 ev H2 hsub hlab hev he2 hb2 hl2 h;subst hev;refine⟨_,_,_,_,_,_,rfl,?_⟩;refine h.al fun b4 _ h=>?_
   refine h.st 0 rfl rfl ?_;intro H3 h;exact main n Q1 ev s2 b4 H3 k hsub hlab he2 hb2 hl2 (h.o [0,1,2,4,3] 5)
  ·refine h.al fun b5 _ h=>⟨h.q 3,?_⟩
   have h:=h.o [2,1,0,3,4] 5;refine qbc h hb1 hl1 ?_
   cases hr2:q50 s1 with
   | error e=>
    rw [hr2] at k;exact fun Q1 H' he hs1 h=>k _ _ he hs1 (h.o [0] 4)
   | ok q=>
   obtain⟨pv,s2⟩:=q;rw [hr2] at k;dsimp only at k;intro Q1 ev H2 hsub hlab hev he2 hb2 hl2 h;subst hev;refine⟨_,_,_,_,_,_,rfl,?_⟩;refine h.st 2 rfl rfl ?_;intro H3 h;exact main n Q1 ev s2 b5 H3 k hsub hlab he2 hb2 hl2 (h.o [2,0,1,4,3] 5)
 ·refine h.al fun b6 _ h=>⟨h.q 1,h.q 1,?_⟩
  have h:=h.o [3,2,0,1,4] 5;refine q21 h hb0 hl0 ?_
  cases hr:q1n r with
  | error e=>
   rw [hr] at k;exact fun H' he h=>k _ _ he (Sub.refl Q) (h.o [0] 4)
  | ok q=>
  obtain⟨n,s1⟩:=q;rw [hr] at k;dsimp only at k;intro H1 he1 hb1 hl1 h;refine⟨_,rfl,h.q 3,?_⟩;have h:=h.o [1,0,2,3,4] 5;refine qbc h hb1 hl1 ?_
  cases hr2:q50 s1 with
  | error e=>
   rw [hr2] at k;exact fun Q1 H' he hs1 h=>k _ _ he hs1 (h.o [0] 4)
  | ok q=>
  obtain⟨pv,s2⟩:=q;rw [hr2] at k;dsimp only at k;intro Q1 ev H2 hsub hlab hev he2 hb2 hl2 h;subst hev;refine⟨_,_,_,_,_,_,rfl,?_⟩;refine h.st 2 rfl rfl ?_;intro H3 h;exact main n Q1 ev s2 b6 H3 k hsub hlab he2 hb2 hl2 (h.o [2,0,1,4,3] 5)
end
end Go.Proofs.YtfmkddccnjidmaaGreatDoor
namespace Go.Nm
def q9l:Rd Ot:=fun s=>match q76 s with
 | .error e=>.error e
 | .ok (w,s1)=>
  if (tRes (tRes s1.bs.length s1).2.bs.length (tRes s1.bs.length s1).2).2.e≠0 then .error (tRes (tRes s1.bs.length s1).2.bs.length (tRes s1.bs.length s1).2).2.e else
  if (!(q75 (strB (tRes s1.bs.length s1).1)).2.2 || !inM w 0 4611686018427387903)=true then .error 10 else
  if (q7a (tRes (tRes s1.bs.length s1).2.bs.length (tRes s1.bs.length s1).2).1).2≠0 then .error (q7a (tRes (tRes s1.bs.length s1).2.bs.length (tRes s1.bs.length s1).2).1).2 else
  .ok ((⟨w,strB (tRes s1.bs.length s1).1⟩,(q7a (tRes (tRes s1.bs.length s1).2.bs.length (tRes s1.bs.length s1).2).1).1),(tRes (tRes s1.bs.length s1).2.bs.length (tRes s1.bs.length s1).2).2)
theorem q4f {α:Type}{s s':RS}{x y:α}(h:okR s x=.ok (y,s')):s'=s∧y=x∧s.e=0:=by
 unfold okR at h
 split at h
 ·cases h
 ·rename_i h0
  cases h
  exact⟨rfl,rfl,by simpa using h0⟩
theorem qas {s s':RS}{w:Int}(h:q76 s=.ok (w,s')):s'.bs.length≤s.bs.length:=by
 rw [(q4f h).1]; exact q4t s
theorem q0s {s s':RS}{w:Int}(h:q1n s=.ok (w,s')):s'.bs.length≤s.bs.length:=by
 rw [(q4f h).1]; exact q4t s
theorem qel {s s':RS}{w:Int}(h:numR s=.ok (w,s')):s'.bs.length≤s.bs.length:=by
 rw [(q4f h).1]; exact q4t s
theorem q6i {s s':RS}{m w:Int}(h:q24 m s=.ok (w,s')):s'.bs.length≤s.bs.length:=by
 rw [(q4f h).1]; exact qe6 s m
theorem qfw {s s':RS}{m w:Int}(h:upR m s=.ok (w,s')):s'.bs.length≤s.bs.length:=by
 unfold upR at h
 cases e:q1n s with
 | error e'=>rw [e] at h; cases h
 | ok q=>
  obtain⟨v,s1⟩:=q;rw [e] at h;dsimp only at h
  split at h
  ·cases h; exact q0s e
  ·cases h
end Go.Nm
namespace Go.Proofs.YtfmkddccnjidmaaGreatDoor
open Go.Nm
section
variable {F L:List Assn} {H:Heap} {K KP:Value→Heap→Prop} {Q Q':Assn} {sb:Nat} {s:Sta}
set_option maxHeartbeats 4000000 in
theorem qt5 {rb:Nat}{r:RS}(h:SatL H (crdA rb r::F))(hb0:q04 r.bs)(hl0:r.bs.length≤1000000000)
  (k:z3b rb F (fun o:Ot=>.tuple #[aggK o.1,aggC o.2]) K KP (q9l r)):CP 47 #[.agg #[PA rb 0]] H K KP:=by
 refine z69 ?_;refine h.al fun b _ h=>?_
 refine h.al fun b1 _ h=>?_
 refine h.al fun b2 H0 h=>?_
 intro Jn hJ;unfold q9l at k;have main:∀(w:Int) (s1:RS) kb H',q76 r=.ok (w,s1)→q04 s1.bs→s1.bs.length≤1099511627776→
   SatL H' (crdA rb (tRes s1.bs.length s1).2::cellsA kb [I64 w,.string (strB (tRes s1.bs.length s1).1)] 55::cellsA b2 (encC Cl.z) 62::cellsA b1 [I64 0,.string ⟨#[]⟩] 55::cellsA b [PA rb 0] 109::F)→Jn kb 0 H':=by
  intro w s1 kb H1 hsr hb1 hl1 h;have hsl:=qas hsr;rw [hsr] at k;dsimp only at k;have t1b:=q2p (m:=s1.bs.length) hb1;have t1l:=q5p s1 s1.bs.length;generalize tRes s1.bs.length s1=T1 at *;refine hJ _ _ _ ?_;refine⟨_,h.r 4,_,h.r 4,_,qba h,?_⟩;refine q5v (most:=T1.2.bs.length) h t1b.1 (by omega) (by unfold wf64; omega) fun H2 h=>⟨_,rfl,_,h.r 4,_,qab h,?_⟩
  have t2b:=q2p (m:=T1.2.bs.length) t1b.1;have t2l:=q5p T1.2 T1.2.bs.length;generalize tRes T1.2.bs.length T1.2=T2 at *;refine q1o (fun he=>⟨rfl,_,h.r 1,?_⟩) fun he=>?_
  ·rw [if_neg (by simpa using he)] at k;have hsz:=q4u T1.1;refine qwa (by omega) h fun la lc H3 h=>⟨_,_,_,_,_,rfl,?_⟩
   generalize (q75 (strB T1.1))=P at *;refine h.al fun b3 _ h=>?_
   refine h.st 0 rfl rfl ?_;intro H4 h;refine⟨_,fun _=>h.r 3,_,fun _=>q2w,?_⟩
   intro Jn1 hJ1;refine⟨fun hx=>?_,fun hx=>hJ1 _ ?_⟩
   ·rw [if_pos hx] at k;exact k _ (by decide) (h.o [] 7)
   ·rw [if_neg (by rw [hx]; simp)] at k;refine qga t2b.2 h fun a3 c3 H5 h=>⟨_,_,_,rfl,?_⟩
    refine z3i rfl t2b.2 h (fun H h=>h.sl_rd 0 rfl) (by omega) fun H6 h=>⟨_,_,_,_,_,_,_,_,_,rfl,?_⟩
    have hwc:=q7a T2.1;generalize q7a T2.1=B at *;refine h.al fun b4 _ h=>?_
    refine h.sta 0 rfl rfl fun H7 h=>?_
    refine q1o (fun hb=>⟨rfl,?_⟩) fun hb=>?_
    ·rw [if_neg (by simpa using hb)] at k;refine⟨_,_,h.q 5,_,_,_,_,_,_,_,_,h.rda 0 rfl,?_⟩;refine h.st 7 rfl rfl ?_;intro H8 h;refine⟨h.rda 0 rfl,?_⟩;refine h.sta 6 rfl rfl fun H9 h=>?_
     refine⟨_,_,h.q 7,_,_,_,_,_,_,_,_,h.rda 6 rfl,?_⟩;exact k _ he t2b.1 (by omega) (h.o [4] 9)
    ·rw [if_pos hb] at k;exact k _ hb (h.o [] 9)
  ·rw [if_pos he] at k;exact k _ he (h.o [] 5)
 refine⟨_,h.q 2,_,h.r 2,_,h.r 2,?_,?_⟩
 ·have h:=h.o [3,0,1,2] 4;refine q78 h hb0 (by omega) ?_
  cases hr:q76 r with
  | error e=>
   rw [hr] at k;exact fun H' he h=>k _ he (h.o [] 3)
  | ok q=>
  obtain⟨w,s1⟩:=q;intro H1 he1 hb1 hl1 h;refine⟨_,rfl,h.r 3,h.r 3,_,qba h,?_,?_⟩
  ·refine q5v (most:=s1.bs.length) h hb1 hl1 (by unfold wf64; omega) fun H2 h=>⟨_,rfl,?_⟩
   refine h.al fun b5 _ h=>?_
   refine h.st 0 rfl rfl ?_;intro H3 h;exact main w s1 b5 H3 hr hb1 hl1 (h.o [1,0,2,3,4] 5)
  ·refine h.al fun b6 _ h=>⟨qba (h.o [1] 2),h.r 4,h.r 4,?_⟩
   have h:=h.o [1,0,2,3,4] 5;refine q5v (most:=s1.bs.length) h hb1 hl1 (by unfold wf64; omega) fun H2 h=>⟨_,rfl,?_⟩
   refine h.st 1 rfl rfl ?_;intro H3 h;exact main w s1 b6 H3 hr hb1 hl1 h
 ·refine h.al fun b7 _ h=>⟨h.r 3,h.r 3,h.q 3,?_⟩
  have h:=h.o [4,0,1,2,3] 5;refine q78 h hb0 (by omega) ?_
  cases hr:q76 r with
  | error e=>
   rw [hr] at k;exact fun H' he h=>k _ he (h.o [] 4)
  | ok q=>
  obtain⟨w,s1⟩:=q;intro H1 he1 hb1 hl1 h;refine⟨_,rfl,h.r 4,h.r 4,_,qba h,?_⟩;refine q5v (most:=s1.bs.length) h hb1 hl1 (by unfold wf64; omega) fun H2 h=>⟨_,rfl,?_⟩
  refine h.st 1 rfl rfl ?_;intro H3 h;exact main w s1 b7 H3 hr hb1 hl1 h
end
end Go.Proofs.YtfmkddccnjidmaaGreatDoor
namespace Go.Nm
def smpR:Rd Smp:=fun s=>match q1n s with
 | .error e=>.error e
 | .ok (a,s1)=>match q1n s1 with
  | .error e=>.error e
  | .ok (b,s2)=>match q1n s2 with
   | .error e=>.error e
   | .ok (c,s3)=>match q1n s3 with
    | .error e=>.error e
    | .ok (d,s4)=>.ok (⟨a,b,c,d⟩,s4)
def qat:Nat→Rd (List Smp)
 | 0,s=>.ok ([],s)
 | n+1,s=>match qat n s with
  | .error e=>.error e
  | .ok (l,s1)=>match smpR s1 with
   | .error e=>.error e
   | .ok (x,s2)=>.ok (l++[x],s2)
def q4v (hs:HS Pv):Nat→RS→Except Int (HS Pv × RS)
 | 0,s=>.ok (hs,s)
 | n+1,s=>match q4v hs n s with
  | .error e=>.error e
  | .ok (h,s1)=>qfv h s1
theorem qt6:∀{n:Nat} {s:RS} {vs:List Smp} {s':RS},qat n s=.ok (vs,s')→vs.length=n
 | 0,s,vs,s',h=>by cases h; rfl
 | n+1,s,vs,s',h=>by
  unfold qat at h
  split at h
  ·cases h
  ·rename_i ws s1 h1
   split at h
   ·cases h
   ·cases h
    rw [z95,qt6 h1]; rfl
theorem qt7 {s:RS}{e:Int}:∀{n j:Nat},qat j s=.error e→j≤n→qat n s=.error e
 | 0,j,h,hj=>by
  obtain rfl:j=0:=by omega
  exact h
 | n+1,j,h,hj=>by
  rcases z9t n j with h1|h1
  ·obtain rfl:j=n+1:=by omega
   exact h
  ·unfold qat
   rw [qt7 h h1]
theorem qmg {hs:HS Pv}{s:RS}{e:Int}:∀{n j:Nat},q4v hs j s=.error e→j≤n→q4v hs n s=.error e
 | 0,j,h,hj=>by
  obtain rfl:j=0:=by omega
  exact h
 | n+1,j,h,hj=>by
  rcases z9t n j with h1|h1
  ·obtain rfl:j=n+1:=by omega
   exact h
  ·unfold q4v;rw [qmg h h1]
def qp2 (c:Cfg)(last:Int)(hd:Bool)(streak:Int)(l:List Smp):Rd Str:=fun s5=>
 if ¬(l.length≤8∧0≤streak∧∀x∈l,x.ok) then .error 10 else match q1n s5 with
  | .error e=>.error e
  | .ok (next,s6)=>if next < 0∨1099511627776 < next then .error 11 else match q24 256 s6 with
   | .error e=>.error e
   | .ok (m,s7)=>match q4v ⟨next,c.hold,[]⟩ m.toNat s7 with
    | .error e=>.error e
    | .ok (hs,s8)=>.ok (⟨⟨c.rho,c.trust,hd,streak,l⟩,hs,last⟩,s8)
def qku (c:Cfg)(last:Int):Rd Str:=fun s1=>match numR s1 with
 | .error e=>.error e
 | .ok (hd,s2)=>match q1n s2 with
  | .error e=>.error e
  | .ok (streak,s3)=>match q24 8 s3 with
   | .error e=>.error e
   | .ok (n,s4)=>match qat n.toNat s4 with
    | .error e=>.error e
    | .ok (l,s5)=>qp2 c last (decide (hd=1)) streak l s5
def strR (c:Cfg):Rd Str:=fun s=>match q76 s with
 | .error e=>.error e
 | .ok (last,s1)=>if inM last (-1) 4611686018427387903=false then .error 10 else qku c last s1
theorem z81 {s s':RS}{e:Pv}(h:q50 s=.ok (e,s')):wf64 e.value:=by
 unfold q50 at h
 cases h1:q1n s with
 | error e'=>rw [h1] at h; cases h
 | ok q=>
  obtain⟨a,s1⟩:=q;rw [h1] at h;dsimp only at h
  cases h2:q76 s1 with
  | error e'=>rw [h2] at h; cases h
  | ok q=>
   obtain⟨b,s2⟩:=q;rw [h2] at h;dsimp only at h;rw [(q4f h).2.1];show wf64 b;rw [(q4f h2).2.1];exact q87 _
structure qwz (m:Int)(hs:HS Pv):Prop where
 ok:hs.Ok
 most:hs.most=m
 next:hs.next≤1099511627776
 rows:∀p∈hs.rows,p.1 < 1099511627776∧q7v p.2=true∧wf64 p.2.value
theorem z3s {m:Int}{hs hs':HS Pv}{s s':RS}(g:qwz m hs)(h:qfv hs s=.ok (hs',s')):qwz m hs':=by
 unfold qfv at h
 cases h1:q1n s with
 | error e'=>rw [h1] at h; cases h
 | ok q=>
  obtain⟨n,s1⟩:=q;rw [h1] at h;dsimp only at h
  cases h2:q50 s1 with
  | error e'=>rw [h2] at h; cases h
  | ok q=>
   obtain⟨ev,s2⟩:=q;rw [h2] at h;dsimp only at h
   split at h
   ·cases h
   rename_i hb
   split at h
   ·cases h
   cases h
   have hb:q4z n [ev]=true:=by simpa using hb
   unfold q4z at hb;simp only [z99,z97,za8,z9c,z9v] at hb;have ho:=HS.offer_ok g.ok n [ev];have hlt:=qz1 (s:=hs) (first:=n) (B:=1099511627776) (items:=[ev]) g.next (fun p hp=>(g.rows p hp).1) (by simp only [z9c,z9v]; omega)
   refine⟨ho.1,ho.2.2.2.trans g.most,hlt.1,fun p hp=>⟨hlt.2 p hp,?_⟩⟩
   rcases (qaj (s:=hs) (first:=n) (items:=[ev])).2 p hp with h|h
   ·rw [za0] at h;rw [h];exact⟨hb.2.2 ev (za0.2 rfl),z81 h2⟩
   ·exact (g.rows p h).2
theorem qcz {m:Int}{hs:HS Pv}{s:RS}(g:qwz m hs):∀{n:Nat} {hs':HS Pv} {s':RS},q4v hs n s=.ok (hs',s')→qwz m hs'
 | 0,hs',s',h=>by cases h; exact g
 | n+1,hs',s',h=>by
  unfold q4v at h
  split at h
  ·cases h
  ·rename_i h1;exact z3s (qcz g h1) h
def bitF (v m:Int):Bool:=!decide (q0i .and .u64 v m=0)
def flR (c:Cfg)(t:Int):Rd (Fl × Str):=fun s=>match numR s with
 | .error e=>.error e
 | .ok (v,s1)=>match strR c s1 with
  | .error e=>.error e
  | .ok (st,s2)=>.ok ((⟨t,bitF v 1,bitF v 2,bitF v 4⟩,st),s2)
end Go.Nm
namespace Go.Proofs.YtfmkddccnjidmaaGreatDoor
open Go.Nm
section
variable {F L:List Assn} {H:Heap} {K KP:Value→Heap→Prop} {Q Q':Assn} {sb:Nat} {s:Sta}
def APost (rb sb tm:Nat)(cs:List Value)(sts:List (Option Str))(a:Nat)(Q:Assn)(F:List Assn)(K KP:Value→Heap→Prop):Except Int ((Fl × Str) × RS)→Prop
 | .ok (x,s)=>∀Q' H',Sub Q Q'→s.e=0→q04 s.bs→s.bs.length≤1099511627776→SatL H' (Q'::crdA rb s::cellsA sb cs 115::strmA Q' tm (sts.set a (some x.2))::F)→K (aggF x.1) H'
 | .error e=>∀Q' H',e≠0→Sub Q Q'→SatL H' (Q'::F)→KP (pnV e) H'
theorem qem:∀{bl:List (Option Nat)} {sts:List (Option Str)} {k:Nat} {F:List Assn},SatL H (strsA Q bl sts::F)→SatL H (strsA Q (bl.set k none) (sts.set k none)::F)
 | [],_,_,_,h=>h
 | none::_,[],0,_,h=>h
 | some _::_,[],0,_,h=>h
 | none::_,[],_+1,_,h=>h
 | some _::_,[],_+1,_,h=>h
 | none::bs,y::ss,0,_,h=>h
 | some x::bs,none::ss,0,_,h=>h
 | some x::bs,some y::ss,0,_,h=>(q1f.1 h).tl
 | none::bs,y::ss,k+1,_,h=>qem (bl:=bs) (sts:=ss) (k:=k) h
 | some x::bs,none::ss,k+1,_,h=>qem (bl:=bs) (sts:=ss) (k:=k) h
 | some x::bs,some y::ss,k+1,_,h=>by
  have h:=q1f.1 h;have h:=h.o [1,0] 2;have h:=qem (bl:=bs) (sts:=ss) (k:=k) h;have h:=h.o [1,0] 2;exact q1f.2 h
set_option maxHeartbeats 8000000 in
theorem qx0 {rb b b1 fb nb tm cb hb:Nat}{a:Nat}{cs:List Value}{sts:List (Option Str)}{fl:Fl}{ck:Ck}{last m:Int}{r:RS}{hs:HS Pv}{P:Except Int ((Fl × Str) × RS)}
  (g:qwz hs.most hs) (ha:a < sts.length) (h18:lget cs 18=some (.map (some tm))) (hm:0≤m∧m≤256) (hb0:q04 r.bs) (hl0:r.bs.length≤1099511627776) (he0:r.e=0)
  (hP:P=match q4v hs m.toNat r with|.error e=>.error e|.ok (h,s8)=>.ok ((fl,⟨ck,h,last⟩),s8))
  (k:APost rb sb tm cs sts a Q F K KP P)
  (h:SatL H (Q::crdA rb r::hldA Q hb hs::cellsA nb [PA cb 0,PA hb 0,I64 last] 149::ckA cb ck::cellsA fb (encF fl) 80::cellsA b1 [I64 0,.bool false,.bool false,.bool false] 80::cellsA b [PA rb 0] 109::cellsA sb cs 115::strmA Q tm sts::F)) :
  ∃(Inv1:Int→Heap→Prop) (mu1:Int→Heap→Nat),Inv1 0 H∧
   ∀(t114:Int),∀H_50:Heap,Inv1 t114 H_50→q44.l1 sb 0 (a:Int) K KP b b1 fb 0 (some ⟨nb,0,none⟩) (some ⟨hb,0,none⟩) m Inv1 mu1 t114 H_50:=by
 refine⟨fun i H'=>∃(j:Nat) (Q1:Assn) (hs1:HS Pv) (s1:RS),i=j∧(j:Int)≤m∧Sub Q Q1∧q4v hs j r=.ok (hs1,s1)∧s1.e=0∧q04 s1.bs∧s1.bs.length≤1099511627776∧
  SatL H' (Q1::crdA rb s1::hldA Q1 hb hs1::cellsA nb [PA cb 0,PA hb 0,I64 last] 149::ckA cb ck::cellsA fb (encF fl) 80::cellsA b1 [I64 0,.bool false,.bool false,.bool false] 80::cellsA b [PA rb 0] 109::cellsA sb cs 115::strmA Q tm sts::F),
  fun i _=>m.toNat - i.toNat,⟨0,Q,hs,r,rfl,hm.1,Sub.refl Q,rfl,he0,hb0,hl0,h⟩,?_⟩
 rintro i H1 ⟨j,Q1,hs1,s1,rfl,hj,hsub,hw,he1,hb1,hl1,h⟩;unfold q44.l1;have g1:=qcz g hw;refine⟨fun hc=>?_,fun hc=>?_⟩
 ·have hc:=z96 hc;refine⟨_,h.q 7,?_⟩;have hn1:=g1.next;refine qp1 g1.ok (by omega) h hb1 hl1 ?_;have hw1:q4v hs (j+1) r=qfv hs1 s1:=by
   rw [q4v,hw]
  cases hr:qfv hs1 s1 with
  | error e=>
   rw [hr] at hw1;rw [hP,qmg hw1 (by omega)] at k;exact fun Q2 H' he hs2 h=>k Q2 H' he (hsub.trans hs2) (h.o [0] 8)
  | ok q=>
  obtain⟨hs2,s2⟩:=q;rw [hr] at hw1;intro Q2 H' hq2 he2 hb2 hl2 h;refine⟨rfl,?_⟩;rw [w64 (x:=(j:Int)+1)];exact⟨⟨j+1,Q2,hs2,s2,by omega,by omega,hsub.trans hq2,hw1,he2,hb2,hl2,h⟩,by dsimp only; omega⟩
 ·have hge:=z98 hc;have hjm:j=m.toNat:=by omega
  subst hjm;rw [hP,hw] at k;refine⟨_,(h.r 8).trans h18,?_⟩;have h:=h.o [9,0,1,2,3,4,5,6,7,8] 10;have h:=qsu hsub h;obtain⟨bl,hbm,h⟩:=q5r.1 h;refine h.mp_update (α:=Option Nat) (v:=some nb) (x:=((a:Nat):Int)) z7k ko2 0 rfl fun H2 h=>?_
  refine⟨_,_,_,_,h.q 7,?_⟩;refine h.st 8 rfl rfl ?_;intro H3 h;refine⟨_,_,_,_,h.q 8,?_⟩;refine k Q1 _ hsub he1 hb1 hl1 ?_;have h:=h.o [1,0,2,3,4,5,6,10] 11;have h:=qem (k:=a) h;have h:=h.o [5,6,4,1,0,2,3,7] 8;have h:SatL H3 (strA Q1 nb ⟨ck,hs1,last⟩::_):=q1h.2 ⟨cb,hb,h⟩;have h:=h.o [1,0,2,3,4,5] 6;have h:=z7u hbm ha h;exact h.o [1,2,3,0] 4
def withFl (fl:Fl):Except Int (Str × RS)→Except Int ((Fl × Str) × RS)
 | .error e=>.error e
 | .ok (st,s)=>.ok ((fl,st),s)
set_option maxHeartbeats 8000000 in
theorem qx1 {rb b b1 fb nb tm cb hb0:Nat}{a:Nat}{cs:List Value}{sts:List (Option Str)}{fl:Fl}{ck0:Ck}{c:Cfg}{last streak:Int}{hd:Bool}{l:List Smp}{la:Option Addr}{lc:Nat}{r:RS}
  (ok:qap c) (hrho:ck0.rho=c.rho) (hle:ck0.least=c.trust) (ha:a < sts.length) (h18:lget cs 18=some (.map (some tm))) (h8:lget cs 8=some (I64 c.hold)) (hbb:q04 r.bs) (hl0:r.bs.length≤1099511627776)
  (k:APost rb sb tm cs sts a Q F K KP (withFl fl (qp2 c last hd streak l r)))
  (h:SatL H (ckA cb ck0::slA 43 4 la l.length lc (flat q4x l)::Q::crdA rb r::cellsA nb [PA cb 0,PA hb0 0,I64 last] 149::cellsA fb (encF fl) 80::cellsA b1 [I64 0,.bool false,.bool false,.bool false] 80::cellsA b [PA rb 0] 109::cellsA sb cs 115::strmA Q tm sts::F)) :
  NN (some ⟨nb,0,none⟩) (
 ∃v2,q02 H (adrB (some ⟨nb,0,none⟩)) (adrO (some ⟨nb,0,none⟩))=some (.pointer v2)∧
 CF 106 #[(.pointer v2),(.bool hd),(I64 streak),(.slice la l.length lc)] H fun u16 H_39=>∃r15,u16=(I64 r15)∧
 CP 45 #[(I64 r15)] H_39 (fun u17 H_40=>u17=(.tuple #[])∧
 ∃c12,q03 H_40 b 0 [(.pointer c12)]∧
 ∃v3,q02 H_40 sb (0+8)=some (I64 v3)∧
 CP 43 #[(.agg #[(.pointer c12)])] H_40 (fun u18 H_42=>∃r16,u18=(I64 r16)∧
 q02 H_42 sb (0+8)=some (I64 v3)∧
 CF 56 #[(I64 r16),(I64 v3)] H_42 fun u19 H_44=>∃r17 r18,u19=(.tuple #[(.pointer r17),(I64 r18)])∧
 CP 45 #[(I64 r18)] H_44 (fun u20 H_45=>u20=(.tuple #[])∧
 NN (some ⟨nb,0,none⟩) (
 ST H_45 (adrB (some ⟨nb,0,none⟩)) ((adrO (some ⟨nb,0,none⟩))+1) [(.pointer r17)] fun H_47=>
 ∃c13,q03 H_47 b 0 [(.pointer c13)]∧
 CP 42 #[(.agg #[(.pointer c13)]),(I64 256)] H_47 (fun u21 H_48=>∃r19,u21=(I64 r19)∧
 ∃(Inv1:Int→Heap→Prop) (mu1:Int→Heap→Nat),Inv1 0 H_48∧
 ∀(t114:Int),∀H_50:Heap,Inv1 t114 H_50→q44.l1 sb 0 (a:Int) K KP b b1 fb 0 (some ⟨nb,0,none⟩) r17 r19 Inv1 mu1 t114 H_50) (fun (pn16:Value) (H_49:Heap)=>
 KP pn16 H_49))) (fun (pn15:Value) (H_46:Heap)=>
 KP pn15 H_46)) (fun (pn14:Value) (H_43:Heap)=>
 KP pn14 H_43)) (fun (pn13:Value) (H_41:Heap)=>
 KP pn13 H_41)):=by
 unfold qp2 at k;refine q01 ⟨_,h.rd 4 rfl 0,?_⟩;refine z1t (held:=hd) (streak:=streak) h (fun H h=>h.sl_rd 0 rfl) (fun hn H1 h=>⟨_,rfl,?_⟩) fun hp H1 h=>⟨_,rfl,?_⟩
 ·rw [if_pos hn] at k;exact q1o (fun e=>absurd e (by decide)) fun e=>k Q _ (by decide) (Sub.refl Q) (h.o [2] 10)
 rw [if_neg (not_not_intro hp)] at k;refine q1o (fun _=>⟨rfl,_,h.q 7,_,(h.r 8).trans h8,?_⟩) fun e=>absurd rfl e
 have h:=h.o [3,0,2,4,5,6,7,8,9] 10;refine q21 h hbb hl0 ?_
 cases hr:q1n r with
 | error e=>
  rw [hr] at k;exact fun H' he h=>k Q _ he (Sub.refl Q) (h.o [1] 8)
 | ok q=>
 obtain⟨next,s6⟩:=q;rw [hr] at k;dsimp only at k;intro H2 he6 hb6 hl6 h;refine⟨_,rfl,(h.r 7).trans h8,?_⟩;refine qjf (Q:=Q) h (fun hn=>⟨_,_,rfl,?_⟩) fun hb H3 hp2 h=>⟨_,_,rfl,?_⟩
 ·have hh:=ok.hd;rw [if_pos (by omega)] at k;exact q1o (fun e=>absurd e (by decide)) fun e=>k Q _ (by decide) (Sub.refl Q) (h.o [2] 9)
 rw [if_neg (by omega)] at k;refine q1o (fun _=>⟨rfl,q01 ?_⟩) fun e=>absurd rfl e
 refine h.st 4 rfl rfl ?_;intro H4 h;refine⟨_,h.q 7,?_⟩;have h:=h.o [1,0,2,3,4,5,6,7,8,9] 10;refine q79 (by unfold wf64; decide) h hb6 hl6 ?_
 cases hr2:q24 256 s6 with
 | error e=>
  rw [hr2] at k;exact fun H' he h=>k Q _ he (Sub.refl Q) (h.o [2] 9)
 | ok q=>
 obtain⟨m,s7⟩:=q;rw [hr2] at k;dsimp only at k;have hm:0≤m∧m≤256:=by
  rw [(q4f hr2).2.1];unfold cRes
  split
  ·dsimp only; omega
  ·split
   ·split
    ·dsimp only; omega
    ·dsimp only; omega
   ·dsimp only; omega
   ·dsimp only; omega
 intro H5 he7 hb7 hl7 h;refine⟨_,rfl,?_⟩;have hg:qwz c.hold (⟨next,c.hold,[]⟩:HS Pv):=⟨⟨hp2.1,hp2.2.2.1,hp2.2.2.2,⟨by simp [q3y],fun p hp=>absurd hp (by simp)⟩⟩,rfl,hp2.2.1,fun p hp=>absurd hp (by simp)⟩
 refine qx0 (fl:=fl) (r:=s7) (m:=m) (hs:=⟨next,c.hold,[]⟩) (ck:=⟨c.rho,c.trust,hd,streak,l⟩) (last:=last) (cb:=cb) hg ha h18 hm hb7 hl7 he7 ?_ k ?_
 ·cases q4v ⟨next,c.hold,[]⟩ m.toNat s7 with
  | error e=>rfl
  | ok q=>rfl
 ·have h:=h.o [3,0,1,4,2,5,6,7,8,9] 10;rw [hrho,hle] at h;exact h
end
open Go.Nm
section
variable {F L:List Assn} {H:Heap} {K KP:Value→Heap→Prop} {Q Q':Assn} {sb:Nat} {s:Sta}
set_option maxHeartbeats 8000000 in
theorem qx2 {rb b b1 fb nb tm cb hb0:Nat}{a:Nat}{cs:List Value}{sts:List (Option Str)}{fl:Fl}{ck0:Ck}{c:Cfg}{last:Int}{r:RS}
  (ok:qap c) (hrho:ck0.rho=c.rho) (hle:ck0.least=c.trust) (ha:a < sts.length) (h18:lget cs 18=some (.map (some tm))) (h8:lget cs 8=some (I64 c.hold)) (hbb:q04 r.bs) (hl0:r.bs.length≤1099511627776)
  (k:APost rb sb tm cs sts a Q F K KP (withFl fl (qku c last r)))
  (h:SatL H (crdA rb r::ckA cb ck0::Q::cellsA nb [PA cb 0,PA hb0 0,I64 last] 149::cellsA fb (encF fl) 80::cellsA b1 [I64 0,.bool false,.bool false,.bool false] 80::cellsA b [PA rb 0] 109::cellsA sb cs 115::strmA Q tm sts::F)) :
  q44.r3 sb 0 (a:Int) K KP b b1 fb 0 (some ⟨nb,0,none⟩) H:=by
 unfold qku at k;unfold q44.r3;refine⟨_,h.q 6,_,h.q 6,?_⟩;refine q77 h hbb hl0 ?_
 cases hr:numR r with
 | error e=>
  rw [hr] at k;exact fun H' he h=>k Q _ he (Sub.refl Q) (h.o [1] 8)
 | ok q=>
 obtain⟨hd,s2⟩:=q;rw [hr] at k;dsimp only at k;intro H1 he2 hb2 hl2 h;refine⟨_,rfl,h.q 6,?_⟩;refine q21 h hb2 hl2 ?_
 cases hr2:q1n s2 with
 | error e=>
  rw [hr2] at k;exact fun H' he h=>k Q _ he (Sub.refl Q) (h.o [1] 8)
 | ok q=>
 obtain⟨streak,s3⟩:=q;rw [hr2] at k;dsimp only at k;intro H2 he3 hb3 hl3 h;refine⟨_,rfl,_,h.q 6,?_⟩;refine q79 (by unfold wf64; decide) h hb3 hl3 ?_
 cases hr3:q24 8 s3 with
 | error e=>
  rw [hr3] at k;exact fun H' he h=>k Q _ he (Sub.refl Q) (h.o [1] 8)
 | ok q=>
 obtain⟨n,s4⟩:=q;rw [hr3] at k;dsimp only at k;have hn8:0≤n∧n≤8:=by
  rw [(q4f hr3).2.1];exact z7a s3
 intro H3 he4 hb4 hl4 h;refine⟨_,rfl,?_⟩;refine⟨fun la ln lc i H'=>∃(j:Nat) (l:List Smp) (s5:RS),i=j∧(j:Int)≤n∧ln=l.length∧qat j s4=.ok (l,s5)∧q04 s5.bs∧s5.bs.length≤1099511627776∧
  SatL H' (ckA cb ck0::slA 43 4 la l.length lc (flat q4x l)::Q::crdA rb s5::cellsA nb [PA cb 0,PA hb0 0,I64 last] 149::cellsA fb (encF fl) 80::cellsA b1 [I64 0,.bool false,.bool false,.bool false] 80::cellsA b [PA rb 0] 109::cellsA sb cs 115::strmA Q tm sts::F),
  fun _ _ _ i _=>n.toNat - i.toNat,⟨0,[],s4,rfl,hn8.1,rfl,rfl,hb4,hl4,(h.sl_nil 43 4).o [2,0,3,1,4,5,6,7,8,9] 10⟩,?_⟩
 rintro la ln lc i H4 ⟨j,l,s5,rfl,hj,rfl,hls,hb5,hl5,h⟩;have hll:=qt6 hls;refine⟨fun hc=>?_,fun hc=>?_⟩
 ·have hc:=z96 hc;have hsn:qat (j+1) s4=match smpR s5 with|.error e=>.error e|.ok (x,s2)=>.ok (l++[x],s2):=by
   rw [qat,hls] <;> rfl
  have bad:∀e Q' H',smpR s5=.error e→e≠0→Sub Q Q'→SatL H' (Q'::F)→KP (pnV e) H':=by
   intro e Q' H' hse he hs h;rw [hse] at hsn;rw [qt7 hsn (by omega)] at k;exact k Q' H' he hs h
  unfold smpR at bad hsn;refine⟨_,h.q 7,_,h.q 7,_,h.q 7,_,h.q 7,?_⟩;have h:=h.o [3,0,1,2,4,5,6,7,8,9] 10;refine q21 h hb5 hl5 ?_
  cases q1:q1n s5 with
  | error e=>
   rw [q1] at bad;exact fun H' he h=>bad _ Q _ rfl he (Sub.refl Q) (h.o [2] 9)
  | ok q=>
  obtain⟨x1,s6⟩:=q;rw [q1] at bad hsn;dsimp only at bad hsn;intro H5 he6 hb6 hl6 h;refine⟨_,rfl,h.q 7,h.q 7,h.q 7,?_⟩;refine q21 h hb6 hl6 ?_
  cases q2:q1n s6 with
  | error e=>
   rw [q2] at bad;exact fun H' he h=>bad _ Q _ rfl he (Sub.refl Q) (h.o [2] 9)
  | ok q=>
  obtain⟨x2,s7⟩:=q;rw [q2] at bad hsn;dsimp only at bad hsn;intro H6 he7 hb7 hl7 h;refine⟨_,rfl,h.q 7,h.q 7,?_⟩;refine q21 h hb7 hl7 ?_
  cases q3:q1n s7 with
  | error e=>
   rw [q3] at bad;exact fun H' he h=>bad _ Q _ rfl he (Sub.refl Q) (h.o [2] 9)
  | ok q=>
  obtain⟨x3,s8⟩:=q;rw [q3] at bad hsn;dsimp only at bad hsn;intro H7 he8 hb8 hl8 h;refine⟨_,rfl,h.q 7,?_⟩;refine q21 h hb8 hl8 ?_
  cases q4:q1n s8 with
  | error e=>
   rw [q4] at bad;exact fun H' he h=>bad _ Q _ rfl he (Sub.refl Q) (h.o [2] 9)
  | ok q=>
  obtain⟨x4,s9⟩:=q;rw [q4] at bad hsn;dsimp only at bad hsn;intro H8 he9 hb9 hl9 h;refine⟨_,rfl,?_⟩;refine h.al fun b2 _ h=>?_
  refine h.append (m:=1) (ws:=q4x ⟨x1,x2,x3,x4⟩) z6l 3 rfl (h.ce_rd 0 rfl) rfl (qcn _) (by omega) (by omega) fun a5 c5 H9 h=>⟨_,_,_,rfl,?_⟩
  rw [w64 (x:=(j:Int)+1)];refine⟨⟨j+1,l++[⟨x1,x2,x3,x4⟩],s9,by omega,by omega,by rw [z95]; rfl,hsn,hb9,hl9,?_⟩,by dsimp only; omega⟩;have e:flat q4x (l++[⟨x1,x2,x3,x4⟩])=flat q4x l++q4x ⟨x1,x2,x3,x4⟩:=by rw [q0m]; simp [flat]
  rw [e,z95];exact h.o [2,3,4,1,5,6,7,8,9,10] 11
 ·have hge:=z98 hc;have hjn:j=n.toNat:=by omega
  subst hjn;rw [hls] at k;dsimp only at k;exact qx1 (fl:=fl) (ck0:=ck0) (hb0:=hb0) ok hrho hle ha h18 h8 hb5 hl5 k h
end
end Go.Proofs.YtfmkddccnjidmaaGreatDoor
namespace Go.Nm
def agtR (s:Sta)(a:Int):Rd (List En × Fl × Str):=fun r=>match q1n r with
 | .error e=>.error e
 | .ok (ep,s1)=>match q1n s1 with
  | .error e=>.error e
  | .ok (bt,s2)=>match q1n s2 with
   | .error e=>.error e
   | .ok (tm,s3)=>if (setR s.cfg.agents s.rows a ⟨ep,bt,tm⟩).2≠0 then .error (setR s.cfg.agents s.rows a ⟨ep,bt,tm⟩).2 else match upR s.now s3 with
    | .error e=>.error e
    | .ok (t,s4)=>match flR s.cfg t s4 with
     | .error e=>.error e
     | .ok (x,s5)=>.ok (((setR s.cfg.agents s.rows a ⟨ep,bt,tm⟩).1,x.1,x.2),s5)
theorem qt8 {most:Int}{rows:List En}{a:Int}{e:En}(h:(setR most rows a e).2=0):0≤a∧a≤63∧1≤e.epoch∧(setR most rows a e).1=rows.set a.toNat e∧¬0 < (rowE rows a).epoch:=by
 unfold setR at h ⊢
 split at h
 ·simp at h
 rename_i h1;rw [if_neg h1]
 split at h
 ·simp at h
 rename_i h2;rw [if_neg h2]
 split at h
 ·simp at h
 rename_i h3;rw [if_neg h3];unfold bad at h1;exact⟨by omega,by omega,by omega,rfl,h2⟩
end Go.Nm
namespace Go.Proofs.YtfmkddccnjidmaaGreatDoor
open Go.Nm
section
variable {F L:List Assn} {H:Heap} {K KP:Value→Heap→Prop} {Q Q':Assn} {sb:Nat} {s:Sta}
set_option maxHeartbeats 8000000 in
theorem z82 {rb b b1 fb:Nat}{a:Nat}{p:SAd}{t r3:Int}{r:RS}
  (ok:qap s.cfg) (ha:a < s.sts.length) (hbb:q04 r.bs) (hl0:r.bs.length≤1099511627776)
  (k:APost rb sb p.tm (q3k s p) s.sts a Q F K KP (flR s.cfg t r))
  (h:SatL H (crdA rb r::Q::cellsA fb [I64 t,.bool false,.bool false,.bool false] 80::cellsA b1 [I64 0,.bool false,.bool false,.bool false] 80::cellsA b [PA rb 0] 109::cellsA sb (q3k s p) 115::strmA Q p.tm s.sts::F)) :
  q44.r4 sb 0 (a:Int) K KP b b1 r3 fb 0 H:=by
 unfold flR at k;unfold q44.r4;refine⟨_,h.q 4,?_⟩;refine q77 h hbb hl0 ?_
 cases hr:numR r with
 | error e=>
  rw [hr] at k;exact fun H' he h=>k Q _ he (Sub.refl Q) (h.o [0] 6)
 | ok q=>
 obtain⟨v,s1⟩:=q;rw [hr] at k;dsimp only at k;intro H1 he1 hb1 hl1 h;refine⟨_,rfl,?_⟩;refine h.st 2 rfl rfl ?_;intro H2 h;refine h.st 2 rfl rfl ?_;intro H3 h;refine h.st 2 rfl rfl ?_;intro H4 h;have h:=h.o [5,0,1,2,3,4,6] 7;refine qmc (Q:=Q) ok h fun nb H5 h=>⟨_,rfl,?_⟩
 obtain⟨cb,hb0,h⟩:=q1h.1 h;refine⟨_,h.q 8,?_⟩;have h:=h.o [4,0,1,2,3,5,6,7,8,9] 10;refine q78 h hb1 hl1 ?_;unfold strR at k
 cases hr2:q76 s1 with
 | error e=>
  rw [hr2] at k;exact fun H' he h=>k Q _ he (Sub.refl Q) (h.o [4] 9)
 | ok q=>
 obtain⟨last,s2⟩:=q;rw [hr2] at k;dsimp only at k;intro H6 he2 hb2 hl2 h;refine⟨_,rfl,q01 ?_⟩;refine h.st 1 rfl rfl ?_;intro H7 h;refine q01 ⟨_,h.r 1,_,q2w,?_⟩;intro Jn1 hJ1;refine⟨fun hc=>?_,fun hc=>hJ1 _ ?_⟩
 ·rw [if_pos (by rw [z9n] at hc; exact hc)] at k;exact k Q _ (by decide) (Sub.refl Q) (h.o [5] 10)
 ·rw [if_neg (by rw [za4] at hc; rw [hc]; simp)] at k;refine qx2 (fl:=⟨t,bitF v 1,bitF v 2,bitF v 4⟩) (ck0:=(qaq s.cfg).ck) (hb0:=hb0) (c:=s.cfg) (last:=last) (cb:=cb) ok rfl rfl ha rfl rfl hb2 hl2 ?_ (h.o [0,2,5,1,6,7,8,4,9] 10)
  cases hq:qku s.cfg last s2 with
  | error e=>rw [hq] at k; exact k
  | ok q=>rw [hq] at k; exact k
def BPost (rb sb:Nat)(s:Sta)(p:SAd)(a:Int)(Q:Assn)(F:List Assn)(K KP:Value→Heap→Prop):Except Int ((List En × Fl × Str) × RS)→Prop
 | .ok (x,r)=>∀Q' H',Sub Q Q'→r.e=0→q04 r.bs→r.bs.length≤1099511627776→SatL H' (Q'::crdA rb r::cellsA sb (q3k s p) 115::strmA Q' p.tm (s.sts.set a.toNat (some x.2.2))::Ro.rollC p.rb p.rm s.cfg.agents::Ro.mapE p.rm x.1::F)→K (aggF x.2.1) H'
 | .error e=>∀Q' H',e≠0→Sub Q Q'→SatL H' (Q'::F)→KP (pnV e) H'
set_option maxHeartbeats 8000000 in
theorem qt9 {rb:Nat}{p:SAd}{a:Int}{r:RS}(ok:qap s.cfg)(rok:q2z s.rows)(hlen:s.sts.length=64)(hbb:q04 r.bs)(hl0:r.bs.length≤1099511627776)
  (k:BPost rb sb s p a Q F K KP (agtR s a r))
  (h:SatL H (crdA rb r::Q::cellsA sb (q3k s p) 115::Ro.rollC p.rb p.rm s.cfg.agents::Ro.mapE p.rm s.rows::strmA Q p.tm s.sts::F)) :
  CP 44 #[.agg #[PA rb 0],PA sb 0,I64 a] H K KP:=by
 refine z1c ?_;unfold agtR at k;refine h.al fun b _ h=>?_
 refine h.al fun b1 _ h=>⟨_,h.r 4,_,h.q 1,_,h.q 1,_,h.q 1,?_⟩
 have h:=h.o [2,0,1,3,4,5,6,7] 8;refine q21 h hbb hl0 ?_
 cases q1:q1n r with
 | error e=>
  rw [q1] at k;exact fun H' he h=>k Q _ he (Sub.refl Q) (h.o [2] 7)
 | ok q=>
 obtain⟨ep,s1⟩:=q;rw [q1] at k;dsimp only at k;intro H1 he1 hb1 hl1 h;refine⟨_,rfl,h.q 2,h.q 2,h.r 4,?_⟩;refine q21 h hb1 hl1 ?_
 cases q2:q1n s1 with
 | error e=>
  rw [q2] at k;exact fun H' he h=>k Q _ he (Sub.refl Q) (h.o [2] 7)
 | ok q=>
 obtain⟨bt,s2⟩:=q;rw [q2] at k;dsimp only at k;intro H2 he2 hb2 hl2 h;refine⟨_,rfl,h.q 2,h.r 4,?_⟩;refine q21 h hb2 hl2 ?_
 cases q3:q1n s2 with
 | error e=>
  rw [q3] at k;exact fun H' he h=>k Q _ he (Sub.refl Q) (h.o [2] 7)
 | ok q=>
 obtain⟨tm,s3⟩:=q;rw [q3] at k;dsimp only at k;intro H3 he3 hb3 hl3 h;refine⟨_,rfl,h.r 4,?_⟩;have h:=h.o [5,6,0,1,2,3,4,7] 8;refine Ro.Set_spec rok (agent:=a) (x:=⟨ep,bt,tm⟩) h fun H4 h=>⟨_,rfl,?_⟩
 have hsg:=qt8 (most:=s.cfg.agents) (rows:=s.rows) (a:=a) (e:=⟨ep,bt,tm⟩);generalize setR s.cfg.agents s.rows a ⟨ep,bt,tm⟩=G at *;refine q1o (fun he=>⟨rfl,?_⟩) fun he=>?_
 ·rw [if_neg (by simpa using he)] at k;obtain⟨g1,g2,-⟩:=hsg he;have hag:((a.toNat:Nat):Int)=a:=by omega
  intro Jn hJ;have main:∀(t:Int) (s4:RS) fb H',upR s.now s3=.ok (t,s4)→q04 s4.bs→s4.bs.length≤1099511627776→
    SatL H' (crdA rb s4::Q::cellsA fb [I64 t,.bool false,.bool false,.bool false] 80::cellsA b1 [I64 0,.bool false,.bool false,.bool false] 80::cellsA b [PA rb 0] 109::cellsA sb (q3k s p) 115::strmA Q p.tm s.sts::Ro.rollC p.rb p.rm s.cfg.agents::Ro.mapE p.rm G.1::F)→Jn fb 0 H':=by
   intro t s4 fb H5 hu hb4 hl4 h;rw [hu] at k;dsimp only at k;refine hJ _ _ _ ?_;have:=z82 (a:=a.toNat) (t:=t) (r3:=0) ok (by omega) hb4 hl4 (K:=K) (KP:=KP) ?_ h
   ·rw [hag] at this;rw [he];exact this
   ·cases hq:flR s.cfg t s4 with
    | error e=>
     rw [hq] at k;exact fun Q' H' he hs h=>k Q' H' he hs (h.o [0] 3)
    | ok q=>
     rw [hq] at k;exact fun Q' H' hs he hb hl h=>k Q' H' hs he hb hl h
  refine⟨_,h.q 4,_,h.r 6,?_,?_⟩
  ·have h:=h.o [2,0,1,3,4,5,6,7] 8;refine q8d h hb3 hl3 ?_
   cases hu:upR s.now s3 with
   | error e=>
    rw [hu] at k;exact fun H' he h=>k Q _ he (Sub.refl Q) (h.o [4] 7)
   | ok q=>
   obtain⟨t,s4⟩:=q;intro H5 he4 hb4 hl4 h;refine⟨_,rfl,?_⟩;refine h.al fun b3 _ h=>?_
   refine h.st 0 rfl rfl ?_;intro H6 h;exact main t s4 b3 H6 hu hb4 hl4 (h.o [1,6,0,4,5,7,8,2,3] 9)
  ·refine h.al fun b4 _ h=>⟨h.r 7,h.q 5,?_⟩
   have h:=h.o [3,0,1,2,4,5,6,7,8] 9;refine q8d h hb3 hl3 ?_
   cases hu:upR s.now s3 with
   | error e=>
    rw [hu] at k;exact fun H' he h=>k Q _ he (Sub.refl Q) (h.o [5] 8)
   | ok q=>
   obtain⟨t,s4⟩:=q;intro H5 he4 hb4 hl4 h;refine⟨_,rfl,?_⟩;refine h.st 1 rfl rfl ?_;intro H6 h;exact main t s4 b4 H6 hu hb4 hl4 (h.o [0,6,1,4,5,7,8,2,3] 9)
 ·rw [if_pos he] at k;exact k Q _ he (Sub.refl Q) (h.o [5] 8)
end
end Go.Proofs.YtfmkddccnjidmaaGreatDoor
namespace Go.Nm
structure PAg where
 rows:List En
 sts:List (Option Str)
 fls:FM
def agsR (s0:Sta):Nat→Rd PAg
 | 0,r=>.ok (⟨s0.rows,s0.sts,[]⟩,r)
 | n+1,r=>match agsR s0 n r with
  | .error e=>.error e
  | .ok (x,r1)=>match q1n r1 with
   | .error e=>.error e
   | .ok (a,r2)=>match agtR { s0 with rows:=x.rows,sts:=x.sts } a r2 with
    | .error e=>.error e
    | .ok (y,r3)=>.ok (⟨y.1,x.sts.set a.toNat (some y.2.2),mset a y.2.1 x.fls⟩,r3)
def q5k (most:Int):Nat→Rd CM
 | 0,r=>.ok ([],r)
 | n+1,r=>match q5k most n r with
  | .error e=>.error e
  | .ok (m,r1)=>match q9l r1 with
   | .error e=>.error e
   | .ok (o,r2)=>if (setS most m o.1 o.2).2≠0 then .error (setS most m o.1 o.2).2 else .ok ((setS most m o.1 o.2).1,r2)
def q4i:Nat→Rd (List Ot)
 | 0,r=>.ok ([],r)
 | n+1,r=>match q4i n r with
  | .error e=>.error e
  | .ok (l,r1)=>match q9l r1 with
   | .error e=>.error e
   | .ok (o,r2)=>.ok (l++[o],r2)
def q7r (c:Cfg)(bs:List Int):Except Int Sta:=match upR 4611686018427387903 ⟨0,bs⟩ with
 | .error e=>.error e
 | .ok (now,r1)=>match upR 1099511627776 r1 with
  | .error e=>.error e
  | .ok (boots,r2)=>match upR 1099511627776 r2 with
   | .error e=>.error e
   | .ok (sunk,r3)=>match upR now r3 with
    | .error e=>.error e
    | .ok (moment,r4)=>match q76 r4 with
     | .error e=>.error e
     | .ok (value,r5)=>match q24 64 r5 with
      | .error e=>.error e
      | .ok (n,r6)=>match agsR { newS c with now:=now,boots:=boots,sunk:=sunk } n.toNat r6 with
       | .error e=>.error e
       | .ok (x,r7)=>if ¬(moment - c.lag≤value∧value≤moment) then .error 11 else match q24 1024 r7 with
        | .error e=>.error e
        | .ok (m,r8)=>match q5k c.cells m.toNat r8 with
         | .error e=>.error e
         | .ok (cm,r9)=>match numR r9 with
          | .error e=>.error e
          | .ok (k,r10)=>match q4i k.toNat r10 with
           | .error e=>.error e
           | .ok (kept,r11)=>if (q23 r11).e≠0 then .error (q23 r11).e else
            .ok ⟨c,now,boots,sunk,x.rows,⟨c.lag,moment,value,x.fls⟩,cm,x.sts,kept⟩
def qgk (c:Cfg)(bs:List Int):Except Int Sta:=if cfgR c=false then .error 11 else match q7r c bs with
 | .error _=>.error 10
 | .ok s=>if stB s=bs then .ok s else .error 10
end Go.Nm
namespace Go.Proofs.YtfmkddccnjidmaaGreatDoor
open Go.Nm
section
variable {F L:List Assn} {H:Heap} {K KP:Value→Heap→Prop} {Q Q':Assn} {sb:Nat} {s:Sta}
theorem MSet_err {ms:MS}{mb rb ab:Nat}{now value:Int}(hn:isT now)(hl:1≤ms.lag∧ms.lag≤1099511627776)(hv:¬(now - ms.lag≤value∧value≤now))(h:SatL H (Ma.markC mb rb ms::F))(k:K (I64 11) H) :
  CF 46 #[PA mb 0,I64 now,I64 value,.map (some ab)] H K:=by
 refine qli ?_;have e1:i64.wrap (now - ms.lag)=now - ms.lag:=w64;refine⟨_,Ma.isTime_spec,fun _=>trivial,_,fun _=>h.r 0,?_⟩
 dsimp only;rw [e1,z9p hn];refine⟨fun _=>k,fun hf=>?_⟩
 simp only [Bool.not_true,Bool.false_or,z9g,z9a] at hf;exact absurd ⟨by omega,by omega⟩ hv
theorem qx3 (h:SatL H (stA Q sb s::F))(k:∀hb c0 H',(∃p:SAd,p.hb=hb∧SatL H' (cellsA c0 [PA hb 0] 112::cellsA sb (q3k s p) 115::Ro.rollC p.rb p.rm s.cfg.agents::Ro.mapE p.rm s.rows::Ma.markC p.mb p.mm s.ms::Ma.mapF p.mm s.ms.m::shC p.hb p.hm s.cfg.cells::mapC p.hm s.cm::strmA Q p.tm s.sts::slA 64 74 p.ka s.kept.length p.kc (flat encO s.kept)::F))→K (.func (.func 127) #[] #[PA c0 0]) H') :
  CF 21 #[PA sb 0] H K:=by
 obtain⟨p,h⟩:=q0j.1 h;refine z1j ?_;refine⟨_,h.r 0,?_⟩;refine qfj h fun c0 H' h=>⟨_,_,rfl,?_⟩
 exact k p.hb c0 H' ⟨p,rfl,h⟩
end
end Go.Proofs.YtfmkddccnjidmaaGreatDoor
namespace Go.Nm
structure AgsOk (s0:Sta)(x:PAg):Prop where
 rows:q2z x.rows
 len:x.sts.length=64
 sts:∀st,some st∈x.sts→qgy s0.cfg st
 reg:∀k:Nat,(∃st:Str,x.sts[k]?=some (some st))↔∃e:En,x.rows[k]?=some e∧0 < e.epoch
 fls:∀p∈x.fls,isAg p.1∧isT p.2.t∧p.2.t≤s0.now
 nd:(q00 x.fls).Nodup
theorem z83 {x a b:Int}(h:inM x a b=true):a≤x∧x≤b:=by
 simp only [inM,z99,z97] at h; exact h
theorem qen {m v:Int}{s s':RS}(h:upR m s=.ok (v,s')):0≤v∧v≤m:=by
 unfold upR at h
 cases e:q1n s with
 | error e'=>rw [e] at h; cases h
 | ok q=>
  obtain⟨u,s1⟩:=q;rw [e] at h;dsimp only at h
  split at h
  ·rename_i h0
   cases h
   exact z83 h0
  ·cases h
theorem longR_wf {v:Int}{s s':RS}(h:q1n s=.ok (v,s')):wf64 v:=by
 rw [(q4f h).2.1]; exact i64in _
theorem strR_ok {c:Cfg}{s s':RS}{st:Str}(ok:qap c)(h:strR c s=.ok (st,s')):qgy c st:=by
 unfold strR at h
 cases h1:q76 s with
 | error e=>rw [h1] at h; cases h
 | ok q=>
 obtain⟨last,s1⟩:=q;rw [h1] at h;dsimp only at h
 split at h
 ·cases h
 rename_i hin;have hin:=z83 (by simpa using hin);unfold qku at h
 cases h2:numR s1 with
 | error e=>rw [h2] at h; cases h
 | ok q=>
 obtain⟨hd,s2⟩:=q;rw [h2] at h;dsimp only at h
 cases h3:q1n s2 with
 | error e=>rw [h3] at h; cases h
 | ok q=>
 obtain⟨streak,s3⟩:=q;have hsw:=longR_wf h3;rw [h3] at h;dsimp only at h
 cases h4:q24 8 s3 with
 | error e=>rw [h4] at h; cases h
 | ok q=>
 obtain⟨n,s4⟩:=q;rw [h4] at h;dsimp only at h
 cases h5:qat n.toNat s4 with
 | error e=>rw [h5] at h; cases h
 | ok q=>
 obtain⟨l,s5⟩:=q;rw [h5] at h;dsimp only at h;unfold qp2 at h
 split at h
 ·cases h
 rename_i hl;have hl:=Decidable.not_not.1 hl
 cases h6:q1n s5 with
 | error e=>rw [h6] at h; cases h
 | ok q=>
 obtain⟨next,s6⟩:=q;rw [h6] at h;dsimp only at h
 split at h
 ·cases h
 rename_i hn
 cases h7:q24 256 s6 with
 | error e=>rw [h7] at h; cases h
 | ok q=>
 obtain⟨m,s7⟩:=q;rw [h7] at h;dsimp only at h;have hg0:qwz c.hold (⟨next,c.hold,[]⟩:HS Pv):=⟨⟨by show 0≤next; omega,ok.hd.1,ok.hd.2,⟨by simp [q3y],fun p hp=>absurd hp (by simp)⟩⟩,rfl,by show next≤_; omega,fun p hp=>absurd hp (by simp)⟩
 cases h8:q4v ⟨next,c.hold,[]⟩ m.toNat s7 with
 | error e=>rw [h8] at h; cases h
 | ok q=>
 obtain⟨hs,s8⟩:=q;rw [h8] at h
 cases h
 have g:=qcz hg0 h8;unfold wf64 at hsw;exact⟨⟨hl.1,hl.2.2,hl.2.1,hsw.2⟩,rfl,rfl,g.ok,g.most,g.next,g.rows,hin⟩
theorem agtR_ok {s0:Sta}{x:PAg}{a:Int}{r r':RS}{y:List En × Fl × Str}(ok:qap s0.cfg)(hnow:isT s0.now)(g:AgsOk s0 x)(h:agtR { s0 with rows:=x.rows,sts:=x.sts } a r=.ok (y,r')) :
  AgsOk s0 ⟨y.1,x.sts.set a.toNat (some y.2.2),mset a y.2.1 x.fls⟩:=by
 unfold agtR at h
 cases h1:q1n r with
 | error e=>rw [h1] at h; cases h
 | ok q=>
 obtain⟨ep,s1⟩:=q;rw [h1] at h;dsimp only at h
 cases h2:q1n s1 with
 | error e=>rw [h2] at h; cases h
 | ok q=>
 obtain⟨bt,s2⟩:=q;rw [h2] at h;dsimp only at h
 cases h3:q1n s2 with
 | error e=>rw [h3] at h; cases h
 | ok q=>
 obtain⟨tm,s3⟩:=q;rw [h3] at h;dsimp only at h
 split at h
 ·cases h
 rename_i hs;have hs:(setR s0.cfg.agents x.rows a ⟨ep,bt,tm⟩).2=0:=by simpa using hs
 obtain⟨a1,a2,a3,a4,a5⟩:=qt8 hs;have hrok:=Go.Nm.setR_ok (most:=s0.cfg.agents) g.rows a ⟨ep,bt,tm⟩
 cases h4:upR s0.now s3 with
 | error e=>rw [h4] at h; cases h
 | ok q=>
 obtain⟨t,s4⟩:=q;have ht:=qen h4;rw [h4] at h;dsimp only at h
 cases h5:flR s0.cfg t s4 with
 | error e=>rw [h5] at h; cases h
 | ok q=>
 obtain⟨⟨fl,st⟩,s5⟩:=q;rw [h5] at h
 cases h
 unfold flR at h5
 cases h6:numR s4 with
 | error e=>rw [h6] at h5; cases h5
 | ok q=>
 obtain⟨v,s6⟩:=q;rw [h6] at h5;dsimp only at h5
 cases h7:strR s0.cfg s6 with
 | error e=>rw [h7] at h5; cases h5
 | ok q=>
 obtain⟨st',s7⟩:=q;rw [h7] at h5
 cases h5
 have hst:=strR_ok ok h7;have hlt:a.toNat < x.sts.length:=by rw [g.len]; omega
 have hltr:a.toNat < x.rows.length:=by rw [g.rows.len]; omega
 refine⟨hrok,by show (x.sts.set _ _).length=64; rw [List.length_set,g.len],fun z hz=>?_,fun j=>?_,fun p hp=>?_,q6e g.nd⟩
 ·rcases zbr hz with hz|hz
  ·exact g.sts z hz
  ·cases hz; exact hst
 ·dsimp only;rw [a4]
  by_cases e:j=a.toNat
  ·subst e;rw [List.getElem?_set_self hlt,List.getElem?_set_self hltr];exact⟨fun _=>⟨_,rfl,by show 0 < ep; dsimp only at a3; omega⟩,fun _=>⟨_,rfl⟩⟩
  ·rw [List.getElem?_set_ne (by omega),List.getElem?_set_ne (by omega)];exact g.reg j
 ·rcases q41 hp with rfl|hp
  ·have h0:=hnow.2;exact⟨⟨by show 0≤a; omega,by show a < 64; omega⟩,⟨ht.1,by show t≤_; omega⟩,ht.2⟩
  ·exact g.fls p hp
theorem qx4 {s0:Sta}(ok:q1v s0):∀{n:Nat} {r r':RS} {x:PAg},agsR s0 n r=.ok (x,r')→AgsOk s0 x
 | 0,r,r',x,h=>by
  cases h
  exact⟨ok.rows,ok.len,ok.sts,ok.reg,fun p hp=>absurd hp (by simp),by simp⟩
 | n+1,r,r',x,h=>by
  unfold agsR at h
  cases h1:agsR s0 n r with
  | error e=>rw [h1] at h; cases h
  | ok q=>
  obtain⟨x1,r1⟩:=q;rw [h1] at h;dsimp only at h
  cases h2:q1n r1 with
  | error e=>rw [h2] at h; cases h
  | ok q=>
  obtain⟨a,r2⟩:=q;rw [h2] at h;dsimp only at h
  cases h3:agtR { s0 with rows:=x1.rows,sts:=x1.sts } a r2 with
  | error e=>rw [h3] at h; cases h
  | ok q=>
  obtain⟨y,r3⟩:=q;rw [h3] at h
  cases h
  exact agtR_ok ok.cfg ok.now (qx4 ok h1) h3
theorem iRes_b {s:RS}(hb:q04 s.bs):q04 (iRes s).2.bs:=q0z hb
theorem qp3 {s s':RS}{o:Ot}(hb:q04 s.bs)(h:q9l s=.ok (o,s')):WC o.2∧q3h o.2=true∧(0≤o.1.win∧o.1.win≤4611686018427387903)∧q04 s'.bs:=by
 unfold q9l at h
 cases e:q76 s with
 | error e'=>rw [e] at h; cases h
 | ok q=>
  obtain⟨w,s1⟩:=q;rw [e] at h;dsimp only at h;have hb1:q04 s1.bs:=by rw [(q4f e).1]; exact iRes_b hb
  have t1:=q2p (m:=s1.bs.length) hb1;have t2:=q2p (m:=(tRes s1.bs.length s1).2.bs.length) t1.1
  split at h
  ·cases h
  split at h
  ·cases h
  rename_i hx
  split at h
  ·cases h
  rename_i hc
  cases h
  have hx:(!(q75 (strB (tRes s1.bs.length s1).1)).2.2 || !inM w 0 4611686018427387903)=false:=by simpa only [zbq] using hx
  rw [z9g,za4] at hx;exact⟨z7j t2.2,qso (by simpa using hc),z83 (by simpa only [za4] using hx.2),t2.1⟩
structure CelOk (most:Int)(m:CM):Prop where
 sh:ShOk most m
 win:∀p∈m,0≤p.1.win∧p.1.win≤4611686018427387903
theorem qhg {most:Int}(h0:ShOk most []):∀{n:Nat} {r r':RS} {m:CM},q04 r.bs→q5k most n r=.ok (m,r')→CelOk most m∧q04 r'.bs
 | 0,r,r',m,hb,h=>by
  cases h
  exact⟨⟨h0,fun p hp=>absurd hp (by simp)⟩,hb⟩
 | n+1,r,r',m,hb,h=>by
  unfold q5k at h
  cases h1:q5k most n r with
  | error e=>rw [h1] at h; cases h
  | ok q=>
  obtain⟨m1,r1⟩:=q;rw [h1] at h;dsimp only at h;have ih:=qhg h0 hb h1
  cases h2:q9l r1 with
  | error e=>rw [h2] at h; cases h
  | ok q=>
  obtain⟨o,r2⟩:=q;rw [h2] at h;dsimp only at h;have ho:=qp3 ih.2 h2
  split at h
  ·cases h
  rename_i hs
  cases h
  refine⟨⟨setS_ok ih.1.sh ho.1 (by unfold wf64; omega),fun p hp=>?_⟩,ho.2.2.2⟩
  unfold setS at hp
  split at hp
  ·exact ih.1.win p hp
  split at hp
  ·exact ih.1.win p hp
  split at hp
  ·exact ih.1.win p hp
  rcases q41 hp with rfl|hp
  ·exact ho.2.2.1
  ·exact ih.1.win p hp
theorem qhh:∀{n:Nat} {r r':RS} {l:List Ot},q04 r.bs→q4i n r=.ok (l,r')→(∀o∈l,WC o.2)∧q04 r'.bs
 | 0,r,r',l,hb,h=>by
  cases h
  exact⟨fun o ho=>absurd ho (by simp),hb⟩
 | n+1,r,r',l,hb,h=>by
  unfold q4i at h
  cases h1:q4i n r with
  | error e=>rw [h1] at h; cases h
  | ok q=>
  obtain⟨l1,r1⟩:=q;rw [h1] at h;dsimp only at h;have ih:=qhh hb h1
  cases h2:q9l r1 with
  | error e=>rw [h2] at h; cases h
  | ok q=>
  obtain⟨o,r2⟩:=q;rw [h2] at h
  cases h
  have ho:=qp3 ih.2 h2;refine⟨fun x hx=>?_,ho.2.2.2⟩
  rcases zai.1 hx with hx|hx
  ·exact ih.1 x hx
  ·rw [za0] at hx; rw [hx]; exact ho.1
end Go.Nm
namespace Go.Proofs.YtfmkddccnjidmaaGreatDoor
open Go.Nm
section
variable {F L:List Assn} {H:Heap} {K KP:Value→Heap→Prop} {Q Q':Assn} {sb:Nat} {s:Sta}
theorem qta {b1 b2:Nat}{e v1:Int}{v:Option Addr}{KQ:FrameMode→Heap→Prop}(he:e≠0)(h:SatL H (cellsA b1 [.pointer v] 27::cellsA b2 [I64 v1] 28::F))
  (k:∀H',SatL H' (cellsA b1 [.pointer none] 27::cellsA b2 [I64 10] 28::F)→KQ (panM (pnV e) true) H'):DefQ Tryz.prog 37 [(PA b1 0),(PA b2 0)] (panM (pnV e) false) H KQ:=by
 have hd:DefQ Tryz.prog 37 [(PA b1 0),(PA b2 0)] (panM (pnV e) false) H fun u'' H'=>u''=panM (pnV e) true∧SatL H' (cellsA b1 [.pointer none] 27::cellsA b2 [I64 10] 28::F):=by
  refine q4d.defq (.inr ⟨rfl,rfl⟩) ?_;unfold q4d.code;refine qjm ⟨_,rfl,?_⟩;intro Jn hJ;refine⟨fun _=>?_,fun hc=>absurd hc (by simpa using he)⟩
  refine h.st 0 rfl rfl ?_;intro H2 h;refine h.st 1 rfl rfl ?_;intro H3 h;refine hJ _ ?_
  skip
  exact h
 intro w hw;refine (hd w hw).mono fun e' u' w' hh=>?_
 cases e' <;> simp only at hh ⊢
 exact⟨hh.1,hh.2.1▸k _ hh.2.2⟩
theorem z3t {b1 b2:Nat}{KQ:FrameMode→Heap→Prop}(h:SatL H F)
  (k:∀H',SatL H' F→KQ .returning H'):DefQ Tryz.prog 37 [(PA b1 0),(PA b2 0)] .returning H KQ:=by
 have hd:DefQ Tryz.prog 37 [(PA b1 0),(PA b2 0)] .returning H fun u'' H'=>u''=.returning∧SatL H' F:=by
  refine q4d.defq (.inl ⟨rfl,rfl,rfl⟩) ?_;unfold q4d.code;refine qjl ⟨_,rfl,?_⟩;intro Jn hJ;refine⟨fun hc=>absurd hc (by simp),fun _=>hJ _ ?_⟩
  skip
  exact h
 intro w hw;refine (hd w hw).mono fun e' u' w' hh=>?_
 cases e' <;> simp only at hh ⊢
 exact⟨hh.1,hh.2.1▸k _ hh.2.2⟩
end
end Go.Proofs.YtfmkddccnjidmaaGreatDoor
namespace Go.Nm
theorem uRes_lt2 {s:RS}(hb:q04 s.bs)(h:(uRes s).2.e=0):(uRes s).2.bs.length+1≤s.bs.length:=by
 unfold uRes at h ⊢
 split at h
 ·rename_i h0; exact absurd h h0
 ·rename_i h0;rw [if_neg h0]
  split at h
  ·rename_i u n e;have:=Go.Nm.rdU_size hb e;simp only [e];rw [z9y]; omega
  ·simp at h
  ·simp at h
theorem qz8 {s s':RS}{o:Ot}(hb:q04 s.bs)(h:q9l s=.ok (o,s')):s'.bs.length+1≤s.bs.length:=by
 unfold q9l at h
 cases e:q76 s with
 | error e'=>rw [e] at h; cases h
 | ok q=>
  obtain⟨v,s1⟩:=q;rw [e] at h;dsimp only at h;have h0:=q4f e;have h1:s1.bs.length+1≤s.bs.length:=by
   rw [h0.1];exact uRes_lt2 hb h0.2.2
  have h2:=(q5p s1 s1.bs.length).1;have h3:=(q5p (tRes s1.bs.length s1).2 (tRes s1.bs.length s1).2.bs.length).1
  split at h
  ·cases h
  split at h
  ·cases h
  split at h
  ·cases h
  ·cases h; omega
theorem qz9:∀{n:Nat} {r r':RS} {l:List Ot},q04 r.bs→q4i n r=.ok (l,r')→l.length=n∧n+r'.bs.length≤r.bs.length
 | 0,r,r',l,hb,h=>by
  cases h
  exact⟨rfl,by omega⟩
 | n+1,r,r',l,hb,h=>by
  unfold q4i at h
  cases h1:q4i n r with
  | error e=>rw [h1] at h; cases h
  | ok q=>
  obtain⟨l1,r1⟩:=q;rw [h1] at h;dsimp only at h;have ih:=qz9 hb h1;have hb1:=(qhh hb h1).2
  cases h2:q9l r1 with
  | error e=>rw [h2] at h; cases h
  | ok q=>
  obtain⟨o,r2⟩:=q;rw [h2] at h
  cases h
  have:=qz8 hb1 h2;rw [z95];simp only [z9c,z9v];omega
theorem qtb {s:RS}{e:Int}:∀{n j:Nat},q4i j s=.error e→j≤n→q4i n s=.error e
 | 0,j,h,hj=>by
  obtain rfl:j=0:=by omega
  exact h
 | n+1,j,h,hj=>by
  rcases z9t n j with h1|h1
  ·obtain rfl:j=n+1:=by omega
   exact h
  ·unfold q4i;rw [qtb h h1]
end Go.Nm
namespace Go.Proofs.YtfmkddccnjidmaaGreatDoor
open Go.Nm
section
variable {F L:List Assn} {H:Heap} {K KP:Value→Heap→Prop} {Q Q':Assn} {sb:Nat} {s:Sta}
def qjy (Q:Assn)(F:List Assn)(K:KT):Except Int Sta→Prop
 | .ok s=>∀Q' sb H',Sub Q Q'→SatL H' (Q'::stA Q' sb s::F)→K (.tuple #[PA sb 0,I64 0]) H'
 | .error e=>∀Q' H',Sub Q Q'→SatL H' (Q'::F)→K (.tuple #[.pointer none,I64 e]) H'
theorem PPan {b1 b2:Nat}{e v1:Int}{v:Option Addr}(ke:qjy Q F K (.error 10))(he:e≠0)(hs:Sub Q Q')(h:SatL H (cellsA b1 [.pointer v] 27::cellsA b2 [I64 v1] 28::Q'::F)) :
  memN 37 X.calls=true∧DefQ Tryz.prog 37 [(PA b1 0),(PA b2 0)] (panM (pnV e) false) H fun u24 H_64=>u24=panM (pnV e) true∧
   ∃res10,q02 H_64 b1 0=some (.pointer res10)∧∃res11,q02 H_64 b2 0=some (I64 res11)∧K (.tuple #[(.pointer res10),(I64 res11)]) H_64:=
 ⟨rfl,qta he h fun H2 h=>⟨rfl,_,h.r 0,_,h.r 1,ke Q' _ hs h.tl.tl⟩⟩
theorem qtc (k:Ky)(c:Cl):q04 (cbB k c):=q0d (q72 _) (qse _)
theorem z84 (a:Int)(e:En)(fl:Fl)(st:Str):q04 (agB a e fl st):=
 q0d (q0d (q0d (q0d (q0d (q2q _) (q72 _)) (q2q _)) (q13 fun _ _=>q2q _)) (q2q _)) (q13 fun _ _=>q0d (q2q _) (qsk _))
theorem z3u (s:Sta)(p:Int × En):q04 (agOf s p):=by
 unfold agOf
 split
 ·exact z84 _ _ _ _
 ·exact fun x hx=>by cases hx
theorem qtd (s:Sta):q04 (stB s):=
 q0d (q0d (q0d (q0d (q0d (q0d (q0d (q2q _) (q72 _)) (q2q _)) (q13 fun _ _=>z3u _ _)) (q2q _)) (q13 fun _ _=>qtc _ _)) (q2q _)) (q13 fun _ _=>qtc _ _)
theorem strB_inj {xs ys:List Int}(hx:q04 xs)(hy:q04 ys)(h:(strB xs).toList=(strB ys).toList):xs=ys:=by
 have h2:xs.map (fun n=>UInt8.ofNat n.toNat)=ys.map (fun n=>UInt8.ofNat n.toNat):=by
  rw [← strOfNums_data xs,← strOfNums_data ys];have e:∀b:ByteArray,b.data.toList=b.toList:=fun b=>Eq.symm (ByteArray.toList_eq b)
  rw [e,e];exact h
 have h3:=congrArg (List.map fun b:UInt8=>(b.toNat:Int)) h2
 have e:∀l:List Int,q04 l→(l.map fun n=>UInt8.ofNat n.toNat).map (fun b:UInt8=>(b.toNat:Int))=l:=by
  intro l hl;apply zan (by simp);intro i h1 h2;simp only [zao];exact qh7 hl i h2
 rwa [e _ hx,e _ hy] at h3
set_option maxHeartbeats 8000000 in
theorem z3v {rb b1 b2 b3:Nat}{s1:Sta}{bs:List Int}{ba:Option Addr}{bc:Nat}{kn:Int}{r:RS}{Q1:Assn}(hsub:Sub Q Q1)
  (hA:∀H,SatL H F→rdS H ba (bs.map U8)) (hA2:ba=none∨∃k o,ba=some ⟨k,o,none⟩) (hkn:0≤kn∧kn < 18446744073709551616) (hb:q04 r.bs) (hl:r.bs.length≤1000000000) (hbs:q04 bs)
  (hgood:∀l r',q4i kn.toNat r=.ok (l,r')→(q23 r').e=0→q1v { s1 with kept:=l }∧qwy { s1 with kept:=l }∧l.length≤50000)
  (ke:(∀l r',q4i kn.toNat r=.ok (l,r')→(q23 r').e=0→stB { s1 with kept:=l }=bs→False)→qjy Q F K (.error 10))
  (kok:∀l r',q4i kn.toNat r=.ok (l,r')→(q23 r').e=0→stB { s1 with kept:=l }=bs→qjy Q F K (.ok { s1 with kept:=l }))
  (h:SatL H (crdA rb r::Q1::stA Q1 sb { s1 with kept:=[] }::cellsA b1 [PA sb 0] 27::cellsA b2 [I64 0] 28::cellsA b3 [PA rb 0] 109::F)) :
  ∃(Inv2:Int→Heap→Prop) (mu2:Int→Heap→Nat),Inv2 kn H∧
   ∀(n:Int),∀H_54:Heap,Inv2 n H_54→q2n.l2 ba bs.length bc K b1 b2 b3 Inv2 mu2 n H_54:=by
 refine⟨fun n H'=>∃(j:Nat) (l:List Ot) (r':RS),n=kn - j∧(j:Int)≤kn∧q4i j r=.ok (l,r')∧
  SatL H' (crdA rb r'::Q1::stA Q1 sb { s1 with kept:=l }::cellsA b1 [PA sb 0] 27::cellsA b2 [I64 0] 28::cellsA b3 [PA rb 0] 109::F),
  fun n _=>n.toNat,⟨0,[],r,by omega,hkn.1,rfl,h⟩,?_⟩
 rintro n H1 ⟨j,l,r',rfl,hj,hk,h⟩;have hlt:=qz9 hb hk;have hok:=qhh hb hk;unfold q2n.l2;refine⟨fun hc=>?_,fun hc=>?_⟩
 ·have hc:=z96 hc;refine⟨_,h.q 5,?_⟩;refine qt5 h hok.2 (by omega) ?_;have hk1:q4i (j+1) r=match q9l r' with|.error e=>.error e|.ok (o,r2)=>.ok (l++[o],r2):=by
   rw [q4i,hk] <;> rfl
  cases hr:q9l r' with
  | error e=>
   rw [hr] at hk1;exact fun H' he h=>PPan (ke fun l r1 h1 _ _=>by rw [qtb hk1 (by omega)] at h1; cases h1) he hsub (h.o [2,3,0] 5)
  | ok q=>
  obtain⟨o,r2⟩:=q;rw [hr] at hk1;intro H2 he2 hb2 hl2 h;refine⟨_,_,_,_,_,_,_,_,_,_,rfl,?_⟩;refine h.al fun b7 _ h=>?_
  refine h.al fun b8 _ h=>?_
  refine h.st 1 rfl rfl ?_;intro H3 h;refine h.sta 0 rfl rfl fun H4 h=>?_
  have h:=h.o [4,0,1,2,3,5,6,7] 8;obtain⟨p,h⟩:=q0j.1 h;refine⟨_,h.r 13,_,h.r 13,q01 ⟨_,_,_,h.r 0,_,_,h.q 10,_,_,_,_,_,_,_,_,h.rda 9 rfl,?_⟩⟩;refine h.al fun b9 _ h=>⟨h.r 1,h.r 14,h.r 14,?_⟩
  refine h.append (m:=1) (ws:=encO o) sl86 9 rfl (h.ce_rd 0 rfl) rfl (q6f _) (by show (l.length+1)*600≤_; omega) (by show l.length+1≤_; omega) fun a6 c6 H5 h=>⟨_,_,_,rfl,h.r 14,q01 ?_⟩
  refine h.st 1 rfl rfl ?_;intro H6 h;have hw:u64.wrap (kn - (j:Int) - 1)=kn - ((j+1:Nat):Int):=by rw [u64e]; omega
  rw [hw];refine⟨⟨j+1,l++[o],r2,rfl,by omega,hk1,?_⟩,by dsimp only; omega⟩;have e4:flat encO (l++[o])=flat encO l++encO o:=by rw [q0m]; simp [flat]
  have h:=h.o [1,2,3,4,5,6,7,8,9,12,13,14,15,16] 17;have h:SatL H6 (stA Q1 sb { s1 with kept:=l++[o] }::_):=q0j.2 ⟨{ p with ka:=a6,kc:=c6 },by
   simp only [q3k,z95,za9,e4];exact h⟩
  exact h.o [1,2,0,3,4,5] 6
 ·have hge:=z98 hc;have hjn:j=kn.toNat:=by omega
  subst hjn;refine⟨_,h.r 5,?_⟩;refine qom h fun H2 h=>⟨_,rfl,?_⟩
  refine q1o (fun he=>⟨rfl,_,h.r 3,?_⟩) fun he=>PPan (ke fun l2 r2 h1 h2 _=>by rw [hk] at h1; cases h1; exact he h2) he hsub (h.o [3,4,1] 6)
  obtain⟨gok,gser,gk⟩:=hgood l r' hk he;have h:=h.o [1,2,3,4,5] 6;refine q7c gok gser gk h fun a c H3 h=>⟨_,_,_,rfl,?_⟩
  have hsA:a=none∨∃k o,a=some ⟨k,o,none⟩:=by
   rcases (q3l (F:=star _) h).2 with ⟨h2,_⟩|⟨b,pre,post,e',fr,h2,_⟩
   ·exact .inl h2
   ·exact .inr ⟨_,_,h2⟩
  refine qjb hsA hA2 (h.sl_rd 0 rfl) (hA _ (h.o [] 6)) ⟨_,rfl,?_⟩;intro Jn hJ;refine⟨fun hc=>?_,fun hc=>?_⟩
  ·refine PPan (e:=10) (ke fun l2 r2 h1 h2 h3=>?_) (by decide) hsub (h.o [3,4,1] 6)
   rw [hk] at h1; cases h1;rw [h3] at hc;simp at hc
  ·refine hJ _ ?_;have heq:stB { s1 with kept:=l }=bs:=strB_inj (qtd _) hbs (by simpa using hc);refine⟨_,h.r 3,?_⟩;refine h.st 3 rfl rfl ?_;intro H4 h;refine h.st 4 rfl rfl ?_;intro H5 h;refine⟨rfl,z3t (h.o [3,4,1,2] 6) fun H6 h=>⟨rfl,_,h.r 0,_,h.r 1,kok l r' hk he heq Q1 sb _ hsub h.tl.tl⟩⟩
end
end Go.Proofs.YtfmkddccnjidmaaGreatDoor
namespace Go.Nm
theorem qza {most:Int}(h0:ShOk most []):∀{n:Nat} {r r':RS} {m:CM},q04 r.bs→q5k most n r=.ok (m,r')→n+r'.bs.length≤r.bs.length
 | 0,r,r',m,hb,h=>by
  cases h
  omega
 | n+1,r,r',m,hb,h=>by
  unfold q5k at h
  cases h1:q5k most n r with
  | error e=>rw [h1] at h; cases h
  | ok q=>
  obtain⟨m1,r1⟩:=q;rw [h1] at h;dsimp only at h;have ih:=qza h0 hb h1;have hb1:=(qhg h0 hb h1).2
  cases h2:q9l r1 with
  | error e=>rw [h2] at h; cases h
  | ok q=>
  obtain⟨o,r2⟩:=q;rw [h2] at h;dsimp only at h;have:=qz8 hb1 h2
  split at h
  ·cases h
  ·cases h
   omega
theorem qjz {most:Int}{s:RS}{e:Int}:∀{n j:Nat},q5k most j s=.error e→j≤n→q5k most n s=.error e
 | 0,j,h,hj=>by
  obtain rfl:j=0:=by omega
  exact h
 | n+1,j,h,hj=>by
  rcases z9t n j with h1|h1
  ·obtain rfl:j=n+1:=by omega
   exact h
  ·unfold q5k;rw [qjz h h1]
end Go.Nm
namespace Go.Proofs.YtfmkddccnjidmaaGreatDoor
open Go.Nm
section
variable {F L:List Assn} {H:Heap} {K KP:Value→Heap→Prop} {Q Q':Assn} {sb:Nat} {s:Sta}
set_option maxHeartbeats 8000000 in
theorem qx5 {rb b1 b2 b3:Nat}{s1:Sta}{bs:List Int}{ba:Option Addr}{bc:Nat}{n:Int}{r:RS}{Q1:Assn}(hsub:Sub Q Q1)
  (hA:∀H,SatL H F→rdS H ba (bs.map U8)) (hA2:ba=none∨∃k o,ba=some ⟨k,o,none⟩) (hn:0≤n∧n≤1024) (h0:ShOk s1.cfg.cells []) (hb:q04 r.bs) (hl:r.bs.length≤1000000000) (hbs:q04 bs)
  (hgood:∀m r9 k r10 l r',q5k s1.cfg.cells n.toNat r=.ok (m,r9)→numR r9=.ok (k,r10)→q4i k.toNat r10=.ok (l,r')→(q23 r').e=0→
   q1v { s1 with cm:=m,kept:=l }∧qwy { s1 with cm:=m,kept:=l }∧l.length≤50000)
  (ke:(∀m r9 k r10 l r',q5k s1.cfg.cells n.toNat r=.ok (m,r9)→numR r9=.ok (k,r10)→q4i k.toNat r10=.ok (l,r')→(q23 r').e=0→stB { s1 with cm:=m,kept:=l }=bs→False)→qjy Q F K (.error 10))
  (kok:∀m r9 k r10 l r',q5k s1.cfg.cells n.toNat r=.ok (m,r9)→numR r9=.ok (k,r10)→q4i k.toNat r10=.ok (l,r')→(q23 r').e=0→stB { s1 with cm:=m,kept:=l }=bs→
   qjy Q F K (.ok { s1 with cm:=m,kept:=l }))
  (h:SatL H (crdA rb r::Q1::stA Q1 sb { s1 with cm:=[],kept:=[] }::cellsA b1 [PA sb 0] 27::cellsA b2 [I64 0] 28::cellsA b3 [PA rb 0] 109::F)) :
  ∃(Inv1:Int→Heap→Prop) (mu1:Int→Heap→Nat),Inv1 0 H∧
   ∀(t:Int),∀H':Heap,Inv1 t H'→q2n.l3 ba bs.length bc K b1 b2 b3 n Inv1 mu1 t H':=by
 refine⟨fun t H'=>∃(j:Nat) (m:CM) (r':RS),t=j∧(j:Int)≤n∧q5k s1.cfg.cells j r=.ok (m,r')∧
  SatL H' (crdA rb r'::Q1::stA Q1 sb { s1 with cm:=m,kept:=[] }::cellsA b1 [PA sb 0] 27::cellsA b2 [I64 0] 28::cellsA b3 [PA rb 0] 109::F),
  fun t _=>(n - t).toNat,⟨0,[],r,rfl,hn.1,rfl,h⟩,?_⟩
 rintro t H1 ⟨j,m,r',rfl,hj,hk,h⟩;have hlt:=qza h0 hb hk;have hok:=qhg h0 hb hk;unfold q2n.l3;refine⟨fun hc=>?_,fun hc=>?_⟩
 ·have hc:=z96 hc;refine⟨_,h.q 5,?_⟩;refine qt5 h hok.2 (by omega) ?_;have hk1:q5k s1.cfg.cells (j+1) r=match q9l r' with
    | .error e=>.error e
    | .ok (o,r2)=>if (setS s1.cfg.cells m o.1 o.2).2≠0 then .error (setS s1.cfg.cells m o.1 o.2).2 else .ok ((setS s1.cfg.cells m o.1 o.2).1,r2):=by
   rw [q5k,hk] <;> rfl
  cases hr:q9l r' with
  | error e=>
   rw [hr] at hk1;exact fun H' he h=>PPan (ke fun m r9 k r10 l r1 h1 _ _ _ _=>by rw [qjz hk1 (by omega)] at h1; cases h1) he hsub (h.o [2,3,0] 5)
  | ok q=>
  obtain⟨o,r2⟩:=q;rw [hr] at hk1;dsimp only at hk1;have hco:=qp3 hok.2 hr;intro H2 he2 hb2 hl2 h;refine⟨_,_,_,_,_,_,_,_,_,_,rfl,?_⟩;refine h.al fun b7 _ h=>?_
  refine h.al fun b8 _ h=>?_
  refine h.st 1 rfl rfl ?_;intro H3 h;refine h.sta 0 rfl rfl fun H4 h=>?_
  have h:=h.o [4,0,1,2,3,5,6,7] 8;obtain⟨p,h⟩:=q0j.1 h;refine⟨_,h.r 13,q01 ⟨_,h.r 0,_,_,h.q 10,_,_,_,_,_,_,_,_,h.rda 9 rfl,?_⟩⟩;refine z2a hok.1.1 hco.1 (h.o [5,6,0,1,2,3,4,7,8,11,12,13,14,15] 16) fun H5 h=>⟨_,rfl,?_⟩
  refine q1o (fun he=>⟨rfl,?_⟩) fun he=>PPan (ke fun m2 r9 k r10 l r1 h1 _ _ _ _=>by
   rw [if_pos he] at hk1;rw [qjz hk1 (by omega)] at h1; cases h1) he hsub (h.o [11,12,10] 14)
  rw [if_neg (by simpa using he)] at hk1;have hw:i64.wrap ((j:Int)+1)=((j+1:Nat):Int):=by rw [w64]; omega
  rw [hw];refine⟨⟨j+1,_,r2,rfl,by omega,hk1,?_⟩,by dsimp only; omega⟩;have h:=h.o [2,3,4,5,6,0,1,7,8,9,10,11,12,13] 14;have h:SatL H5 (stA Q1 sb { s1 with cm:=(setS s1.cfg.cells m o.1 o.2).1,kept:=[] }::_):=q0j.2 ⟨p,h⟩;exact h.o [1,2,0,3,4,5] 6
 ·have hge:=z98 hc;have hjn:j=n.toNat:=by omega
  subst hjn;refine⟨_,h.q 5,?_⟩;refine q77 h hok.2 (by omega) ?_
  cases hr:numR r' with
  | error e=>
   exact fun H' he h=>PPan (ke fun m2 r9 k r10 l r1 h1 h2 _ _ _=>by rw [hk] at h1; cases h1; rw [hr] at h2; cases h2) he hsub (h.o [2,3,0] 5)
  | ok q=>
  obtain⟨k,r10⟩:=q;intro H2 he2 hb2 hl2 h;have hln:r10.bs.length≤r'.bs.length:=qel hr;have hkr:0≤k∧k < 18446744073709551616:=by
   rw [(q4f hr).2.1];have:=qvz hok.2;omega
  refine⟨_,rfl,?_⟩;exact z3v (s1:={ s1 with cm:=m }) hsub hA hA2 hkr hb2 (by omega) hbs (fun l r9 h1 h2=>hgood _ _ _ _ _ _ hk hr h1 h2) (fun hn=>ke fun m2 r9 k2 r11 l r1 h1 h2 h3 h4 h5=>by
   rw [hk] at h1; cases h1; rw [hr] at h2; cases h2; exact hn _ _ h3 h4 h5) (fun l r9 h1 h2 h3=>kok _ _ _ _ _ _ hk hr h1 h2 h3) h
end
end Go.Proofs.YtfmkddccnjidmaaGreatDoor
namespace Go.Nm
theorem okR_len {α:Type}{s s':RS}{x y:α}(h:okR s x=.ok (y,s')):s'.bs.length=s.bs.length:=by rw [(q4f h).1]
theorem z3w {s s':RS}{x:Pv}(h:q50 s=.ok (x,s')):s'.bs.length≤s.bs.length:=by
 unfold q50 at h
 cases h1:q1n s with
 | error e'=>rw [h1] at h; cases h
 | ok q=>
  obtain⟨a,s1⟩:=q;rw [h1] at h;dsimp only at h
  cases h2:q76 s1 with
  | error e'=>rw [h2] at h; cases h
  | ok q=>
   obtain⟨b,s2⟩:=q;rw [h2] at h;dsimp only at h;have h3:=okR_len h;have h4:=q0s h1;have h5:=qas h2;have h6:=qsi s2;dsimp only at h3;omega
theorem qte {hs:HS Pv}{s s':RS}{x:HS Pv}(h:qfv hs s=.ok (x,s')):s'.bs.length≤s.bs.length:=by
 unfold qfv at h
 (repeat' split at h) <;> first|(cases h; done)|(cases h; rename_i a b; exact z9i (z3w (by assumption)) (q0s (by assumption)))
theorem qzb {s s':RS}{x:Smp}(h:smpR s=.ok (x,s')):s'.bs.length≤s.bs.length:=by
 unfold smpR at h
 (repeat' split at h) <;> first|(cases h; done)|(cases h; exact z9i (q0s (by assumption)) (z9i (q0s (by assumption)) (z9i (q0s (by assumption)) (q0s (by assumption)))))|exact z9i (q0s (by assumption)) (z9i (q0s (by assumption)) (z9i (q0s (by assumption)) (q0s (by assumption))))
theorem qbi:∀{n:Nat} {s s':RS} {x:List Smp},qat n s=.ok (x,s')→s'.bs.length≤s.bs.length
 | 0,s,s',x,h=>by cases h; exact z9e _
 | n+1,s,s',x,h=>by
  unfold qat at h
  (repeat' split at h) <;> first|(cases h; done)|(cases h; exact z9i (qzb (by assumption)) (qbi (by assumption)))|exact z9i (qzb (by assumption)) (qbi (by assumption))
theorem q94 {hs:HS Pv}:∀{n:Nat} {s s':RS} {x:HS Pv},q4v hs n s=.ok (x,s')→s'.bs.length≤s.bs.length
 | 0,s,s',x,h=>by cases h; exact z9e _
 | n+1,s,s',x,h=>by
  unfold q4v at h
  (repeat' split at h) <;> first|(cases h; done)|(cases h; exact z9i (qte (by assumption)) (q94 (by assumption)))|exact z9i (qte (by assumption)) (q94 (by assumption))
theorem qtf {c:Cfg}{a b:Int}{d:Bool}{l:List Smp}{s s':RS}{x:Str}(h:qp2 c a d b l s=.ok (x,s')):s'.bs.length≤s.bs.length:=by
 unfold qp2 at h
 (repeat' split at h) <;> first|(cases h; done)|(cases h; exact z9i (q94 (by assumption)) (z9i (q6i (by assumption)) (q0s (by assumption))))|exact z9i (q94 (by assumption)) (z9i (q6i (by assumption)) (q0s (by assumption)))
theorem qtg {c:Cfg}{a:Int}{s s':RS}{x:Str}(h:qku c a s=.ok (x,s')):s'.bs.length≤s.bs.length:=by
 unfold qku at h
 (repeat' split at h) <;> first|(cases h; done)|(cases h; exact z9i (qtf (by assumption)) (z9i (qbi (by assumption)) (z9i (q6i (by assumption)) (z9i (q0s (by assumption)) (qel (by assumption))))))|exact z9i (qtf (by assumption)) (z9i (qbi (by assumption)) (z9i (q6i (by assumption)) (z9i (q0s (by assumption)) (qel (by assumption)))))
theorem qzc {c:Cfg}{s s':RS}{x:Str}(h:strR c s=.ok (x,s')):s'.bs.length≤s.bs.length:=by
 unfold strR at h
 (repeat' split at h) <;> first|(cases h; done)|(cases h; exact z9i (qtg (by assumption)) (qas (by assumption)))|exact z9i (qtg (by assumption)) (qas (by assumption))
theorem z85 {c:Cfg}{t:Int}{s s':RS}{x:Fl × Str}(h:flR c t s=.ok (x,s')):s'.bs.length≤s.bs.length:=by
 unfold flR at h
 (repeat' split at h) <;> first|(cases h; done)|(cases h; exact z9i (qzc (by assumption)) (qel (by assumption)))|exact z9i (qzc (by assumption)) (qel (by assumption))
theorem qzd {s0:Sta}{a:Int}{s s':RS}{x:List En × Fl × Str}(h:agtR s0 a s=.ok (x,s')):s'.bs.length≤s.bs.length:=by
 unfold agtR at h
 (repeat' split at h) <;> first|(cases h; done)|(cases h; exact z9i (z85 (by assumption)) (z9i (qfw (by assumption)) (z9i (q0s (by assumption)) (z9i (q0s (by assumption)) (q0s (by assumption))))))|exact z9i (z85 (by assumption)) (z9i (qfw (by assumption)) (z9i (q0s (by assumption)) (z9i (q0s (by assumption)) (q0s (by assumption)))))
theorem qp4 {s0:Sta}:∀{n:Nat} {r r':RS} {x:PAg},agsR s0 n r=.ok (x,r')→r'.bs.length≤r.bs.length
 | 0,s,s',x,h=>by cases h; exact z9e _
 | n+1,s,s',x,h=>by
  unfold agsR at h
  (repeat' split at h) <;> first|(cases h; done)|(cases h; exact z9i (qzd (by assumption)) (z9i (q0s (by assumption)) (qp4 (by assumption))))|exact z9i (qzd (by assumption)) (z9i (q0s (by assumption)) (qp4 (by assumption)))
theorem qp5 {s0:Sta}{s:RS}{e:Int}:∀{n j:Nat},agsR s0 j s=.error e→j≤n→agsR s0 n s=.error e
 | 0,j,h,hj=>by
  obtain rfl:j=0:=by omega
  exact h
 | n+1,j,h,hj=>by
  rcases z9t n j with h1|h1
  ·obtain rfl:j=n+1:=by omega
   exact h
  ·unfold agsR;rw [qp5 h h1]
end Go.Nm
namespace Go.Proofs.YtfmkddccnjidmaaGreatDoor
open Go.Nm
section
variable {F L:List Assn} {H:Heap} {K KP:Value→Heap→Prop} {Q Q':Assn} {sb:Nat} {s:Sta}
set_option maxHeartbeats 8000000 in
theorem z86 {rb b1 b2 b3 b4:Nat}{s0:Sta}{bs:List Int}{ba:Option Addr}{bc:Nat}{n moment value:Int}{r:RS}{Q1:Assn}(hsub:Sub Q Q1)
  (hA:∀H,SatL H F→rdS H ba (bs.map U8)) (hA2:ba=none∨∃k o,ba=some ⟨k,o,none⟩) (ok:q1v s0) (hcm:s0.cm=[]) (hke:s0.kept=[]) (hn:0≤n∧n≤64) (hlag:1≤s0.ms.lag∧s0.ms.lag≤1099511627776) (hm:isT moment) (hb:q04 r.bs) (hl:r.bs.length≤1000000000) (hbs:q04 bs)
  (hgood:∀x r7 m r8 cm r9 k r10 l r',agsR s0 n.toNat r=.ok (x,r7)→(moment - s0.ms.lag≤value∧value≤moment)→q24 1024 r7=.ok (m,r8)→q5k s0.cfg.cells m.toNat r8=.ok (cm,r9)→numR r9=.ok (k,r10)→q4i k.toNat r10=.ok (l,r')→(q23 r').e=0→
   q1v { s0 with rows:=x.rows,sts:=x.sts,ms:=⟨s0.ms.lag,moment,value,x.fls⟩,cm:=cm,kept:=l }∧qwy { s0 with rows:=x.rows,sts:=x.sts,ms:=⟨s0.ms.lag,moment,value,x.fls⟩,cm:=cm,kept:=l }∧l.length≤50000)
  (ke:(∀x r7 m r8 cm r9 k r10 l r',agsR s0 n.toNat r=.ok (x,r7)→(moment - s0.ms.lag≤value∧value≤moment)→q24 1024 r7=.ok (m,r8)→q5k s0.cfg.cells m.toNat r8=.ok (cm,r9)→numR r9=.ok (k,r10)→q4i k.toNat r10=.ok (l,r')→(q23 r').e=0→
   stB { s0 with rows:=x.rows,sts:=x.sts,ms:=⟨s0.ms.lag,moment,value,x.fls⟩,cm:=cm,kept:=l }=bs→False)→qjy Q F K (.error 10))
  (kok:∀x r7 m r8 cm r9 k r10 l r',agsR s0 n.toNat r=.ok (x,r7)→(moment - s0.ms.lag≤value∧value≤moment)→q24 1024 r7=.ok (m,r8)→q5k s0.cfg.cells m.toNat r8=.ok (cm,r9)→numR r9=.ok (k,r10)→q4i k.toNat r10=.ok (l,r')→(q23 r').e=0→
   stB { s0 with rows:=x.rows,sts:=x.sts,ms:=⟨s0.ms.lag,moment,value,x.fls⟩,cm:=cm,kept:=l }=bs→
   qjy Q F K (.ok { s0 with rows:=x.rows,sts:=x.sts,ms:=⟨s0.ms.lag,moment,value,x.fls⟩,cm:=cm,kept:=l }))
  (h:SatL H (crdA rb r::Q1::stA Q1 sb s0::Ma.mapF b4 []::cellsA b1 [PA sb 0] 27::cellsA b2 [I64 0] 28::cellsA b3 [PA rb 0] 109::F)) :
  ∃(Inv:Int→Heap→Prop) (mu:Int→Heap→Nat),Inv 0 H∧
   ∀(t:Int),∀H':Heap,Inv t H'→q2n.l4 ba bs.length bc K b1 b2 b3 moment value b4 n Inv mu t H':=by
 refine⟨fun t H'=>∃(j:Nat) (x:PAg) (r':RS) (Q1:Assn) (p:SAd),t=j∧(j:Int)≤n∧agsR s0 j r=.ok (x,r')∧q04 r'.bs∧Sub Q Q1∧
  SatL H' (crdA rb r'::Q1::cellsA sb (q3k s0 p) 115::Ro.rollC p.rb p.rm s0.cfg.agents::Ro.mapE p.rm x.rows::strmA Q1 p.tm x.sts::Ma.markC p.mb p.mm s0.ms::Ma.mapF p.mm s0.ms.m::shC p.hb p.hm s0.cfg.cells::mapC p.hm s0.cm::slA 64 74 p.ka s0.kept.length p.kc (flat encO s0.kept)::
   Ma.mapF b4 x.fls::cellsA b1 [PA sb 0] 27::cellsA b2 [I64 0] 28::cellsA b3 [PA rb 0] 109::F),
  fun t _=>(n - t).toNat,?_,?_⟩
 ·have h:=h.o [2,0,1,3,4,5,6] 7;obtain⟨p,h⟩:=q0j.1 h;exact⟨0,⟨s0.rows,s0.sts,[]⟩,r,Q1,p,rfl,hn.1,rfl,hb,hsub,h.o [9,10,0,1,2,7,3,4,5,6,8,11,12,13,14] 15⟩
 rintro t H1 ⟨j,x,r',Q1,p,rfl,hj,hk,hb',hsub,h⟩;have hlt:=qp4 hk;have hx:=qx4 ok hk;unfold q2n.l4;refine⟨fun hc=>?_,fun hc=>?_⟩
 ·have hc:=z96 hc;refine⟨_,h.q 14,?_⟩;refine q21 h hb' (by omega) ?_
  cases hr:q1n r' with
  | error e=>
   have hk0:agsR s0 (j+1) r=.error e:=by
    rw [agsR,hk];dsimp only;rw [hr]
   exact fun H' he h=>PPan (ke fun x2 r7 m r8 cm r9 k r10 l r1 h1 _ _ _ _ _ _ _=>by rw [qp5 hk0 (by omega)] at h1; cases h1) he hsub (h.o [11,12,0] 14)
  | ok q=>
  obtain⟨a,r2⟩:=q;intro H2 he2 hb2 hl2 h;refine⟨_,rfl,_,h.q 14,_,h.r 12,?_⟩;refine qt9 (s:={ s0 with rows:=x.rows,sts:=x.sts }) (a:=a) ok.cfg hx.rows hx.len hb2 hl2 ?_ h;have hk1:agsR s0 (j+1) r=match agtR { s0 with rows:=x.rows,sts:=x.sts } a r2 with
    | .error e=>.error e
    | .ok (y,r3)=>.ok (⟨y.1,x.sts.set a.toNat (some y.2.2),mset a y.2.1 x.fls⟩,r3):=by
   rw [agsR,hk];dsimp only;rw [hr] <;> rfl
  cases hq:agtR { s0 with rows:=x.rows,sts:=x.sts } a r2 with
  | error e=>
   rw [hq] at hk1;exact fun Q2 H' he hs h=>PPan (ke fun x2 r7 m r8 cm r9 k r10 l r1 h1 _ _ _ _ _ _ _=>by rw [qp5 hk1 (by omega)] at h1; cases h1) he (hsub.trans hs) (h.o [7,8,0] 10)
  | ok q=>
  obtain⟨y,r3⟩:=q;rw [hq] at hk1;intro Q2 H3 hs he3 hb3 hl3 h;refine⟨_,_,_,_,rfl,?_⟩;refine h.mp_update (α:=Fl) (v:=y.2.1) Ma.mt45 Ma.ko2 11 rfl fun H4 h=>?_
  have hw:i64.wrap ((j:Int)+1)=((j+1:Nat):Int):=by rw [w64]; omega
  rw [hw];refine⟨⟨j+1,_,r3,Q2,p,rfl,by omega,hk1,hb3,hsub.trans hs,?_⟩,by dsimp only; omega⟩;exact h.o [1,0,2,4,5,3,6,7,8,9,10,11,12,13,14] 15
 ·have hge:=z98 hc;have hjn:j=n.toNat:=by omega
  subst hjn;refine⟨_,h.r 12,q01 ⟨_,h.r 2,?_⟩⟩
  by_cases hv:moment - s0.ms.lag≤value∧value≤moment
  ·refine Ma.Set_spec hm hlag hv (fun p hp=>⟨(hx.fls p hp).1,(hx.fls p hp).2.1⟩) (h.o [6,7,11,0,1,2,3,4,5,8,9,10,12,13,14] 15) fun rb' H2 h=>⟨_,rfl,?_⟩
   refine q1o (fun he=>⟨rfl,_,h.q 14,?_⟩) fun he=>absurd rfl he
   refine q79 (by decide) (h.o [3,4,5,6,7,8,0,1,9,10,11,12,13,14] 15) hb' (by omega) ?_
   cases hr:q24 1024 r' with
   | error e=>
    exact fun H' he h=>PPan (ke fun x2 r7 m r8 cm r9 k r10 l r1 h1 _ h3 _ _ _ _ _=>by rw [hk] at h1; cases h1; rw [hr] at h3; cases h3) he hsub (h.o [10,11,0] 13)
   | ok q=>
   obtain⟨m,r8⟩:=q;intro H3 he3 hb3 hl3 h;have hm8:=q6i hr;have hmm:0≤m∧m≤1024:=by rw [(q4f hr).2.1]; exact qwp hb' (by decide)
   refine⟨_,rfl,?_⟩;have h:=h.o [2,3,4,6,7,8,9,5,10,0,1,11,12,13] 14;have h:SatL H3 (stA Q1 sb { s0 with rows:=x.rows,sts:=x.sts,ms:=⟨s0.ms.lag,moment,value,x.fls⟩,cm:=s0.cm,kept:=s0.kept }::_):=q0j.2 ⟨{ p with mm:=rb' },h⟩;rw [hcm,hke] at h;exact qx5 (s1:={ s0 with rows:=x.rows,sts:=x.sts,ms:=⟨s0.ms.lag,moment,value,x.fls⟩ }) hsub hA hA2 hmm (by have:=ok.sh; rwa [hcm] at this) hb3 (by omega) hbs
    (fun cm r9 k r10 l r11=>hgood x r' m r8 cm r9 k r10 l r11 hk hv hr) (fun hn=>ke fun x2 r7 m r8 cm r9 k r10 l r1 h1 _ h3 h4 h5 h6 h7 h8=>by
     rw [hk] at h1; cases h1; rw [hr] at h3; cases h3; exact hn _ _ _ _ _ _ h4 h5 h6 h7 h8) (fun cm r9 k r10 l r11=>kok x r' m r8 cm r9 k r10 l r11 hk hv hr) (h.o [1,2,0,3,4,5] 6)
  ·refine MSet_err hm hlag hv (h.o [6,0,1,2,3,4,5,7,8,9,10,11,12,13,14] 15) ⟨_,rfl,?_⟩;refine q1o (fun he=>absurd he (by decide)) fun he=>PPan (ke fun x2 r7 m r8 cm r9 k r10 l r1 h1 h2 _ _ _ _ _ _=>hv h2) he hsub (h.o [12,13,1] 15)
end
end Go.Proofs.YtfmkddccnjidmaaGreatDoor
namespace Go.Nm
theorem qx6 {s s':RS}{x:Int}(hb:q04 s.bs)(h:numR s=.ok (x,s')):q04 s'.bs:=by rw [(q4f h).1]; exact q0z hb
theorem q3s {s s':RS}{x:Int}(hb:q04 s.bs)(h:q1n s=.ok (x,s')):q04 s'.bs:=by rw [(q4f h).1]; exact q0z hb
theorem qp6 {s s':RS}{x:Int}(hb:q04 s.bs)(h:q76 s=.ok (x,s')):q04 s'.bs:=by rw [(q4f h).1]; exact q0z hb
theorem qeo {s s':RS}{m x:Int}(hb:q04 s.bs)(h:q24 m s=.ok (x,s')):q04 s'.bs:=by rw [(q4f h).1]; exact q89 hb
theorem qth {s s':RS}{m x:Int}(hb:q04 s.bs)(h:upR m s=.ok (x,s')):q04 s'.bs:=by
 unfold upR at h
 cases h1:q1n s with
 | error e=>rw [h1] at h; cases h
 | ok q=>
  obtain⟨a,s1⟩:=q;rw [h1] at h;dsimp only at h
  split at h
  ·cases h; exact q3s hb h1
  ·cases h
theorem z87 {s s':RS}{x:Pv}(hb:q04 s.bs)(h:q50 s=.ok (x,s')):q04 s'.bs:=by
 unfold q50 at h
 cases h1:q1n s with
 | error e'=>rw [h1] at h; cases h
 | ok q=>
  obtain⟨a,s1⟩:=q;rw [h1] at h;dsimp only at h
  cases h2:q76 s1 with
  | error e'=>rw [h2] at h; cases h
  | ok q=>
   obtain⟨b,s2⟩:=q;rw [h2] at h;dsimp only at h;rw [(q4f h).1];exact qj8 (qp6 (q3s hb h1) h2)
theorem waitR_by {hs:HS Pv}{s s':RS}{x:HS Pv}(hb:q04 s.bs)(h:qfv hs s=.ok (x,s')):q04 s'.bs:=by
 unfold qfv at h
 (repeat' split at h) <;> first|(cases h; done)|(cases h; exact z87 (q3s hb (by assumption)) (by assumption))
theorem smpR_by {s s':RS}{x:Smp}(hb:q04 s.bs)(h:smpR s=.ok (x,s')):q04 s'.bs:=by
 unfold smpR at h
 (repeat' split at h) <;> first|(cases h; done)|(cases h; exact q3s (q3s (q3s (q3s hb (by assumption)) (by assumption)) (by assumption)) (by assumption))
theorem qze:∀{n:Nat} {s s':RS} {x:List Smp},q04 s.bs→qat n s=.ok (x,s')→q04 s'.bs
 | 0,s,s',x,hb,h=>by cases h; exact hb
 | n+1,s,s',x,hb,h=>by
  unfold qat at h
  (repeat' split at h) <;> first|(cases h; done)|(cases h; exact smpR_by (qze hb (by assumption)) (by assumption))
theorem qti {hs:HS Pv}:∀{n:Nat} {s s':RS} {x:HS Pv},q04 s.bs→q4v hs n s=.ok (x,s')→q04 s'.bs
 | 0,s,s',x,hb,h=>by cases h; exact hb
 | n+1,s,s',x,hb,h=>by
  unfold q4v at h
  (repeat' split at h) <;> first|(cases h; done)|exact waitR_by (qti hb (by assumption)) h
theorem strR3_by {c:Cfg}{a b:Int}{d:Bool}{l:List Smp}{s s':RS}{x:Str}(hb:q04 s.bs)(h:qp2 c a d b l s=.ok (x,s')):q04 s'.bs:=by
 unfold qp2 at h
 (repeat' split at h) <;> first|(cases h; done)|(cases h; exact qti (qeo (q3s hb (by assumption)) (by assumption)) (by assumption))
theorem strR2_by {c:Cfg}{a:Int}{s s':RS}{x:Str}(hb:q04 s.bs)(h:qku c a s=.ok (x,s')):q04 s'.bs:=by
 unfold qku at h
 (repeat' split at h) <;> first|(cases h; done)|exact strR3_by (qze (qeo (q3s (qx6 hb (by assumption)) (by assumption)) (by assumption)) (by assumption)) h
theorem strR_by {c:Cfg}{s s':RS}{x:Str}(hb:q04 s.bs)(h:strR c s=.ok (x,s')):q04 s'.bs:=by
 unfold strR at h
 (repeat' split at h) <;> first|(cases h; done)|exact strR2_by (qp6 hb (by assumption)) h
theorem flR_by {c:Cfg}{t:Int}{s s':RS}{x:Fl × Str}(hb:q04 s.bs)(h:flR c t s=.ok (x,s')):q04 s'.bs:=by
 unfold flR at h
 (repeat' split at h) <;> first|(cases h; done)|(cases h; exact strR_by (qx6 hb (by assumption)) (by assumption))
theorem agtR_by {s0:Sta}{a:Int}{s s':RS}{x:List En × Fl × Str}(hb:q04 s.bs)(h:agtR s0 a s=.ok (x,s')):q04 s'.bs:=by
 unfold agtR at h
 (repeat' split at h) <;> first|(cases h; done)|(cases h; exact flR_by (qth (q3s (q3s (q3s hb (by assumption)) (by assumption)) (by assumption)) (by assumption)) (by assumption))
theorem z88 {s0:Sta}:∀{n:Nat} {r r':RS} {x:PAg},q04 r.bs→agsR s0 n r=.ok (x,r')→q04 r'.bs
 | 0,s,s',x,hb,h=>by cases h; exact hb
 | n+1,s,s',x,hb,h=>by
  unfold agsR at h
  (repeat' split at h) <;> first|(cases h; done)|(cases h; exact agtR_by (q3s (z88 hb (by assumption)) (by assumption)) (by assumption))
theorem z89 {c:Cfg}{bs:List Int}{s:Sta}(hb:q04 bs)(okc:qap c)(h:q7r c bs=.ok s):q1v s:=by
 unfold q7r at h
 cases h1:upR 4611686018427387903 ⟨0,bs⟩ with
 | error e=>rw [h1] at h; cases h
 | ok q=>
 obtain⟨now,r1⟩:=q;have b1:=qth hb h1;rw [h1] at h;dsimp only at h
 cases h2:upR 1099511627776 r1 with
 | error e=>rw [h2] at h; cases h
 | ok q=>
 obtain⟨boots,r2⟩:=q;have b2:=qth b1 h2;rw [h2] at h;dsimp only at h
 cases h3:upR 1099511627776 r2 with
 | error e=>rw [h3] at h; cases h
 | ok q=>
 obtain⟨sunk,r3⟩:=q;have b3:=qth b2 h3;rw [h3] at h;dsimp only at h
 cases h4:upR now r3 with
 | error e=>rw [h4] at h; cases h
 | ok q=>
 obtain⟨moment,r4⟩:=q;have b4:=qth b3 h4;rw [h4] at h;dsimp only at h
 cases h5:q76 r4 with
 | error e=>rw [h5] at h; cases h
 | ok q=>
 obtain⟨value,r5⟩:=q;have b5:=qp6 b4 h5;rw [h5] at h;dsimp only at h
 cases h6:q24 64 r5 with
 | error e=>rw [h6] at h; cases h
 | ok q=>
 obtain⟨n,r6⟩:=q;have b6:=qeo b5 h6;rw [h6] at h;dsimp only at h;have i1:=qen h1;have i2:=qen h2;have i3:=qen h3;have i4:=qen h4;have ok0:q1v { newS c with now:=now,boots:=boots,sunk:=sunk }:=(qar okc).upd (now:=now) (ms:=(newS c).ms) (cm:=(newS c).cm) (kept:=(newS c).kept) (sunk:=sunk) (boots:=boots) i1 (qar okc).ms rfl (qar okc).sh (qar okc).kept i3.1 i2
 cases h7:agsR { newS c with now:=now,boots:=boots,sunk:=sunk } n.toNat r6 with
 | error e=>rw [h7] at h; cases h
 | ok q=>
 obtain⟨x,r7⟩:=q;have b7:=z88 b6 h7;have gx:=qx4 ok0 h7;rw [h7] at h;dsimp only at h
 split at h
 ·cases h
 rename_i hv;have hv:=Decidable.not_not.1 hv
 cases h8:q24 1024 r7 with
 | error e=>rw [h8] at h; cases h
 | ok q=>
 obtain⟨m,r8⟩:=q;have b8:=qeo b7 h8;rw [h8] at h;dsimp only at h
 cases h9:q5k c.cells m.toNat r8 with
 | error e=>rw [h9] at h; cases h
 | ok q=>
 obtain⟨cm,r9⟩:=q;have g9:=qhg (qar okc).sh b8 h9;rw [h9] at h;dsimp only at h
 cases h10:numR r9 with
 | error e=>rw [h10] at h; cases h
 | ok q=>
 obtain⟨k,r10⟩:=q;have b10:=qx6 g9.2 h10;rw [h10] at h;dsimp only at h
 cases h11:q4i k.toNat r10 with
 | error e=>rw [h11] at h; cases h
 | ok q=>
 obtain⟨kept,r11⟩:=q;have g11:=qhh b10 h11;rw [h11] at h;dsimp only at h
 split at h
 ·cases h
 cases h
 have hl:=okc.lag;have hm:isT moment:=⟨i4.1,by show moment≤_; omega⟩;exact⟨okc,i1,i2,i3.1,gx.rows,⟨hl.1,hl.2,hm,by show -c.lag≤value; omega,by show value≤_; omega,gx.nd,fun p hp=>⟨(gx.fls p hp).1,(gx.fls p hp).2.1⟩⟩,rfl,g9.1.sh,gx.len,gx.sts,gx.reg,g11.1⟩
end Go.Nm
namespace Go.Proofs.YtfmkddccnjidmaaGreatDoor
open Go.Nm
section
variable {F L:List Assn} {H:Heap} {K KP:Value→Heap→Prop} {Q Q':Assn} {sb:Nat} {s:Sta}
set_option maxHeartbeats 8000000 in
theorem z3x {c:Cfg}{bs:List Int}{ba:Option Addr}{bc:Nat}(h:SatL H (Q::F))
  (hA:∀H,SatL H F→rdS H ba (bs.map U8)) (hA2:ba=none∨∃k o,ba=some ⟨k,o,none⟩) (hbs:q04 bs) (hl:bs.length≤1000000000)
  (hgood:cfgR c=true→∀s,q7r c bs=.ok s→qwy s∧s.kept.length≤50000)
  (k1:cfgR c=false→∀H',SatL H' (Q::F)→K (.tuple #[.pointer none,I64 11]) H')
  (k2:cfgR c=true→∀e,qgk c bs=.error e→qjy Q F K (.error 10))
  (k3:cfgR c=true→∀s,qgk c bs=.ok s→qjy Q F K (.ok s)) :
  CF 11 #[.agg ⟨qks c⟩,.slice ba bs.length bc] H K:=by
 refine qrz ?_;refine h.al fun b0 _ h=>?_
 refine h.al fun b1 _ h=>?_
 refine h.al fun b2 _ h=>?_
 refine⟨_,_,_,_,_,_,_,_,_,h.q 2,?_⟩;refine qfu (Q:=Q) (c:=c) h (fun hc H1 h=>?_) fun hc sb H1 h=>?_
 ·refine⟨_,_,rfl,?_⟩;refine h.st 1 rfl rfl ?_;intro H2 h;refine h.st 0 rfl rfl ?_;intro H3 h;refine⟨_,h.r 0,fun _=>?_,fun hf=>absurd hf (by simp)⟩
  refine⟨_,h.r 0,?_⟩;refine h.st 1 rfl rfl ?_;intro H4 h;refine⟨h.r 0,?_⟩;refine h.st 0 rfl rfl ?_;intro H5 h;exact⟨_,h.r 1,_,h.r 0,k1 hc _ (h.o [3] 4)⟩
 have okc:=qft hc;have ok0:=qar okc;refine⟨_,_,rfl,?_⟩;refine h.st 2 rfl rfl ?_;intro H2 h;refine h.st 1 rfl rfl ?_;intro H3 h;refine⟨_,h.r 1,fun hf=>absurd hf (by simp),fun _=>?_⟩
 refine qis h (fun H h=>hA H (h.o [] 5)) (by omega) fun rb H4 h=>⟨_,rfl,?_⟩
 refine h.al fun b3 _ h=>?_
 refine h.st 0 rfl rfl ?_;intro H5 h;refine⟨_,h.r 4,_,h.r 4,_,h.r 4,_,h.q 0,_,h.q 0,_,h.q 0,?_⟩;have h:=h.o [1,0,2,3,4,6] 7;have KE:=fun e (he:q7r c bs=.error e)=>k2 hc 10 (by unfold qgk; rw [if_neg (by simp [hc]),he])
 have pan:∀{e:Int} {H:Heap} {sv:Sta} {b1 b2 b3 rb:Nat} {v1:Int} {v:Option Addr},qjy Q F K (.error 10)→e≠0→SatL H (cellsA b3 [PA rb 0] 109::stA Q sb sv::cellsA b2 [I64 v1] 28::cellsA b1 [.pointer v] 27::Q::F)→
   memN 37 X.calls=true∧DefQ Tryz.prog 37 [(PA b1 0),(PA b2 0)] (panM (pnV e) false) H fun u24 H_64=>u24=panM (pnV e) true∧
   ∃res10,q02 H_64 b1 0=some (.pointer res10)∧∃res11,q02 H_64 b2 0=some (I64 res11)∧K (.tuple #[(.pointer res10),(I64 res11)]) H_64:=
  fun ke he h=>PPan ke he (Sub.refl Q) (h.o [3,2,4] 5)
 unfold q7r at KE;refine q8d h hbs (by show bs.length≤_; omega) ?_
 cases h1:upR 4611686018427387903 ⟨0,bs⟩ with
 | error e=>rw [h1] at KE; exact fun H' he h=>pan (KE _ rfl) he h
 | ok q=>
 obtain⟨now,r1⟩:=q;rw [h1] at KE;dsimp only at KE;intro H6 e1 b1' l1 h;refine⟨_,rfl,h.q 1,h.q 1,h.r 4,h.r 4,h.r 4,?_⟩;refine q8d h b1' l1 ?_
 cases h2:upR 1099511627776 r1 with
 | error e=>rw [h2] at KE; exact fun H' he h=>pan (KE _ rfl) he h
 | ok q=>
 obtain⟨boots,r2⟩:=q;rw [h2] at KE;dsimp only at KE;intro H7 e2 b2' l2 h;refine⟨_,rfl,h.q 1,h.r 4,h.r 4,h.r 4,?_⟩;refine q8d h b2' l2 ?_
 cases h3:upR 1099511627776 r2 with
 | error e=>rw [h3] at KE; exact fun H' he h=>pan (KE _ rfl) he h
 | ok q=>
 obtain⟨sunk,r3⟩:=q;rw [h3] at KE;dsimp only at KE;intro H8 e3 b3' l3 h;have i1:=qen h1;have i2:=qen h2;have i3:=qen h3;have okN:q1v { newS c with now:=now,boots:=boots,sunk:=sunk }:=ok0.upd (now:=now) (ms:=(newS c).ms) (cm:=(newS c).cm) (kept:=(newS c).kept) (sunk:=sunk) (boots:=boots) i1 ok0.ms rfl ok0.sh ok0.kept i3.1 i2;refine⟨_,rfl,h.r 4,h.r 4,h.r 4,q01 ?_⟩;have h:=h.o [2,0,1,3,4,5] 6;obtain⟨p,h⟩:=q0j.1 h;refine h.st 0 rfl rfl ?_;intro H9 h;refine⟨h.r 12,h.r 12,q01 ?_⟩;refine h.st 0 rfl rfl ?_;intro H10 h;refine⟨h.r 12,q01 ?_⟩;refine h.st 0 rfl rfl ?_;intro H11 h;refine⟨_,h.q 10,_,h.r 12,q01 ⟨_,h.r 0,_,h.q 10,?_⟩⟩;have h:SatL H11 (stA Q sb { newS c with now:=now,boots:=boots,sunk:=sunk }::_):=q0j.2 ⟨p,h⟩;have h:=h.o [1,2,0,3,4,5] 6;refine q8d h b3' l3 ?_
 cases h4:upR now r3 with
 | error e=>rw [h4] at KE; exact fun H' he h=>pan (KE _ rfl) he h
 | ok q=>
 obtain⟨moment,r4⟩:=q;rw [h4] at KE;dsimp only at KE;intro H12 e4 b4' l4 h;refine⟨_,rfl,h.q 1,?_⟩;refine q78 h b4' l4 ?_
 cases h5:q76 r4 with
 | error e=>rw [h5] at KE; exact fun H' he h=>pan (KE _ rfl) he h
 | ok q=>
 obtain⟨value,r5⟩:=q;rw [h5] at KE;dsimp only at KE;intro H13 e5 b5' l5 h;refine⟨_,rfl,?_⟩;refine h.alm I64 aggF fun b4 _ h=>?_
 refine⟨_,h.q 2,?_⟩;have h:=h.o [1,2,3,4,5,6,0] 7;refine q79 (by decide) h b5' l5 ?_
 cases h6:q24 64 r5 with
 | error e=>rw [h6] at KE; exact fun H' he h=>pan (KE _ rfl) he (h.o [0,1,2,3,4] 6)
 | ok q=>
 obtain⟨n,r6⟩:=q;rw [h6] at KE;dsimp only at KE;intro H14 e6 b6' l6 h;have i4:=qen h4;have hn:0≤n∧n≤64:=by rw [(q4f h6).2.1]; exact qwp b5' (by decide)
 have t1:=qfw h1;have t2:=qfw h2;have t3:=qfw h3;have t4:=qfw h4;have t5:=qas h5;have t6:=q6i h6;dsimp only at t1;refine⟨_,rfl,?_⟩;have P1:∀x r7 m r8 cm r9 k r10 l r',agsR { newS c with now:=now,boots:=boots,sunk:=sunk } n.toNat r6=.ok (x,r7)→(moment - c.lag≤value∧value≤moment)→q24 1024 r7=.ok (m,r8)→q5k c.cells m.toNat r8=.ok (cm,r9)→numR r9=.ok (k,r10)→q4i k.toNat r10=.ok (l,r')→(q23 r').e=0→
   q7r c bs=.ok ⟨c,now,boots,sunk,x.rows,⟨c.lag,moment,value,x.fls⟩,cm,x.sts,l⟩:=by
  intro x r7 m r8 cm r9 k r10 l r' a1 a2 a3 a4 a5 a6 a7;unfold q7r;rw [h1]; dsimp only;rw [h2]; dsimp only;rw [h3]; dsimp only;rw [h4]; dsimp only;rw [h5]; dsimp only;rw [h6]; dsimp only;rw [a1]; dsimp only;rw [if_neg (fun hn=>hn a2),a3]; dsimp only
  rw [a4]; dsimp only;rw [a5]; dsimp only;rw [a6]; dsimp only;rw [if_neg (fun hn=>hn a7)]
 have P2:∀s,q7r c bs=.ok s→∃x r7 m r8 cm r9 k r10 l r',agsR { newS c with now:=now,boots:=boots,sunk:=sunk } n.toNat r6=.ok (x,r7)∧(moment - c.lag≤value∧value≤moment)∧q24 1024 r7=.ok (m,r8)∧q5k c.cells m.toNat r8=.ok (cm,r9)∧numR r9=.ok (k,r10)∧q4i k.toNat r10=.ok (l,r')∧(q23 r').e=0∧
   s=⟨c,now,boots,sunk,x.rows,⟨c.lag,moment,value,x.fls⟩,cm,x.sts,l⟩:=by
  intro s hp;unfold q7r at hp;rw [h1] at hp; dsimp only at hp;rw [h2] at hp; dsimp only at hp;rw [h3] at hp; dsimp only at hp;rw [h4] at hp; dsimp only at hp;rw [h5] at hp; dsimp only at hp;rw [h6] at hp; dsimp only at hp
  cases a1:agsR { newS c with now:=now,boots:=boots,sunk:=sunk } n.toNat r6 with
  | error e=>rw [a1] at hp; cases hp
  | ok q=>
  obtain⟨x,r7⟩:=q;rw [a1] at hp; dsimp only at hp
  split at hp
  ·cases hp
  rename_i a2;have a2:=Decidable.not_not.1 a2
  cases a3:q24 1024 r7 with
  | error e=>rw [a3] at hp; cases hp
  | ok q=>
  obtain⟨m,r8⟩:=q;rw [a3] at hp; dsimp only at hp
  cases a4:q5k c.cells m.toNat r8 with
  | error e=>rw [a4] at hp; cases hp
  | ok q=>
  obtain⟨cm,r9⟩:=q;rw [a4] at hp; dsimp only at hp
  cases a5:numR r9 with
  | error e=>rw [a5] at hp; cases hp
  | ok q=>
  obtain⟨k,r10⟩:=q;rw [a5] at hp; dsimp only at hp
  cases a6:q4i k.toNat r10 with
  | error e=>rw [a6] at hp; cases hp
  | ok q=>
  obtain⟨l,r'⟩:=q;rw [a6] at hp; dsimp only at hp
  split at hp
  ·cases hp
  rename_i a7
  cases hp
  exact⟨x,r7,m,r8,cm,r9,k,r10,l,r',rfl,a2,a3,a4,a5,a6,Decidable.not_not.1 a7,rfl⟩
 have ke:(∀x r7 m r8 cm r9 k r10 l r',agsR { newS c with now:=now,boots:=boots,sunk:=sunk } n.toNat r6=.ok (x,r7)→(moment - c.lag≤value∧value≤moment)→q24 1024 r7=.ok (m,r8)→q5k c.cells m.toNat r8=.ok (cm,r9)→numR r9=.ok (k,r10)→q4i k.toNat r10=.ok (l,r')→(q23 r').e=0→
   stB ⟨c,now,boots,sunk,x.rows,⟨c.lag,moment,value,x.fls⟩,cm,x.sts,l⟩=bs→False)→qjy Q F K (.error 10):=by
  intro hn
  cases hp:qgk c bs with
  | error e=>exact k2 hc e hp
  | ok s=>
   exfalso;unfold qgk at hp;rw [if_neg (by simp [hc])] at hp
   cases hq:q7r c bs with
   | error e=>rw [hq] at hp; cases hp
   | ok s1=>
   rw [hq] at hp;dsimp only at hp
   split at hp
   ·rename_i he
    cases hp
    obtain⟨x,r7,m,r8,cm,r9,k,r10,l,r',a1,a2,a3,a4,a5,a6,a7,rfl⟩:=P2 _ hq;exact hn x r7 m r8 cm r9 k r10 l r' a1 a2 a3 a4 a5 a6 a7 he
   ·cases hp
 refine z86 (s0:={ newS c with now:=now,boots:=boots,sunk:=sunk }) (Sub.refl Q) hA hA2 okN rfl rfl hn okc.lag ⟨i4.1,by omega⟩ b6' (by omega) hbs ?_ ke ?_ (h.o [0,5,2,6,4,3,1] 7)
 ·intro x r7 m r8 cm r9 k r10 l r' a1 a2 a3 a4 a5 a6 a7;have:=P1 x r7 m r8 cm r9 k r10 l r' a1 a2 a3 a4 a5 a6 a7;exact⟨z89 hbs okc this,hgood hc _ this⟩
 ·intro x r7 m r8 cm r9 k r10 l r' a1 a2 a3 a4 a5 a6 a7 a8;have:=P1 x r7 m r8 cm r9 k r10 l r' a1 a2 a3 a4 a5 a6 a7;refine k3 hc _ ?_;unfold qgk;rw [if_neg (by simp [hc]),this];dsimp only;exact if_pos a8
end
end Go.Proofs.YtfmkddccnjidmaaGreatDoor
namespace Go.Nm
structure Rx where
 kind:Int
 ag:Int
 ep:Int
 bt:Int
 nx:Int
 st:Int
 nw:Int
 sm:Smp
 ea:Option Addr
 ec:Nat
 evs:List Ev
def Rx.p (x:Rx):Rp:=⟨x.kind,x.ag,x.ep,x.bt,x.nx,x.st,x.nw,x.sm,x.evs.map Ev.p⟩
abbrev encX (x:Rx):List Value:=[I64 x.kind,I64 x.ag,I64 x.ep,I64 x.bt,I64 x.nx,I64 x.st,I64 x.nw,I64 x.sm.asked,I64 x.sm.got,I64 x.sm.sent,I64 x.sm.came,.slice x.ea x.evs.length x.ec]
theorem qep (x:Rx):(encX x).length=12:=rfl
structure RxK (Q:Assn)(x:Rx):Prop where
 rd:KIn Q x.ea (flat encV x.evs)
 labs:∀e∈x.evs,q63 Q e
 val:∀e∈x.evs,wf64 e.value
 ll:∀e∈x.evs,e.labs.length≤maxLen
structure XsK (Q:Assn)(a:Option Addr)(xs:List Rx):Prop where
 rd:KIn Q a (flat encX xs)
 rx:∀x∈xs,RxK Q x
 ll:xs.length≤maxLen
theorem RxK.sub {Q Q':Assn}{x:Rx}(h:RxK Q x)(hs:Sub Q Q'):RxK Q' x:=⟨h.rd.sub hs,fun e he=>(h.labs e he).sub hs,h.val,h.ll⟩
theorem XsK.sub {Q Q':Assn}{a:Option Addr}{xs:List Rx}(h:XsK Q a xs)(hs:Sub Q Q'):XsK Q' a xs:=⟨h.rd.sub hs,fun x hx=>(h.rx x hx).sub hs,h.ll⟩
def grL (l:Lab):Bool:=decide (300 < (l.name.size:Int)) || decide (300 < (l.value.size:Int))
def grS (name:ByteArray)(labs:List Lab):Bool:=decide (100 < (labs.length:Int)) || decide (300 < (name.size:Int)) || labs.any grL
def grE (evs:List Ev):Bool:=decide (100 < (evs.length:Int)) || evs.any fun e=>grS e.name e.labs
def grC (c:Cfg)(n:Nat):Bool:=decide (80 < (n:Int)) || (decide (200 < c.cells) && decide (c.cells≤1024))
def grR (c:Cfg)(xs:List Rx):Bool:=grC c xs.length || xs.any fun x=>grE x.evs
theorem qk0 {α:Type}{p:α→Bool}{l:List α}(h:∀q (hq:q < l.length),p l[q]=false):l.any p=false:=by
 rw [List.any_eq_false];intro x hx;obtain⟨q,hq,rfl⟩:=zbb hx;rw [h q hq]; simp
theorem qp7 {α:Type}{p:α→Bool}{l:List α}{q:Nat}(hq:q < l.length)(h:p l[q]=true):l.any p=true:=List.any_eq_true.2 ⟨_,z9f hq,h⟩
theorem grE_of {evs:List Ev}(h:grE evs=false):evs.length≤100∧∀e∈evs,e.labs.length≤100∧e.name.size≤300∧∀l∈e.labs,l.name.size≤300∧l.value.size≤300:=by
 unfold grE at h;rw [z9g,z9a,List.any_eq_false] at h;refine⟨by omega,fun e he=>?_⟩
 have:=h.2 e he;unfold grS at this;simp only [zbq,z9g,z9a,List.any_eq_false] at this;refine⟨by omega,by omega,fun l hl=>?_⟩
 have:=this.2 l hl;unfold grL at this;simp only [zbq,z9g,z9a] at this;omega
theorem z8a {c:Cfg}{xs:List Rx}(h:grR c xs=false):xs.length≤80∧∀x∈xs,grE x.evs=false:=by
 unfold grR grC at h;simp only [z9g,z9a,List.any_eq_false,zbq] at h;exact⟨by omega,h.2⟩
def runS (s:Sta)(rs:List Rp):Sta:=rs.foldl (fun s r=>(q0h s r).1) s
theorem z8b (s:Sta)(rs:List Rp)(r:Rp):runS s (rs++[r])=(q0h (runS s rs) r).1:=by unfold runS; rw [zbd]; rfl
structure qx7 (s:Sta)(n:Nat):Prop where
 ok:q1v s
 sunk:s.sunk≤1099511627776
 kept:s.kept.length≤1024*n
theorem z8c {c:Cfg}(h:qap c):qx7 (newS c) 0:=⟨qar h,by show (0:Int)≤_; decide,by simp [newS]⟩
theorem qx7.step {s:Sta}{n:Nat}{r:Rp}(h:qx7 s n)(hv:∀e∈r.evs,wf64 e.value):qx7 (q0h s r).1 (n+1):=by
 have hg:=z3p (r:=r) h.ok h.sunk;exact⟨qz2 h.ok hv,hg.2,by have:=h.kept; omega⟩
theorem qx7.run {s:Sta}{n:Nat}(h:qx7 s n):∀{rs:List Rp},(∀r∈rs,∀e∈r.evs,wf64 e.value)→qx7 (runS s rs) (n+rs.length):=by
 intro rs
 induction rs generalizing s n with
 | nil=>intro _; exact h
 | cons r rs ih=>
  intro hv;have:=ih (h.step (r:=r) (hv r (z9k ..))) fun x hx=>hv x (z9m _ hx)
  rw [z9c,show n+(rs.length+1)=n+1+rs.length by omega];exact this
theorem RxK.vals {Q:Assn}{x:Rx}(h:RxK Q x):∀e∈x.p.evs,wf64 e.value:=by
 intro e he;obtain⟨v,hv,rfl⟩:=z9d.1 he;exact h.val v hv
end Go.Nm
namespace Go.Proofs.YtfmkddccnjidmaaGreatDoor
open Go.Nm
section
variable {F L:List Assn} {H H0:Heap} {K KP:Value→Heap→Prop} {Q Q':Assn} {sb:Nat} {s:Sta}
theorem qgl {name:ByteArray}{labs:List Lab}{a:Option Addr}{c:Nat}(h:SatL H F)(ha:∀H,SatL H F→rdS H a (flat encL labs))(hl:labs.length≤maxLen)(k:∀H',SatL H' F→K (.bool (grS name labs)) H') :
  CF 99 #[.agg #[.string name,.slice a labs.length c]] H K:=by
 refine z6e ?_;unfold grS at k;refine h.al fun b _ h=>⟨_,_,_,h.r 0,_,fun _=>h.r 0,fun hc=>?_,fun hc=>?_⟩
 ·rw [hc,Bool.true_or] at k;exact k _ h.tl
 rw [hc,Bool.false_or] at k;rw [z9g,z9a] at hc;refine⟨fun i H'=>∃j:Nat,i=j∧j≤labs.length∧(∀q (hq:q < labs.length),q < j→grL labs[q]=false)∧SatL H' (cellsA b [.string name,.slice a labs.length c] 93::F),fun i _=>labs.length - i.toNat,⟨0,rfl,by omega,fun q _ h=>by omega,h⟩,?_⟩
 rintro i H' ⟨j,rfl,hj,hq,h⟩;refine⟨_,_,_,h.r 0,fun hc=>?_,fun hc=>?_⟩
 ·have hlt:j < labs.length:=by have:=z96 hc; omega
  have hr:=ha H' h.tl;have e1:=hr.el0 q1g hlt (v:=.string labs[j].name) rfl;have e2:=hr.el q1g hlt 1 (v:=.string labs[j].value) rfl;refine⟨_,_,_,h.r 0,by omega,_,_,hr.some q1g (by omega) hlt,_,by simpa using e1,_,_,_,fun _=>h.r 0,fun _=>by omega,_,_,fun _=>hr.some q1g (by omega) hlt,_,fun _=>by simpa using e2,fun hg=>?_,fun hg=>?_⟩
  ·rw [qp7 hlt hg] at k;exact k _ h.tl
  ·rw [w64 (by omega) (by unfold maxLen at *; omega)];refine⟨⟨j+1,by omega,hlt,fun q hq2 hqj=>?_,h⟩,by dsimp only; omega⟩
   rcases z9t q j with h1|h1
   ·exact hq q hq2 h1
   ·obtain rfl:q=j:=by omega
    exact hg
 ·have hge:labs.length≤j:=by have:=z98 hc; omega
  rw [qk0 fun q hq2=>hq q hq2 (by omega)] at k
  exact k _ h.tl
theorem qtj {evs:List Ev}{a:Option Addr}{c:Nat}(h:SatL H F)(ha:∀H,SatL H F→rdS H a (flat encV evs))(hb:∀e∈evs,(∀H,SatL H F→rdS H e.la (flat encL e.labs))∧e.labs.length≤maxLen)(k:∀H',SatL H' F→K (.bool (grE evs)) H') :
  CF 36 #[.agg #[I64 0,I64 0,I64 0,I64 0,I64 0,I64 0,I64 0,I64 0,I64 0,I64 0,.slice a evs.length c,.string ⟨#[]⟩,.slice none 0 0,.slice none 0 0]] H K:=by
 refine z6f ?_;unfold grE at k;refine h.al fun b _ h=>?_
 intro Jn hJ;refine⟨_,_,_,h.r 0,_,_,_,fun _=>h.r 0,_,_,_,_,fun _=>h.q 0,fun hc=>?_,fun hc=>?_⟩
 ·have hc1:decide (100 < (evs.length:Int))=false:=(z9g.1 hc).1;rw [hc1,Bool.false_or] at k;refine qgl (labs:=[]) h (fun H _=>q9w H _) (by simp) fun H2 h=>⟨_,rfl,hJ _ _ ?_⟩
  refine⟨fun hf=>absurd hf (by decide),fun _=>?_⟩
  rw [z9a] at hc1;refine⟨fun i H'=>∃j:Nat,i=j∧j≤evs.length∧(∀q (hq:q < evs.length),q < j→grS evs[q].name evs[q].labs=false)∧SatL H' (cellsA b [I64 0,I64 0,I64 0,I64 0,I64 0,I64 0,I64 0,I64 0,I64 0,I64 0,.slice a evs.length c,.string ⟨#[]⟩,.slice none 0 0,.slice none 0 0] 104::F),fun i _=>evs.length - i.toNat,⟨0,rfl,by omega,fun q _ h=>by omega,h⟩,?_⟩
  rintro i H' ⟨j,rfl,hj,hq,h⟩;refine⟨_,_,_,h.r 0,fun hc=>?_,fun hc=>?_⟩
  ·have hlt:j < evs.length:=by have:=z96 hc; omega
   have hr:=ha H' h.tl;have e1:=hr.el q0w hlt 2 (v:=.string evs[j].name) rfl;have e2:=hr.el q0w hlt 3 (v:=.slice evs[j].la evs[j].labs.length evs[j].lc) rfl;obtain⟨g1,g2⟩:=hb _ (z9f hlt);refine⟨_,_,_,h.r 0,by omega,_,_,hr.some q0w (by omega) hlt,_,_,_,_,⟨e1,e2⟩,?_⟩;refine qgl (name:=evs[j].name) (labs:=evs[j].labs) h (fun H h=>g1 H h.tl) g2 fun H2 h=>⟨_,rfl,fun hg=>?_,fun hg=>?_⟩
   ·rw [qp7 (p:=fun e=>grS e.name e.labs) hlt hg] at k
    exact k _ h.tl
   ·rw [w64];refine⟨⟨j+1,by omega,hlt,fun q hq2 hqj=>?_,h⟩,by dsimp only; omega⟩
    rcases z9t q j with h1|h1
    ·exact hq q hq2 h1
    ·obtain rfl:q=j:=by omega
     exact hg
  ·have hge:evs.length≤j:=by have:=z98 hc; omega
   rw [qk0 (p:=fun e=>grS e.name e.labs) fun q hq2=>hq q hq2 (by omega)] at k
   exact k _ h.tl
 ·have hc1:decide (100 < (evs.length:Int))=true:=by
   rw [z9g] at hc
   cases e:decide (100 < (evs.length:Int)) with
   | true=>rfl
   | false=>exact absurd ⟨e,by simp⟩ hc
  rw [hc1,Bool.true_or] at k;refine hJ _ _ ?_;exact⟨fun _=>k _ h.tl,fun hf=>absurd hf (by decide)⟩
theorem qmh {cf:Cfg}{a:Option Addr}{c:Nat}{xs:List Rx}(h:SatL H (Q::F))(hx:XsK Q a xs)(k:∀H',SatL H' (Q::F)→K (.bool (grR cf xs)) H') :
  CF 10 #[.agg ⟨qks cf⟩,.slice a xs.length c] H K:=by
 refine Great_c ?_;unfold grR grC at k;refine h.al fun b _ h=>⟨_,fun _=>h.r 0,_,fun _=>h.r 0,fun hc=>?_,fun hc=>?_⟩
 ·rw [hc,Bool.true_or] at k;exact k _ h.tl
 rw [hc,Bool.false_or] at k;refine⟨fun i H'=>∃j:Nat,i=j∧j≤xs.length∧(∀q (hq:q < xs.length),q < j→grE xs[q].evs=false)∧SatL H' (cellsA b (qks cf) 23::Q::F),fun i _=>xs.length - i.toNat,⟨0,rfl,by omega,fun q _ h=>by omega,h⟩,?_⟩
 rintro i H' ⟨j,rfl,hj,hq,h⟩;refine⟨fun hc=>?_,fun hc=>?_⟩
 ·have hlt:j < xs.length:=by have:=z96 hc; omega
  have hr:=hx.rd.at h 1 rfl;have e1:=hr.el qep hlt 11 (v:=.slice xs[j].ea xs[j].evs.length xs[j].ec) rfl;refine⟨by omega,_,_,hr.some qep (by omega) hlt,_,_,_,by simpa using e1,?_⟩;have hxj:=hx.rx _ (z9f hlt);refine qtj (evs:=xs[j].evs) h (fun H h=>hxj.rd.at h 1 rfl) (fun e he=>⟨fun H h=>(hxj.labs e he).at h 1 rfl,hxj.ll e he⟩) fun H2 h=>⟨_,rfl,fun hg=>?_,fun hg=>?_⟩
  ·rw [qp7 (p:=fun x=>grE x.evs) hlt hg] at k
   exact k _ h.tl
  ·rw [w64 (by omega) (by have:=hx.ll; unfold maxLen at *; omega)];refine⟨⟨j+1,by omega,hlt,fun q hq2 hqj=>?_,h⟩,by dsimp only; omega⟩
   rcases z9t q j with h1|h1
   ·exact hq q hq2 h1
   ·obtain rfl:q=j:=by omega
    exact hg
 ·have hge:xs.length≤j:=by have:=z98 hc; omega
  rw [qk0 (p:=fun x=>grE x.evs) fun q hq2=>hq q hq2 (by omega)] at k
  exact k _ h.tl
set_option maxHeartbeats 2000000 in
theorem qp8 {x:Rx}(h:SatL H (Q::F))(hx:RxK Q x)(hE:grE x.evs=false)
  (k:∀Q' a' c' evs' H',Sub Q Q'→(∀F',z3n Q' (slA 95 4 a' evs'.length c' (flat encV evs')::F') x.p a' evs')→SatL H' (Q'::slA 95 4 a' evs'.length c' (flat encV evs')::F)→K (.agg ⟨encR x.p a' c'⟩) H') :
  CF 18 #[.agg ⟨encX x⟩] H K:=by
 obtain⟨g1,g2⟩:=grE_of hE;refine Own_c ?_;refine h.al fun b _ h=>?_
 refine h.al fun b1 _ h=>?_
 refine h.al fun b2 _ h=>?_
 have h0:=SatL.sl_pt (cs:=[]) h 4 0 rfl;refine⟨fun la ln lc i H'=>∃(j:Nat) (Q':Assn) (evs':List Ev),i=j∧ln=evs'.length∧j=evs'.length∧j≤x.evs.length∧Sub Q Q'∧evs'.map Ev.p=(x.evs.take j).map Ev.p∧(∀e∈evs',q63 Q' e)∧
  SatL H' (Q'::slA 95 4 la evs'.length lc (flat encV evs')::cellsA b1 [I64 0,I64 0,I64 0,I64 0,I64 0,I64 0,I64 0,I64 0,I64 0,I64 0,I64 0,.slice none 0 0] 46::cellsA b (encX x) 46::F),fun la ln lc i _=>x.evs.length - i.toNat,
  ⟨0,Q,[],rfl,rfl,rfl,by omega,Sub.refl Q,rfl,(fun e he=>absurd he (by simp)),h0.o [3,0,1,2] 4⟩,?_⟩
 rintro la ln lc i H2 ⟨j,Q',evs',rfl,rfl,hje,hj,hsub,hmap,hlab,h⟩;refine⟨_,_,_,h.r 3,fun hc=>?_,fun hc=>?_⟩
 ·have hlt:j < x.evs.length:=by have:=z96 hc; omega
  have hr:=(hx.rd.sub hsub).at h 0 rfl;have hev:=hr.els q0w hlt;refine⟨_,_,_,h.r 3,by omega,_,_,hr.some q0w (by omega) hlt,_,_,_,_,_,_,by simpa using hev,?_⟩;have hmem:=z9f hlt;generalize hE:x.evs[j]=e at *;refine h.al fun b4 _ h=>?_
  refine h.st 0 rfl rfl ?_;intro H3 h;refine h.al fun b5 _ h=>⟨_,_,_,h.r 1,?_⟩
  have h:=SatL.sl_pt (cs:=[]) h 2 0 rfl;have hlb:=((hx.labs e hmem).sub hsub).at h 2 rfl;have hg:=g2 e hmem;refine h.append sl91 0 rfl hlb (by rw [q0n q1g]) (q4b (fun _=>rfl) _) (by omega) (by omega) fun a5 c5 H4 h=>⟨_,_,_,rfl,?_⟩
  refine h.st 1 rfl rfl ?_;intro H5 h;refine⟨_,_,_,_,_,_,h.q 1,?_⟩;refine h.al fun b6 _ h=>?_
  refine h.append (m:=1) (ws:=[I64 e.stamp,I64 e.value,.string e.name,.slice a5 (0+e.labs.length) c5]) sl44 4 rfl (h.ce_rd 0 rfl) rfl rfl (by omega) (by omega) fun a6 c6 H6 h=>⟨_,_,_,rfl,?_⟩
  rw [w64];have hQ:SatL H6 ((slA 267 2 a5 (0+e.labs.length) c5 ([]++flat encL e.labs)*Q')::slA 95 4 a6 (evs'.length+1) c6 (flat encV evs'++[I64 e.stamp,I64 e.value,.string e.name,.slice a5 (0+e.labs.length) c5])::cellsA b1 [I64 0,I64 0,I64 0,I64 0,I64 0,I64 0,I64 0,I64 0,I64 0,I64 0,I64 0,.slice none 0 0] 46::cellsA b (encX x) 46::F):=
   q1f.2 (h.o [1,3,4,5,6] 7)
  rw [z9s,zam] at hQ;refine⟨⟨j+1,slA 267 2 a5 e.labs.length c5 (flat encL e.labs)*Q',evs'++[⟨e.stamp,e.value,e.name,e.labs,a5,c5⟩],by omega,by simp,by simp [hje],hlt,hsub.trans (Sub.add _ Q'),?_,?_,?_⟩,by dsimp only; omega⟩
  ·rw [z9w,hmap,zaq,List.getElem?_eq_getElem hlt,z9w,hE]; rfl
  ·intro e' he'
   rcases zai.1 he' with he'|he'
   ·exact (hlab e' he').sub (Sub.add _ Q')
   ·rw [za0] at he';subst he';exact KIn.sl
  ·have ef:flat encV (evs'++[⟨e.stamp,e.value,e.name,e.labs,a5,c5⟩])=flat encV evs'++[I64 e.stamp,I64 e.value,.string e.name,.slice a5 e.labs.length c5]:=by rw [q0m]; simp [flat]
   rw [ef,z95];exact hQ
 ·have hge:x.evs.length≤j:=by have:=z98 hc; omega
  have hjx:evs'.length=x.evs.length:=by omega
  refine h.st 3 rfl rfl ?_;intro H3 h;refine⟨_,_,_,_,_,_,_,_,_,_,_,_,_,_,h.q 3,?_⟩;refine h.st 2 rfl rfl ?_;intro H4 h;refine⟨_,_,_,_,_,_,_,_,_,_,_,_,_,_,h.q 2,?_⟩;rw [z9q (by omega)] at hmap;have hp:x.p.evs.length=evs'.length:=by show (x.evs.map Ev.p).length=_; rw [z9o,hjx]
  have:=k Q' la lc evs' H4 hsub (fun _=>⟨hmap.symm,fun H h=>h.sl_rd 0 rfl,hlab,by omega,hx.vals⟩) (h.o [0,1] 4)
  simp only [encR,hp] at this;exact this
set_option maxHeartbeats 1000000 in
theorem z8d {cf:Cfg}{a:Option Addr}{c:Nat}{xs:List Rx}(h:SatL H (Q::F))(hx:XsK Q a xs)(hg:grR cf xs=false)(k1:cfgR cf=false→∀H',SatL H' (Q::F)→K (.pointer none) H')
  (k2:cfgR cf=true→∀Q' sb H',Sub Q Q'→SatL H' (Q'::stA Q' sb (runS (newS cf) (xs.map Rx.p))::F)→K (PA sb 0) H') :
  CF 19 #[.agg ⟨qks cf⟩,.slice a xs.length c] H K:=by
 obtain⟨g1,g2⟩:=z8a hg;refine Made_c ?_;refine h.al fun b _ h=>⟨_,_,_,_,_,_,_,_,_,h.q 0,?_⟩
 refine qfu (Q:=Q) (c:=cf) h (fun hc H1 h=>⟨_,_,rfl,fun _=>k1 hc _ h.tl,fun hf=>absurd hf (by decide)⟩) fun hc sb H1 h=>⟨_,_,rfl,fun hf=>absurd hf (by simp),fun _=>?_⟩
 have ok:=qft hc;refine⟨fun i H'=>∃(j:Nat) (Q':Assn),i=j∧j≤xs.length∧Sub Q Q'∧SatL H' (Q'::stA Q' sb (runS (newS cf) ((xs.take j).map Rx.p))::cellsA b (qks cf) 23::F),fun i _=>xs.length - i.toNat,⟨0,Q,rfl,by omega,Sub.refl Q,h.o [2,0,1] 3⟩,?_⟩
 rintro i H2 ⟨j,Q',rfl,hj,hsub,h⟩;have hvals:∀r∈(xs.take j).map Rx.p,∀e∈r.evs,wf64 e.value:=by
  intro r hr;obtain⟨y,hy,rfl⟩:=z9d.1 hr;exact (hx.rx y (zbc hy)).vals
 have run:=(z8c ok).run hvals;have hk:=run.kept;rw [z9o,z9r] at hk;refine⟨fun hc2=>?_,fun hc2=>?_⟩
 ·have hlt:j < xs.length:=by have:=z96 hc2; omega
  have hr:=(hx.rd.sub hsub).at h 0 rfl;have hmem:=z9f hlt;refine⟨by omega,_,_,hr.some qep (by omega) hlt,_,_,_,_,_,_,_,_,_,_,_,_,_,_,by simpa using hr.els qep hlt,?_⟩;refine qp8 (x:=xs[j]) h ((hx.rx _ hmem).sub hsub) (g2 _ hmem) fun Q2 a2 c2 evs2 H3 hs2 hrec h=>⟨_,_,_,_,_,_,_,_,_,_,_,_,_,_,rfl,?_⟩
  have h:=h.o [2,0,1,3] 4;have h:=qjr hs2 h;have h:=h.o [1,0,2,3] 4;refine qbh run.ok (by have:=run.sunk; omega) (by omega) (hrec _) h fun Q3 a3 c3 H4 hs3 h=>⟨_,_,_,_,rfl,?_⟩
  rw [w64];refine⟨⟨j+1,Q3,by omega,hlt,(hsub.trans hs2).trans hs3,?_⟩,by dsimp only; omega⟩;have e:runS (newS cf) ((xs.take (j+1)).map Rx.p)=(q0h (runS (newS cf) ((xs.take j).map Rx.p)) xs[j].p).1:=by
   rw [zaq,List.getElem?_eq_getElem hlt,z9w];exact z8b _ _ _
  rw [e];exact h.o [0,2,4] 5
 ·have hge:xs.length≤j:=by have:=z98 hc2; omega
  rw [z9q hge] at h;exact k2 hc Q' sb H2 hsub (h.o [0,1] 3)
end
open Go.Nm
section
variable {H:Type} {enc:TypeId × Value→H} {W:World}
theorem okWide_agg {P:Program}{w:World}{r:Reach}{base:Nat}{t:TypeId}{v:Value}{fs:Array Field}(ht:P.underlying t=some (.struct fs))(h:Value.okWide P w r base t v):∃cs,v=.agg cs:=by
 simp only [Value.okWide,ht] at h;obtain⟨cs,h,_⟩:=h;exact⟨cs,h⟩
theorem reads_cfg {cs:List Value}(h:qce enc Tryz.prog W 23 cs):∃cf:Cfg,cs=qks cf:=by
 obtain⟨hl,hf⟩:=q4c Tryz.underlying23 h;have c2:Tryz.prog.cellsOf 2=1:=by kernel_rfl
 have c3:Tryz.prog.cellsOf 3=1:=by kernel_rfl
 have c23:Tryz.prog.cellsOf 23=9:=by kernel_rfl
 rw [c23] at hl;simp only [z9l,zaw,or_false,forall_eq_or_imp,forall_eq,c2,c3] at hf;obtain⟨f1,f2,f3,f4,f5,f6,f7,f8,f9⟩:=hf
 match cs,hl with
 | [x1,x2,x3,x4,x5,x6,x7,x8,x9],_=>
  simp only [List.drop_zero,zb5,zav,zb9] at f1 f2 f3 f4 f5 f6 f7 f8 f9;obtain⟨n1,e1,_,_⟩:=q0t Tryz.underlying2 f1;obtain⟨n2,e2,_,_⟩:=q0t Tryz.underlying3 f2;obtain⟨n3,e3,_,_⟩:=q0t Tryz.underlying2 f3;obtain⟨n4,e4,_,_⟩:=q0t Tryz.underlying2 f4;obtain⟨n5,e5,_,_⟩:=q0t Tryz.underlying2 f5;obtain⟨n6,e6,_,_⟩:=q0t Tryz.underlying3 f6;obtain⟨n7,e7,_,_⟩:=q0t Tryz.underlying3 f7;obtain⟨n8,e8,_,_⟩:=q0t Tryz.underlying3 f8;obtain⟨n9,e9,_,_⟩:=q0t Tryz.underlying3 f9;simp only [List.cons.injEq,and_true] at e1 e2 e3 e4 e5 e6 e7 e8 e9;subst e1 e2 e3 e4 e5 e6 e7 e8 e9;exact⟨⟨n1,n2,n3,n4,n5,n6,n7,n8,n9⟩,rfl⟩
theorem z3y {cs:List Value}(h:qce enc Tryz.prog W 91 cs):∃a c ls,cs=[.slice a (List.length ls) c]∧ls.length≤maxLen∧rdS W.heap a (flat encL ls):=by
 obtain⟨a,c,xs,h1,h2,h3,_⟩:=qf3 (ec:=encL) (Q:=fun _=>True) Tryz.underlying91 (sz:=2) (by kernel_rfl) (by decide) h (fun vs hv hl=>by
  obtain⟨_,hf⟩:=q4c Tryz.underlying267 hv;have c9:Tryz.prog.cellsOf 9=1:=by kernel_rfl
  simp only [z9l,zaw,or_false,forall_eq_or_imp,forall_eq,c9] at hf;obtain⟨f1,f2⟩:=hf
  match vs,hl with
  | [x1,x2],_=>
   simp only [List.drop_zero,zb5,zav,zb9] at f1 f2;obtain⟨s1,e1,_⟩:=qa4 Tryz.underlying9 f1;obtain⟨s2,e2,_⟩:=qa4 Tryz.underlying9 f2;simp only [List.cons.injEq,and_true] at e1 e2;subst e1 e2;exact⟨⟨s1,s2⟩,rfl,trivial⟩) q1g
 exact⟨a,c,xs,h1,h2,h3⟩
structure EvH (H0:Heap)(e:Ev):Prop where
 labs:rdS H0 e.la (flat encL e.labs)
 val:wf64 e.value
 ll:e.labs.length≤maxLen
structure RxH (H0:Heap)(x:Rx):Prop where
 rd:rdS H0 x.ea (flat encV x.evs)
 ev:∀e∈x.evs,EvH H0 e
theorem RxH.k {H0:Heap}{x:Rx}(h:RxH H0 x):RxK (old H0) x:=⟨KIn.old h.rd,fun e he=>KIn.old (h.ev e he).labs,fun e he=>(h.ev e he).val,fun e he=>(h.ev e he).ll⟩
theorem xsK_old {H0:Heap}{a:Option Addr}{xs:List Rx}(h1:xs.length≤maxLen)(h2:rdS H0 a (flat encX xs))(h3:∀x∈xs,RxH H0 x):XsK (old H0) a xs:=⟨KIn.old h2,fun x hx=>(h3 x hx).k,h1⟩
theorem qtk {cs:List Value}(h:qce enc Tryz.prog W 44 cs):∃a c es,cs=[.slice a (List.length es) c]∧es.length≤maxLen∧rdS W.heap a (flat encV es)∧∀e∈es,EvH W.heap e:=by
 refine qf3 (ec:=encV) (Q:=EvH W.heap) Tryz.underlying44 (sz:=4) (by kernel_rfl) (by decide) h (fun vs hv hl=>?_) q0w
 obtain⟨_,hf⟩:=q4c Tryz.underlying95 hv;have c2:Tryz.prog.cellsOf 2=1:=by kernel_rfl
 have c93:Tryz.prog.cellsOf 93=2:=by kernel_rfl
 have c9:Tryz.prog.cellsOf 9=1:=by kernel_rfl
 have c91:Tryz.prog.cellsOf 91=1:=by kernel_rfl
 simp only [z9l,zaw,or_false,forall_eq_or_imp,forall_eq,c2,c93] at hf;obtain⟨f1,f2,f3⟩:=hf
 match vs,hl with
 | [x1,x2,x3,x4],_=>
  simp only [List.drop_zero,zb5,zav,zb9] at f1 f2 f3;obtain⟨n1,e1,_,_⟩:=q0t Tryz.underlying2 f1;obtain⟨n2,e2,b1,b2⟩:=q0t Tryz.underlying2 f2;obtain⟨_,hg⟩:=q4c Tryz.underlying93 f3;simp only [z9l,zaw,or_false,forall_eq_or_imp,forall_eq,c9,c91] at hg;obtain⟨g1,g2⟩:=hg;simp only [List.drop_zero,zb5,zav,zb9] at g1 g2;obtain⟨s1,e3,_⟩:=qa4 Tryz.underlying9 g1;obtain⟨la,lc,ls,e4,hll,hr⟩:=z3y g2;simp only [List.cons.injEq,and_true] at e1 e2 e3 e4;subst e1 e2 e3 e4;exact⟨⟨n1,n2,s1,ls,la,lc⟩,rfl,hr,⟨b1,b2⟩,hll⟩
theorem reads_rec {cs:List Value}(h:qce enc Tryz.prog W 46 cs):∃x:Rx,cs=encX x∧RxH W.heap x:=by
 obtain⟨hl,hf⟩:=q4c Tryz.underlying46 h;have c2:Tryz.prog.cellsOf 2=1:=by kernel_rfl
 have c3:Tryz.prog.cellsOf 3=1:=by kernel_rfl
 have c43:Tryz.prog.cellsOf 43=4:=by kernel_rfl
 have c44:Tryz.prog.cellsOf 44=1:=by kernel_rfl
 have c46:Tryz.prog.cellsOf 46=12:=by kernel_rfl
 rw [c46] at hl;simp only [z9l,zaw,or_false,forall_eq_or_imp,forall_eq,c2,c3,c43,c44] at hf;obtain⟨f1,f2,f3,f4,f5,f6,f7,f8,f9⟩:=hf
 match cs,hl with
 | [x1,x2,x3,x4,x5,x6,x7,x8,x9,x10,x11,x12],_=>
  simp only [List.drop_zero,zb5,zav,zb9] at f1 f2 f3 f4 f5 f6 f7 f8 f9;obtain⟨n1,e1,_,_⟩:=q0t Tryz.underlying3 f1;obtain⟨n2,e2,_,_⟩:=q0t Tryz.underlying2 f2;obtain⟨n3,e3,_,_⟩:=q0t Tryz.underlying2 f3;obtain⟨n4,e4,_,_⟩:=q0t Tryz.underlying2 f4;obtain⟨n5,e5,_,_⟩:=q0t Tryz.underlying2 f5;obtain⟨n6,e6,_,_⟩:=q0t Tryz.underlying2 f6;obtain⟨n7,e7,_,_⟩:=q0t Tryz.underlying2 f7;obtain⟨_,hg⟩:=q4c Tryz.underlying43 f8;simp only [z9l,zaw,or_false,forall_eq_or_imp,forall_eq,c2] at hg;obtain⟨g1,g2,g3,g4⟩:=hg;simp only [List.drop_zero,zb5,zav,zb9] at g1 g2 g3 g4;obtain⟨n8,e8,_,_⟩:=q0t Tryz.underlying2 g1;obtain⟨n9,e9,_,_⟩:=q0t Tryz.underlying2 g2;obtain⟨n10,e10,_,_⟩:=q0t Tryz.underlying2 g3;obtain⟨n11,e11,_,_⟩:=q0t Tryz.underlying2 g4;obtain⟨ea,ec,es,e12,_,hr,hq⟩:=qtk f9;simp only [List.cons.injEq,and_true] at e1 e2 e3 e4 e5 e6 e7 e8 e9 e10 e11 e12;subst e1 e2 e3 e4 e5 e6 e7 e8 e9 e10 e11 e12;exact⟨⟨n1,n2,n3,n4,n5,n6,n7,⟨n8,n9,n10,n11⟩,ea,ec,es⟩,rfl,hr,hq⟩
theorem reads_recs {cs:List Value}(h:qce enc Tryz.prog W 35 cs):∃a c xs,cs=[.slice a (List.length xs) c]∧xs.length≤maxLen∧rdS W.heap a (flat encX xs)∧∀x∈xs,RxH W.heap x:=
 qf3 (ec:=encX) (Q:=RxH W.heap) Tryz.underlying35 (sz:=12) (by kernel_rfl) (by decide) h (fun vs hv _=>reads_rec hv) qep
end
end Go.Proofs.YtfmkddccnjidmaaGreatDoor
namespace Go.Nm
open Go.Proofs.YtfmkddccnjidmaaGreatDoor
theorem bvI (x:Int):(BitVec.ofInt 64 x).toNat=(x % 18446744073709551616).toNat:=by rw [BitVec.toNat_ofInt]; rfl
theorem bv_ones:BitVec.ofInt 64 (18446744073709551615:Int)=BitVec.allOnes 64:=by decide
theorem bv_ones':BitVec.ofInt 64 (-1:Int)=BitVec.allOnes 64:=by decide
theorem z8e:BitVec.ofInt 64 (0:Int)=0#64:=by decide
theorem z8f {x:Int}(h:0≤x∧x < 18446744073709551616):q0i .xor .u64 x 0=x:=by
 unfold q0i;show u64.wrap ((BitVec.ofInt 64 x ^^^ BitVec.ofInt 64 0).toNat:Int)=x;rw [z8e,BitVec.xor_zero,bvI,u64e]; omega
theorem z8g {x:Int}(h:0≤x∧x < 18446744073709551616):q0i .xor .u64 x 18446744073709551615=18446744073709551615 - x:=by
 unfold q0i;show u64.wrap ((BitVec.ofInt 64 x ^^^ BitVec.ofInt 64 18446744073709551615).toNat:Int)=_;rw [bv_ones,BitVec.xor_allOnes,BitVec.toNat_not,bvI,u64e]; omega
theorem z8h {x:Int}(h:wf64 x):q0i .xor .i64 x 0=x:=by
 unfold q0i wf64 at *;show i64.wrap ((BitVec.ofInt 64 x ^^^ BitVec.ofInt 64 0).toNat:Int)=x;rw [z8e,BitVec.xor_zero,bvI,i64e]; omega
theorem z8i {x:Int}(h:wf64 x):q0i .xor .i64 x (-1)=-x - 1:=by
 unfold q0i wf64 at *;show i64.wrap ((BitVec.ofInt 64 x ^^^ BitVec.ofInt 64 (-1)).toNat:Int)=_;rw [bv_ones',BitVec.xor_allOnes,BitVec.toNat_not,bvI,i64e]; omega
theorem andU_one {n:Nat}(h:n < 18446744073709551616):q0i .and .u64 (n:Int) 1=((n % 2:Nat):Int):=by
 have:=and64 (m:=1) h (by decide);rw [Nat.and_one_is_mod] at this;exact this
theorem turnI_eq {v:Int}(h:wf64 v):qvy v=if 0≤v then 2*v else -2*v - 1:=by
 unfold qvy;show q0i .xor .u64 (u64.wrap (u64.wrap v*2 ^ 1)) (u64.wrap (Int.fdiv v (2 ^ 63)))=_;unfold wf64 at h;have e2:((2:Int) ^ 63)=9223372036854775808:=by decide
 have e1:((2:Int) ^ 1)=2:=by decide
 rw [e1,e2]
 split
 ·have ed:Int.fdiv v 9223372036854775808=0:=by
   rw [zbo v (by decide)]; omega
  rw [ed,show u64.wrap 0=0 from rfl,z8f (z6x _),u64e,u64e]; omega
 ·have ed:Int.fdiv v 9223372036854775808=-1:=by
   rw [zbo v (by decide)]; omega
  rw [ed,show u64.wrap (-1)=18446744073709551615 from rfl,z8g (z6x _),u64e,u64e]; omega
theorem z3z {n:Nat}(h:n < 18446744073709551616):qfk n=if n % 2=0 then ((n / 2:Nat):Int) else -((n / 2:Nat):Int) - 1:=by
 unfold qfk;show q0i .xor .i64 (i64.wrap (Int.fdiv n (2 ^ 1))) (i64.wrap (0 - i64.wrap (q0i .and .u64 n 1)))=_;have e1:((2:Int) ^ 1)=2:=by decide
 rw [e1,andU_one h,zbo _ (by decide)];have hw:i64.wrap ((n:Int) / 2)=((n / 2:Nat):Int):=by rw [i64e]; omega
 rw [hw]
 split
 ·rename_i h0;rw [h0];show q0i .xor .i64 _ 0=_;exact z8h (by unfold wf64; omega)
 ·rename_i h0;have h1:n % 2=1:=by omega
  rw [h1];show q0i .xor .i64 _ (-1)=_;exact z8i (by unfold wf64; omega)
theorem qk1 {v:Int}(h:wf64 v):qfk (turnN v)=v:=by
 rw [z3z (qe5 v)];have e:=qok v;rw [turnI_eq h] at e;unfold wf64 at h
 split at e <;> split <;> omega
theorem qx8 {u:Nat}(h:u < 18446744073709551616)(r:List Int):rdU 0 0 (q1q u++r)=.ok u (q1q u).length:=by
 have:=z5x (w:=u) (acc:=0) (i:=0) r (by simpa using h) (by omega) (by omega);simpa using this
theorem q6b {u:Nat}(h:u < 18446744073709551616)(r:List Int):uRes ⟨0,q1q u++r⟩=(u,⟨0,r⟩):=by
 unfold uRes;rw [if_neg (by simp),qx8 h];simp
theorem z8j {v:Int}(h:wf64 v):i64.wrap ((u64N v:Nat):Int)=v:=by
 unfold wf64 at h;have:=qwh v;rw [← this,u64e,i64e]; omega
theorem usB1 (v:Int):usB [v]=q1q (u64N v):=by simp [usB]
theorem q4w (v:Int)(l:List Int):usB (v::l)=usB [v]++usB l:=by simp [usB]
theorem intsB1 (v:Int):q2h [v]=q1q (turnN v):=by simp [q2h]
theorem z8k {v:Int}(h:0≤v)(h2:v < 18446744073709551616):((u64N v:Nat):Int)=v:=by
 rw [← qwh,u64e]; omega
theorem qhi {v:Int}(h:0≤v)(h2:v < 18446744073709551616)(r:List Int):numR ⟨0,usB [v]++r⟩=.ok (v,⟨0,r⟩):=by
 unfold numR;rw [usB1,q6b (qjh v),z8k h h2]; rfl
theorem q2f {v:Int}(h:wf64 v)(r:List Int):q1n ⟨0,usB [v]++r⟩=.ok (v,⟨0,r⟩):=by
 unfold q1n;rw [usB1,q6b (qjh v),z8j h]; rfl
theorem qau {v:Int}(h:wf64 v)(r:List Int):q76 ⟨0,q2h [v]++r⟩=.ok (v,⟨0,r⟩):=by
 unfold q76 iRes;rw [intsB1,q6b (qe5 v),qk1 h]; rfl
theorem qp9 {m:Int}{n:Nat}(h:(n:Int)≤m)(h2:n < 18446744073709551616)(r:List Int):cRes m ⟨0,q1q n++r⟩=((n:Int),⟨0,r⟩):=by
 unfold cRes;rw [if_neg (by simp),qx8 h2];dsimp only;rw [if_neg (by omega)];simp
theorem q8e {m:Int}{n:Nat}(h:(n:Int)≤m)(h2:n < 9223372036854775808)(r:List Int):q24 m ⟨0,usB [(n:Int)]++r⟩=.ok ((n:Int),⟨0,r⟩):=by
 unfold q24;have e:u64N (n:Int)=n:=by have:=z8k (v:=(n:Int)) (by omega) (by omega); omega
 rw [usB1,e,qp9 h (by omega)]; rfl
theorem qk2 {m v:Int}(h:0≤v∧v≤m)(h2:wf64 v)(r:List Int):upR m ⟨0,usB [v]++r⟩=.ok (v,⟨0,r⟩):=by
 unfold upR;rw [q2f h2];dsimp only;rw [if_pos (by simp [inM,h])]
theorem z40 (s:ByteArray):(q2l s).length=s.size:=by
 unfold q2l;simp
theorem qeq {m:Int}{s:ByteArray}(h:(s.size:Int)≤m)(h2:s.size < 18446744073709551616)(r:List Int):tRes m ⟨0,q2o s++r⟩=(q2l s,⟨0,r⟩):=by
 unfold tRes q2o;rw [if_neg (by simp),z9h,qx8 h2];dsimp only;have hl:=z40 s;rw [if_neg (by omega),if_neg (by simp only [z95]; omega)];rw [List.drop_left,List.take_append_of_le_length (by omega),z9q (by omega),← List.drop_drop,List.drop_left,← hl,List.drop_left]
theorem q95 (s:ByteArray):strB (q2l s)=s:=by
 unfold strB;apply ByteArray.ext;apply Array.toList_inj.1;rw [strOfNums_data];unfold q2l;apply zan
 ·simp
 ·intro i h1 h2;simp
open Go.Proofs.YtfmkddccnjidmaaGreatDoor
abbrev bL (l:List UInt8):ByteArray:=⟨l.toArray⟩
theorem qk3 (l:List UInt8):lsB (bL l)=l:=by simp [lsB,bL]
theorem qgm (s:ByteArray):bL (lsB s)=s:=by
 apply ByteArray.ext;simp [lsB,bL]
theorem qmi {s t:ByteArray}(h:lsB s=lsB t):s=t:=by rw [← qgm s,← qgm t,h]
theorem q4g (s t:ByteArray):lsB (s++t)=lsB s++lsB t:=by
 unfold lsB;rw [ByteArray.data_append,Array.toList_append]
theorem q5l (s:ByteArray)(i j:Nat):lsB (s.extract i j)=((lsB s).drop i).take (j - i):=by
 unfold lsB;rw [ByteArray.data_extract,Array.toList_extract]
theorem z8l {c:UInt8}{a b:List UInt8}(h:c∉a):idxU c (a++c::b)=a.length:=by
 unfold idxU;have e:(a++c::b).idxOf c=a.length:=by
  rw [List.idxOf_append,if_neg h,List.idxOf_cons_self]; omega
 rw [e,if_pos (by simp)]
theorem z8m {c:UInt8}{a:List UInt8}(h:c∉a):idxU c a=-1:=by
 unfold idxU;rw [if_neg];intro h2;exact h (List.idxOf_lt_length_iff.1 h2)
theorem z8n {c:UInt8}{s:ByteArray}{a b:List UInt8}(e:lsB s=a++c::b)(h:c∉a):cutS c s=(bL a,bL b,true):=by
 unfold cutS;have hs:s.size=a.length+(b.length+1):=by rw [← q5b,e]; simp
 rw [e,z8l h,if_pos (by omega)];congr 1
 ·apply qmi;rw [q5l,e,qk3]; simp
 ·congr 1;apply qmi;rw [q5l,e,qk3];have:((a.length:Int)).toNat+1=a.length+1:=by omega
  rw [this,← List.drop_drop,List.drop_left,List.drop_one,List.tail_cons];exact z9q (by omega)
theorem cutS_no {c:UInt8}{s:ByteArray}(h:c∉lsB s):cutS c s=(s,⟨#[]⟩,false):=by
 unfold cutS;rw [z8m h,if_neg (by decide)]
theorem sufS_at {c:UInt8}{s:ByteArray}{a:List UInt8}(e:lsB s=a++[c]):sufS c s=(bL a,true):=by
 unfold sufS;have hs:s.size=a.length+1:=by rw [← q5b,e]; simp
 have h1:s.extract (s.size - 1) s.size=(⟨#[c]⟩:ByteArray):=by
  apply qmi;rw [q5l,e,hs];simp
 rw [h1,if_pos (by simp; omega)];congr 1;apply qmi;rw [q5l,e,qk3,hs];simp
theorem join2 (p q:List UInt8)(r:List (List UInt8)):Go.Lib.join (p::q::r) [44]=p++44::Go.Lib.join (q::r) [44]:=by
 rw [Go.Lib.join_cons,Go.Lib.join_cons]; simp [Go.Lib.joinTail]
theorem qk4:∀{ps:List (List UInt8)} {n:Nat} {s:ByteArray},ps≠[]→(∀p∈ps,(44:UInt8)∉p)→ps.length≤n+1→lsB s=Go.Lib.join ps [44]→q4y n s=ps.map bL
 | [],_,_,h,_,_,_=>absurd rfl h
 | [p],n,s,_,hp,_,e=>by
  have e:lsB s=p:=by rw [e,Go.Lib.join_one]
  have hn:(44:UInt8)∉lsB s:=by rw [e]; exact hp p (z9k ..)
  have es:s=bL p:=by rw [← e,qgm]
  cases n with
  | zero=>simp [q4y,es]
  | succ n=>
   unfold q4y;rw [z8m hn,if_pos (by decide),es]; rfl
 | p::q::r,0,s,_,_,hl,_=>by simp at hl
 | p::q::r,n+1,s,_,hp,hl,e=>by
  have e:lsB s=p++44::Go.Lib.join (q::r) [44]:=by rw [e,join2]
  have hn:=hp p (z9k ..);have hs:s.size=p.length+((Go.Lib.join (q::r) [44]).length+1):=by rw [← q5b,e]; simp
  unfold q4y;rw [e,z8l hn,if_neg (by omega)];have e1:s.extract 0 ((p.length:Int)).toNat=bL p:=by
   apply qmi;rw [q5l,e,qk3]; simp
  have e2:lsB (s.extract (((p.length:Int)).toNat+1) s.size)=Go.Lib.join (q::r) [44]:=by
   rw [q5l,e,z9b,← List.drop_drop,List.drop_left,List.drop_one,List.tail_cons];exact z9q (by omega)
  rw [e1,qk4 (n:=n) (by simp) (fun x hx=>hp x (z9m _ hx)) (by simpa using hl) e2]
  rfl
theorem qk5 {c:UInt8}(h:qsb c=true):c≠44∧c≠61∧c≠123∧c≠125:=by
 unfold qsb lowC at h;refine⟨?_,?_,?_,?_⟩ <;> (rintro rfl; revert h; decide)
theorem valC_not {c:UInt8}(h:valC c=true):c≠44∧c≠61∧c≠123∧c≠125:=by
 unfold valC at h;refine⟨?_,?_,?_,?_⟩ <;> (rintro rfl; revert h; decide)
theorem qfx {s:ByteArray}(h:q70 s=true):∀c∈lsB s,qsb c=true:=by
 unfold q70 at h;simp only [z99,za8] at h;exact h.2
theorem qmj {l:Lab}(h:q4e l=true):(∀c∈lsB l.value,valC c=true)∧q70 l.name=true:=by
 unfold q4e at h;simp only [z99,za8] at h;exact⟨h.1.2,h.2⟩
theorem qhj (l:Lab):lsB (q5y l)=lsB l.name++61::lsB l.value:=by
 unfold q5y;rw [q4g,q4g,z9h]; rfl
theorem partL_no {l:Lab}(h:q4e l=true):(44:UInt8)∉lsB (q5y l):=by
 obtain⟨h1,h2⟩:=qmj h;rw [qhj];simp only [zai,z9l,not_or];exact⟨fun hm=>(qk5 (qfx h2 _ hm)).1 rfl,by decide,fun hm=>(valC_not (h1 _ hm)).1 rfl⟩
theorem qzf:∀{ps:List (List UInt8)},(∀p∈ps,1≤p.length)→ps.length≤(Go.Lib.join ps [44]).length
 | [],_=>by simp
 | [p],h=>by rw [Go.Lib.join_one]; have:=h p (z9k ..); simpa using this
 | p::q::r,h=>by
  have ih:=qzf (ps:=q::r) fun x hx=>h x (z9m _ hx)
  rw [join2];simp only [z9c,z95] at *;omega
theorem qx9 {labs:List Lab}(hv:∀l∈labs,q4e l=true)(hl:labs.length≤8):q7n (labs.map q5y)=some labs:=by
 have key:∀j,j≤labs.length→q7n ((labs.take j).map q5y)=some (labs.take j):=by
  intro j
  induction j with
  | zero=>intro _; rfl
  | succ j ih=>
   intro hj;have ih:=ih (by omega);have hlt:j < labs.length:=by omega
   rw [zaq,List.getElem?_eq_getElem hlt,Option.toList_some,z9w];unfold q7n at ih ⊢;rw [zbd,ih];show z2t (some (labs.take j)) (q5y labs[j])=_;have hv:=hv _ (z9f hlt);have h61:(61:UInt8)∉lsB labs[j].name:=fun hm=>(qk5 (qfx (qmj hv).2 _ hm)).2.1 rfl
   unfold z2t;rw [z8n (qhj labs[j]) h61];dsimp only;rw [z9r,if_pos (by simp; omega),qgm,qgm]
 have:=key labs.length (z9e _)
 rwa [zap] at this
theorem z42 {name:ByteArray}{labs:List Lab}(h:q3u name labs=true):q75 (q71 name labs)=(name,labs,true):=by
 have hp:=q7m h;have hn123:(123:UInt8)∉lsB name:=fun hm=>(qk5 (qfx hp.named _ hm)).2.2.1 rfl
 unfold q71;rw [if_pos h]
 split
 ·rename_i h0;subst h0;unfold q75;rw [cutS_no hn123];dsimp only;rw [if_neg (by simp),if_pos h]
 ·rename_i h0;have ej:lsB (qcr labs)=Go.Lib.join ((labs.map q5y).map lsB) [44]:=qk3 _;have e1:lsB (((name++(⟨#[123]⟩:ByteArray))++qcr labs)++(⟨#[125]⟩:ByteArray))=lsB name++123::(lsB (qcr labs)++[125]):=by
   rw [q4g,q4g,q4g,z9h,z9h]; rfl
  have hj:q40 (qcr labs)=labs.map q5y:=by
   have hps:∀p∈(labs.map q5y).map lsB,(44:UInt8)∉p∧1≤p.length:=by
    intro p hp';obtain⟨b,hb,rfl⟩:=z9d.1 hp';obtain⟨l,hl,rfl⟩:=z9d.1 hb;exact⟨partL_no (hp.val l hl),by rw [qhj]; simp; omega⟩
   have:=qzf (ps:=(labs.map q5y).map lsB) fun p hp'=>(hps p hp').2
   have:=qk4 (ps:=(labs.map q5y).map lsB) (n:=(qcr labs).size) (s:=qcr labs) (by simpa using h0) (fun p hp'=>(hps p hp').1) (by rw [← q5b,ej]; omega) ej
   unfold q40;rw [this,za6,za6];apply zaz;intro l _;exact qgm _
  unfold q75;rw [z8n e1 hn123];dsimp only;rw [if_pos rfl,sufS_at (qk3 _)];dsimp only;rw [if_pos rfl,qgm,hj,qx9 hp.val hp.len,qgm];dsimp only;rw [if_pos h]
theorem qtl {labs:List Lab}(hv:∀l∈labs,q4e l=true)(r:List Int):∀j,j≤labs.length→q3q j ⟨0,labs.flatMap labB++r⟩=(labs.take j,⟨0,(labs.drop j).flatMap labB++r⟩)
 | 0,_=>rfl
 | j+1,h=>by
  have ih:=qtl hv r j (by omega);have hlt:j < labs.length:=by omega
  have hs:=q5f (hv _ (z9f hlt));have e:(labs.drop j).flatMap labB++r=q2o labs[j].name++(q2o labs[j].value++((labs.drop (j+1)).flatMap labB++r)):=by
   rw [zaj hlt,zaa]; simp [labB]
  unfold q3q;rw [ih];dsimp only;rw [e,qeq (m:=64) (by omega) (by omega)];dsimp only;rw [qeq (m:=64) (by omega) (by omega),q95,q95,zaq,List.getElem?_eq_getElem hlt];rfl
theorem z8o {name:ByteArray}{labs:List Lab}(h:q3u name labs=true)(r:List Int):q5h ⟨0,serR name labs++r⟩=⟨name,labs,0,⟨0,r⟩⟩:=by
 have hp:=q7m h;have hs:=q5e hp.named;unfold serR;rw [if_pos h];have e:serB name labs++r=q2o name++(q1q labs.length++(labs.flatMap labB++r)):=by unfold serB; simp
 unfold q5h;rw [e,qeq (m:=64) (by omega) (by omega)];dsimp only;have h8:=hp.len;rw [qp9 (m:=8) (by omega) (by omega)];dsimp only;rw [z9b,qtl hp.val r labs.length (z9e _),zap,zb1];dsimp only;rw [if_neg (by simp),q95,if_pos h];rfl
open Go.Proofs.YtfmkddccnjidmaaGreatDoor
theorem dig (x m:Nat)(hm:0 < m):x / (m*256)*256+x / m % 256=x / m:=by
 rw [← Nat.div_div_eq_div_mul];have:=Nat.div_add_mod (x / m) 256;omega
theorem acc_dig {l:List Int}{x m:Nat}(hm:0 < m)(hx:x < 18446744073709551616)(h:accB l=x / (m*256)):accB (l++[((x / m % 256:Nat):Int)])=x / m:=by
 rw [q8v,h,z9b];have e:=dig x m hm;have:x / m≤x:=Nat.div_le_self _ _;rw [zax (by omega),e]
theorem z8p {x:Nat}(hx:x < 18446744073709551616):accB ((List.range 8).map fun p=>((x / 2 ^ (8*(7 - p)) % 256:Nat):Int))=x:=by
 have key:∀k,k≤8→accB ((List.range k).map fun p=>((x / 2 ^ (8*(7 - p)) % 256:Nat):Int))=x / 2 ^ (8*(8 - k)):=by
  intro k
  induction k with
  | zero=>
   intro _;show 0=_;rw [Nat.div_eq_of_lt (by simpa using hx)]
  | succ k ih=>
   intro hk;have ih:=ih (by omega);rw [List.range_succ,z9w];have e:2 ^ (8*(8 - k))=2 ^ (8*(7 - k))*256:=by
    have:8*(8 - k)=8*(7 - k)+8:=by omega
    rw [this,zah]
   rw [e] at ih;have:=acc_dig (zb0 _) hx ih;have e2:8 - (k+1)=7 - k:=by omega
   rw [e2];exact this
 have:=key 8 (z9e _);simpa using this
theorem z8q {z:Int}(h:q6y z):q5z (q3w z)=z:=by
 have e1:(q3w z).take 8=(List.range 8).map fun p=>(((whi z % B64).toNat / 2 ^ (8*(7 - p)) % 256:Nat):Int):=by
  apply zan
  ·simp [q3w]
  ·intro i h1 h2;have hi:i < 8:=by simpa using h2
   simp only [q3w,List.getElem_take,zao,zbz];unfold wNat
   rw [if_pos hi]
 have e2:(q3w z).drop 8=(List.range 8).map fun p=>(((wlo z).toNat / 2 ^ (8*(7 - p)) % 256:Nat):Int):=by
  apply zan
  ·simp [q3w]
  ·intro i h1 h2;have hi:i < 8:=by simpa using h2
   simp only [q3w,List.getElem_drop,zao,zbz];unfold wNat
   rw [if_neg (by omega)];have:15 - (8+i)=7 - i:=by omega
   rw [this]
 have hl:=q5w z;have hh:0≤whi z % B64∧whi z % B64 < B64:=⟨Int.emod_nonneg _ (by decide),Int.emod_lt_of_pos _ (by decide)⟩;unfold q5z;simp only [whi,wlo,B64] at hl hh e1 e2 ⊢;rw [e1,e2,z8p (by omega),z8p (by omega)];unfold q6y at h;rw [i64e];omega
def prsF (h:Nat→Int):Nat→Nat→List (Nat × Nat)
 | _,0=>[]
 | a,n+1=>(if h a=0 then [] else [(a,(h a).toNat)])++prsF h (a+1) n
def flP (l:List (Nat × Nat)):List Nat:=l.flatMap fun p=>[p.1,p.2]
theorem z43 (a b:List (Nat × Nat)):flP (a++b)=flP a++flP b:=by simp [flP]
theorem flP_len (l:List (Nat × Nat)):(flP l).length=2*l.length:=by
 induction l with
 | nil=>rfl
 | cons p r ih=>
  show (p.1::p.2::flP r).length=_;simp only [z9c,ih]; omega
theorem qmk (h:Nat→Int):∀n a,flP (prsF h a n)=(List.range' a n).flatMap fun i=>if h i=0 then [] else [i,(h i).toNat]
 | 0,a=>rfl
 | n+1,a=>by
  rw [List.range'_succ,zaa,← qmk h n (a+1)];show flP ((if h a=0 then [] else [(a,(h a).toNat)])++prsF h (a+1) n)=_
  rw [z43];congr 1
  split <;> rfl
theorem fullP_eq (h:Nat→Int)(n:Nat):q7u h n=flP (prsF h 0 n):=by
 rw [qmk,← List.range_eq_range']; rfl
theorem qzg (h:Nat→Int):∀n a,(prsF h a n).length≤n
 | 0,a=>z9e _
 | n+1,a=>by
  have:=qzg h n (a+1);unfold prsF;rw [z95]
  split <;> simp <;> omega
theorem z8r {h:Nat→Int}:∀{n a:Nat} {p:Nat × Nat},p∈prsF h a n→a≤p.1∧p.1 < a+n∧h p.1≠0∧p.2=(h p.1).toNat
 | 0,a,p,hp=>by cases hp
 | n+1,a,p,hp=>by
  unfold prsF at hp
  rcases zai.1 hp with hp|hp
  ·split at hp
   ·cases hp
   ·rename_i h0;rw [za0] at hp;subst hp;exact⟨z9e _,by omega,h0,rfl⟩
  ·have:=z8r hp;exact⟨by omega,by omega,this.2.2.1,this.2.2.2⟩
theorem qpa {h:Nat→Int}(hw:∀i,i < 65→0≤h i∧h i≤9223372036854775807):∀{n a:Nat} {prev:Option Nat} {g:Nat→Int},a+n≤65→(∀x,prev=some x→x < a)→
  qjo (prsF h a n) prev g=some fun i=>if a≤i∧i < a+n∧h i≠0 then h i else g i
 | 0,a,prev,g,hn,hp=>by
  show some g=_;congr 1;funext i;rw [if_neg (by omega)]
 | n+1,a,prev,g,hn,hp=>by
  unfold prsF
  split
  ·rename_i h0;rw [zam,qpa hw (by omega) fun x hx=>by have:=hp x hx; omega]
   congr 1;funext i
   by_cases hi:i=a
   ·subst hi;rw [if_neg (by omega),if_neg (by simp [h0])]
   ·by_cases hc:a≤i∧i < a+(n+1)∧h i≠0
    ·rw [if_pos ⟨by omega,by omega,hc.2.2⟩,if_pos hc]
    ·rw [if_neg (fun hh=>hc ⟨by omega,by omega,hh.2.2⟩),if_neg hc]
  ·rename_i h0;have hb:=hw a (by omega);show qjo ((a,(h a).toNat)::prsF h (a+1) n) prev g=_;unfold qjo;rw [if_neg (by
    intro hc
    rcases hc with hc|hc
    ·unfold qsn at hc
     split at hc
     ·rename_i x;have:=hp x rfl;have:=z96 hc;omega
     ·cases hc
    ·omega),if_neg (by omega),qpa hw (by omega) fun x hx=>by cases hx; omega]
   congr 1;funext i
   by_cases hi:i=a
   ·subst hi;rw [if_neg (by omega),if_pos ⟨by omega,by omega,h0⟩];unfold updN;rw [if_pos rfl]; omega
   ·by_cases hc:a≤i∧i < a+(n+1)∧h i≠0
    ·rw [if_pos ⟨by omega,by omega,hc.2.2⟩,if_pos hc]
    ·rw [if_neg (fun hh=>hc ⟨by omega,by omega,hh.2.2⟩),if_neg hc]
     unfold updN;rw [if_neg hi]
theorem qml (r:List Int):∀{l:List (Nat × Nat)},(∀p∈l,p.1 < 18446744073709551616∧p.2 < 18446744073709551616)→qam l.length ⟨0,q2d (flP l)++r⟩=(l,⟨0,r⟩)
 | [],_=>rfl
 | p::l,h=>by
  have h1:=h p (z9k ..);have ih:=qml r (l:=l) fun q hq=>h q (z9m _ hq)
  have e:q2d (flP (p::l))++r=q1q p.1++(q1q p.2++(q2d (flP l)++r)):=by
   show q2d (p.1::p.2::flP l)++r=_;simp [q2d]
  show qam (l.length+1) _=_;unfold qam;rw [e,q6b h1.1];dsimp only;rw [q6b h1.2];dsimp only;rw [ih]
def CH (c:Cl):Prop:=∀i,65≤i→c.h i=0
theorem z8s {c:Cl}(wc:WC c)(hr:q3h c=true)(hc:CH c):q7a (q3a c)=(c,0):=by
 obtain⟨p1,p2,p3,p4⟩:=qfm hr;have hn:=wc.n; have hce:=wc.cer; have hpo:=wc.pos;unfold wf64 at hn hce hpo;have hh:∀i,i < 65→0≤c.h i∧c.h i≤9223372036854775807:=fun i hi=>⟨p4 i hi,(wc.h i hi).2⟩
 have hpl:=qzg c.h 65 0;have hpr:∀p∈prsF c.h 0 65,p.1 < 18446744073709551616∧p.2 < 18446744073709551616:=by
  intro p hp;obtain⟨a1,a2,a3,a4⟩:=z8r hp;have:=hh p.1 (by omega);exact⟨by omega,by omega⟩
 have e:q3a c=q1q c.n.toNat++(q1q c.cer.toNat++(q1q c.pos.toNat++(q2h [c.mn]++(q2h [c.mx]++(q2o (strB (q3w c.sum))++(q1q (prsF c.h 0 65).length++(q2d (flP (prsF c.h 0 65))++[]))))))):=by
  unfold q3a;rw [if_pos hr,fullP_eq,flP_len];have:2*(prsF c.h 0 65).length / 2=(prsF c.h 0 65).length:=by omega
  rw [this];simp [q2d,q2h]
 have hsz:(strB (q3w c.sum)).size=16:=by rw [q4u,q8b]
 have hbi:q2l (strB (q3w c.sum))=q3w c.sum:=by
  unfold q2l;rw [show (strB (q3w c.sum)).data.toList=(q3w c.sum).map fun n=>UInt8.ofNat n.toNat from strOfNums_data _,za6]
  apply zan (by simp);intro i h1 h2;simp only [zao,Function.comp];exact qh7 (qw1 c.sum) i h2
 have s1:=fun r=>qau wc.mn r
 have iRes_enc:∀{v:Int} (h:wf64 v) (r:List Int),iRes ⟨0,q2h [v]++r⟩=(v,⟨0,r⟩):=by
  intro v h r;unfold iRes;rw [intsB1,q6b (qe5 v),qk1 h]
 rw [e];unfold q7a;dsimp only;rw [q6b (by omega)];dsimp only;rw [q6b (by omega)];dsimp only;rw [q6b (by omega)];dsimp only;rw [iRes_enc wc.mn];dsimp only;rw [iRes_enc wc.mx];dsimp only;rw [qeq (m:=16) (by omega) (by omega)];dsimp only;rw [qp9 (m:=65) (by omega) (by omega)];dsimp only;rw [z9b,qml [] hpr];dsimp only;rw [show (q23 ⟨0,[]⟩).e=0 from rfl,if_neg (by simp)];unfold qfq;rw [if_neg (by omega),hbi,if_neg (by rw [q8b]; simp),qpa hh (by omega) (fun x hx=>by cases hx)]
 dsimp only;have hf:(fun i=>if 0≤i∧i < 0+65∧c.h i≠0 then c.h i else Z0 i)=c.h:=by
  funext i
  by_cases h65:i < 65
  ·by_cases h0:c.h i=0
   ·rw [if_neg (by simp [h0]),h0]
   ·rw [if_pos ⟨by omega,by omega,h0⟩]
  ·rw [if_neg (by omega),hc i (by omega)]
 rw [hf,z8q wc.sum,zbx p1,zbx p2,zbx p3];rw [if_pos hr]
open Go.Proofs.YtfmkddccnjidmaaGreatDoor
theorem qzh {e:Pv}(h:q7v e=true):(0≤e.stamp∧e.stamp≤4611686018427387903)∧q3u e.name e.labs=true:=by
 unfold q7v at h;simp only [z99,z97] at h;exact h
theorem qmm {e:Pv}(h:q7v e=true)(hv:wf64 e.value)(r:List Int):q50 ⟨0,evB e++r⟩=.ok (e,⟨0,r⟩):=by
 obtain⟨h1,h2⟩:=qzh h;have e1:evB e++r=usB [e.stamp]++(q2h [e.value]++(serR e.name e.labs++r)):=by unfold evB; simp
 unfold q50;rw [e1,q2f (by unfold wf64; omega)];dsimp only;rw [qau hv];dsimp only;rw [z8o h2];rfl
theorem smpR_enc {x:Smp}(h:x.ok)(r:List Int):smpR ⟨0,smB x++r⟩=.ok (x,⟨0,r⟩):=by
 have hw:=h.wf;unfold Smp.wf at hw;have e1:smB x++r=usB [x.asked]++(usB [x.got]++(usB [x.sent]++(usB [x.came]++r))):=by simp [smB,usB]
 unfold smpR;rw [e1,q2f hw.1];dsimp only;rw [q2f hw.2.1];dsimp only;rw [q2f hw.2.2.1];dsimp only;rw [q2f hw.2.2.2]
theorem qtm {l:List Smp}(h:∀x∈l,x.ok)(r:List Int):∀j,j≤l.length→qat j ⟨0,l.flatMap smB++r⟩=.ok (l.take j,⟨0,(l.drop j).flatMap smB++r⟩)
 | 0,_=>rfl
 | j+1,hj=>by
  have hlt:j < l.length:=by omega
  unfold qat
  rw [qtm h r j (by omega)];dsimp only;rw [zaj hlt,zaa,z9h,smpR_enc (h _ (z9f hlt))];dsimp only;rw [zaq,List.getElem?_eq_getElem hlt]; rfl
theorem z8t {α:Type}{n:Int}{v:α}:∀{l:RowL α},(∀p∈l,p.1 < n)→ins n v l=l++[(n,v)]
 | [],_=>rfl
 | (a,b)::r,h=>by
  have h1:=h _ (z9k ..);dsimp only at h1;unfold ins;rw [if_neg (by omega),z8t fun p hp=>h p (z9m _ hp)]; rfl
theorem pop_none {α:Type}{next:Int}:∀{l:RowL α},(∀p∈l,next+1≤p.1)→pop next l=([],next,l)
 | [],_=>rfl
 | (n,v)::r,h=>by
  have h1:=h _ (z9k ..);dsimp only at h1;unfold pop;rw [if_neg (by omega)]
theorem z8u {next most n:Int}{l:RowL Pv}{e:Pv}(h0:0≤next)(hb:∀p∈l,next+1≤p.1∧p.1 < n)(hn:next+1≤n)(hm:n < next+most)(hn2:n < 1099511627776)(he:q7v e=true)(hv:wf64 e.value)(r:List Int) :
  qfv ⟨next,most,l⟩ ⟨0,rwB (n,e)++r⟩=.ok (⟨next,most,l++[(n,e)]⟩,⟨0,r⟩):=by
 have e1:rwB (n,e)++r=usB [n]++(evB e++r):=by simp [rwB]
 have hlk:q09 n l=none:=q0k.2 fun hk=>by
  obtain⟨p,hp,he⟩:=z9d.1 hk;have:=hb p hp; omega
 have ho:(⟨next,most,l⟩:HS Pv).offer n [e]=(⟨next,most,l++[(n,e)]⟩,[],0):=by
  unfold HS.offer;rw [if_neg (by omega)];have e2:q2k next most n [e] (l,0)=(l++[(n,e)],0):=by
   show q22 next most n e (l,0)=_;unfold q22;dsimp only;rw [hlk,if_neg (by simp; omega),if_neg (by omega),z8t fun p hp=>(hb p hp).2]
  have e3:pop next (l++[(n,e)])=([],next,l++[(n,e)]):=pop_none fun p hp=>by
   rcases zai.1 hp with hp|hp
   ·exact (hb p hp).1
   ·rw [za0] at hp; subst hp; exact hn
  dsimp only;rw [e2];dsimp only;rw [e3]
 unfold qfv;rw [e1,q2f (by unfold wf64; omega)];dsimp only;rw [qmm he hv];dsimp only;have hbp:q4z n [e]=true:=by
  unfold q4z;simp [he]; omega
 rw [hbp,if_neg (by simp),ho,if_neg (by simp)]
theorem qmn {next most:Int}{l:RowL Pv}(h0:0≤next)(hr:q47 (next+1) next most l)(hp:∀p∈l,p.1 < 1099511627776∧q7v p.2=true∧wf64 p.2.value)(r:List Int):∀j,j≤l.length→
  q4v ⟨next,most,[]⟩ j ⟨0,l.flatMap rwB++r⟩=.ok (⟨next,most,l.take j⟩,⟨0,(l.drop j).flatMap rwB++r⟩)
 | 0,_=>rfl
 | j+1,hj=>by
  have hlt:j < l.length:=by omega
  unfold q4v;rw [qmn h0 hr hp r j (by omega)];dsimp only;have hm:=z9f hlt;have hi:=hr.inb _ hm;have hpj:=hp _ hm;rw [zaj hlt,zaa,z9h];have hbefore:∀p∈l.take j,p.1 < l[j].1:=by
   intro p hp';obtain⟨q,hq,rfl⟩:=zbb hp';rw [z9r] at hq;rw [List.getElem_take];exact List.pairwise_iff_getElem.1 hr.rising q j (by omega) hlt (by omega)
  have:=z8u (next:=next) (most:=most) (n:=l[j].1) (l:=l.take j) (e:=l[j].2) h0 (fun p hp'=>⟨(hr.inb p (zbc hp')).1,hbefore p hp'⟩) hi.1 hi.2 hpj.1 hpj.2.1 hpj.2.2 ((l.drop (j+1)).flatMap rwB++r)
  rw [zaq,List.getElem?_eq_getElem hlt];exact this
theorem flN1 (b:Bool):flN [b] 1=if b then 1 else 0:=by cases b <;> rfl
def z47 (st:Str):List Int:=((usB [flN [st.ck.held] 1,st.ck.streak,(st.ck.smps.length:Int)]++st.ck.smps.flatMap smB)++usB [st.hs.next,(st.hs.rows.length:Int)])++st.hs.rows.flatMap rwB
theorem strR_enc {c:Cfg}{st:Str}(ok:qgy c st)(r:List Int):strR c ⟨0,q2h [st.last]++(z47 st++r)⟩=.ok (st,⟨0,r⟩):=by
 have hl:=ok.last;have hck:=ok.ck;have hsm:st.ck.smps.length≤8:=hck.len;have hst:=hck.st;have hn0:=ok.hs.next0;have hn1:=ok.next;have hm2:=ok.hs.most2;have hrl:=ok.hs.rows.length;have e1:z47 st++r=usB [flN [st.ck.held] 1]++(usB [st.ck.streak]++(usB [((st.ck.smps.length:Nat):Int)]++(st.ck.smps.flatMap smB++(usB [st.hs.next]++(usB [((st.hs.rows.length:Nat):Int)]++(st.hs.rows.flatMap rwB++r)))))):=by
  unfold z47;rw [q4w (flN [st.ck.held] 1),q4w st.ck.streak,q4w st.hs.next];simp only [z9h]
 unfold strR;rw [qau (by unfold wf64; omega)];dsimp only;rw [if_neg (by simp [inM]; omega),e1];unfold qku;have hf:=qz4 [st.ck.held] 1 (by decide);rw [qhi hf.1 (by have:=hf.2; omega)];dsimp only;rw [q2f (by unfold wf64; omega)];dsimp only;rw [q8e (by omega) (by omega)];dsimp only;rw [z9b,qtm hck.ok _ _ (z9e _),zap,zb1];dsimp only;unfold qp2;rw [if_neg (fun hh=>hh ⟨hsm,hst.1,hck.ok⟩)]
 have e2:([]:List Smp).flatMap smB++(usB [st.hs.next]++(usB [((st.hs.rows.length:Nat):Int)]++(st.hs.rows.flatMap rwB++r)))=usB [st.hs.next]++(usB [((st.hs.rows.length:Nat):Int)]++(st.hs.rows.flatMap rwB++r)):=rfl;rw [e2,q2f (by unfold wf64; omega)];dsimp only;rw [if_neg (by omega),q8e (by omega) (by omega)];dsimp only;have hrows:=ok.hs.rows;rw [ok.most] at hrows;rw [z9b,qmn hn0 hrows ok.rows _ _ (z9e _),zap,zb1];dsimp only;have e3:decide (flN [st.ck.held] 1=1)=st.ck.held:=by rw [flN1]; cases st.ck.held <;> rfl
 rw [e3,← ok.rho,← ok.least,← ok.most];rfl
theorem bits3 (a b c:Bool):bitF (flN [a,b,c] 3) 1=a∧bitF (flN [a,b,c] 3) 2=b∧bitF (flN [a,b,c] 3) 4=c:=by
 cases a <;> cases b <;> cases c <;> decide
theorem flR_enc {c:Cfg}{fl:Fl}{st:Str}(ok:qgy c st)(r:List Int):flR c fl.t ⟨0,usB [flN [fl.out,fl.was,fl.held] 3]++(q2h [st.last]++(z47 st++r))⟩=.ok ((fl,st),⟨0,r⟩):=by
 have hf:=qz4 [fl.out,fl.was,fl.held] 3 (by decide);unfold flR;rw [qhi hf.1 (by have:=hf.2; omega)];dsimp only;rw [strR_enc ok];dsimp only;obtain⟨b1,b2,b3⟩:=bits3 fl.out fl.was fl.held;rw [b1,b2,b3]
theorem agtR_enc {s0:Sta}{a:Int}{e:En}{fl:Fl}{st:Str}(ok:qgy s0.cfg st)(he:wf64 e.epoch∧wf64 e.boot∧wf64 e.time)(hs:setR s0.cfg.agents s0.rows a e=(s0.rows.set a.toNat e,0))(hf:0≤fl.t∧fl.t≤s0.now)(hf2:wf64 fl.t)(r:List Int) :
  ∃rest,agB a e fl st++r=usB [a]++rest∧agtR s0 a ⟨0,rest⟩=.ok ((s0.rows.set a.toNat e,fl,st),⟨0,r⟩):=by
 refine⟨usB [e.epoch]++(usB [e.boot]++(usB [e.time]++(usB [fl.t]++(usB [flN [fl.out,fl.was,fl.held] 3]++(q2h [st.last]++(z47 st++r)))))),?_,?_⟩
 ·unfold agB agB1 z47;rw [q4w a,q4w e.epoch,q4w e.boot,q4w e.time,q4w fl.t];simp only [z9h]
 ·unfold agtR;rw [q2f he.1];dsimp only;rw [q2f he.2.1];dsimp only;rw [q2f he.2.2];dsimp only;have e1:(⟨e.epoch,e.boot,e.time⟩:En)=e:=rfl;rw [e1,hs,if_neg (by simp),qk2 hf hf2];dsimp only;rw [flR_enc ok]
structure qk6 (o:Ot):Prop where
 wc:WC o.2
 rt:q3h o.2=true
 ch:CH o.2
 win:0≤o.1.win∧o.1.win≤4611686018427387903
 ser:(q75 o.1.ser).2.2=true
 size:o.1.ser.size≤5000
theorem qtn {o:Ot}(h:qk6 o)(r:List Int):q9l ⟨0,ceB o++r⟩=.ok (o,⟨0,r⟩):=by
 have hc:=qe8 h.wc;have hsz:(strB (q3a o.2)).size=(q3a o.2).length:=q4u _;have hs:=h.size;have e1:ceB o++r=q2h [o.1.win]++(q2o o.1.ser++(q2o (strB (q3a o.2))++r)):=by
  show cbB o.1 o.2++r=_;unfold cbB;simp [q1d]
 have hbi:q2l (strB (q3a o.2))=q3a o.2:=by
  unfold q2l;rw [show (strB (q3a o.2)).data.toList=(q3a o.2).map fun n=>UInt8.ofNat n.toNat from strOfNums_data _,za6]
  apply zan (by simp);intro i h1 h2;simp only [zao,Function.comp];exact qh7 (qw3 o.2) i h2
 have t1:∀x:ByteArray,∀r:List Int,x.size < 18446744073709551616→tRes (q2o x++r).length ⟨0,q2o x++r⟩=(q2l x,⟨0,r⟩):=fun x r hx=>by
  refine qeq ?_ hx r;unfold q2o;simp only [z95];have:=q4o x;omega
 unfold q9l;have hw:=h.win;rw [e1,qau (by unfold wf64; omega)];dsimp only;rw [t1 _ _ (by omega)];dsimp only;rw [t1 _ _ (by omega)];dsimp only;rw [if_neg (by simp),q95,h.ser,if_neg (by simp [inM]; omega),hbi,z8s h.wc h.rt h.ch];dsimp only;rw [if_neg (by simp)]
theorem qto {l:List Ot}(h:∀o∈l,qk6 o)(r:List Int):∀j,j≤l.length→q4i j ⟨0,l.flatMap ceB++r⟩=.ok (l.take j,⟨0,(l.drop j).flatMap ceB++r⟩)
 | 0,_=>rfl
 | j+1,hj=>by
  have hlt:j < l.length:=by omega
  unfold q4i;rw [qto h r j (by omega)];dsimp only;rw [zaj hlt,zaa,z9h,qtn (h _ (z9f hlt))];dsimp only;rw [zaq,List.getElem?_eq_getElem hlt]; rfl
theorem qzi {κ α:Type}[DecidableEq κ]{k:κ}{v:α}{m:List (κ × α)}(h:q09 k m=none):mset k v m=(k,v)::m:=by
 unfold mset;rw [q11 h]
theorem qtp {most:Int}{l:List Ot}(hn:(q00 l).Nodup)(h:∀o∈l,qk6 o)(hm:(l.length:Int)≤most)(r:List Int):∀j,j≤l.length→q5k most j ⟨0,l.flatMap ceB++r⟩=.ok ((l.take j).reverse,⟨0,(l.drop j).flatMap ceB++r⟩)
 | 0,_=>rfl
 | j+1,hj=>by
  have hlt:j < l.length:=by omega
  have hmem:=z9f hlt;have hnot:q09 l[j].1 (l.take j).reverse=none:=q0k.2 fun hk=>by
   obtain⟨p,hp,he⟩:=z9d.1 hk;rw [List.mem_reverse] at hp;obtain⟨q,hq,rfl⟩:=zbb hp;rw [z9r] at hq;rw [List.getElem_take] at he;have h1:=List.pairwise_iff_getElem.1 hn q j (by simp [q00]; omega) (by simp [q00]; omega) (by omega);simp only [q00,zao] at h1;exact h1 he
  unfold q5k;rw [qtp hn h hm r j (by omega)];dsimp only;rw [zaj hlt,zaa,z9h,qtn (h _ hmem)];dsimp only;have hs:setS most (l.take j).reverse l[j].1 l[j].2=((l.take (j+1)).reverse,0):=by
   unfold setS;rw [hnot,if_neg (by simp),(h _ hmem).rt,if_neg (by simp),if_neg (by rw [List.length_reverse,z9r]; omega),qzi hnot,zaq,List.getElem?_eq_getElem hlt,List.reverse_append];rfl
  rw [hs,if_neg (by simp)]
abbrev q2i (s:Sta)(r:Rp):Sta:=(q0h s r).1
abbrev effS (s:Sta)(r:Rp):List Eff:=(q0h s r).2.1
theorem q7d {s:Sta}{r:Rp}{P:Sta × List Eff × Int→Prop}(h0:r.right=false→P (s,[],10))(h1:r.right=true→q0y s r≠0→P (s,[],q0y s r))
  (k1:r.right=true→q0y s r=0→r.kind=1→P ({ s with boots:=s.boots+1 },[],0))
  (k2:r.right=true→q0y s r=0→r.kind=2→P (q2t s r))
  (k3:r.right=true→q0y s r=0→r.kind=3→P (qcx s r,[],0))
  (k4:r.right=true→q0y s r=0→r.kind=4→P ((q43 s r).1,(q43 s r).2,0))
  (k5:r.right=true→q0y s r=0→r.kind=5→P (qsv s r,[],0))
  (k6:r.right=true→q0y s r=0→r.kind=6→P ((q2r s r.nw).1,(q2r s r.nw).2,0))
  (k7:r.right=true→q0y s r=0→r.kind=7→P (qwv s r,[],0)):P (q0h s r):=by
 unfold q0h
 split
 ·rename_i h; exact h0 h
 rename_i hR;have hR:r.right=true:=by simpa using hR
 have hL:=q2e hR
 split
 ·rename_i h; exact h1 hR h
 rename_i hf;have hf:q0y s r=0:=by simpa using hf
 split
 ·rename_i h; exact k1 hR hf h
 split
 ·rename_i h; exact k2 hR hf h
 split
 ·rename_i h; exact k3 hR hf h
 split
 ·rename_i h; exact k4 hR hf h
 split
 ·rename_i h; exact k5 hR hf h
 split
 ·rename_i h; exact k6 hR hf h
 ·rename_i q1 q2 q3 q4 q5 q6;exact k7 hR hf (by have:=hL.kind; omega)
theorem q8f {s:Sta}{r:Rp}(h1:r.kind≠1)(h7:r.kind≠7)(h:q0y s r=0):s.now≤(if r.kind=3 then r.sm.came else r.nw):=by
 unfold q0y at h;rw [if_neg h1,if_neg h7] at h;generalize (if r.kind=3 then r.sm.came else r.nw)=n at *
 unfold qcw at h
 split at h
 ·simp at h
 split at h
 ·simp at h
 ·omega
theorem z8v (lim:Int)(x:Fl):updF lim (updF lim x)=updF lim x:=by
 unfold updF;dsimp only
 by_cases h:x.t < lim <;> simp [h]
theorem qtq {lim:Int}{m:FM}:∀(ks:List Int) (s:Int × Bool),q8z lim (m.map fun p=>(p.1,updF lim p.2)) ks s=q8z lim m ks s
 | [],s=>rfl
 | k::r,s=>by
  unfold q8z;have e:qgw lim s ((q09 k (m.map fun p=>(p.1,updF lim p.2))).getD Fl.z)=qgw lim s ((q09 k m).getD Fl.z):=by
   have:=qal (f:=fun _:Int=>updF lim) (k:=k) (m:=m)
   rw [this]
   cases q09 k m <;> rfl
  rw [e];exact qtq r _
theorem qmo (s:MS)(n:Int):((s.tick n).1.tick n).1=(s.tick n).1:=by
 unfold MS.tick
 by_cases h:¬isT n∨n < s.now
 ·rw [if_pos h,if_pos h]
 ·rw [if_neg h];dsimp only;rw [if_neg (by intro h2; exact h (h2.elim .inl fun h3=>absurd h3 (by omega)))]
  have ek:q00 (s.m.map fun p=>(p.1,updF (n - s.lag) p.2))=q00 s.m:=by simp [q00,Function.comp_def]
  rw [ek,qtq];dsimp only;congr 1
  ·unfold maxI
   split <;> first|omega|(split <;> omega)
  ·rw [za6];apply zaz;intro p hp;simp [z8v]
theorem q9d {α:Type}{p:α→Bool}:∀{l:List α},l.Pairwise (fun x y=>p y=true→p x=true)→l.takeWhile p=l.filter p
 | [],_=>rfl
 | a::r,h=>by
  rw [zau] at h;rw [List.takeWhile_cons,zab]
  split
  ·rw [q9d h.2]
  ·rename_i hn;exact (List.filter_eq_nil_iff.2 fun x hx hp=>hn (h.1 x hx hp)).symm
theorem qtr {p:Ky × Cl}:∀{l:List Ot} {m:CM},p∈qfi m l↔p∈m∧∀o∈l,o.1≠p.1
 | [],m=>by simp [qfi]
 | o::r,m=>by
  have ih:=qtr (p:=p) (l:=r) (m:=mdel o.1 m);show p∈qfi (mdel o.1 m) r↔_;rw [ih,qb5];simp only [z9l,forall_eq_or_imp]
  constructor
  ·rintro⟨⟨h1,h2⟩,h3⟩; exact⟨h1,fun e=>h2 e.symm,h3⟩
  ·rintro⟨h1,h2,h3⟩; exact⟨⟨h1,fun e=>h2 e.symm⟩,h3⟩
end Go.Nm
namespace Go.Proofs.YtfmkddccnjidmaaGreatDoor
open Go.Nm Go.Sort
theorem qxa (x y:Ky):leKy x y=!(ltOf qbv) y x:=by rw [ltKy]; rfl
theorem q3p (ks:List Ky):(q20 ks).Pairwise fun x y=>leKy x y=true:=by
 unfold q20;refine List.pairwise_mergeSort (le:=leKy) (fun x y z h1 h2=>?_) (fun x y=>?_) ks
 ·rw [qxa] at *;simp only [z9n] at *;exact swoKy.ntrans z y x h2 h1
 ·rw [qxa,qxa]
  cases h1:ltOf qbv y x with
  | false=>rfl
  | true=>
   cases h2:ltOf qbv x y with
   | false=>rfl
   | true=>have:=swoKy.trans _ _ _ h1 h2; rw [swoKy.irrefl] at this; cases this
theorem qpb {x y:Ky}(h:leKy x y=true):x.win≤y.win:=by
 unfold leKy at h;simp only [z9n,z9g,z9a] at h;omega
theorem q96 (m:CM)(b:Int):q3c m b=(q0g m).filter fun o=>decide (o.1.win < b):=by
 unfold q3c;refine q9d ?_;unfold q0g;rw [zbm];refine (q3p _).imp fun h h2=>?_
 have:=qpb h;simp only [z97] at *;omega
theorem qpc {m:CM}{k:Ky}:(∃o∈q0g m,o.1=k)↔k∈q00 m:=by
 unfold q0g
 constructor
 ·rintro⟨o,ho,rfl⟩;obtain⟨k',hk,rfl⟩:=z9d.1 ho;exact (q19 _).mem_iff.1 hk
 ·intro h;exact⟨_,z9d.2 ⟨k,(q19 _).mem_iff.2 h,rfl⟩,rfl⟩
theorem qmp {m:CM}{b:Int}{p:Ky × Cl}:p∈q4s m b↔p∈m∧b≤p.1.win:=by
 unfold q4s;rw [qtr]
 constructor
 ·rintro⟨h1,h2⟩;refine⟨h1,?_⟩;obtain⟨o,ho,he⟩:=(qpc (m:=m) (k:=p.1)).2 (z9d.2 ⟨p,h1,rfl⟩)
  rcases Int.lt_or_le p.1.win b with hlt|hge
  ·exact absurd he (h2 o (by rw [q96]; exact List.mem_filter.2 ⟨ho,by rw [he]; exact z9p hlt⟩))
  ·exact hge
 ·rintro⟨h1,h2⟩;refine⟨h1,fun o ho he=>?_⟩
  rw [q96] at ho;have:=z96 (List.mem_filter.1 ho).2;rw [he] at this; omega
theorem qk7 (m:CM)(b:Int):q3c (q4s m b) b=[]∧q4s (q4s m b) b=q4s m b:=by
 have h:q3c (q4s m b) b=[]:=by
  rw [q96];refine List.filter_eq_nil_iff.2 fun o ho h=>?_
  obtain⟨p,hp,he⟩:=qek ho;have:=(qmp.1 hp).2;rw [he] at this;have:=z96 h;omega
 refine⟨h,?_⟩;show qfi (q4s m b) (q3c (q4s m b) b)=_;rw [h]; rfl
theorem z48 (s:Sta)(n:Int):q2r (q2r s n).1 n=((q2r s n).1,[]):=by
 have h1:(qfs (q2r s n).1 n)=[]:=by
  unfold qfs q2r;dsimp only;rw [qmo];exact (qk7 _ _).1
 have h2:q2r (q2r s n).1 n=({ (q2r s n).1 with now:=n,ms:=((q2r s n).1.ms.tick n).1,cm:=q4s (q2r s n).1.cm (q18 (q2r s n).1.cfg.gd ((q2r s n).1.ms.tick n).1.value),kept:=(q2r s n).1.kept++qfs (q2r s n).1 n },qju (q2r s n).1.next (qfs (q2r s n).1 n) (qfs (q2r s n).1 n).length):=rfl;rw [h2,h1];have h3:((q2r s n).1.ms.tick n).1=(q2r s n).1.ms:=qmo s.ms n;have h4:q4s (q2r s n).1.cm (q18 (q2r s n).1.cfg.gd (q2r s n).1.ms.value)=(q2r s n).1.cm:=(qk7 _ _).2;rw [h3,h4,za1];rfl
theorem z8w {s:Sta}{r:Rp}(h:(q0h s r).2.2≠0):q0h s r=(s,[],(q0h s r).2.2):=by
 revert h;refine q7d (P:=fun x=>x.2.2≠0→x=(s,[],x.2.2)) (fun _ _=>rfl) (fun _ _ _=>rfl) (fun _ _ _ h=>absurd rfl h) (fun _ _ _ h=>?_) (fun _ _ _ h=>absurd rfl h) (fun _ _ _ h=>absurd rfl h) (fun _ _ _ h=>absurd rfl h) (fun _ _ _ h=>absurd rfl h) (fun _ _ _ h=>absurd rfl h)
 unfold q2t at h ⊢
 split
 ·rfl
 ·rename_i hn;rw [if_neg hn] at h
  split at h <;> exact absurd rfl h
theorem qfy {s:Sta}{r:Rp}(h:(q0h s r).2.2=0):r.right=true∧q0y s r=0:=by
 revert h;refine q7d (P:=fun x=>x.2.2=0→r.right=true∧q0y s r=0) (fun _ h=>by simp at h) (fun _ h1 h2=>absurd h2 h1) (fun a b _ _=>⟨a,b⟩) (fun a b _ _=>⟨a,b⟩) (fun a b _ _=>⟨a,b⟩) (fun a b _ _=>⟨a,b⟩) (fun a b _ _=>⟨a,b⟩) (fun a b _ _=>⟨a,b⟩) (fun a b _ _=>⟨a,b⟩)
theorem qbj {s:Sta}{r:Rp}(hR:r.right=true)(hf:q0y s r=0):(r.kind=2→q0h s r=q2t s r)∧(r.kind=4→q0h s r=((q43 s r).1,(q43 s r).2,0))∧(r.kind=6→q0h s r=((q2r s r.nw).1,(q2r s r.nw).2,0)):=by
 unfold q0h;rw [if_neg (by rw [hR]; simp),if_neg (by rw [hf]; simp)];refine⟨fun h=>?_,fun h=>?_,fun h=>?_⟩
 ·rw [if_neg (by omega),if_pos h]
 ·rw [if_neg (by omega),if_neg (by omega),if_neg (by omega),if_pos h]
 ·rw [if_neg (by omega),if_neg (by omega),if_neg (by omega),if_neg (by omega),if_neg (by omega),if_pos h]
theorem qk8 {r:Rp}(h:r.right=true):r.zeros=true:=by
 unfold Rp.right at h;simp only [z99] at h;exact h.1.1.2
theorem right_ep {r:Rp}(h:r.right=true)(hk:r.kind=2∨r.kind=6):r.ep=0:=by
 have hz:=qk8 h;unfold Rp.zeros zrK ordK at hz
 rcases hk with hk|hk <;> (simp [hk] at hz; omega)
theorem qk9 {s:Sta}{r:Rp}(hR:r.right=true)(hk:r.kind=2∨r.kind=6)(hn:s.now≤r.nw):q0y s r=0:=by
 have he:=right_ep hR hk;unfold q0y;rw [if_neg (by omega),if_neg (by omega)];unfold qcw;rw [if_neg (by omega),if_neg (by rw [if_neg (by omega)]; omega),if_neg (by omega)]
theorem z49 {s:Sta}{r:Rp}(hk:r.kind=6)(h:(q0h s r).2.2=0):q0h (q2i s r) r=(q2i s r,[],0):=by
 obtain⟨hR,hf⟩:=qfy h;have e:=(qbj hR hf).2.2 hk;have hn:(q2i s r).now=r.nw:=by unfold q2i; rw [e]; rfl
 have hf2:q0y (q2i s r) r=0:=qk9 hR (.inr hk) (by rw [hn]; exact z9z _);rw [(qbj hR hf2).2.2 hk];have e2:q2i s r=(q2r s r.nw).1:=by unfold q2i; rw [e]
 rw [e2,z48]
theorem qpd {rows:List En}{a:Int}{e:En}(h0:0≤a)(hl:a.toNat < rows.length):rowE (rows.set a.toNat e) a=e:=by
 unfold rowE;rw [if_neg (by omega),List.getElem?_set_self hl]; rfl
theorem qxb {most:Int}{rows:List En}(hr:q2z rows){a b n:Int}(h:(q0u most rows a b n).2.2.2=0) :
  q0u most (q0u most rows a b n).1 a b n=((q0u most rows a b n).1,(q0u most rows a b n).2.1,false,0):=by
 have h0:=(hr.at a).1;have hb:¬bad a b n:=by
  intro hb;unfold q0u at h;rw [if_pos hb] at h; simp at h
 rcases qcy (most:=most) hr a b n with ⟨-,g2,g3,-,g5⟩|⟨-,g2,g3⟩
 ·have hlt:a.toNat < rows.length:=by rw [hr.len]; unfold bad at hb; omega
  have ha:0≤a:=by unfold bad at hb; omega
  have hboot:(q0u most rows a b n).2.1.boot=b:=by
   unfold q0u at h ⊢;rw [if_neg hb] at h ⊢;dsimp only at h ⊢
   split
   ·rename_i h1; exact h1.2
   rename_i h1;rw [if_neg h1] at h
   split
   ·rename_i h2; rw [if_pos h2] at h; simp at h
   rename_i h2;rw [if_neg h2] at h
   split
   ·rename_i h3; rw [if_pos h3] at h; simp at h
   rename_i h3;rw [if_neg h3] at h
   split
   ·rename_i h4; rw [if_pos h4] at h; simp at h
   ·rfl
  generalize (q0u most rows a b n).2.1=e at *;rw [g2];unfold q0u;rw [if_neg hb];dsimp only;rw [qpd ha hlt,if_pos ⟨g3,hboot⟩]
 ·obtain⟨g4,g5⟩:=g3 h;rw [g2];have e2:(0 < (rowE rows a).epoch∧(rowE rows a).boot=b):=by
   refine⟨g5,?_⟩
   by_cases hbt:(rowE rows a).boot=b
   ·exact hbt
   exfalso;have g6:=g2;unfold q0u at h g2;rw [if_neg hb] at h g2;dsimp only at h g2;rw [if_neg (fun h2=>hbt h2.2)] at h g2
   split at h
   ·simp at h
   rename_i h2;rw [if_neg h2] at g2
   split at h
   ·simp at h
   rename_i h3;rw [if_neg h3] at g2
   split at h
   ·simp at h
   rename_i h4;rw [if_neg h4] at g2;dsimp only at g2;have hlt:a.toNat < rows.length:=by rw [hr.len]; unfold bad at hb; omega
   have ha:0≤a:=by unfold bad at hb; omega
   have:=qpd (e:=⟨(rowE rows a).epoch+1,b,n⟩) ha hlt;rw [g2] at this;have:=congrArg En.epoch this;dsimp only at this;omega
  rw [g4];unfold q0u;rw [if_neg hb];dsimp only;rw [if_pos e2]
theorem z4a {s:Sta}{r:Rp}{e:En}(h:q0u s.cfg.agents s.rows r.ag r.bt r.nw=(s.rows,e,false,0)):q2t s r=({ s with now:=r.nw },[{ kind:=1,agent:=r.ag,epoch:=e.epoch,boot:=e.boot }],0):=by
 unfold q2t;rw [h];rfl
theorem z4b {s:Sta}{r:Rp}(h:(q2t s r).2.2=0):(q0u s.cfg.agents s.rows r.ag r.bt r.nw).2.2.2=0∧(q2t s r).1.now=r.nw∧(q2t s r).1.rows=(q0u s.cfg.agents s.rows r.ag r.bt r.nw).1∧(q2t s r).1.cfg=s.cfg∧
  ∃l,(q2t s r).2.1=l++[{ kind:=1,agent:=r.ag,epoch:=(q0u s.cfg.agents s.rows r.ag r.bt r.nw).2.1.epoch,boot:=(q0u s.cfg.agents s.rows r.ag r.bt r.nw).2.1.boot }]:=by
 unfold q2t at h ⊢
 split at h
 ·rename_i hn; exact absurd h hn
 rename_i hn;have hn:=Decidable.not_not.1 hn;rw [if_neg (by rw [hn]; simp)]
 split
 ·exact⟨hn,rfl,rfl,rfl,_,rfl⟩
 ·exact⟨hn,rfl,rfl,rfl,[],rfl⟩
theorem qd0 {s:Sta}{r:Rp}(ok:q1v s)(hk:r.kind=2)(h:(q0h s r).2.2=0):∃l e,effS s r=l++[e]∧q0h (q2i s r) r=(q2i s r,[e],0):=by
 obtain⟨hR,hf⟩:=qfy h;have e:=(qbj hR hf).1 hk;have h2:(q2t s r).2.2=0:=by rw [← e]; exact h
 obtain⟨g1,g2,g3,g4,l,g5⟩:=z4b h2;refine⟨l,_,by unfold effS; rw [e]; exact g5,?_⟩;have es:q2i s r=(q2t s r).1:=by unfold q2i; rw [e]
 have hf2:q0y (q2i s r) r=0:=qk9 hR (.inl hk) (by rw [es,g2]; exact z9z _);rw [(qbj hR hf2).1 hk,es];have ga:=qxb ok.rows g1;rw [z4a (e:=(q0u s.cfg.agents s.rows r.ag r.bt r.nw).2.1) (by rw [g4,g3]; exact ga),← g2]
theorem qd1 {s:Sta}{r:Rp}(ok:q1v s)(hv:∀e∈r.evs,wf64 e.value)(hk:r.kind=4)(h:(q0h s r).2.2=0):∃l l' e e',effS s r=l++[e]∧(q0h (q2i s r) r).2.1=l'++[e']∧(q0h (q2i s r) r).2.2=0∧e'.kind=2∧e.next≤e'.next:=by
 obtain⟨hR,hf⟩:=qfy h;have hL:=q2e hR;obtain⟨st,hst⟩:=q34 ok hL hf (.inr (.inl hk));have e:=(qbj hR hf).2.1 hk;have hlt:r.ag.toNat < s.sts.length:=(List.getElem?_eq_some_iff.1 hst).1;have es:q2i s r={ s with now:=r.nw,ms:=(q42 s r st).1.ms,cm:=(q42 s r st).1.cm,sts:=s.sts.set r.ag.toNat (some (q42 s r st).1.st) }:=by
  unfold q2i; rw [e]; unfold q43; rw [hst]
 have ee:effS s r=(q42 s r st).2++[{ kind:=2,agent:=r.ag,epoch:=r.ep,next:=(st.hs.offer r.nx r.evs).1.next }]:=by
  unfold effS; rw [e]; unfold q43; rw [hst]
 have hst2:(q2i s r).sts[r.ag.toNat]?=some (some (q42 s r st).1.st):=by rw [es]; exact List.getElem?_set_self hlt
 have hsok:=ok.sts st (z9x hst);have hjk:(q42 s r st).1.st.ck=st.ck∧(q42 s r st).1.st.hs=(st.hs.offer r.nx r.evs).1:=by
  unfold q42;generalize (st.hs.offer r.nx r.evs)=O;have:∀n,(q1a s.cfg r.nw r.ag r.ep st.hs.next O.2.1 ⟨{ st with hs:=O.1 },s.ms,s.cm⟩ n).1.st.ck=st.ck∧(q1a s.cfg r.nw r.ag r.ep st.hs.next O.2.1 ⟨{ st with hs:=O.1 },s.ms,s.cm⟩ n).1.st.hs=O.1:=by
   intro n
   induction n with
   | zero=>exact⟨rfl,rfl⟩
   | succ n ih=>
    have hj:=qjs s.cfg r.nw r.ag (q1a s.cfg r.nw r.ag r.ep st.hs.next O.2.1 ⟨{ st with hs:=O.1 },s.ms,s.cm⟩ n).1.st (q1a s.cfg r.nw r.ag r.ep st.hs.next O.2.1 ⟨{ st with hs:=O.1 },s.ms,s.cm⟩ n).1.ms (q1a s.cfg r.nw r.ag r.ep st.hs.next O.2.1 ⟨{ st with hs:=O.1 },s.ms,s.cm⟩ n).1.cm (O.2.1.getD n Pv.z);exact⟨hj.1.trans ih.1,hj.2.1.trans ih.2⟩
  exact this _
 have hf2:q0y (q2i s r) r=0:=by
  unfold q0y at hf ⊢;rw [if_neg (by omega),if_neg (by omega),if_neg (by omega)] at hf ⊢;unfold qcw at hf ⊢;have hi:isE (q2i s r) r.ag r.ep=isE s r.ag r.ep:=by rw [es]; rfl
  rw [hi]
  split at hf
  ·simp at hf
  rename_i h1;rw [if_neg h1]
  split at hf
  ·simp at hf
  rename_i h2;have hn:(q2i s r).now=r.nw:=by rw [es]
  rw [hn,if_neg (by omega),if_pos hk];have q1:q5j s r.ag=some st:=by
   unfold q5j; rw [if_neg (by have:=hL.ag; omega),hst]; rfl
  have q2:q5j (q2i s r) r.ag=some (q42 s r st).1.st:=by
   unfold q5j; rw [if_neg (by have:=hL.ag; omega),hst2]; rfl
  rw [q1] at hf;rw [q2];dsimp only at hf ⊢;rw [hjk.1];exact hf
 have e2:=(qbj hR hf2).2.1 hk;refine⟨_,(q42 (q2i s r) r (q42 s r st).1.st).2,_,{ kind:=2,agent:=r.ag,epoch:=r.ep,next:=((q42 s r st).1.st.hs.offer r.nx r.evs).1.next },ee,?_,by rw [e2],rfl,?_⟩
 ·rw [e2];show (q43 (q2i s r) r).2=_;unfold q43;rw [hst2]
 ·dsimp only;rw [hjk.2];have ho:=(HS.offer_ok hsok.hs r.nx r.evs);exact (HS.offer_ok ho.1 r.nx r.evs).2.1
end Go.Proofs.YtfmkddccnjidmaaGreatDoor
namespace Go.Nm
open Go.Proofs.YtfmkddccnjidmaaGreatDoor
abbrev isV (t:Int):Prop:=-4611686018427387904≤t∧t≤4611686018427387903
theorem qka {g:Gd}(hg:g.ok){t:Int}(ht:isV t):q18 g t=t / g.width:=by
 have hw:1≤g.width:=hg.1;have hb:isV (t / g.width):=by
  constructor
  ·rw [Int.le_ediv_iff_mul_le (by omega)];omega
  ·rcases Int.lt_or_le t 0 with h|h
   ·have:t / g.width < 0:=Int.ediv_neg_of_neg_of_pos h (by omega);omega
   ·have:=Int.ediv_le_self g.width h;omega
 unfold q18;rw [if_pos hg,Int.tdiv_eq_ediv,Int.tmod_eq_emod];have h0:=Int.emod_nonneg t (show g.width≠0 by omega);have h1:=Int.emod_lt_of_pos t (show 0 < g.width by omega)
 by_cases hc:0≤t∨g.width ∣ t
 ·rw [if_pos hc,if_pos hc,if_neg (by omega),w64]; omega
 ·rw [if_neg hc,if_neg hc,if_pos (by omega),Int.sign_eq_one_of_pos (by omega),w64 (x:=t / g.width+1),w64]; omega
theorem meet2_of {x:Gp}{f n:Int}(h:(qff [x,⟨f,n⟩]).2=0):(qff [x,⟨f,n⟩]).1.lo≤(qff [x,⟨f,n⟩]).1.hi∧(qff [x,⟨f,n⟩]).1.hi≤n∧f≤(qff [x,⟨f,n⟩]).1.lo:=by
 unfold qff qj0 at h ⊢
 split at h
 ·rename_i h1;rw [if_pos h1];unfold qj0 at h ⊢
  split at h
  ·rename_i h2;rw [if_pos h2];unfold qj0 at h ⊢
   split at h
   ·rename_i h3;rw [if_pos h3];refine⟨h3,?_,?_⟩
    ·unfold meet2; dsimp only; split <;> omega
    ·unfold meet2; dsimp only; split <;> omega
   ·simp at h
  ·simp at h
 ·simp at h
theorem qzj {ck:Ck}{fl:Fl}{now stamp:Int}(h:(q1t ck fl now stamp).2=0):(q1t ck fl now stamp).1.lo≤(q1t ck fl now stamp).1.hi∧(q1t ck fl now stamp).1.hi≤now∧fl.t≤(q1t ck fl now stamp).1.lo:=by
 unfold q1t at h ⊢
 split at h
 ·rename_i h1; exact absurd h h1
 rename_i h1;rw [if_neg h1]
 split at h
 ·simp at h
 rename_i h2;rw [if_neg h2];exact meet2_of (Decidable.not_not.1 h2)
theorem qts {p:Ky × Cl}:∀{l m:CM},p∈qgv l m→p∈l∨p∈m
 | [],m,h=>.inr h
 | q::r,m,h=>by
  rcases qts (l:=r) (m:=mset q.1 q.2 m) h with h|h
  ·exact .inl (z9m _ h)
  ·rcases q41 h with rfl|h
   ·exact .inl (z9k ..)
   ·exact .inr h
structure CelI (lo hi B:Int)(m:CM):Prop where
 win:∀p∈m,lo≤p.1.win∧p.1.win≤hi
 cnt:∀p∈m,1≤p.2.cer+p.2.pos∧p.2.cer+p.2.pos≤B
theorem qxc (ms:MS)(a t:Int):(ms.raise a t).1.value=ms.value∧(ms.raise a t).1.now=ms.now:=by
 unfold MS.raise
 split
 ·exact⟨rfl,rfl⟩
 ·split <;> exact⟨rfl,rfl⟩
theorem raise_fl {ms:MS}{a t n:Int}(h:∀p∈ms.m,p.2.t≤n)(ht:t≤n):∀p∈(ms.raise a t).1.m,p.2.t≤n:=by
 unfold MS.raise
 split
 ·exact h
 rename_i x hx
 split
 ·exact h
 intro p hp
 rcases q41 hp with rfl|hp
 ·have:=h _ (q0e hx);dsimp only at this ⊢
  split <;> omega
 ·exact h p hp
theorem z4c {g:Gd}{x:Gp}(h:(q1m g x).1≠0∨True)(hg:g.ok)(hx:x.ok):q1m g x=(q18 g x.lo,q18 g x.hi,0):=by
 unfold q1m;rw [if_pos hg,if_pos hx]
structure OpenI (s:Sta)(B:Int):Prop where
 b0:0≤B
 val:s.ms.value≤s.now
 cel:CelI (q18 s.cfg.gd s.ms.value) (q18 s.cfg.gd s.now) B s.cm
 fl:∀p∈s.ms.m,p.2.t≤s.now
 en:∀a,(rowE s.rows a).time≤s.now
 ag:s.rows.countP (fun e=>decide (0 < e.epoch))≤s.cfg.agents
theorem qav:∀{l:List En} {i:Nat},(tab i l).length=l.countP fun e=>decide (0 < e.epoch)
 | [],i=>rfl
 | e::r,i=>by
  unfold tab;rw [List.countP_cons]
  split
  ·rename_i h;rw [z9c,qav (l:=r),if_pos (by simpa using h)]
  ·rename_i h;rw [qav (l:=r),if_neg (by simpa using h)]; rfl
theorem qtt {p:En→Bool}{x:En}:∀{l:List En} {k:Nat} (hk:k < l.length),(l.set k x).countP p≤l.countP p+(if p l[k] then 0 else 1)
 | a::r,0,_=>by
  simp only [zbh,List.getElem_cons_zero];rw [List.countP_cons,List.countP_cons]
  by_cases h1:p x=true <;> by_cases h2:p a=true <;> simp [h1,h2]
 | a::r,k+1,h=>by
  have ih:=qtt (p:=p) (x:=x) (l:=r) (k:=k) (by simpa using h);simp only [zbv,List.getElem_cons_succ];rw [List.countP_cons,List.countP_cons];omega
theorem open_ag {s:Sta}{a:Int}{x:En}{rows':List En}(ok:q1v s)(h2:s.rows.countP (fun e=>decide (0 < e.epoch))≤s.cfg.agents)(ha:0≤a∧a≤63)(hf:¬((rowE s.rows a).epoch=0∧full s.cfg.agents s.rows))(g2:rows'=s.rows.set a.toNat x) :
  rows'.countP (fun e=>decide (0 < e.epoch))≤s.cfg.agents:=by
 have hltr:a.toNat < s.rows.length:=by rw [ok.rows.len]; omega
 rw [g2];have h1:=qtt (p:=fun e=>decide (0 < e.epoch)) (x:=x) hltr
 have h3:rowE s.rows a=s.rows[a.toNat]:=by
  unfold rowE;rw [if_neg (by omega),List.getElem?_eq_getElem hltr]; rfl
 by_cases h4:0 < s.rows[a.toNat].epoch
 ·rw [if_pos (by simpa using h4)] at h1;omega
 ·rw [if_neg (by simpa using h4)] at h1;have h5:=(ok.rows.at a).1;rw [h3] at h5;have h6:¬full s.cfg.agents s.rows:=fun hh=>hf ⟨by rw [h3]; omega,hh⟩
  unfold full at h6;rw [qav] at h6;omega
theorem z8x {lim n:Int}{m:FM}(hm:∀p∈m,p.2.t≤n)(hn:0≤n):∀(ks:List Int) (s:Int × Bool),s.1≤n→(q8z lim m ks s).1≤n
 | [],s,h=>h
 | k::r,s,h=>by
  refine z8x hm hn r _ ?_;unfold qgw
  split
  ·cases hk:q09 k m with
   | none=>simp only [Option.getD_none,Fl.z]; exact hn
   | some x=>simp only [Option.getD_some]; exact hm _ (q0e hk)
  ·exact h
theorem open_new {c:Cfg}(ok:qap c):OpenI (newS c) 0 where
 b0:=z9z _
 val:=by have:=ok.lag; show -c.lag≤0; omega
 cel:=⟨fun p hp=>absurd hp (by simp [newS]),fun p hp=>absurd hp (by simp [newS])⟩
 fl:=fun p hp=>absurd hp (by simp [newS,MS.new])
 en:=fun a=>by
  unfold rowE newS;dsimp only
  split
  ·exact z9z _
  ·rw [List.getElem?_replicate]
   split <;> exact z9z _
 ag:=by
  have:=ok.ag;unfold newS;dsimp only;rw [List.countP_replicate];simp [En.z]; omega
open Go.Proofs.YtfmkddccnjidmaaGreatDoor
structure Rch (s:Sta):Prop where
 ok:q1v s
 sunk:s.sunk≤1099511627776
 mnow:0≤s.ms.now∧s.ms.now≤s.now
 val:s.ms.now - s.cfg.lag≤s.ms.value∧s.ms.value≤s.ms.now
 keys:∀a,(q09 a s.ms.m).isSome=decide (0 < (rowE s.rows a).epoch)
 fl:∀p∈s.ms.m,p.2.t≤s.now
 rows:∀a,0 < (rowE s.rows a).epoch→(1≤(rowE s.rows a).boot∧(rowE s.rows a).boot≤1099511627776)∧0≤(rowE s.rows a).time∧(rowE s.rows a).time≤4611686018427387903
 ag:s.rows.countP (fun e=>decide (0 < e.epoch))≤s.cfg.agents
 cm:∀p∈s.cm,qk6 p
 kept:∀o∈s.kept,qk6 o
theorem qhk (e:En)(r:List En)(i:Nat):tab i (e::r)=(if 0 < e.epoch then [((i:Int),e)] else [])++tab (i+1) r:=by
 conv=>lhs; unfold tab
 split <;> rfl
theorem qbk:∀(a b:List En) (i:Nat),tab i (a++b)=tab i a++tab (i+a.length) b
 | [],b,i=>rfl
 | e::r,b,i=>by
  have ih:=qbk r b (i+1);have e1:i+1+r.length=i+(e::r).length:=by simp only [z9c]; omega
  rw [e1] at ih;rw [zb8,qhk,qhk,ih,z9h]
theorem qzk:∀(n i:Nat),tab i (List.replicate n En.z)=[]
 | 0,i=>rfl
 | n+1,i=>by
  rw [List.replicate_succ];unfold tab;rw [if_neg (by simp [En.z]),qzk n (i+1)]
theorem qzl {rows:List En}{k:Nat}(hk:k < rows.length):tab k (rows.drop k)=(if 0 < rows[k].epoch then [((k:Int),rows[k])] else [])++tab (k+1) (rows.drop (k+1)):=by
 rw [zaj hk,qhk]
theorem qpe {rows:List En}{k:Nat}(hk:k < rows.length):tab 0 (rows.take (k+1))=tab 0 (rows.take k)++(if 0 < rows[k].epoch then [((k:Int),rows[k])] else []):=by
 rw [zaq,List.getElem?_eq_getElem hk,qbk];congr 1;rw [z9r,zb3 (by omega),z9s];show tab k [rows[k]]=_;rw [qhk];exact za1 _
def cutR (rows:List En)(k:Nat):List En:=rows.take k++List.replicate (64 - k) En.z
def cutT (sts:List (Option Str))(k:Nat):List (Option Str):=sts.take k++List.replicate (64 - k) none
def flsK (s:Sta)(k:Nat):FM:=((tab 0 (s.rows.take k)).map fun p=>(p.1,flOf s.ms p.1)).reverse
theorem z8y {α:Type}{l:List α}{z:α}{k:Nat}(hl:l.length=64)(hk:k < 64):(l.take k++List.replicate (64 - k) z).set k (l[k]'(by omega))=l.take (k+1)++List.replicate (64 - (k+1)) z:=by
 have e:List.replicate (64 - k) z=z::List.replicate (64 - (k+1)) z:=by
  rw [← List.replicate_succ]; congr 1; omega
 rw [e,List.set_append_right _ _ (by rw [z9r]; omega),z9r,zb3 (by omega),Nat.sub_self,zbh,zaq,List.getElem?_eq_getElem (by omega),z9h];rfl
theorem qzm {α:Type}{l:List α}{z:α}{k:Nat}(hl:l.length=64)(hk:k < 64)(h:l[k]'(by omega)=z):l.take (k+1)++List.replicate (64 - (k+1)) z=l.take k++List.replicate (64 - k) z:=by
 have e:List.replicate (64 - k) z=z::List.replicate (64 - (k+1)) z:=by
  rw [← List.replicate_succ]; congr 1; omega
 rw [e,zaq,List.getElem?_eq_getElem (by omega)];simp [h]
theorem qpf {rows:List En}{k:Nat}(hk:k < rows.length):rowE rows (k:Int)=rows[k]:=by
 unfold rowE;rw [if_neg (by omega),z9b,List.getElem?_eq_getElem hk]; rfl
theorem rowE_cut {rows:List En}{k:Nat}(hl:rows.length=64)(hk:k < 64):rowE (cutR rows k) (k:Int)=En.z:=by
 unfold rowE cutR;rw [if_neg (by omega),z9b,List.getElem?_append_right (by rw [z9r]; omega),List.getElem?_replicate]
 split <;> rfl
theorem Rch.count {s:Sta}(R:Rch s):((tab 0 s.rows).length:Int)≤s.cfg.agents:=by rw [qav]; exact R.ag
theorem z4d {s:Sta}(k:Nat):(tab 0 (s.rows.take k)).length+(tab k (s.rows.drop k)).length=(tab 0 s.rows).length:=by
 rcases z9t k s.rows.length with h|h
 ·have:=qbk (s.rows.take k) (s.rows.drop k) 0;rw [zbn,z9r,zb3 (by omega),z9s] at this;rw [this,z95]
 ·rw [z9q h,zbu h]; rfl
theorem flsK_new {s:Sta}(k:Nat):q09 (k:Int) (flsK s k)=none:=q0k.2 fun hm=>by
 obtain⟨p,hp,he⟩:=z9d.1 hm;unfold flsK at hp;rw [List.mem_reverse] at hp;obtain⟨q,hq,rfl⟩:=z9d.1 hp;have:=(q7p hq).2.1;rw [z9r] at this;dsimp only at he;omega
theorem Rch.str {s:Sta}(R:Rch s){k:Nat}(hk:k < 64)(h:0 < (s.rows[k]'(by rw [R.ok.rows.len]; exact hk)).epoch):∃st,s.sts[k]?=some (some st)∧q5j s (k:Int)=some st:=by
 obtain⟨st,hst⟩:=(R.ok.reg k).2 ⟨_,List.getElem?_eq_getElem (by rw [R.ok.rows.len]; exact hk),h⟩;refine⟨st,hst,?_⟩;unfold q5j;rw [if_neg (by omega),z9b,hst]; rfl
theorem Rch.nostr {s:Sta}(R:Rch s){k:Nat}(hk:k < 64)(h:¬0 < (s.rows[k]'(by rw [R.ok.rows.len]; exact hk)).epoch):s.sts[k]'(by rw [R.ok.len]; exact hk)=none:=by
 have hlt:k < s.sts.length:=by rw [R.ok.len]; exact hk
 cases e:s.sts[k] with
 | none=>rfl
 | some st=>
  obtain⟨e',h1,h2⟩:=(R.ok.reg k).1 ⟨st,by rw [List.getElem?_eq_getElem hlt,e]⟩;rw [List.getElem?_eq_getElem (by rw [R.ok.rows.len]; exact hk)] at h1
  cases h1
  exact absurd h2 h
theorem Rch.flat {s:Sta}(R:Rch s)(a:Int):isT (flOf s.ms a).t∧(flOf s.ms a).t≤s.now:=by
 have h0:=R.ok.now;unfold flOf
 cases h:q09 a s.ms.m with
 | none=>exact⟨by show isT 0; decide,by show (0:Int)≤_; exact h0.1⟩
 | some x=>
  have:=q0e h;exact⟨(R.ok.ms.rows _ this).2,R.fl _ this⟩
theorem qzn {s s0:Sta}(R:Rch s)(h0:s0.cfg=s.cfg)(h1:s0.now=s.now)(h2:s0.rows=List.replicate 64 En.z)(h3:s0.sts=List.replicate 64 none)(r:List Int):∀k,k≤64→
  agsR s0 (tab 0 (s.rows.take k)).length ⟨0,(tab 0 s.rows).flatMap (agOf s)++r⟩=.ok (⟨cutR s.rows k,cutT s.sts k,flsK s k⟩,⟨0,(tab k (s.rows.drop k)).flatMap (agOf s)++r⟩)
 | 0,_=>by
  show Except.ok _=_;rw [h2,h3]; rfl
 | k+1,hk=>by
  have hl:=R.ok.rows.len;have hls:=R.ok.len;have hlt:k < s.rows.length:=by omega
  have ih:=qzn R h0 h1 h2 h3 r k (by omega);rw [qpe hlt];rw [qzl hlt] at ih
  by_cases he:0 < s.rows[k].epoch
  ·rw [if_pos he] at ih ⊢;rw [z95,za9];obtain⟨st,hst,hat⟩:=R.str (by omega) he;have hsok:=R.ok.sts st (z9x hst);have hrow:=R.rows (k:Int) (by rw [qpf hlt]; exact he);rw [qpf hlt] at hrow;have hre:=R.ok.rows.at (k:Int);rw [qpf hlt] at hre;have hfl:=R.flat (k:Int);have hcnt:(tab 0 (s.rows.take k)).length < (tab 0 s.rows).length:=by
    have:=z4d (s:=s) k;rw [qzl hlt,if_pos he,z95,za9] at this;omega
   have hag:=R.count;have hset:setR s.cfg.agents (cutR s.rows k) (k:Int) s.rows[k]=((cutR s.rows k).set ((k:Int)).toNat s.rows[k],0):=by
    unfold setR;rw [if_neg (by unfold bad; omega),rowE_cut hl (by omega),if_neg (by simp [En.z]),if_neg];unfold full cutR;rw [qbk,qzk,za1];omega
   obtain⟨rest,e1,e2⟩:=agtR_enc (s0:={ s0 with rows:=cutR s.rows k,sts:=cutT s.sts k }) (a:=(k:Int)) (e:=s.rows[k]) (fl:=flOf s.ms (k:Int)) (st:=st) (by rw [h0]; exact hsok) ⟨by unfold wf64; omega,by unfold wf64; omega,by unfold wf64; omega⟩ (by rw [h0]; exact hset) (by rw [h1]; exact⟨hfl.1.1,hfl.2⟩) (by have:=hfl.1; unfold wf64; omega) ((tab (k+1) (s.rows.drop (k+1))).flatMap (agOf s)++r);have e3:([((k:Int),s.rows[k])]++tab (k+1) (s.rows.drop (k+1))).flatMap (agOf s)++r=usB [(k:Int)]++rest:=by
    rw [zby,← e1,z9h];congr 1;show agOf s ((k:Int),s.rows[k])++[]=_;unfold agOf;dsimp only;rw [hat,za1]
   rw [e3] at ih;unfold agsR;rw [ih];dsimp only;rw [q2f (by unfold wf64; omega)];dsimp only;rw [e2];dsimp only;rw [z9b,qzi (flsK_new k)];have c1:(cutR s.rows k).set k s.rows[k]=cutR s.rows (k+1):=z8y hl (by omega);have c2:(cutT s.sts k).set k (some st)=cutT s.sts (k+1):=by
    have:=z8y (z:=none) hls (show k < 64 by omega);have e4:s.sts[k]'(by omega)=some st:=by
     rw [List.getElem?_eq_getElem (by omega)] at hst;exact Option.some.inj hst
    rw [e4] at this;exact this
   have c3:((k:Int),flOf s.ms (k:Int))::flsK s k=flsK s (k+1):=by
    unfold flsK;rw [qpe hlt,if_pos he,z9w,List.reverse_append]; rfl
   rw [c1,c2,c3]
  ·rw [if_neg he] at ih ⊢;rw [za1];rw [zam] at ih;rw [ih];have c1:cutR s.rows (k+1)=cutR s.rows k:=qzm hl (by omega) (R.ok.rows.zero _ (z9f hlt) he);have c2:cutT s.sts (k+1)=cutT s.sts k:=qzm hls (by omega) (R.nostr (by omega) he);have c3:flsK s (k+1)=flsK s k:=by
    unfold flsK;rw [qpe hlt,if_neg he,za1]
   rw [c1,c2,c3]
theorem Rch.nStr {s:Sta}(R:Rch s):nStr s=(tab 0 s.rows).length:=by
 have hm:s.sts.map Option.isSome=s.rows.map fun e=>decide (0 < e.epoch):=by
  apply zan
  ·simp [R.ok.len,R.ok.rows.len]
  ·intro k h1 h2;have hk:k < 64:=by rw [z9o,R.ok.len] at h1; exact h1
   simp only [zao]
   by_cases he:0 < (s.rows[k]'(by rw [R.ok.rows.len]; exact hk)).epoch
   ·obtain⟨st,hst,_⟩:=R.str hk he;rw [List.getElem?_eq_getElem (by rw [R.ok.len]; exact hk)] at hst;rw [Option.some.inj hst];simp [he]
   ·rw [R.nostr hk he];simp [he]
 unfold Go.Nm.nStr;rw [qav,← List.countP_eq_length_filter];have h1:s.sts.countP Option.isSome=(s.sts.map Option.isSome).countP id:=by rw [List.countP_map]; rfl
 have h2:s.rows.countP (fun e=>decide (0 < e.epoch))=(s.rows.map fun e=>decide (0 < e.epoch)).countP id:=by rw [List.countP_map]; rfl
 rw [h1,h2,hm]
def q8g (s:Sta):Sta:={ s with ms:={ s.ms with m:=flsK s 64 },cm:=(q0g s.cm).reverse }
theorem qmq (m:CM):q00 (q0g m)=q20 (q00 m):=by
 unfold q0g q00;rw [za6];have:((fun x:Ky × Cl=>x.1)∘fun k=>(k,q1s m k))=id:=rfl
 rw [this,List.map_id]
theorem qtu {m:CM}{o:Ot}(h:o∈q0g m):o∈m:=by
 unfold q0g at h;obtain⟨k,hk,rfl⟩:=z9d.1 h;have hk:=(q19 _).mem_iff.1 hk;unfold q1s
 cases e:q09 k m with
 | none=>exact absurd hk (q0k.1 e)
 | some c=>exact q0e e
theorem outsL_nd {m:CM}(h:(q00 m).Nodup):(q00 (q0g m)).Nodup:=by
 rw [qmq];exact (q19 _).nodup_iff.2 h
theorem z4e {s:Sta}(R:Rch s)(hkept:s.kept.length≤1000000000):q7r s.cfg (stB s)=.ok (q8g s):=by
 have hnow:=R.ok.now;have hboots:=R.ok.boots;have hsunk:=R.sunk;have hsunk0:=R.ok.sunk;have hmn:=R.mnow;have hv:=R.val;have hlag:=R.ok.cfg.lag;have hshl:=R.ok.sh.len;have hsh2:=R.ok.sh.m2;have hag:=R.count;have hag2:=R.ok.cfg.ag;have hcl:(q0g s.cm).length=s.cm.length:=q86 s.cm;have hkl:∀o∈q0g s.cm,qk6 o:=fun o ho=>R.cm o (qtu ho)
 have e:stB s=usB [s.now]++(usB [s.boots]++(usB [s.sunk]++(usB [s.ms.now]++(q2h [s.ms.value]++(usB [(((tab 0 s.rows).length:Nat):Int)]++((tab 0 s.rows).flatMap (agOf s)++(usB [((s.cm.length:Nat):Int)]++((q0g s.cm).flatMap ceB++(usB [((s.kept.length:Nat):Int)]++(s.kept.flatMap ceB++[])))))))))):=by
  unfold stB stB3 stB2 stB1;rw [R.nStr,q4w s.now,q4w s.boots,q4w s.sunk];simp only [z9h,za1]
 unfold q7r;rw [e,qk2 hnow (by unfold wf64; omega)];dsimp only;rw [qk2 hboots (by unfold wf64; omega)];dsimp only;rw [qk2 ⟨hsunk0,hsunk⟩ (by unfold wf64; omega)];dsimp only;rw [qk2 hmn (by unfold wf64; omega)];dsimp only;rw [qau (by unfold wf64; omega)];dsimp only;rw [q8e (by omega) (by omega)];dsimp only;have ha:=qzn (s0:={ newS s.cfg with now:=s.now,boots:=s.boots,sunk:=s.sunk }) R rfl rfl rfl rfl (usB [((s.cm.length:Nat):Int)]++((q0g s.cm).flatMap ceB++(usB [((s.kept.length:Nat):Int)]++(s.kept.flatMap ceB++[])))) 64 (z9e _);rw [z9q (by rw [R.ok.rows.len]; omega),zbu (by rw [R.ok.rows.len]; omega)] at ha;rw [z9b,ha];dsimp only;rw [if_neg (fun hh=>hh hv)]
 have e2:(tab 64 ([]:List En)).flatMap (agOf s)++(usB [((s.cm.length:Nat):Int)]++((q0g s.cm).flatMap ceB++(usB [((s.kept.length:Nat):Int)]++(s.kept.flatMap ceB++[]))))=usB [((s.cm.length:Nat):Int)]++((q0g s.cm).flatMap ceB++(usB [((s.kept.length:Nat):Int)]++(s.kept.flatMap ceB++[]))):=rfl;rw [e2,q8e (by omega) (by omega)];dsimp only;have hc:=qtp (most:=s.cfg.cells) (outsL_nd R.ok.sh.nd) hkl (by rw [hcl]; exact hshl) (usB [((s.kept.length:Nat):Int)]++(s.kept.flatMap ceB++[])) (q0g s.cm).length (z9e _);rw [zap,zb1] at hc;rw [z9b,← hcl,hc];dsimp only;have e3:([]:List Ot).flatMap ceB++(usB [((s.kept.length:Nat):Int)]++(s.kept.flatMap ceB++[]))=usB [((s.kept.length:Nat):Int)]++(s.kept.flatMap ceB++[]):=rfl;rw [e3,qhi (by omega) (by omega)];dsimp only;have hk:=qto R.kept [] s.kept.length (z9e _);rw [zap,zb1] at hk;rw [z9b,hk];dsimp only;rw [show (q23 ⟨0,([]:List Ot).flatMap ceB++[]⟩).e=0 from rfl,if_neg (by simp)];have h1:cutR s.rows 64=s.rows:=by
  unfold cutR;rw [z9q (by rw [R.ok.rows.len]; omega)]; simp
 have h2:cutT s.sts 64=s.sts:=by
  unfold cutT;rw [z9q (by rw [R.ok.len]; omega)]; simp
 rw [h1,h2,← R.ok.lag];rfl
theorem z8z {ks ls:List Ky}(h:ks.Perm ls):q20 ks=q20 ls:=by
 refine List.Perm.eq_of_pairwise (le:=fun x y=>leKy x y=true) (fun a b _ _ h1 h2=>?_) (q3p ks) (q3p ls) ((q19 ks).trans (h.trans (q19 ls).symm))
 have w1:=qpb h1;have w2:=qpb h2;have hw:a.win=b.win:=by omega
 unfold leKy at h1 h2;simp only [z9n,z9g,zae,z9a] at h1 h2;have s1:=h1.2.resolve_left (fun hh=>hh hw.symm)
 have s2:=h2.2.resolve_left (fun hh=>hh hw)
 rw [Go.Proofs.bytesLess_eq,z9a] at s1 s2;have:a.ser.toList=b.ser.toList:=List.le_antisymm s1 s2;obtain⟨aw,sa⟩:=a;obtain⟨bw,sb⟩:=b;dsimp only at hw this;rw [ByteArray.toList_eq,ByteArray.toList_eq] at this;have hs:sa=sb:=qmi this;rw [hw,hs]
theorem z4f {m m':CM}(hn:(q00 m).Nodup)(h:m.Perm m'):q0g m=q0g m':=by
 unfold q0g;rw [z8z (h.map Prod.fst:(q00 m).Perm (q00 m'))];apply zaz;intro k _;unfold q1s;rw [q54 hn h]
theorem z4g {m:CM}(hn:(q00 m).Nodup):(q0g m).Perm m:=by
 have h1:(q00 (q0g m)).Perm (q00 m):=by rw [qmq]; exact q19 _
 have h2:q0g m=(q20 (q00 m)).map fun k=>(k,q1s m k):=rfl
 rw [h2];refine ((q19 (q00 m)).map _).trans ?_;have:(q00 m).map (fun k=>(k,q1s m k))=m:=by
  unfold q00;rw [za6]
  conv=>rhs; rw [← List.map_id m]
  apply zaz;intro p hp;show (p.1,q1s m p.1)=p;unfold q1s;rw [q28 hn hp];rfl
 rw [this]
theorem z90 {s:Sta}(R:Rch s)(a:Int):q09 a (flsK s 64)=if 0 < (rowE s.rows a).epoch then some (flOf s.ms a) else none:=by
 have hlen:=R.ok.rows.len;have hperm:((tab 0 s.rows).map fun p=>(p.1,flOf s.ms p.1)).Perm (flsK s 64):=by
  unfold flsK;rw [z9q (by omega)];exact (List.reverse_perm _).symm
 have hk:q00 ((tab 0 s.rows).map fun p=>(p.1,flOf s.ms p.1))=q00 (tab 0 s.rows):=by simp [q00,Function.comp_def]
 rw [← q54 (by rw [hk]; exact qec) hperm];have:=qal (f:=fun (k:Int) (_:En)=>flOf s.ms k) (k:=a) (m:=tab 0 s.rows)
 rw [this,qou]
 split <;> rfl
theorem flsK_nd (s:Sta)(k:Nat):(q00 (flsK s k)).Nodup:=by
 unfold flsK;have:q00 (((tab 0 (s.rows.take k)).map fun p=>(p.1,flOf s.ms p.1)).reverse)=(q00 (tab 0 (s.rows.take k))).reverse:=by simp [q00,Function.comp_def]
 rw [this];exact List.pairwise_reverse.2 (qec.imp fun h=>h.symm)
theorem qer {κ α:Type}{m:List (κ × α)}(h:(q00 m).Nodup):m.Nodup:=List.Pairwise.of_map Prod.fst (fun a b hab e=>hab (by rw [e])) h
theorem qtv {κ α:Type}[DecidableEq κ][DecidableEq α]{m m':List (κ × α)}(h:(q00 m).Nodup)(h':(q00 m').Nodup)(he:∀k,q09 k m=q09 k m'):m.Perm m':=by
 refine (List.perm_ext_iff_of_nodup (qer h) (qer h')).2 fun p=>⟨fun hp=>?_,fun hp=>?_⟩
 ·have:=q28 h hp;rw [he] at this;exact q0e this
 ·have:=q28 h' hp;rw [← he] at this;exact q0e this
theorem qes {s:Sta}(R:Rch s):s.ms.m.Perm (q8g s).ms.m∧s.cm.Perm (q8g s).cm:=by
 refine⟨qtv R.ok.ms.nd (flsK_nd s 64) fun a=>?_,?_⟩
 ·show q09 a s.ms.m=q09 a (flsK s 64);rw [z90 R];have hkey:=R.keys a;unfold flOf
  cases h:q09 a s.ms.m with
  | none=>
   rw [h] at hkey;rw [if_neg (by intro he; rw [z9p he] at hkey; simp at hkey)]
  | some x=>
   rw [h] at hkey;rw [if_pos (by
    by_cases he:0 < (rowE s.rows a).epoch
    ·exact he
    ·rw [zaf he] at hkey; simp at hkey)]
   rfl
 ·exact ((z4g R.ok.sh.nd).symm.trans (List.reverse_perm _).symm)
theorem z91 {s:Sta}(R:Rch s)(a:Int):flOf (q8g s).ms a=flOf s.ms a:=by
 have:=q54 (x:=a) R.ok.ms.nd (qes R).1;unfold flOf;rw [← this]
theorem norm_cm {s:Sta}(R:Rch s):q0g (q8g s).cm=q0g s.cm:=(z4f R.ok.sh.nd (qes R).2).symm
theorem z4h {s:Sta}(R:Rch s):stB (q8g s)=stB s:=by
 have h1:∀p,agOf (q8g s) p=agOf s p:=by
  intro p;unfold agOf;have:q5j (q8g s) p.1=q5j s p.1:=rfl;rw [this]
  cases q5j s p.1 with
  | none=>rfl
  | some st=>dsimp only; rw [z91 R]
 have h2:(q8g s).cm.length=s.cm.length:=(qes R).2.length_eq.symm;unfold stB stB3 stB2 stB1;rw [norm_cm R,h2];have h3:(tab 0 (q8g s).rows).flatMap (agOf (q8g s))=(tab 0 s.rows).flatMap (agOf s):=by
  show (tab 0 s.rows).flatMap _=_;congr 1;funext p;exact h1 p
 rw [h3];rfl
open Go.Proofs.YtfmkddccnjidmaaGreatDoor
structure qfz (o:Ot):Prop where
 ch:CH o.2
 win:0≤o.1.win∧o.1.win≤4611686018427387903
 ser:(q75 o.1.ser).2.2=true
 size:o.1.ser.size≤5000
theorem qk6.l {o:Ot}(h:qk6 o):qfz o:=⟨h.ch,h.win,h.ser,h.size⟩
theorem qfz.g {o:Ot}(h:qfz o)(wc:WC o.2)(rt:q3h o.2=true):qk6 o:=⟨wc,rt,h.ch,h.win,h.ser,h.size⟩
theorem CH.z:CH Cl.z:=fun i _=>rfl
theorem CH.note {c:Cl}(h:CH c)(b:Bool):CH (q7t c b).1:=by
 unfold q7t
 split
 ·exact CH.z
 split
 ·split
  ·exact CH.z
  ·exact h
 ·split
  ·exact CH.z
  ·exact h
theorem CH.add {c:Cl}(h:CH c){v:Int}(hv:wf64 v):CH (addC c v).1:=by
 unfold addC
 split
 ·exact CH.z
 split
 ·exact CH.z
 split
 ·exact CH.z
 split
 ·exact CH.z
 rename_i h0;intro i hi;dsimp only;have h0:(addH c.h v).2=0:=Decidable.not_not.1 h0;unfold addH at h0 ⊢
 split at h0
 ·simp at h0
 rename_i h1;rw [if_neg h1]
 split at h0
 ·simp at h0
 rename_i h2;rw [if_neg h2];have:=q5x hv;dsimp only;unfold updN;rw [if_neg (by omega)];exact h i hi
theorem qzo {B:Nat}:∀{ps:List (List UInt8)},(∀p∈ps,p.length≤B)→(Go.Lib.join ps [44]).length≤(B+1)*ps.length
 | [],_=>by simp [Go.Lib.join_nil]
 | [p],h=>by rw [Go.Lib.join_one]; have:=h p (z9k ..); simp; omega
 | p::q::r,h=>by
  have ih:=qzo (ps:=q::r) fun x hx=>h x (z9m _ hx)
  have:=h p (z9k ..);rw [join2,z95,z9c];simp only [z9c,Nat.mul_succ] at *;omega
theorem z92 {name:ByteArray}{labs:List Lab}(h:q3u name labs=true):(q71 name labs).size≤5000:=by
 have hp:=q7m h;have hn:=q5e hp.named;unfold q71;rw [if_pos h]
 split
 ·omega
 ·have hj:=qzo (ps:=(labs.map q5y).map lsB) (B:=129) (by
   intro p hp';obtain⟨b,hb,rfl⟩:=z9d.1 hp';obtain⟨l,hl,rfl⟩:=z9d.1 hb;have:=q5f (hp.val l hl);rw [qhj,z95,z9c,q5b,q5b];omega)
  rw [z9o,z9o] at hj;have h8:=hp.len;rw [← q5b,q4g,q4g,q4g];have ej:lsB (qcr labs)=Go.Lib.join ((labs.map q5y).map lsB) [44]:=qk3 _;simp only [z95,ej];rw [q5b];have e1:(lsB (⟨#[123]⟩:ByteArray)).length=1:=rfl;have e2:(lsB (⟨#[125]⟩:ByteArray)).length=1:=rfl;rw [e1,e2];omega
structure SerG (ser:ByteArray):Prop where
 ok:(q75 ser).2.2=true
 size:ser.size≤5000
theorem serG_of {e:Pv}(h:q7v e=true):SerG (q71 e.name e.labs):=by
 obtain⟨_,h2⟩:=qzh h;exact⟨by rw [z42 h2],z92 h2⟩
theorem note_L {most first last:Int}{m:CM}{ser:ByteArray}(h:∀p∈m,qfz p)(hs:SerG ser)(h1:0≤first)(h2:last≤4611686018427387903):∀p∈(qcp most m first last ser).1,qfz p:=by
 unfold qcp
 split
 ·exact h
 split
 ·exact h
 split
 ·exact h
 intro p hp
 rcases qts hp with hp|hp
 ·obtain⟨w,hw,e1,e2,e3⟩:=qjp hp;unfold wins at hw;obtain⟨i,hi',rfl⟩:=z9d.1 hw;have hi':=zar.1 hi';have hc:CH (q1s m ⟨first+(i:Int),ser⟩):=by
   unfold q1s
   cases hm:q09 (⟨first+(i:Int),ser⟩:Ky) m with
   | none=>exact CH.z
   | some c=>exact (h _ (q0e hm)).ch
  exact⟨by rw [e2]; exact hc.note _,by rw [e1]; dsimp only; omega,by rw [e1]; exact hs.ok,by rw [e1]; exact hs.size⟩
 ·exact h p hp
theorem count_L {m:CM}{k:Ky}{v:Int}(h:∀p∈m,qfz p)(hv:wf64 v):∀p∈(qag m k v).1,qfz p:=by
 unfold qag
 split
 ·exact h
 rename_i c hc
 split
 ·exact h
 intro p hp
 rcases q41 hp with rfl|hp
 ·have:=h (k,c) (q0e hc);exact⟨this.ch.add hv,this.win,this.ser,this.size⟩
 ·exact h p hp
structure MsJ (lim:Int)(ms ms':MS):Prop where
 now:ms'.now=ms.now
 value:ms'.value=ms.value
 keys:∀a,(q09 a ms'.m).isSome=(q09 a ms.m).isSome
 fl:∀p∈ms'.m,p.2.t≤lim
theorem z93 {now:Int}{ms:MS}{a t:Int}(h:∀p∈ms.m,p.2.t≤now)(ht:t≤now):MsJ now ms (ms.raise a t).1:=by
 have r1:=qxc ms a t;refine⟨r1.2,r1.1,fun b=>?_,raise_fl h ht⟩
 unfold MS.raise
 split
 ·rfl
 rename_i x hx
 split
 ·rfl
 dsimp only;rw [qb7]
 split
 ·rename_i e; rw [e,hx]; rfl
 ·rfl
theorem MsJ.trans {now:Int}{a b c:MS}(h:MsJ now a b)(h2:MsJ now b c):MsJ now a c:=⟨h2.now.trans h.now,h2.value.trans h.value,fun k=>(h2.keys k).trans (h.keys k),h2.fl⟩
theorem flOf_lo {ms:MS}(h:MOk ms)(a:Int):0≤(flOf ms a).t:=by
 unfold flOf
 cases e:q09 a ms.m with
 | none=>exact z9z _
 | some x=>exact (h.rows _ (q0e e)).2.1
theorem judgeS_J {c:Cfg}{now a:Int}{st:Str}{ms:MS}{cm:CM}{e:Pv}(hg:c.gd.ok)(hn:isT now)(hm:MOk ms)(he:q7v e=true)(hv:wf64 e.value)(hf:∀p∈ms.m,p.2.t≤now)(hc:∀p∈cm,qfz p) :
  MsJ now ms (q25 c now a st ms cm e).ms∧∀p∈(q25 c now a st ms cm e).cm,qfz p:=by
 have same:MsJ now ms ms:=⟨rfl,rfl,fun _=>rfl,hf⟩
 unfold q25
 split
 ·exact⟨same,hc⟩
 split
 ·exact⟨same,hc⟩
 rename_i h1 h2;have h2:(q1t st.ck (flOf ms a) now e.stamp).2=0:=Decidable.not_not.1 (not_or.1 h2).1;obtain⟨t1,t2,t3⟩:=qzj h2;have hlo:=flOf_lo hm a;generalize q1t st.ck (flOf ms a) now e.stamp=T at *;have r:=z93 (a:=a) (t:=T.1.lo) hf (by omega)
 split
 ·exact⟨r,hc⟩
 have w:=z4c (g:=c.gd) (x:=T.1) (.inr trivial) hg t1;rw [w];dsimp only;have w0:0≤q18 c.gd T.1.lo:=by
  rw [qka hg (by unfold isV isT at *; omega)];exact Int.ediv_nonneg (by omega) (by have:=hg.1; omega)
 have w1:q18 c.gd T.1.hi≤4611686018427387903:=by
  rw [qka hg (by unfold isV isT at *; omega)];have:=Int.ediv_le_self (a:=T.1.hi) c.gd.width (by omega);unfold isT at hn;omega
 have N:=note_L (most:=c.cells) (ser:=q71 e.name e.labs) hc (serG_of he) w0 w1
 split
 ·exact⟨r,N⟩
 split
 ·exact⟨r,N⟩
 ·exact⟨r,count_L N hv⟩
theorem qzp {c:Cfg}{now a ep first:Int}{evs:List Pv}{x:JS}(hg:c.gd.ok)(hn:isT now)(hm:MOk x.ms)(he:∀e∈evs,q7v e=true∧wf64 e.value)(hf:∀p∈x.ms.m,p.2.t≤now)(hc:∀p∈x.cm,qfz p):∀n,n≤evs.length→
  MOk (q1a c now a ep first evs x n).1.ms∧MsJ now x.ms (q1a c now a ep first evs x n).1.ms∧∀p∈(q1a c now a ep first evs x n).1.cm,qfz p
 | 0,_=>⟨hm,⟨rfl,rfl,fun _=>rfl,hf⟩,hc⟩
 | n+1,hl=>by
  obtain⟨i1,i2,i3⟩:=qzp (ep:=ep) (first:=first) (a:=a) hg hn hm he hf hc n (by omega);have hev:=he (evs.getD n Pv.z) (by rw [q8u _ (by omega)]; exact z9f _);have hj:=judgeS_J (a:=a) (st:=(q1a c now a ep first evs x n).1.st) (e:=evs.getD n Pv.z) hg hn i1 hev.1 hev.2 i2.fl i3;have hm:=qsz (c:=c) (now:=now) (a:=a) (st:=(q1a c now a ep first evs x n).1.st) (cm:=(q1a c now a ep first evs x n).1.cm) (e:=evs.getD n Pv.z) i1;exact⟨hm.1,i2.trans hj.1,hj.2⟩
theorem qzq {lim:Int}{m:FM}:∀(ks:List Int) (s:Int × Bool),lim≤s.1→lim≤(q8z lim m ks s).1
 | [],s,h=>h
 | k::r,s,h=>by
  refine qzq r _ ?_;unfold qgw
  split
  ·rename_i hc; dsimp only; omega
  ·exact h
theorem cmG {s:Sta}(ok:q1v s)(h:∀p∈s.cm,qfz p):∀p∈s.cm,qk6 p:=fun p hp=>(h p hp).g (ok.sh.wc p hp) (ok.sh.rt p hp)
theorem Rch.cl {s:Sta}(R:Rch s):∀p∈s.cm,qfz p:=fun p hp=>(R.cm p hp).l
theorem qxd {c:Cfg}(ok:qap c):Rch (newS c) where
 ok:=qar ok
 sunk:=by show (0:Int)≤_; decide
 mnow:=⟨z9z _,z9z _⟩
 val:=by have:=ok.lag; show (0:Int) - c.lag≤-c.lag∧-c.lag≤0; omega
 keys:=fun a=>by
  have:rowE (newS c).rows a=En.z:=by
   unfold rowE newS;dsimp only
   split
   ·rfl
   ·rw [List.getElem?_replicate]; split <;> rfl
  rw [this]; rfl
 fl:=fun p hp=>absurd hp (by simp [newS,MS.new])
 rows:=fun a h=>by
  exfalso;have:rowE (newS c).rows a=En.z:=by
   unfold rowE newS;dsimp only
   split
   ·rfl
   ·rw [List.getElem?_replicate]; split <;> rfl
  rw [this] at h;simp [En.z] at h
 ag:=(open_new ok).ag
 cm:=fun p hp=>absurd hp (by simp [newS])
 kept:=fun p hp=>absurd hp (by simp [newS])
set_option maxHeartbeats 2000000 in
theorem q97 {s:Sta}{r:Rp}(R:Rch s)(hv:∀e∈r.evs,wf64 e.value):Rch (q2i s r):=by
 have hok:q1v (q2i s r):=qz2 R.ok hv;have ok:=R.ok;have hmn:=R.mnow;have hval:=R.val;unfold q2i at *;revert hok;have nowup:∀{n:Int},s.now≤n→(0≤s.ms.now∧s.ms.now≤n)∧∀p∈s.ms.m,p.2.t≤n:=fun h=>⟨by omega,fun p hp=>by have:=R.fl p hp; omega⟩
 refine q7d (P:=fun q=>q1v q.1→Rch q.1) (fun _ _=>R) (fun _ _ _=>R) (fun _ _ _ hok=>⟨hok,R.sunk,R.mnow,R.val,R.keys,R.fl,R.rows,R.ag,R.cm,R.kept⟩) (fun hR hf hk hok=>?_) (fun hR hf hk hok=>?_) (fun hR hf hk hok=>?_) (fun hR hf hk hok=>?_) (fun hR hf hk hok=>?_) fun hR hf hk hok=>?_
 ·have hL:=q2e hR;have hnow:=q8f (by omega) (by omega) hf;rw [if_neg (by omega)] at hnow;obtain⟨u1,u2⟩:=nowup hnow;have hg:=qcy (most:=s.cfg.agents) ok.rows r.ag r.bt r.nw;revert hok;unfold q2t
  split
  ·exact fun _=>R
  rename_i hn;have hn:=Decidable.not_not.1 hn;have hb:¬bad r.ag r.bt r.nw:=by
   intro hb;unfold q0u at hn;rw [if_pos hb] at hn; simp at hn
  split
  ·rename_i hf;intro hok
   rcases hg with ⟨-,g2,g3,g4,g5⟩|⟨g1,_⟩
   ·have hltr:r.ag.toNat < s.rows.length:=by rw [ok.rows.len]; have:=hL.ag; omega
    have hfull:¬((rowE s.rows r.ag).epoch=0∧full s.cfg.agents s.rows)∧(q0u s.cfg.agents s.rows r.ag r.bt r.nw).2.1.time=r.nw∧(q0u s.cfg.agents s.rows r.ag r.bt r.nw).2.1.boot=r.bt:=by
     unfold q0u at hf hn ⊢;rw [if_neg hb] at hf hn ⊢;dsimp only at hf hn ⊢
     split at hf
     ·cases hf
     rename_i q1;rw [if_neg q1] at hn ⊢
     split at hf
     ·cases hf
     rename_i q2;rw [if_neg q2] at hn ⊢
     split at hf
     ·cases hf
     rename_i q3;rw [if_neg q3] at hn ⊢
     split at hf
     ·cases hf
     rename_i q4;rw [if_neg q4];exact⟨q4,rfl,rfl⟩
    have hop:=(open_ag (s:=s) ok R.ag hL.ag hfull.1 g2);generalize (q0u s.cfg.agents s.rows r.ag r.bt r.nw)=G at *;have hrow:∀a,rowE G.1 a=if a=r.ag then G.2.1 else rowE s.rows a:=by
     intro a;rw [g2]
     by_cases e:a=r.ag
     ·rw [if_pos e,e,qpd hL.ag.1 hltr]
     ·rw [if_neg e];unfold rowE
      by_cases h0:a < 0
      ·rw [if_pos h0,if_pos h0]
      ·rw [if_neg h0,if_neg h0,List.getElem?_set_ne (by have:=hL.ag; omega)]
    have hold:(oldM s r.ag).now=s.ms.now∧(oldM s r.ag).value=s.ms.value∧(∀p∈(oldM s r.ag).m,p.2.t≤r.nw)∧q09 r.ag (oldM s r.ag).m=none∧∀a,a≠r.ag→q09 a (oldM s r.ag).m=q09 a s.ms.m:=by
     unfold oldM
     cases hs:q5j s r.ag with
     | none=>
      dsimp only;refine⟨rfl,rfl,u2,?_,fun _ _=>rfl⟩
      have hk:=R.keys r.ag;have h0:¬0 < (rowE s.rows r.ag).epoch:=by
       intro h;have hlt:r.ag.toNat < 64:=by have:=hL.ag; omega
       have e1:((r.ag.toNat:Nat):Int)=r.ag:=by have:=hL.ag; omega
       have e2:rowE s.rows r.ag=s.rows[r.ag.toNat]:=by rw [← qpf hltr,e1]
       obtain⟨st,_,h2⟩:=R.str hlt (by rw [← e2]; exact h);rw [e1,hs] at h2
       cases h2
      rw [zaf h0] at hk
      cases h:q09 r.ag s.ms.m with
      | none=>rfl
      | some x=>rw [h] at hk; simp at hk
     | some st=>
      dsimp only;unfold MS.leave
      split
      ·rename_i h;exact⟨rfl,rfl,u2,h,fun _ _=>rfl⟩
      ·refine⟨rfl,rfl,fun p hp=>u2 p (qb5.1 hp).1,?_,fun a ha=>?_⟩
       ·dsimp only; rw [qlb,if_pos rfl]
       ·dsimp only; rw [qlb,if_neg ha]
    obtain⟨o1,o2,o3,o4,o5⟩:=hold;have hj:(oldM s r.ag).join r.ag r.nw=({ oldM s r.ag with m:=mset r.ag ⟨r.nw,false,false,false⟩ (oldM s r.ag).m },0):=by
     unfold MS.join;have h1:=hL.ag;have h2:=hL.nw;rw [if_neg (by unfold isAg isT; unfold isT at h2; omega),o4]
    rw [hj] at hok ⊢;refine⟨hok,R.sunk,by dsimp only; omega,by dsimp only; omega,fun a=>?_,fun p hp=>?_,fun a h=>?_,hop,R.cm,R.kept⟩
    ·dsimp only;rw [hrow,qb7]
     by_cases e:a=r.ag
     ·rw [if_pos e,if_pos e,z9p g3]; rfl
     ·rw [if_neg e,if_neg e,o5 a e]; exact R.keys a
    ·rcases q41 hp with rfl|hp
     ·exact z9z _
     ·exact o3 p hp
    ·dsimp only at h ⊢;rw [hrow] at h ⊢
     by_cases e:a=r.ag
     ·rw [if_pos e,hfull.2.1,hfull.2.2];have h1:=hL.bt;have h2:=hL.nw;exact⟨⟨h1.1 hk,h1.2.2⟩,h2.1,h2.2⟩
     ·rw [if_neg e] at h ⊢;exact R.rows a h
   ·rw [g1] at hf; cases hf
  ·rename_i hf;intro hok
   rcases hg with ⟨g1,_⟩|⟨-,g2,_⟩
   ·exact absurd g1 hf
   ·rw [g2] at hok ⊢;exact⟨hok,R.sunk,u1,R.val,R.keys,u2,R.rows,R.ag,R.cm,R.kept⟩
 ·have hL:=q2e hR;have hnow:=q8f (by omega) (by omega) hf;rw [if_pos hk] at hnow;obtain⟨u1,u2⟩:=nowup hnow;obtain⟨st,hst⟩:=q34 ok hL hf (.inl hk);revert hok;unfold qcx;rw [hst];intro hok;have hh:∀b,(s.ms.hold r.ag b).1.now=s.ms.now∧(s.ms.hold r.ag b).1.value=s.ms.value∧(∀a,(q09 a (s.ms.hold r.ag b).1.m).isSome=(q09 a s.ms.m).isSome)∧∀p∈(s.ms.hold r.ag b).1.m,p.2.t≤r.sm.came:=by
   intro b;unfold MS.hold
   split
   ·exact⟨rfl,rfl,fun _=>rfl,u2⟩
   ·rename_i x hx;refine⟨rfl,rfl,fun a=>?_,fun p hp=>?_⟩
    ·dsimp only;rw [qb7]
     split
     ·rename_i e; rw [e,hx]; rfl
     ·rfl
    ·rcases q41 hp with rfl|hp
     ·have:=u2 (r.ag,x) (q0e hx);exact this
     ·exact u2 p hp
  obtain⟨h1,h2,h3,h4⟩:=hh (qfg st.ck r.sm).1.held;refine⟨hok,R.sunk,?_,?_,fun a=>?_,h4,R.rows,R.ag,R.cm,R.kept⟩
  ·dsimp only; rw [h1]; exact u1
  ·dsimp only; rw [h1,h2]; exact R.val
  ·dsimp only; rw [h3]; exact R.keys a
 ·have hL:=q2e hR;have hnow:=q8f (by omega) (by omega) hf;rw [if_neg (by omega)] at hnow;obtain⟨u1,u2⟩:=nowup hnow;obtain⟨st,hst⟩:=q34 ok hL hf (.inr (.inl hk));have hsok:=ok.sts st (z9x hst);have hb:=hL.evs hk;unfold q4z at hb;simp only [z99,z97,za8] at hb;obtain⟨⟨hb1,hb2⟩,⟨⟨hb3,hb4⟩,hb5⟩,hb6⟩:=hb;have hm:=qaj (s:=st.hs) (first:=r.nx) (items:=r.evs);have good:∀e∈(st.hs.offer r.nx r.evs).2.1,q7v e=true∧wf64 e.value:=by
   intro e he
   rcases hm.1 e he with h|⟨q,h,rfl⟩
   ·exact⟨hb6 e h,hv e h⟩
   ·exact (hsok.rows q h).2
  have hj:=qzp (c:=s.cfg) (now:=r.nw) (a:=r.ag) (ep:=r.ep) (first:=st.hs.next) (evs:=(st.hs.offer r.nx r.evs).2.1) (x:=⟨{ st with hs:=(st.hs.offer r.nx r.evs).1 },s.ms,s.cm⟩) ok.cfg.gd hL.nw ok.ms good u2 R.cl _ (z9e _);revert hok;unfold q43;rw [hst];dsimp only;unfold q42;generalize q1a s.cfg r.nw r.ag r.ep st.hs.next (st.hs.offer r.nx r.evs).2.1 ⟨{ st with hs:=(st.hs.offer r.nx r.evs).1 },s.ms,s.cm⟩ (st.hs.offer r.nx r.evs).2.1.length=G at *;intro hok;obtain⟨j1,j2,j3⟩:=hj;refine⟨hok,R.sunk,?_,?_,fun a=>?_,j2.fl,R.rows,R.ag,cmG hok j3,R.kept⟩
  ·dsimp only at j2 ⊢; rw [j2.now]; exact u1
  ·dsimp only at j2 ⊢; rw [j2.now,j2.value]; exact R.val
  ·dsimp only at j2 ⊢; rw [j2.keys]; exact R.keys a
 ·have hL:=q2e hR;have hnow:=q8f (by omega) (by omega) hf;rw [if_neg (by omega)] at hnow;obtain⟨u1,u2⟩:=nowup hnow;obtain⟨st,hst⟩:=q34 ok hL hf (.inr (.inr hk));revert hok;unfold qsv;rw [hst];dsimp only
  split
  ·exact fun hok=>⟨hok,R.sunk,u1,R.val,R.keys,u2,R.rows,R.ag,R.cm,R.kept⟩
  split
  ·exact fun hok=>⟨hok,R.sunk,u1,R.val,R.keys,u2,R.rows,R.ag,R.cm,R.kept⟩
  ·rename_i hT;intro hok;obtain⟨t1,t2,t3⟩:=qzj (Decidable.not_not.1 hT);have j2:=z93 (a:=r.ag) (t:=(q1t st.ck (flOf s.ms r.ag) r.nw r.st).1.lo) u2 (by omega);refine⟨hok,R.sunk,?_,?_,fun a=>?_,j2.fl,R.rows,R.ag,R.cm,R.kept⟩
   ·dsimp only; rw [j2.now]; exact u1
   ·dsimp only; rw [j2.now,j2.value]; exact R.val
   ·dsimp only; rw [j2.keys]; exact R.keys a
 ·have hL:=q2e hR;have hnow:=q8f (by omega) (by omega) hf;rw [if_neg (by omega)] at hnow;obtain⟨u1,u2⟩:=nowup hnow;have hnw:=hL.nw;have hlag:=ok.ms.l1;have hll:=ok.lag;have ht:s.ms.tick r.nw=({ s.ms with now:=r.nw,value:=maxI s.ms.value (q8z (r.nw - s.ms.lag) s.ms.m (q68 (q00 s.ms.m)) (r.nw - s.ms.lag,false)).1,m:=s.ms.m.map fun p=>(p.1,updF (r.nw - s.ms.lag) p.2) },0):=by
   unfold MS.tick;rw [if_neg (by intro h; rcases h with h|h; exact h hnw; omega)]
  have f1:=z8x (lim:=r.nw - s.ms.lag) u2 hnw.1 (q68 (q00 s.ms.m)) (r.nw - s.ms.lag,false) (by dsimp only; omega);have f2:=qzq (lim:=r.nw - s.ms.lag) (m:=s.ms.m) (q68 (q00 s.ms.m)) (r.nw - s.ms.lag,false) (z9z _);revert hok;unfold q2r qfs;rw [ht];intro hok;have hcl:∀p∈q4s s.cm (q18 s.cfg.gd (maxI s.ms.value (q8z (r.nw - s.ms.lag) s.ms.m (q68 (q00 s.ms.m)) (r.nw - s.ms.lag,false)).1)),qk6 p:=fun p hp=>R.cm p (qmp.1 hp).1
  refine⟨hok,R.sunk,⟨hnw.1,z9z _⟩,?_,fun a=>?_,fun p hp=>?_,R.rows,R.ag,hcl,fun o ho=>?_⟩
  ·dsimp only;unfold maxI
   split <;> omega
  ·dsimp only;have:=qal (f:=fun (_:Int)=>updF (r.nw - s.ms.lag)) (k:=a) (m:=s.ms.m)
   rw [this,← R.keys a]
   cases q09 a s.ms.m <;> rfl
  ·obtain⟨q,hq,rfl⟩:=z9d.1 hp;exact u2 q hq
  ·rcases zai.1 ho with ho|ho
   ·exact R.kept o ho
   ·exact R.cm o (qtu (qmd ho))
 ·revert hok;unfold qwv
  split
  ·intro hok;have hL:=q2e hR;exact⟨hok,by have:=hL.nx; exact this.2,R.mnow,R.val,R.keys,R.fl,R.rows,R.ag,R.cm,fun o ho=>R.kept o (zba ho)⟩
  ·exact fun _=>R
theorem Rch.ser {s:Sta}(R:Rch s):qwy s:=⟨fun p hp=>(R.cm p hp).size,fun o ho=>(R.kept o ho).size⟩
open Go.Proofs.YtfmkddccnjidmaaGreatDoor
theorem qmr {f:Nat→Int}{is:List Nat}(h:∀i∈is,wf64 (f i))(r:List Int):∀j,j≤is.length→q9c j ⟨0,(is.flatMap fun i=>usB [f i])++r⟩=.ok ((is.take j).map f,⟨0,((is.drop j).flatMap fun i=>usB [f i])++r⟩)
 | 0,_=>rfl
 | j+1,hj=>by
  have hlt:j < is.length:=by omega
  unfold q9c;rw [qmr h r j (by omega)];dsimp only;rw [zaj hlt,zaa,z9h,q2f (h _ (z9f hlt))];dsimp only;rw [zaq,List.getElem?_eq_getElem hlt,z9w]; rfl
theorem qkb {l:List Pv}(h:∀e∈l,q7v e=true∧wf64 e.value)(r:List Int):∀j,j≤l.length→q5i j ⟨0,l.flatMap evB++r⟩=.ok (l.take j,⟨0,(l.drop j).flatMap evB++r⟩)
 | 0,_=>rfl
 | j+1,hj=>by
  have hlt:j < l.length:=by omega
  have hm:=h _ (z9f hlt);unfold q5i;rw [qkb h r j (by omega)];dsimp only;rw [zaj hlt,zaa,z9h,qmm hm.1 hm.2];dsimp only;rw [zaq,List.getElem?_eq_getElem hlt]; rfl
theorem atV_map {k:Int}{f:Nat→Int}{i:Nat}:atV k ((ordK k).map f) i=if i∈ordK k then f i else 0:=by
 unfold atV
 split
 ·rename_i h;have hl:=List.idxOf_lt_length_iff.2 h;rw [zc1,List.getElem?_map,List.getElem?_eq_getElem hl,List.getElem_idxOf hl]; rfl
 ·rfl
theorem nums_wf {r:Rp}(hL:RLim r)(i:Nat):wf64 (r.nums i):=by
 have h1:=hL.ag;have h2:=hL.ep;have h3:=hL.bt;have h4:=hL.nx;have h5:=hL.st;have h6:=hL.nw;have h7:=hL.sm.wf;unfold Smp.wf at h7;unfold isT at *;unfold Rp.nums
 split <;> first|exact h7.1|exact h7.2.1|exact h7.2.2.1|exact h7.2.2.2|(unfold wf64; omega)
theorem rec_back {r:Rp}(hR:r.right=true)(hv:∀e∈r.evs,wf64 e.value):recR r.bytes=.ok r:=by
 have hL:=q2e hR;have hz:=qk8 hR;have hk:=hL.kind;have hev:(r.kind=4→r.evs.length≤64∧∀e∈r.evs,q7v e=true∧wf64 e.value)∧(¬r.kind=4→r.evs=[]):=by
  refine⟨fun h4=>?_,fun h4=>?_⟩
  ·have hb:=hL.evs h4;unfold q4z at hb;simp only [z99,z97,za8] at hb;exact⟨hb.2.1.1.2,fun e he=>⟨hb.2.2 e he,hv e he⟩⟩
  ·unfold Rp.right at hR;rw [if_neg h4] at hR;simp only [z99,z97] at hR;exact zbs.1 hR.1.2
 have e:r.bytes=usB [r.kind]++(((ordK r.kind).flatMap fun i=>usB [r.nums i])++((if r.kind=4 then usB [((r.evs.length:Nat):Int)] else [])++(r.evs.flatMap evB++[]))):=by
  unfold Rp.bytes;rw [if_pos hR];simp only [z9h,za1]
 have hfill:qfp r.kind ((ordK r.kind).map r.nums) r.evs=r:=by
  unfold Rp.zeros at hz;simp only [z99,z97] at hz;have key:∀i x,r.nums i=x→zrK r.kind i x=0→atV r.kind ((ordK r.kind).map r.nums) i=x:=by
   intro i x h1 h2;rw [atV_map];unfold zrK at h2
   split
   ·exact h1
   ·rename_i h;rw [if_neg h] at h2;exact h2.symm
  unfold qfp;obtain⟨⟨⟨⟨⟨⟨z1,z2⟩,z3⟩,z4⟩,z5⟩,z6⟩,⟨⟨z7,z8⟩,z9⟩,z10⟩:=hz;rw [key 1 r.ag rfl z1,key 2 r.ep rfl z2,key 3 r.bt rfl z3,key 4 r.nx rfl z4,key 5 r.st rfl z5,key 6 r.nw rfl z6,key 7 r.sm.asked rfl z7,key 8 r.sm.got rfl z8,key 9 r.sm.sent rfl z9,key 10 r.sm.came rfl z10]
 unfold recR;rw [e,qhi (by omega) (by omega)];dsimp only;rw [if_neg (by omega),qmr (fun i _=>nums_wf hL i) _ _ (z9e _),zap,zb1]
 dsimp only;have fin:evsR r.kind ⟨0,([]:List Nat).flatMap (fun i=>usB [r.nums i])++((if r.kind=4 then usB [((r.evs.length:Nat):Int)] else [])++(r.evs.flatMap evB++[]))⟩=.ok (r.evs,⟨0,[]⟩):=by
  unfold evsR
  split
  ·rename_i h4;obtain⟨h5,h6⟩:=hev.1 h4;have ec:q24 64 ⟨0,([]:List Nat).flatMap (fun i=>usB [r.nums i])++(usB [((r.evs.length:Nat):Int)]++(r.evs.flatMap evB++[]))⟩=.ok (((r.evs.length:Nat):Int),⟨0,r.evs.flatMap evB++[]⟩):=q8e (by omega) (by omega) _
   rw [ec];dsimp only;rw [z9b,qkb h6 _ _ (z9e _),zap,zb1];rfl
  ·rename_i h4;rw [hev.2 h4];rfl
 rw [fin];dsimp only;rw [show (q23 ⟨0,[]⟩).e=0 from rfl,if_neg (by simp),hfill,hR,if_pos rfl]
namespace Al
def c0:Cfg:=⟨10,0,1000,100,100,2,4,40,8⟩
def r1:Rp:=⟨2,3,0,1,0,0,0,Smp.z,[]⟩
def r2:Rp:=⟨3,3,1,0,0,0,0,⟨0,0,0,2⟩,[]⟩
def e0:Pv:=⟨5,7,⟨#[109]⟩,[]⟩
def r3:Rp:=⟨4,3,1,0,0,0,9,Smp.z,[e0]⟩
def r4:Rp:=⟨6,0,0,0,0,0,200,Smp.z,[]⟩
def r5:Rp:=⟨6,0,0,0,0,0,199,Smp.z,[]⟩
def r6:Rp:=⟨7,0,0,0,1,0,0,Smp.z,[]⟩
def r7:Rp:=⟨1,0,0,0,0,0,0,Smp.z,[]⟩
def A1:=q0h (newS c0) r1
def A2:=q0h A1.1 r2
def A3:=q0h A2.1 r3
def A4:=q0h A3.1 r4
def A5:=q0h A4.1 r5
def A6:=q0h A5.1 r6
def A7:=q0h A6.1 r7
theorem ok0:qap c0:=qft (by kernel_rfl)
theorem nov {r:Rp}(h:r.evs=[]):∀e∈r.evs,wf64 e.value:=fun e he=>by rw [h] at he; cases he
theorem R1:Rch A1.1:=q97 (qxd ok0) (nov rfl)
theorem R2:Rch A2.1:=q97 R1 (nov rfl)
theorem R3:Rch A3.1:=q97 R2 fun e he=>by
 have:e=e0:=by simpa [r3] using he
 rw [this]; show wf64 7; decide
theorem R4:Rch A4.1:=q97 R3 (nov rfl)
theorem R5:Rch A5.1:=q97 R4 (nov rfl)
theorem R6:Rch A6.1:=q97 R5 (nov rfl)
end Al
end Go.Nm
namespace Go.Proofs.YtfmkddccnjidmaaGreatDoor
open Go.Nm
section
variable {F L:List Assn} {H H0:Heap} {K KP:Value→Heap→Prop} {Q Q':Assn} {sb:Nat} {s:Sta}
theorem qg0 (h:SatL H F)(k:∀H',SatL H' F→K (.agg ⟨qks Al.c0⟩) H'):CF 30 #[] H K:=by
 refine Small_c ?_;refine h.al fun b _ h=>?_
 refine h.st 0 rfl rfl ?_;intro H2 h;exact⟨_,_,_,_,_,_,_,_,_,h.q 0,k _ h.tl⟩
theorem q98 {sb:Nat}{s:Sta}{r:Rp}{a:Option Addr}{c n:Nat}{e:Int}{A:Sta × List Eff × Int}{evs:List Ev}(hA:q0h s r=A)(hn:A.2.1.length=n)(he:A.2.2=e)(R:Rch s)(hkl:s.kept.length=0∨s.kept.length=1)(hr:z3n Q F r a evs)(h:SatL H (Q::stA Q sb s::F))
  (k:∀Q' a' c' H',Sub Q Q'→SatL H' (Q'::slA 66 87 a' n c' (flat q3j A.2.1)::stA Q' sb A.1::F)→K (.tuple #[.slice a' n c',I64 e]) H') :
  CF 17 #[PA sb 0,.agg ⟨encR r a c⟩] H K:=by
 subst hA; subst hn; subst he;exact qbh R.ok (by have:=R.sunk; omega) (by omega) hr h k
theorem qms {r:Rp}(h:r.evs=[]):z3n Q F r none []:=⟨h,fun H _=>q9w H _,fun e he=>absurd he (by simp),by simp,Al.nov h⟩
theorem eq51:q4h Tryz.prog .eql 51 (.agg #[I64 0,I64 0]) (.agg #[I64 0,I64 0]) true:=
 (qb8 (P:=Tryz.prog) (t:=51) (xs:=[I64 0,I64 0]) (ys:=[I64 0,I64 0]) (r:=true) (by kernel_rfl)).1
theorem qxe (ok:q1v s)(ser:qwy s)(hk:s.kept.length≤50000):(stB s).length≤1000000000:=by
 have h1:=qz7 (s:=s);have h2:=q93 (f:=agOf s) (l:=tab 0 s.rows) (B:=345000) fun p _=>qhf ok p
 have h3:=qyv ok.rows;have h4:=q93 (f:=ceB) (l:=q0g s.cm) (B:=10100) fun o ho=>by
  obtain⟨q,hq,e⟩:=qek ho;exact qp0 (qhe ok.sh _ ho) (by rw [← e]; exact ser.cm q hq)
 have h5:=q93 (f:=ceB) (l:=s.kept) (B:=10100) fun o ho=>qp0 (ok.kept o ho) (ser.kept o ho)
 have h6:=q86 s.cm;have h7:=ok.sh.len;have h8:=ok.sh.m2;have q1:=q1e [(s.cm.length:Int)];have q2:=q1e [(s.kept.length:Int)];have m1:345000*(tab 0 s.rows).length≤345000*64:=zbe _ h3;have m2:10100*(q0g s.cm).length≤10100*1024:=zbe _ (by omega);have m3:10100*s.kept.length≤10100*50000:=zbe _ hk;unfold stB stB3 stB2;simp only [z95,z9c,z9v] at *;omega
theorem rbytes3:q04 Al.r3.bytes:=by
 unfold Rp.bytes
 split
 ·refine q0d (q0d (q0d (q2q _) (q13 fun _ _=>q2q _)) ?_) (q13 fun _ _=>qsk _)
  split
  ·exact q2q _
  ·exact q2v
 ·exact q2v
set_option maxHeartbeats 8000000 in
theorem z4i (h:SatL H (Q::F))(k:∀Q' H',Sub Q Q'→SatL H' (Q'::F)→K (.bool true) H'):CF 9 #[] H K:=by
 refine alive_c ?_;refine qg0 h fun H1 h=>⟨_,_,_,_,_,_,_,_,_,rfl,?_⟩
 refine qfu (Q:=Q) (c:=Al.c0) h (fun hc=>absurd hc (by rw [show cfgR Al.c0=true by kernel_rfl]; simp)) fun _ sb H2 h=>⟨_,_,rfl,fun hf=>absurd hf (by simp),fun _=>?_⟩
 have h:=h.o [1,0] 2;refine q98 (r:=Al.r1) (a:=none) (c:=0) (n:=1) (e:=0) (A:=Al.A1) rfl (by kernel_rfl) (by kernel_rfl) (qxd Al.ok0) (.inl (by kernel_rfl)) (qms rfl) h fun Q1 a1 c1 H3 hs1 h=>⟨_,_,_,_,rfl,?_⟩
 have h:=h.o [0,2,1] 3;refine q98 (r:=Al.r2) (a:=none) (c:=0) (n:=0) (e:=0) (A:=Al.A2) rfl (by kernel_rfl) (by kernel_rfl) Al.R1 (.inl (by kernel_rfl)) (qms rfl) h fun Q2 a2 c2 H4 hs2 h=>⟨_,_,_,_,rfl,?_⟩
 refine h.al fun b _ h=>?_
 refine h.st 0 rfl rfl ?_;intro H5 h;refine⟨_,_,_,_,h.q 0,?_⟩;refine h.al fun b1 _ h=>?_
 refine h.al fun b2 _ h=>?_
 refine h.st 0 rfl rfl ?_;intro H6 h;refine⟨_,_,_,_,_,_,_,_,_,_,_,_,_,_,h.q 0,?_⟩;have h:=h.o [3,5,0,1,6] 7;have hev:∀G:List Assn,z3n Q2 (cellsA b2 [I64 4,I64 3,I64 1,I64 0,I64 0,I64 0,I64 9,I64 0,I64 0,I64 0,I64 0,.slice (some ⟨b1,0,none⟩) 1 1] 46::cellsA b1 [I64 5,I64 7,.string ⟨#[109]⟩,.slice none 0 0] 95::G) Al.r3 (some ⟨b1,0,none⟩) [⟨5,7,⟨#[109]⟩,[],none,0⟩]:=fun G=>
  ⟨rfl,fun H h=>h.ce_rd 1 rfl,fun e he=>by
   rw [za0] at he; subst he;exact KIn.nil _ _,by simp,fun e he=>by
   have:e=Al.e0:=by simpa [Al.r3] using he
   rw [this]; show wf64 7; decide⟩
 refine q98 (r:=Al.r3) (a:=some ⟨b1,0,none⟩) (c:=1) (n:=2) (e:=0) (A:=Al.A3) rfl (by kernel_rfl) (by kernel_rfl) Al.R2 (.inl (by kernel_rfl)) (hev _) h fun Q3 a3 c3 H7 hs3 h=>⟨_,_,_,_,rfl,?_⟩
 have h:=h.o [2,0,1,3,4,5] 6;have eAg:qz3 Al.A3.1 3=(⟨⟨1,1,0⟩,⟨4,false,false,false⟩,5,1,0,1⟩,true):=by kernel_rfl
 refine qwx (a:=3) Al.R3.ok h fun H8 h=>?_
 rw [eAg];refine⟨_,_,_,_,_,_,_,_,_,_,_,_,rfl,?_⟩;refine h.al fun b3 _ h=>?_
 refine h.st 0 rfl rfl ?_;intro H9 h;have h:=h.o [1,0,2,3,4,5,6] 7;have eAt:atS Al.A3.1 3 5=(⟨4,8⟩,0):=by kernel_rfl
 refine z7z (a:=3) (stamp:=5) Al.R3.ok h fun H10 h=>?_
 rw [eAt];refine⟨_,_,_,rfl,?_⟩;refine h.al fun b4 _ h=>?_
 refine h.st 0 rfl rfl ?_;intro H11 h;have h:=h.o [3,1,0,2,4,5,6,7] 8;refine q98 (r:=Al.r4) (a:=none) (c:=0) (n:=1) (e:=0) (A:=Al.A4) rfl (by kernel_rfl) (by kernel_rfl) Al.R3 (.inl (by kernel_rfl)) (qms rfl) h fun Q4 a4 c4 H12 hs4 h=>⟨_,_,_,_,rfl,?_⟩
 refine qg0 h fun H13 h=>⟨_,_,_,_,_,_,_,_,_,rfl,?_⟩
 have h:=h.o [0,2,1,3,4,5,6,7,8] 9;refine q7c Al.R4.ok Al.R4.ser (by rw [show Al.A4.1.kept.length=1 by kernel_rfl]; decide) h fun ab cb H14 h=>⟨_,_,_,rfl,?_⟩
 have hsA:ab=none∨∃k o,ab=some ⟨k,o,none⟩:=by
  rcases (q3l (F:=star _) h).2 with ⟨h2,_⟩|⟨b,pre,post,e',fr,h2,_⟩
  ·exact .inl h2
  ·exact .inr ⟨_,_,h2⟩
 have h:=h.o [1,0,2,3,4,5,6,7,8,9] 10;have hk1:Al.A4.1.kept.length=1:=by kernel_rfl
 have hcf:Al.A4.1.cfg=Al.c0:=by kernel_rfl
 have hp1:q7r Al.c0 (stB Al.A4.1)=.ok (q8g Al.A4.1):=by
  have:=z4e Al.R4 (by rw [hk1]; decide);rw [hcf] at this;exact this
 have hpS:qgk Al.c0 (stB Al.A4.1)=.ok (q8g Al.A4.1):=by
  unfold qgk;rw [if_neg (by rw [show cfgR Al.c0=true by kernel_rfl]; simp),hp1];dsimp only;rw [if_pos (z4h Al.R4)]
 have hll:(stB Al.A4.1).length≤1000000000:=qxe Al.R4.ok Al.R4.ser (by rw [hk1]; decide);refine z3x (c:=Al.c0) h (fun H h=>h.sl_rd 0 rfl) hsA (qtd _) hll (fun _ s hs=>?_) (fun hc=>absurd hc (by rw [show cfgR Al.c0=true by kernel_rfl]; simp)) (fun _ e he=>by rw [hpS] at he; cases he) fun _ s hs=>?_
 ·rw [hp1] at hs
  cases hs
  exact⟨⟨fun p hp=>(Al.R4.ser).cm p ((qes Al.R4).2.mem_iff.2 hp),Al.R4.ser.kept⟩,by show Al.A4.1.kept.length≤_; rw [hk1]; decide⟩
 rw [hpS] at hs
 cases hs
 intro Q5 tb H15 hs5 h;refine⟨_,_,rfl,?_⟩;refine⟨_,_,_,_,_,_,_,_,_,_,_,_,_,_,h.q 8,?_⟩;have h:=h.o [8,9,0,1,2,3,4,5,6,7,10] 11;refine qwi (r:=Al.r3) (a:=some ⟨b1,0,none⟩) (c:=1) (evs:=[⟨5,7,⟨#[109]⟩,[],none,0⟩]) rfl h ⟨fun H h=>h.ce_rd 1 rfl,fun e he H h=>by
   rw [za0] at he; subst he;exact q9w _ _⟩ (by simp) fun ar cr H16 h=>⟨_,_,_,rfl,?_⟩
 have h:=h.o [3,0,1,2,4,5,6,7,8,9,10,11] 12;have hrb:recR Al.r3.bytes=.ok Al.r3:=rec_back (by kernel_rfl) fun e he=>by
  have:e=Al.e0:=by simpa [Al.r3] using he
  rw [this]; show wf64 7; decide
 refine z7h (bs:=Al.r3.bytes) h (fun H h=>h.sl_rd 1 rfl) rbytes3 (by rw [show Al.r3.bytes.length=11 by kernel_rfl]; decide) ?_
 rw [hrb];intro Q6 evs ad cd H17 hs6 hevs hlab h;have hel:evs.length=1:=by
  have:=congrArg List.length hevs;rw [z9o] at this;exact this.symm
 refine⟨_,_,_,_,_,_,_,_,_,_,_,_,_,_,_,rfl,?_⟩;refine h.al fun b5 _ h=>?_
 refine h.st 0 rfl rfl ?_;intro H18 h;have h:=h.o [8,1,6,0,2,9,10,11,12,13] 14;have h:=qjr (hs5.trans hs6) h;have h:=h.o [2,0,1,3,4,5,6,7,8,9] 10;have h:=qjr hs6 h;have h:=h.o [2,1,0,3,4,5,6,7,8,9] 10;refine q98 (r:=Al.r5) (a:=none) (c:=0) (n:=0) (e:=11) (A:=Al.A5) rfl (by kernel_rfl) (by kernel_rfl) Al.R4 (.inr (by kernel_rfl)) (qms rfl) h fun Q7 a7 c7 H19 hs7 h=>⟨_,_,_,_,rfl,?_⟩
 have h:=h.o [0,2,3,4,5,6,7,8,9,10] 11;refine q98 (r:=Al.r6) (a:=none) (c:=0) (n:=0) (e:=0) (A:=Al.A6) rfl (by kernel_rfl) (by kernel_rfl) Al.R5 (.inr (by kernel_rfl)) (qms rfl) h fun Q8 a8 c8 H20 hs8 h=>⟨_,_,_,_,rfl,?_⟩
 have h:=h.o [0,2,3,4,5,6,7,8,9,10] 11;refine q98 (r:=Al.r7) (a:=none) (c:=0) (n:=0) (e:=0) (A:=Al.A7) rfl (by kernel_rfl) (by kernel_rfl) Al.R6 (.inl (by kernel_rfl)) (qms rfl) h fun Q9 a9 c9 H21 hs9 h=>⟨_,_,_,_,rfl,fun hf=>absurd hf (by simp),fun _=>?_⟩
 have h:=h.o [0,2,3,4,5,6,7,8,9,10] 11;refine h.al fun b6 _ h=>?_
 refine h.st 0 rfl rfl ?_;intro H22 h;have h:=h.o [3,0,1,2,4,5,6,7,8,9,10] 11;refine qx3 h fun hb c0 H23 hp=>⟨_,_,rfl,rfl,fun R hR1 hR2 hy=>?_⟩
 obtain⟨p,rfl,h⟩:=hp;have h:=h.rng R;have hcm:(q8g Al.A4.1).cm.length=0:=by kernel_rfl
 have hol:(q0g (q8g Al.A4.1).cm).length=0:=by rw [q86,hcm]
 refine qcq (sb:=p.hb) (mb:=p.hm) (m:=(q8g Al.A4.1).cm) (c0:=c0) (by omega) (fun _=>star [shC p.hb p.hm (q8g Al.A4.1).cfg.cells,mapC p.hm (q8g Al.A4.1).cm,pt (H23.size+1) (.loop R)]) (fun _=>pur False) (pt (H23.size+1) (.loop R))
  (h.o [2,8,9,0,1,3,4,5,6,7,10,11,12,13,14,15,16,17,18,19,20,21] 22) (fun G H' h=>SatL.shut [_,_,_] h) (fun j hj=>absurd hj (by omega)) (fun H24 h=>?_) (fun j H' hj=>absurd hj (by omega))
 have h:=SatL.open (A:=[_,_,_]) h;refine⟨.ready,none,by decide,by rw [q6a hR1 hR2]; exact h.getO 2 rfl,h.stl 2 rfl fun H25 h=>⟨rfl,?_⟩⟩
 intro Jn hJ;have r1:=h.sl_rd 20 rfl;have r3:=h.sl_rd 19 rfl;have r4:=h.sl_rd 16 rfl;have l1:0 < Al.A1.2.1.length:=by rw [show Al.A1.2.1.length=1 by kernel_rfl]; decide
 have l3:0 < Al.A3.2.1.length:=by rw [show Al.A3.2.1.length=2 by kernel_rfl]; decide
 have l3':1 < Al.A3.2.1.length:=by rw [show Al.A3.2.1.length=2 by kernel_rfl]; decide
 have l4:0 < Al.A4.2.1.length:=by rw [show Al.A4.2.1.length=1 by kernel_rfl]; decide
 refine⟨fun _=>by decide,_,_,fun _=>r1.some q0l (by decide) l1,_,fun _=>r1.el q0l l1 0 (v:=I64 1) (by kernel_rfl),
  fun _=>by decide,_,_,fun _=>r1.some q0l (by decide) l1,_,fun _=>r1.el q0l l1 2 (v:=I64 1) (by kernel_rfl),
  fun _=>by decide,_,_,fun _=>r3.some q0l (by decide) l3,_,fun _=>r3.el q0l l3 0 (v:=I64 3) (by kernel_rfl),
  fun _=>by decide,_,_,fun _=>r3.some q0l (by decide) l3,_,_,fun _=>⟨r3.el q0l l3 9 (v:=I64 0) (by kernel_rfl),r3.el q0l l3 10 (v:=I64 0) (by kernel_rfl)⟩,true,fun _=>eq51,
  fun _=>by decide,_,_,fun _=>r3.some q0l (by decide) l3,_,fun _=>r3.el q0l l3' 0 (v:=I64 2) (by kernel_rfl),
  fun _=>by decide,_,_,fun _=>r3.some q0l (by decide) l3,_,fun _=>r3.el q0l l3' 4 (v:=I64 1) (by kernel_rfl),
  fun _=>by decide,_,_,fun _=>r4.some q0l (by decide) l4,_,fun _=>r4.el q0l l4 0 (v:=I64 4) (by kernel_rfl),
  fun _=>by decide,_,_,fun _=>r4.some q0l (by decide) l4,_,fun _=>r4.el q0l l4 19 (v:=I64 7) (by kernel_rfl),
  fun _=>by decide,_,_,fun _=>r4.some q0l (by decide) l4,_,fun _=>r4.el q0l l4 20 (v:=I64 1) (by kernel_rfl),
  _,fun _=>h.r 18,_,fun _=>h.r 18,_,fun _=>h.r 17,_,fun _=>h.r 17,_,_,_,fun _=>h.r 14,
  _,_,_,_,_,_,_,_,_,_,_,_,_,_,fun _=>h.q 14,fun _=>?_,fun hn=>?_⟩
 rotate_left
 ·exact absurd (by kernel_rfl) hn
 refine q8y (r:=Al.r3) (evs:=evs) hevs h ⟨fun H h=>h.sl_rd 15 rfl,fun e he H h=>(hlab e he |>.sub (hs7.trans (hs8.trans hs9))).at h 12 rfl⟩ (by rw [hel]; decide) fun H26 h=>⟨_,rfl,_,fun _=>h.r 11,fun _=>?_,fun hn=>absurd (by kernel_rfl) hn⟩
 have h:=h.o [4,5,6,7,8,0,1,9,10,2,3,11,12,13] 21;have h:SatL H26 (stA Q6 tb (q8g Al.A4.1)::_):=q0j.2 ⟨p,h⟩;refine qme (by rw [show (q8g Al.A4.1).kept.length=1 by kernel_rfl]; decide) h fun ak ck H27 h=>⟨_,_,_,rfl,fun _=>?_,fun hn=>absurd (by kernel_rfl) hn⟩
 have h:=h.o [6,1,2,3,4,5] 7;refine qme (by rw [show Al.A7.1.kept.length=0 by kernel_rfl]; decide) h fun ak2 ck2 H28 h=>⟨_,_,_,rfl,?_⟩
 have h:=h.o [1,2,3,4,5,6] 7;have ht:=h.o [1] 2;refine⟨_,fun _=>z3q h,_,fun _=>qjw h,_,fun _=>z7y h,_,fun _=>qww h,_,fun _=>qjw ht,fun _=>?_,fun hn=>absurd (by kernel_rfl) hn⟩
 refine qg0 h fun H29 h=>⟨_,_,_,_,_,_,_,_,_,rfl,?_⟩
 refine q92 (c:=Al.c0) h fun H30 h=>⟨_,rfl,hJ _ _ ?_⟩
 refine⟨h.getO 3 rfl,?_⟩;have h:=h.setO 3 rfl (.deferred none);rw [show cfgR Al.c0=true by kernel_rfl];exact k Q9 _ (hs1.trans (hs2.trans (hs3.trans (hs4.trans (hs5.trans (hs6.trans (hs7.trans (hs8.trans hs9)))))))) (h.o [5] 6)
end
end Go.Proofs.YtfmkddccnjidmaaGreatDoor
namespace Go.Nm
theorem z4j {s:Sta}{r:Rp}(ok:q1v s):(q2i s r).cfg=s.cfg∧(q2i s r).kept.length≤s.kept.length+s.cfg.cells.toNat:=by
 unfold q2i;have triv:s.cfg=s.cfg∧s.kept.length≤s.kept.length+s.cfg.cells.toNat:=⟨rfl,by omega⟩;refine q7d (P:=fun x=>x.1.cfg=s.cfg∧x.1.kept.length≤s.kept.length+s.cfg.cells.toNat) (fun _=>triv) (fun _ _=>triv) (fun _ _ _=>triv) (fun _ _ _=>?_) (fun _ _ _=>?_) (fun _ _ _=>?_) (fun _ _ _=>?_) (fun _ _ _=>?_) (fun _ _ _=>?_)
 ·unfold q2t; split
  ·exact triv
  ·split <;> exact triv
 ·dsimp only; unfold qcx; split <;> exact triv
 ·dsimp only; unfold q43; split <;> exact triv
 ·dsimp only; unfold qsv
  split
  ·split
   ·exact triv
   ·split <;> exact triv
  ·exact triv
 ·dsimp only; unfold q2r qfs;have h1:(q3c s.cm (q18 s.cfg.gd (s.ms.tick r.nw).1.value)).length≤(q0g s.cm).length:=by unfold q3c; exact (zc0 _).length_le
  have h2:(q0g s.cm).length=s.cm.length:=by unfold q0g; rw [z9o,q6g]; simp [q00]
  have h3:=ok.sh.len;dsimp only;rw [z95];exact⟨rfl,by omega⟩
 ·dsimp only; unfold qwv
  split
  ·dsimp only; rw [z9y]; exact⟨rfl,by omega⟩
  ·exact triv
theorem qmt {c:Cfg}{now a ep first:Int}{evs:List Pv}{x:JS}:∀n,(q1a c now a ep first evs x n).2.length=n
 | 0=>rfl
 | n+1=>by
  show ((q1a c now a ep first evs x n).2++[_]).length=_;rw [z95,qmt n]; rfl
theorem qmu {c:Cfg}{st:Str}(hsok:qgy c st):st.hs.rows.length≤256:=by
 have hrl:=hsok.hs.rows.length;have hm2:=hsok.hs.most2;omega
theorem qtw {s:Sta}{r:Rp}(ok:q1v s)(he:r.evs.length≤100):(effS s r).length≤2000:=by
 unfold effS;refine q7d (P:=fun x=>x.2.1.length≤2000) (fun _=>by simp) (fun _ _=>by simp) (fun _ _ _=>by simp) (fun _ _ _=>?_) (fun _ _ _=>by simp) (fun _ _ _=>?_) (fun _ _ _=>by simp) (fun _ _ _=>?_) (fun _ _ _=>by simp)
 ·unfold q2t
  split
  ·simp
  split
  ·have:(oldE s r.ag).length≤256:=by
    unfold oldE
    split
    ·rename_i st hst;have hm:some st∈s.sts:=by
      unfold q5j at hst
      split at hst
      ·cases hst
      ·cases hq:s.sts[r.ag.toNat]? with
       | none=>rw [hq] at hst; cases hst
       | some o=>
        rw [hq] at hst
        cases o with
        | none=>cases hst
        | some st'=>cases hst; exact z9x hq
     have:=qmu (ok.sts st hm);simpa [q00] using this
    ·simp
   dsimp only;rw [z95,za9]; omega
  ·simp
 ·dsimp only;unfold q43
  split
  ·rename_i st hg;have h1:=qmu (ok.sts st (z9x hg));have h2:=qeb (s:=st.hs) (first:=r.nx) (items:=r.evs);have h3:(q42 s r st).2.length=(st.hs.offer r.nx r.evs).2.1.length:=by unfold q42; exact qmt _
   dsimp only;rw [z95,za9,h3]; omega
  ·simp
 ·dsimp only;unfold q2r;dsimp only;rw [qjv];unfold qfs;have h1:(q3c s.cm (q18 s.cfg.gd (s.ms.tick r.nw).1.value)).length≤(q0g s.cm).length:=by unfold q3c; exact (zc0 _).length_le
  have h2:(q0g s.cm).length=s.cm.length:=by unfold q0g; rw [z9o,q6g]; simp [q00]
  have h3:=ok.sh.len;have h4:=ok.sh.m2;omega
structure RunR (s:Sta)(c:Cfg)(n:Nat):Prop where
 R:Rch s
 cfg:s.cfg=c
 kept:s.kept.length≤c.cells.toNat*n
theorem runR_new {c:Cfg}(h:qap c):RunR (newS c) c 0:=⟨qxd h,rfl,by simp [newS]⟩
theorem RunR.step {s:Sta}{c:Cfg}{n:Nat}{r:Rp}(h:RunR s c n)(hv:∀e∈r.evs,wf64 e.value):RunR (q0h s r).1 c (n+1):=by
 have hg:=z4j (r:=r) h.R.ok;refine⟨q97 h.R hv,hg.1.trans h.cfg,?_⟩;have h1:=h.kept;have h2:=hg.2;rw [h.cfg] at h2;rw [Nat.mul_add,zat];exact z9i h2 (Nat.add_le_add_right h1 _)
theorem RunR.run {s:Sta}{c:Cfg}{n:Nat}(h:RunR s c n):∀{rs:List Rp},(∀r∈rs,∀e∈r.evs,wf64 e.value)→RunR (runS s rs) c (n+rs.length):=by
 intro rs
 induction rs generalizing s n with
 | nil=>intro _; exact h
 | cons r rs ih=>
  intro hv;have:=ih (h.step (r:=r) (hv r (z9k ..))) fun x hx=>hv x (z9m _ hx)
  rw [z9c,show n+(rs.length+1)=n+1+rs.length by omega];exact this
theorem z94 {c:Cfg}{xs:List Rx}(hR:cfgR c=true)(hg:grR c xs=false):c.cells.toNat≤200:=by
 have h1:=(qft hR);have h2:1≤c.cells∧c.cells≤1024:=by
  unfold cfgR at hR;simp only [z99,z97] at hR;exact hR.1.2
 unfold grR grC at hg;simp only [z9g,zae,z9a] at hg;omega
theorem RunR.few {s:Sta}{c:Cfg}{n:Nat}(h:RunR s c n)(hc:c.cells.toNat≤200)(hn:n≤200):s.kept.length≤40000:=by
 have:=h.kept;have h2:c.cells.toNat*n≤200*200:=Nat.mul_le_mul hc hn;omega
theorem qbl {H0 H:Heap}{Q:Assn}{F:List Assn}(hs:Sub (old H0) Q)(h:SatL H (Q::F)):Grow H0 H:=(KG.old H0).sub hs H F h
end Go.Nm
namespace Go.Proofs.YtfmkddccnjidmaaGreatDoor
open Go.Nm
theorem eq66 (e:Eff):q4h Tryz.prog .eql 66 (.agg ⟨q3j e⟩) (.agg ⟨q3j e⟩) true∧q4h Tryz.prog .neq 66 (.agg ⟨q3j e⟩) (.agg ⟨q3j e⟩) false:=self_eql (n:=10) (by kernel_rfl) (by kernel_rfl) (by decide)
theorem xsK_one {Q:Assn}{x:Rx}{b:Nat}(h:RxK Q x):XsK (cellsA b (encX x) 46*Q) (some ⟨b,0,none⟩) [x]:=
 ⟨fun H F hs=>(q1f.1 hs).ce_rd 0 rfl,fun y hy=>by rw [za0] at hy; subst hy; exact h.sub (Sub.add _ _),by show 1≤maxLen; decide⟩
end Go.Proofs.YtfmkddccnjidmaaGreatDoor
